/- multi.ExpOf, (num.Rat).Zero, (multi.Exp).Degree, (multi.Exp).Cmp: what they return. -/
import Derived.Test.YtoflmheodiajaaaGreatDoorA7
namespace Go.Proofs.YtoflmheodiajaaaGreatDoor
open Go.RowKit
set_option linter.unusedVariables false
set_option linter.unusedSimpArgs false
variable {Bs : Nat}

/-- An exponent vector as multi.Exp holds it. -/
def expCells (f : Nat → Int) : Array Value := #[.int .i32 (f 0), .int .i32 (f 1), .int .i32 (f 2), .int .i32 (f 3), .int .i32 (f 4), .int .i32 (f 5)]
theorem expCells_set (f : Nat → Int) (k : Nat) (y : Int) (h : k < 6) : (expCells f).setIfInBounds k (.int .i32 y) = expCells (fun j => if j = k then y else f j) := by
  unfold expCells
  match k, h with
  | 0, _ => simp
  | 1, _ => simp
  | 2, _ => simp
  | 3, _ => simp
  | 4, _ => simp
  | 5, _ => simp
theorem expCells_congr {f g : Nat → Int} (h : ∀ j, f j = g j) : expCells f = expCells g := by
  unfold expCells
  simp [h]
theorem exp_at {w : World} {g : Nat} {f : Nat → Int} {fr : Nat × Nat} (h : w.heap[g]? = some (.cells (expCells f) 180 fr)) :
    w.cell? ⟨g, 0, none⟩ = some (.int .i32 (f 0)) ∧ w.cell? ⟨g, 1, none⟩ = some (.int .i32 (f 1)) ∧ w.cell? ⟨g, 2, none⟩ = some (.int .i32 (f 2)) ∧ w.cell? ⟨g, 3, none⟩ = some (.int .i32 (f 3)) ∧ w.cell? ⟨g, 4, none⟩ = some (.int .i32 (f 4)) ∧ w.cell? ⟨g, 5, none⟩ = some (.int .i32 (f 5)) := by
  refine ⟨?_, ?_, ?_, ?_, ?_, ?_⟩ <;> (rw [Lib.cell_of_heap h]; rfl)
theorem exp_at_k {w : World} {g k : Nat} {f : Nat → Int} {fr : Nat × Nat} (h : w.heap[g]? = some (.cells (expCells f) 180 fr)) (hk : k < 6) : w.cell? ⟨g, k, none⟩ = some (.int .i32 (f k)) := by
  obtain ⟨h0, h1, h2, h3, h4, h5⟩ := exp_at h
  match k, hk with
  | 0, _ => exact h0
  | 1, _ => exact h1
  | 2, _ => exact h2
  | 3, _ => exact h3
  | 4, _ => exact h4
  | 5, _ => exact h5

def isZ (a : Option Addr) (p : Int) : Bool := match a with
  | none => p == 0
  | some _ => false
theorem heap_far {w : World} {g b i : Nat} {o : Obj} (hg : w.heap[g]? = some o) (h : b ≠ g) (v : Value) : (w.setCell ⟨b, i, none⟩ v).heap[g]? = some o := by
  unfold World.setCell
  simp [Array.getElem?_modify, h]
  exact hg
theorem below_set6 {B : Nat} {w w1 : World} {g : Nat} (h : Below B w w1) (hg : B ≤ g) (a b c d e f : Value) :
    Below B w ((((((w1.setCell ⟨g, 0, none⟩ a).setCell ⟨g, 1, none⟩ b).setCell ⟨g, 2, none⟩ c).setCell ⟨g, 3, none⟩ d).setCell ⟨g, 4, none⟩ e).setCell ⟨g, 5, none⟩ f) :=
  (((((h.setCell (p := ⟨g, 0, none⟩) hg a).setCell (p := ⟨g, 1, none⟩) hg b).setCell (p := ⟨g, 2, none⟩) hg c).setCell (p := ⟨g, 3, none⟩) hg d).setCell (p := ⟨g, 4, none⟩) hg e).setCell (p := ⟨g, 5, none⟩) hg f
theorem heap_two_fst (w : World) (o1 o2 : Obj) : ((w.alloc o1).alloc o2).heap[w.heap.size]? = some o1 := by
  have h := heap_alloc_new w o1
  have hb : Below (w.alloc o1).heap.size (w.alloc o1) ((w.alloc o1).alloc o2) := below_alloc (below_refl _) _
  rw [hb.block w.heap.size (by simp)]
  exact h
theorem zero_any (p q : Int) (a : Option Addr) (w : World) :
    Calls Tryz.prog 82 #[.agg #[.int .i64 p, .int .i64 q, .pointer a]] w fun e w' => e = .returned (.bool (isZ a p)) ∧ Below w.heap.size w w' := by
  cases a with
  | none =>
    by_cases hp : p = 0
    · have hb : (p == 0) = true := by simp [hp]
      have HP := Lib.hid (show isZ none p = true by simp [isZ, hp])
      clear hp
      go_enter Tryz.func82, Tryz.ntmps82
      go_wp2
      go_ret
      exact ⟨by rw [HP.out]; rfl, below_alloc (below_refl _) _⟩
    · have hb : (p == 0) = false := by simp [hp]
      have HP := Lib.hid (show isZ none p = false by simp [isZ, hp])
      clear hp
      go_enter Tryz.func82, Tryz.ntmps82
      go_wp2
      go_ret
      exact ⟨by rw [HP.out]; rfl, below_alloc (below_refl _) _⟩
  | some b =>
    have HP := Lib.hid (show isZ (some b) p = false by simp [isZ])
    go_enter Tryz.func82, Tryz.ntmps82
    go_wp2
    go_ret
    exact ⟨by rw [HP.out]; rfl, below_alloc (below_refl _) _⟩

/-- All exponents are from 0 to most, from place k on. -/
def expsFrom (xs : List Int) (most : Int) (k : Nat) : Bool := decide (∀ i, i < xs.length → k ≤ i → 0 ≤ el xs i ∧ el xs i ≤ most)
def expOk (xs : List Int) (most : Int) : Bool := decide (xs.length ≤ 6) && expsFrom xs most 0
theorem expsFrom_step {xs : List Int} {most : Int} {k : Nat} (h1 : 0 ≤ el xs k) (h2 : el xs k ≤ most) : expsFrom xs most k = expsFrom xs most (k + 1) := by
  unfold expsFrom
  rw [decide_eq_decide]
  exact ⟨fun h i hi hk => h i hi (by omega), fun h i hi hk => by
    rcases Nat.lt_or_ge k i with h' | h'
    · exact h i hi h'
    · obtain rfl : i = k := by omega
      exact ⟨h1, h2⟩⟩
theorem expsFrom_no {xs : List Int} {most : Int} {k : Nat} (hk : k < xs.length) (h : el xs k < 0 ∨ most < el xs k) : expsFrom xs most k = false := by
  unfold expsFrom
  rw [decide_eq_false_iff_not]
  intro h'
  have := h' k hk (Nat.le_refl _)
  omega
theorem expsFrom_end (xs : List Int) (most : Int) : expsFrom xs most xs.length = true := by
  unfold expsFrom
  rw [decide_eq_true_iff]
  intro i hi hk
  omega
/-- What ExpOf returns. -/
def ExpPost (xs : List Int) (most : Int) (v : Value) : Prop := ∃ f, v = .tuple #[.agg (expCells f), .bool (expOk xs most)] ∧ (expOk xs most = true → ∀ j, f j = el xs j)
def ExpRel (w : World) (xs : List Int) (most : Int) (i : Value) (wr : World) : Prop :=
  ∃ k : Nat, i = .int .i64 k ∧ k ≤ xs.length ∧ expsFrom xs most 0 = expsFrom xs most k ∧ wr.heap[w.heap.size + 1]? = some (.cells (expCells (fun j => if j < k then el xs j else 0)) 180 (0, 0)) ∧
    wr.heap[w.heap.size]? = some (.cells (expCells (fun _ => 0)) 180 (0, 0)) ∧ Below w.heap.size w wr ∧ w.heap.size + 1 < wr.heap.size

set_option maxRecDepth 100000 in
set_option maxHeartbeats 1000000 in
theorem expOf_any (A : Option Addr) (ca : Nat) (xs : List Int) (most : Int) (w : World) (hA : Rd Bs w .i64 3 A xs) (hc : xs.length ≤ ca) (hm : xs.length ≤ 9223372036854775807) (hmost : 0 ≤ most ∧ most ≤ 1048576) :
    Calls Tryz.prog 81 #[.slice A xs.length ca, .int .i64 most] w (Gives w fun v w' => ExpPost xs most v) := by
  have HA := Lib.hid hA
  obtain ⟨m1, m2⟩ := hmost
  clear hA
  by_cases h6 : 6 < xs.length
  · have HK := Lib.hid (show expOk xs most = false by
      have : ¬ xs.length ≤ 6 := by omega
      simp [expOk, this])
    go_enter Tryz.func81, Tryz.ntmps81
    go_wp2
    refine bodyPost_ret (v := .tuple #[.agg (expCells (fun _ => 0)), .bool false]) (by simp [results, Tryz.results81, go_sem, expCells]) rfl ⟨_, rfl, ⟨_, by rw [HK.out], (fun h => by rw [HK.out] at h; cases h)⟩, below_alloc (below_alloc (below_refl _) _) _⟩
  · have h6' : ¬ ((6 : Int) < (xs.length : Int)) := by omega
    go_enter Tryz.func81, Tryz.ntmps81
    go_wp2
    go_loopw [15] (fun i wr => ExpRel w xs most i wr) (fun i _ => xs.length - (intOf i).toNat)
    case atStart =>
      exact ⟨0, rfl, by omega, rfl, (heap_two w _ _).trans (by rw [expCells_congr (g := fun _ => 0) (fun j => by simp)]; rfl), heap_two_fst w _ _, below_alloc (below_alloc (below_refl _) _) _, by simp⟩
    case round =>
      obtain ⟨k, rfl, hk, he, hb1, hb0, hB, hsz⟩ := hrel
      have HE := Lib.hid he
      have H1 := Lib.hid hb1
      have H0 := Lib.hid hb0
      have HB := Lib.hid hB
      clear he
      by_cases hlt : k < xs.length
      · obtain ⟨ab, ao, rfl, hab, hcA⟩ := HA.out.plain (by omega)
        have hA := (hB.cell (p := ⟨ab, ao + k, none⟩) hab).trans (hcA k hlt)
        have hz0 := exp_at hb0
        obtain ⟨z0, z1, z2, z3, z4, z5⟩ := hz0
        have y := exp_at_k hb1 (show k < 6 by omega)
        have zf := fun i => Lib.frozen_of_heap hb0 i
        have yf := Lib.frozen_of_heap hb1 k
        have hs0 := hB.size
        clear hcA hb1 hb0 hB
        by_cases g1 : el xs k < 0 ∨ most < el xs k
        · have HN := Lib.hid (show expOk xs most = false by
            have := expsFrom_no hlt g1
            unfold expOk
            rw [HE.out, this]
            simp)
          rcases g1 with g1 | g1
          · go_wp2
            refine bodyPost_ret (v := .tuple #[.agg (expCells (fun _ => 0)), .bool false]) (by simp [results, Tryz.results81, go_sem, expCells, z0, z1, z2, z3, z4, z5, hsz]) rfl ⟨_, rfl, ⟨_, by rw [HN.out], (fun h => by rw [HN.out] at h; cases h)⟩, below_set6 HB.out (Nat.le_refl _) _ _ _ _ _ _⟩
          · have g0 : ¬ (el xs k < 0) := by omega
            go_wp2
            refine bodyPost_ret (v := .tuple #[.agg (expCells (fun _ => 0)), .bool false]) (by simp [results, Tryz.results81, go_sem, expCells, z0, z1, z2, z3, z4, z5, hsz]) rfl ⟨_, rfl, ⟨_, by rw [HN.out], (fun h => by rw [HN.out] at h; cases h)⟩, below_set6 HB.out (Nat.le_refl _) _ _ _ _ _ _⟩
        · have q1 : 0 ≤ el xs k := by omega
          have q2 : el xs k ≤ most := by omega
          have HS := Lib.hid (expsFrom_step (xs := xs) (most := most) (k := k) q1 q2)
          go_wp2
          go_roundw
          case rel =>
            refine ⟨k + 1, by go_num, by omega, by rw [HE.out, HS.out], ?_, heap_far (b := w.heap.size + 1) H0.out (Nat.succ_ne_self _) _, HB.out.setCell (p := ⟨w.heap.size + 1, k, none⟩) (Nat.le_succ _) _, by simp; exact hsz⟩
            rw [heap_setCell H1.out, expCells_set _ _ _ (by omega)]
            congr 2
            refine expCells_congr fun j => ?_
            by_cases hj : j = k
            · subst hj; simp
            · rw [if_neg hj]
              by_cases hj2 : j < k
              · rw [if_pos hj2, if_pos (by omega)]
              · rw [if_neg hj2, if_neg (by omega)]
          case measure => simp [intOf]; omega
      · obtain rfl : xs.length = k := by omega
        have hz0 := exp_at hb0
        obtain ⟨z0, z1, z2, z3, z4, z5⟩ := hz0
        rw [expCells_congr (g := fun j => el xs j) (fun j => by
          split
          · rfl
          · rw [el_ge _ _ (by omega)])] at hb1
        have y := exp_at hb1
        obtain ⟨y0, y1, y2, y3, y4, y5⟩ := y
        have zf := fun i => Lib.frozen_of_heap hb0 i
        have HN := Lib.hid (show expOk xs most = true by
          unfold expOk
          rw [HE.out, expsFrom_end]
          have : xs.length ≤ 6 := by omega
          simp [this])
        clear hb1 hb0 hB
        go_wp2
        refine bodyPost_ret (v := .tuple #[.agg (expCells (fun j => el xs j)), .bool true]) (by simp [results, Tryz.results81, go_sem, expCells, z0, z1, z2, z3, z4, z5, hsz]) rfl ⟨_, rfl, ⟨_, by rw [HN.out], fun _ j => rfl⟩, below_set6 HB.out (Nat.le_refl _) _ _ _ _ _ _⟩
end Go.Proofs.YtoflmheodiajaaaGreatDoor
