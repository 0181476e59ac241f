import Derived.Test.YtoflmheodiajaaaGreatDoorK5
import Derived.StillTactics
import Derived.Deep.RegionHeld3
namespace Go.Proofs.YtoflmheodiajaaaGreatDoor
open Go.RowKit
set_option linter.unusedVariables false
set_option linter.unusedSimpArgs false
variable {Bs : Nat}
def expCells (f : Nat → Int) : Array Value := #[.int .i32 (f 0), .int .i32 (f 1), .int .i32 (f 2), .int .i32 (f 3), .int .i32 (f 4), .int .i32 (f 5)]
theorem expCells_set (f : Nat → Int) (k : Nat) (y : Int) (h : k < 6) : (expCells f).setIfInBounds k (.int .i32 y) = expCells (fun j => if j = k then y else f j) := by
  unfold expCells
  match k, h with
  | 0, _ => simp
  | 1, _ => simp
  | 2, _ => simp
  | 3, _ => simp
  | 4, _ => simp
  | 5, _ => simp
theorem expCells_congr {f g : Nat → Int} (h : ∀ j, f j = g j) : expCells f = expCells g := by
  unfold expCells
  simp [h]
theorem exp_at {w : World} {g : Nat} {f : Nat → Int} {fr : Nat × Nat} (h : w.heap[g]? = some (.cells (expCells f) 180 fr)) :
    w.cell? ⟨g, 0, none⟩ = some (.int .i32 (f 0)) ∧ w.cell? ⟨g, 1, none⟩ = some (.int .i32 (f 1)) ∧ w.cell? ⟨g, 2, none⟩ = some (.int .i32 (f 2)) ∧ w.cell? ⟨g, 3, none⟩ = some (.int .i32 (f 3)) ∧ w.cell? ⟨g, 4, none⟩ = some (.int .i32 (f 4)) ∧ w.cell? ⟨g, 5, none⟩ = some (.int .i32 (f 5)) := by
  refine ⟨?_, ?_, ?_, ?_, ?_, ?_⟩ <;> (rw [Lib.cell_of_heap h]; rfl)
theorem exp_at_k {w : World} {g k : Nat} {f : Nat → Int} {fr : Nat × Nat} (h : w.heap[g]? = some (.cells (expCells f) 180 fr)) (hk : k < 6) : w.cell? ⟨g, k, none⟩ = some (.int .i32 (f k)) := by
  obtain ⟨h0, h1, h2, h3, h4, h5⟩ := exp_at h
  match k, hk with
  | 0, _ => exact h0
  | 1, _ => exact h1
  | 2, _ => exact h2
  | 3, _ => exact h3
  | 4, _ => exact h4
  | 5, _ => exact h5
def isZ (a : Option Addr) (p : Int) : Bool := match a with
  | none => p == 0
  | some _ => false
theorem heap_far {w : World} {g b i : Nat} {o : Obj} (hg : w.heap[g]? = some o) (h : b ≠ g) (v : Value) : (w.setCell ⟨b, i, none⟩ v).heap[g]? = some o := by
  unfold World.setCell
  simp [Array.getElem?_modify, h]
  exact hg
theorem below_set6 {B : Nat} {w w1 : World} {g : Nat} (h : Below B w w1) (hg : B ≤ g) (a b c d e f : Value) :
    Below B w ((((((w1.setCell ⟨g, 0, none⟩ a).setCell ⟨g, 1, none⟩ b).setCell ⟨g, 2, none⟩ c).setCell ⟨g, 3, none⟩ d).setCell ⟨g, 4, none⟩ e).setCell ⟨g, 5, none⟩ f) :=
  (((((h.setCell (p := ⟨g, 0, none⟩) hg a).setCell (p := ⟨g, 1, none⟩) hg b).setCell (p := ⟨g, 2, none⟩) hg c).setCell (p := ⟨g, 3, none⟩) hg d).setCell (p := ⟨g, 4, none⟩) hg e).setCell (p := ⟨g, 5, none⟩) hg f
theorem heap_two_fst (w : World) (o1 o2 : Obj) : ((w.alloc o1).alloc o2).heap[w.heap.size]? = some o1 := by
  have h := heap_alloc_new w o1
  have hb : Below (w.alloc o1).heap.size (w.alloc o1) ((w.alloc o1).alloc o2) := below_alloc (below_refl _) _
  rw [hb.block w.heap.size (by simp)]
  exact h
theorem zero_any (p q : Int) (a : Option Addr) (w : World) :
    Calls Tryz.prog 82 #[.agg #[.int .i64 p, .int .i64 q, .pointer a]] w fun e w' => e = .returned (.bool (isZ a p)) ∧ Below w.heap.size w w' := by
  cases a with
  | none =>
    by_cases hp : p = 0
    · have hb : (p == 0) = true := by simp [hp]
      have HP := Lib.hid (show isZ none p = true by simp [isZ, hp])
      clear hp
      go_enter Tryz.func82, Tryz.ntmps82
      go_wp2
      go_ret
      exact ⟨by rw [HP.out]; rfl, below_alloc (below_refl _) _⟩
    · have hb : (p == 0) = false := by simp [hp]
      have HP := Lib.hid (show isZ none p = false by simp [isZ, hp])
      clear hp
      go_enter Tryz.func82, Tryz.ntmps82
      go_wp2
      go_ret
      exact ⟨by rw [HP.out]; rfl, below_alloc (below_refl _) _⟩
  | some b =>
    have HP := Lib.hid (show isZ (some b) p = false by simp [isZ])
    go_enter Tryz.func82, Tryz.ntmps82
    go_wp2
    go_ret
    exact ⟨by rw [HP.out]; rfl, below_alloc (below_refl _) _⟩
def expsFrom (xs : List Int) (most : Int) (k : Nat) : Bool := decide (∀ i, i < xs.length → k ≤ i → 0 ≤ el xs i ∧ el xs i ≤ most)
def expOk (xs : List Int) (most : Int) : Bool := decide (xs.length ≤ 6) && expsFrom xs most 0
theorem expsFrom_step {xs : List Int} {most : Int} {k : Nat} (h1 : 0 ≤ el xs k) (h2 : el xs k ≤ most) : expsFrom xs most k = expsFrom xs most (k + 1) := by
  unfold expsFrom
  rw [decide_eq_decide]
  exact ⟨fun h i hi hk => h i hi (by omega), fun h i hi hk => by
    rcases Nat.lt_or_ge k i with h' | h'
    · exact h i hi h'
    · obtain rfl : i = k := by omega
      exact ⟨h1, h2⟩⟩
theorem expsFrom_no {xs : List Int} {most : Int} {k : Nat} (hk : k < xs.length) (h : el xs k < 0 ∨ most < el xs k) : expsFrom xs most k = false := by
  unfold expsFrom
  rw [decide_eq_false_iff_not]
  intro h'
  have := h' k hk (Nat.le_refl _)
  omega
theorem expsFrom_end (xs : List Int) (most : Int) : expsFrom xs most xs.length = true := by
  unfold expsFrom
  rw [decide_eq_true_iff]
  intro i hi hk
  omega
def ExpPost (xs : List Int) (most : Int) (v : Value) : Prop := ∃ f, v = .tuple #[.agg (expCells f), .bool (expOk xs most)] ∧ (expOk xs most = true → ∀ j, f j = el xs j)
def ExpRel (w : World) (xs : List Int) (most : Int) (i : Value) (wr : World) : Prop :=
  ∃ k : Nat, i = .int .i64 k ∧ k ≤ xs.length ∧ expsFrom xs most 0 = expsFrom xs most k ∧ wr.heap[w.heap.size + 1]? = some (.cells (expCells (fun j => if j < k then el xs j else 0)) 180 (0, 0)) ∧
    wr.heap[w.heap.size]? = some (.cells (expCells (fun _ => 0)) 180 (0, 0)) ∧ Below w.heap.size w wr ∧ w.heap.size + 1 < wr.heap.size
set_option maxRecDepth 100000 in
set_option maxHeartbeats 1000000 in
theorem expOf_any (A : Option Addr) (ca : Nat) (xs : List Int) (most : Int) (w : World) (hA : Rd Bs w .i64 3 A xs) (hc : xs.length ≤ ca) (hm : xs.length ≤ 9223372036854775807) (hmost : 0 ≤ most ∧ most ≤ 1048576) :
    Calls Tryz.prog 81 #[.slice A xs.length ca, .int .i64 most] w (Gives w fun v w' => ExpPost xs most v) := by
  have HA := Lib.hid hA
  obtain ⟨m1, m2⟩ := hmost
  clear hA
  by_cases h6 : 6 < xs.length
  · have HK := Lib.hid (show expOk xs most = false by
      have : ¬ xs.length ≤ 6 := by omega
      simp [expOk, this])
    go_enter Tryz.func81, Tryz.ntmps81
    go_wp2
    refine bodyPost_ret (v := .tuple #[.agg (expCells (fun _ => 0)), .bool false]) (by simp [results, Tryz.results81, go_sem, expCells]) rfl ⟨_, rfl, ⟨_, by rw [HK.out], (fun h => by rw [HK.out] at h; cases h)⟩, below_alloc (below_alloc (below_refl _) _) _⟩
  · have h6' : ¬ ((6 : Int) < (xs.length : Int)) := by omega
    go_enter Tryz.func81, Tryz.ntmps81
    go_wp2
    go_loopw [15] (fun i wr => ExpRel w xs most i wr) (fun i _ => xs.length - (intOf i).toNat)
    case atStart =>
      exact ⟨0, rfl, by omega, rfl, (heap_two w _ _).trans (by rw [expCells_congr (g := fun _ => 0) (fun j => by simp)]; rfl), heap_two_fst w _ _, below_alloc (below_alloc (below_refl _) _) _, by simp⟩
    case round =>
      obtain ⟨k, rfl, hk, he, hb1, hb0, hB, hsz⟩ := hrel
      have HE := Lib.hid he
      have H1 := Lib.hid hb1
      have H0 := Lib.hid hb0
      have HB := Lib.hid hB
      clear he
      by_cases hlt : k < xs.length
      · obtain ⟨ab, ao, rfl, hab, hcA⟩ := HA.out.plain (by omega)
        have hA := (hB.cell (p := ⟨ab, ao + k, none⟩) hab).trans (hcA k hlt)
        have hz0 := exp_at hb0
        obtain ⟨z0, z1, z2, z3, z4, z5⟩ := hz0
        have y := exp_at_k hb1 (show k < 6 by omega)
        have zf := fun i => Lib.frozen_of_heap hb0 i
        have yf := Lib.frozen_of_heap hb1 k
        have hs0 := hB.size
        clear hcA hb1 hb0 hB
        by_cases g1 : el xs k < 0 ∨ most < el xs k
        · have HN := Lib.hid (show expOk xs most = false by
            have := expsFrom_no hlt g1
            unfold expOk
            rw [HE.out, this]
            simp)
          rcases g1 with g1 | g1
          · go_wp2
            refine bodyPost_ret (v := .tuple #[.agg (expCells (fun _ => 0)), .bool false]) (by simp [results, Tryz.results81, go_sem, expCells, z0, z1, z2, z3, z4, z5, hsz]) rfl ⟨_, rfl, ⟨_, by rw [HN.out], (fun h => by rw [HN.out] at h; cases h)⟩, below_set6 HB.out (Nat.le_refl _) _ _ _ _ _ _⟩
          · have g0 : ¬ (el xs k < 0) := by omega
            go_wp2
            refine bodyPost_ret (v := .tuple #[.agg (expCells (fun _ => 0)), .bool false]) (by simp [results, Tryz.results81, go_sem, expCells, z0, z1, z2, z3, z4, z5, hsz]) rfl ⟨_, rfl, ⟨_, by rw [HN.out], (fun h => by rw [HN.out] at h; cases h)⟩, below_set6 HB.out (Nat.le_refl _) _ _ _ _ _ _⟩
        · have q1 : 0 ≤ el xs k := by omega
          have q2 : el xs k ≤ most := by omega
          have HS := Lib.hid (expsFrom_step (xs := xs) (most := most) (k := k) q1 q2)
          go_wp2
          go_roundw
          case rel =>
            refine ⟨k + 1, by go_num, by omega, by rw [HE.out, HS.out], ?_, heap_far (b := w.heap.size + 1) H0.out (Nat.succ_ne_self _) _, HB.out.setCell (p := ⟨w.heap.size + 1, k, none⟩) (Nat.le_succ _) _, by simp; exact hsz⟩
            rw [heap_setCell H1.out, expCells_set _ _ _ (by omega)]
            congr 2
            refine expCells_congr fun j => ?_
            by_cases hj : j = k
            · subst hj; simp
            · rw [if_neg hj]
              by_cases hj2 : j < k
              · rw [if_pos hj2, if_pos (by omega)]
              · rw [if_neg hj2, if_neg (by omega)]
          case measure => simp [intOf]; omega
      · obtain rfl : xs.length = k := by omega
        have hz0 := exp_at hb0
        obtain ⟨z0, z1, z2, z3, z4, z5⟩ := hz0
        rw [expCells_congr (g := fun j => el xs j) (fun j => by
          split
          · rfl
          · rw [el_ge _ _ (by omega)])] at hb1
        have y := exp_at hb1
        obtain ⟨y0, y1, y2, y3, y4, y5⟩ := y
        have zf := fun i => Lib.frozen_of_heap hb0 i
        have HN := Lib.hid (show expOk xs most = true by
          unfold expOk
          rw [HE.out, expsFrom_end]
          have : xs.length ≤ 6 := by omega
          simp [this])
        clear hb1 hb0 hB
        go_wp2
        refine bodyPost_ret (v := .tuple #[.agg (expCells (fun j => el xs j)), .bool true]) (by simp [results, Tryz.results81, go_sem, expCells, z0, z1, z2, z3, z4, z5, hsz]) rfl ⟨_, rfl, ⟨_, by rw [HN.out], fun _ j => rfl⟩, below_set6 HB.out (Nat.le_refl _) _ _ _ _ _ _⟩
end Go.Proofs.YtoflmheodiajaaaGreatDoor
namespace Go.Proofs.YtoflmheodiajaaaGreatDoor
open Go.RowKit
set_option linter.unusedVariables false
set_option linter.unusedSimpArgs false
variable {Bs : Nat}
def sumTo (f : Nat → Int) : Nat → Int
  | 0 => 0
  | k + 1 => sumTo f k + f k
def ExpR (f : Nat → Int) : Prop := ∀ j, 0 ≤ f j ∧ f j ≤ 1048576
theorem sumTo_range {f : Nat → Int} (h : ExpR f) : ∀ k, 0 ≤ sumTo f k ∧ sumTo f k ≤ 1048576 * k
  | 0 => by simp [sumTo]
  | k + 1 => by
    have := sumTo_range h k
    have := h k
    simp only [sumTo]
    omega
def DegRel (f : Nat → Int) (acc i : Value) : Prop := ∃ k : Nat, k ≤ 6 ∧ i = .int .i64 k ∧ acc = .int .i64 (sumTo f k)
theorem run_index6_0 (a b c d e g : Int) (w : World) : (Instr.index 180 (.agg #[.int .i32 a, .int .i32 b, .int .i32 c, .int .i32 d, .int .i32 e, .int .i32 g]) (.int .i64 ((0 : Nat) : Int))).run Tryz.prog w = .ok (.int .i32 a) w := by kernel_rfl
theorem run_index6_1 (a b c d e g : Int) (w : World) : (Instr.index 180 (.agg #[.int .i32 a, .int .i32 b, .int .i32 c, .int .i32 d, .int .i32 e, .int .i32 g]) (.int .i64 ((1 : Nat) : Int))).run Tryz.prog w = .ok (.int .i32 b) w := by kernel_rfl
theorem run_index6_2 (a b c d e g : Int) (w : World) : (Instr.index 180 (.agg #[.int .i32 a, .int .i32 b, .int .i32 c, .int .i32 d, .int .i32 e, .int .i32 g]) (.int .i64 ((2 : Nat) : Int))).run Tryz.prog w = .ok (.int .i32 c) w := by kernel_rfl
theorem run_index6_3 (a b c d e g : Int) (w : World) : (Instr.index 180 (.agg #[.int .i32 a, .int .i32 b, .int .i32 c, .int .i32 d, .int .i32 e, .int .i32 g]) (.int .i64 ((3 : Nat) : Int))).run Tryz.prog w = .ok (.int .i32 d) w := by kernel_rfl
theorem run_index6_4 (a b c d e g : Int) (w : World) : (Instr.index 180 (.agg #[.int .i32 a, .int .i32 b, .int .i32 c, .int .i32 d, .int .i32 e, .int .i32 g]) (.int .i64 ((4 : Nat) : Int))).run Tryz.prog w = .ok (.int .i32 e) w := by kernel_rfl
theorem run_index6_5 (a b c d e g : Int) (w : World) : (Instr.index 180 (.agg #[.int .i32 a, .int .i32 b, .int .i32 c, .int .i32 d, .int .i32 e, .int .i32 g]) (.int .i64 ((5 : Nat) : Int))).run Tryz.prog w = .ok (.int .i32 g) w := by kernel_rfl
theorem run_index6 (a b c d e g : Int) (f : Nat → Int) (h0 : a = f 0) (h1 : b = f 1) (h2 : c = f 2) (h3 : d = f 3) (h4 : e = f 4) (h5 : g = f 5) (k : Nat) (hk : k < 6) (w : World) :
    (Instr.index 180 (.agg #[.int .i32 a, .int .i32 b, .int .i32 c, .int .i32 d, .int .i32 e, .int .i32 g]) (.int .i64 k)).run Tryz.prog w = .ok (.int .i32 (f k)) w := by
  match k, hk with
  | 0, _ => exact h0 ▸ run_index6_0 a b c d e g w
  | 1, _ => exact h1 ▸ run_index6_1 a b c d e g w
  | 2, _ => exact h2 ▸ run_index6_2 a b c d e g w
  | 3, _ => exact h3 ▸ run_index6_3 a b c d e g w
  | 4, _ => exact h4 ▸ run_index6_4 a b c d e g w
  | 5, _ => exact h5 ▸ run_index6_5 a b c d e g w
set_option maxHeartbeats 1000000 in
theorem degree_any (f : Nat → Int) (w : World) (h : ExpR f) :
    Calls Tryz.prog 110 #[.agg (expCells f)] w fun e w' => e = .returned (.int .i64 (sumTo f 6)) ∧ w' = w.alloc (.cells (expCells f) 180) := by
  have HR := Lib.hid h
  clear h
  unfold expCells
  go_enter Tryz.func110, Tryz.ntmps110
  go_wp2
  go_loop [3, 7] (fun acc i => DegRel f acc i) (fun _ i => 6 - (intOf i).toNat)
  case atStart => exact ⟨0, by omega, rfl, rfl⟩
  case round =>
    obtain ⟨k, hk, rfl, rfl⟩ := hrel
    have hr := sumTo_range HR.out k
    obtain ⟨r1, r2⟩ := hr
    obtain ⟨r3, r4⟩ := HR.out k
    by_cases hlt : k < 6
    · have i0 := fun w => run_index6 (f 0) (f 1) (f 2) (f 3) (f 4) (f 5) f rfl rfl rfl rfl rfl rfl k hlt w
      go_wp2
      go_round
      case rel => exact ⟨k + 1, by omega, by go_num, rfl⟩
      case measure => simp [intOf]; omega
    · obtain rfl : k = 6 := by omega
      go_wp2
      go_ret
      exact ⟨rfl, rfl⟩
def revCmp (f g : Nat → Int) : Nat → Int
  | 0 => 0
  | k + 1 => if f k > g k then -1 else if f k < g k then 1 else revCmp f g k
def expCmp (f g : Nat → Int) : Int := if sumTo f 6 = sumTo g 6 then revCmp f g 6 else if sumTo f 6 < sumTo g 6 then -1 else 1
def CmpRel (w : World) (f g : Nat → Int) (i : Value) (wr : World) : Prop := ∃ k : Nat, k ≤ 6 ∧ i = .int .i64 ((k : Int) - 1) ∧ revCmp f g 6 = revCmp f g k ∧
  wr.heap[w.heap.size]? = some (.cells (expCells f) 180 (0, 0)) ∧ wr.heap[w.heap.size + 1]? = some (.cells (expCells g) 180 (0, 0)) ∧ Below w.heap.size w wr
theorem cmp_lt {f g : Nat → Int} (h : sumTo f 6 < sumTo g 6) : expCmp f g = -1 := by
  unfold expCmp
  rw [if_neg (by omega), if_pos h]
theorem cmp_gt {f g : Nat → Int} (h : sumTo g 6 < sumTo f 6) : expCmp f g = 1 := by
  unfold expCmp
  rw [if_neg (by omega), if_neg (by omega)]
theorem cmp_eq {f g : Nat → Int} (h : sumTo f 6 = sumTo g 6) : expCmp f g = revCmp f g 6 := by
  unfold expCmp
  rw [if_pos h]
theorem heap_four0 (w : World) (a b c d : Obj) : ((((w.alloc a).alloc b).alloc c).alloc d).heap[w.heap.size]? = some a := by
  have h1 := (below_alloc (below_alloc (below_alloc (below_refl (w.alloc a)) b) c) d).block w.heap.size (by simp)
  exact h1.trans (heap_alloc_new w a)
theorem heap_four1 (w : World) (a b c d : Obj) : ((((w.alloc a).alloc b).alloc c).alloc d).heap[w.heap.size + 1]? = some b := by
  have h1 := (below_alloc (below_alloc (below_refl ((w.alloc a).alloc b)) c) d).block (w.heap.size + 1) (by simp)
  have h2 := heap_alloc_new (w.alloc a) b
  rw [show (w.alloc a).heap.size = w.heap.size + 1 by simp] at h2
  exact h1.trans h2
set_option maxRecDepth 100000 in
set_option maxHeartbeats 4000000 in
theorem cmp_any (f g : Nat → Int) (w : World) (hf : ExpR f) (hg : ExpR g) :
    Calls Tryz.prog 83 #[.agg (expCells f), .agg (expCells g)] w (Gives w fun v _ => v = .int .i64 (expCmp f g)) := by
  have HF := Lib.hid hf
  have HG := Lib.hid hg
  have df := fun W => degree_any f W HF.out
  have dg := fun W => degree_any g W HG.out
  have HDF := Lib.hid df
  have HDG := Lib.hid dg
  clear hf hg df dg
  have hcase : (sumTo f 6 != sumTo g 6) = true ∧ sumTo f 6 < sumTo g 6 ∨ (sumTo f 6 != sumTo g 6) = true ∧ ¬ sumTo f 6 < sumTo g 6 ∨ (sumTo f 6 != sumTo g 6) = false := by
    by_cases h : sumTo f 6 = sumTo g 6
    · exact .inr (.inr (by simp [h]))
    · by_cases h2 : sumTo f 6 < sumTo g 6
      · exact .inl ⟨by simp [h], h2⟩
      · exact .inr (.inl ⟨by simp [h], h2⟩)
  unfold expCells
  rcases hcase with ⟨c1, c2⟩ | ⟨c1, c2⟩ | c1
  · have HC := Lib.hid (cmp_lt c2)
    go_enter Tryz.func83, Tryz.ntmps83
    go_wp2_with fail
    go_region_with (first | (go_at_call_of 110 (Value.agg #[.int .i32 (f 0), .int .i32 (f 1), .int .i32 (f 2), .int .i32 (f 3), .int .i32 (f 4), .int .i32 (f 5)]); refine (HDF.out _).mono ?_; rintro e w' ⟨rfl, rfl⟩) | (go_at_call_of 110 (Value.agg #[.int .i32 (g 0), .int .i32 (g 1), .int .i32 (g 2), .int .i32 (g 3), .int .i32 (g 4), .int .i32 (g 5)]); refine (HDG.out _).mono ?_; rintro e w' ⟨rfl, rfl⟩))
    all_goals go_wp2
    all_goals go_ret
    all_goals exact ⟨_, rfl, by rw [HC.out]; rfl, by first | exact below_alloc (below_alloc (below_alloc (below_alloc (below_refl _) _) _) _) _ | exact below_drew (below_alloc (below_alloc (below_alloc (below_alloc (below_refl _) _) _) _) _)⟩
  · have HC := Lib.hid (cmp_gt (f := f) (g := g) (by
      have : sumTo f 6 ≠ sumTo g 6 := by simpa using c1
      omega))
    go_enter Tryz.func83, Tryz.ntmps83
    go_wp2_with fail
    go_region_with (first | (go_at_call_of 110 (Value.agg #[.int .i32 (f 0), .int .i32 (f 1), .int .i32 (f 2), .int .i32 (f 3), .int .i32 (f 4), .int .i32 (f 5)]); refine (HDF.out _).mono ?_; rintro e w' ⟨rfl, rfl⟩) | (go_at_call_of 110 (Value.agg #[.int .i32 (g 0), .int .i32 (g 1), .int .i32 (g 2), .int .i32 (g 3), .int .i32 (g 4), .int .i32 (g 5)]); refine (HDG.out _).mono ?_; rintro e w' ⟨rfl, rfl⟩))
    all_goals go_wp2
    all_goals go_ret
    all_goals exact ⟨_, rfl, by rw [HC.out]; rfl, by first | exact below_alloc (below_alloc (below_alloc (below_alloc (below_refl _) _) _) _) _ | exact below_drew (below_alloc (below_alloc (below_alloc (below_alloc (below_refl _) _) _) _) _)⟩
  · have HC := Lib.hid (cmp_eq (f := f) (g := g) (by simpa using c1))
    go_enter Tryz.func83, Tryz.ntmps83
    go_wp2_with fail
    go_region_with (first | (go_at_call_of 110 (Value.agg #[.int .i32 (f 0), .int .i32 (f 1), .int .i32 (f 2), .int .i32 (f 3), .int .i32 (f 4), .int .i32 (f 5)]); refine (HDF.out _).mono ?_; rintro e w' ⟨rfl, rfl⟩) | (go_at_call_of 110 (Value.agg #[.int .i32 (g 0), .int .i32 (g 1), .int .i32 (g 2), .int .i32 (g 3), .int .i32 (g 4), .int .i32 (g 5)]); refine (HDG.out _).mono ?_; rintro e w' ⟨rfl, rfl⟩))
    all_goals go_wp2
    all_goals (
      go_loopw [7, 22, 30] (fun i _ _ wr => CmpRel w f g i wr) (fun i _ _ _ => (intOf i + 1).toNat)
      case atStart =>
        exact ⟨6, by omega, rfl, rfl, heap_four0 w _ _ _ _, heap_four1 w _ _ _ _, by first | exact below_alloc (below_alloc (below_alloc (below_alloc (below_refl _) _) _) _) _ | exact below_drew (below_alloc (below_alloc (below_alloc (below_alloc (below_refl _) _) _) _) _)⟩
      case round =>
        obtain ⟨k, hk, rfl, he, h0, h1, hB⟩ := hrel
        have HE := Lib.hid he
        have H0 := Lib.hid h0
        have H1 := Lib.hid h1
        have HB := Lib.hid hB
        clear he hB
        cases k with
        | zero =>
          clear h0 h1
          go_wp2
          go_ret
          exact ⟨_, rfl, by rw [HC.out, HE.out]; rfl, HB.out⟩
        | succ k =>
          have y := exp_at_k h0 (show k < 6 by omega)
          have z := exp_at_k h1 (show k < 6 by omega)
          have hi : ((k + 1 : Nat) : Int) - 1 = (k : Int) := by omega
          rw [hi]
          clear h0 h1 hi
          by_cases c2 : f k > g k
          · have HV := Lib.hid (show revCmp f g (k + 1) = -1 by simp [revCmp, c2])
            go_wp2_with fail
            go_region
            all_goals go_wp2
            all_goals go_ret
            all_goals exact ⟨_, rfl, by rw [HC.out, HE.out, HV.out]; rfl, by first | exact HB.out | exact below_drew HB.out⟩
          · by_cases c3 : f k < g k
            · have HV := Lib.hid (show revCmp f g (k + 1) = 1 by simp [revCmp, c2, c3])
              go_wp2_with fail
              go_region
              all_goals go_wp2_with fail
              all_goals go_region
              all_goals go_wp2
              all_goals go_ret
              all_goals exact ⟨_, rfl, by rw [HC.out, HE.out, HV.out]; rfl, by first | exact HB.out | exact below_drew HB.out | exact below_drew (below_drew HB.out)⟩
            · have HV := Lib.hid (show revCmp f g (k + 1) = revCmp f g k by simp [revCmp, c2, c3])
              go_wp2_with fail
              go_region
              all_goals go_wp2_with fail
              all_goals go_region
              all_goals go_wp2
              all_goals (
                go_roundw
                case rel => exact ⟨k, by omega, by go_num, by rw [HE.out, HV.out], H0.out, H1.out, by first | exact HB.out | exact below_drew HB.out | exact below_drew (below_drew HB.out)⟩
                case measure => simp [intOf] <;> omega))
end Go.Proofs.YtoflmheodiajaaaGreatDoor
