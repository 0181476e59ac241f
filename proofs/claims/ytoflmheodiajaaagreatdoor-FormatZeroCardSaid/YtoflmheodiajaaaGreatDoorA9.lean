/- (multi.Exp).Degree, (multi.Exp).Cmp: what they return. -/
import Derived.Test.YtoflmheodiajaaaGreatDoorA8
import Derived.StillTactics
import Derived.Deep.RegionHeld3
namespace Go.Proofs.YtoflmheodiajaaaGreatDoor
open Go.RowKit
set_option linter.unusedVariables false
set_option linter.unusedSimpArgs false
variable {Bs : Nat}

def sumTo (f : Nat → Int) : Nat → Int
  | 0 => 0
  | k + 1 => sumTo f k + f k
def ExpR (f : Nat → Int) : Prop := ∀ j, 0 ≤ f j ∧ f j ≤ 1048576
theorem sumTo_range {f : Nat → Int} (h : ExpR f) : ∀ k, 0 ≤ sumTo f k ∧ sumTo f k ≤ 1048576 * k
  | 0 => by simp [sumTo]
  | k + 1 => by
    have := sumTo_range h k
    have := h k
    simp only [sumTo]
    omega
def DegRel (f : Nat → Int) (acc i : Value) : Prop := ∃ k : Nat, k ≤ 6 ∧ i = .int .i64 k ∧ acc = .int .i64 (sumTo f k)

theorem run_index6_0 (a b c d e g : Int) (w : World) : (Instr.index 180 (.agg #[.int .i32 a, .int .i32 b, .int .i32 c, .int .i32 d, .int .i32 e, .int .i32 g]) (.int .i64 ((0 : Nat) : Int))).run Tryz.prog w = .ok (.int .i32 a) w := by kernel_rfl
theorem run_index6_1 (a b c d e g : Int) (w : World) : (Instr.index 180 (.agg #[.int .i32 a, .int .i32 b, .int .i32 c, .int .i32 d, .int .i32 e, .int .i32 g]) (.int .i64 ((1 : Nat) : Int))).run Tryz.prog w = .ok (.int .i32 b) w := by kernel_rfl
theorem run_index6_2 (a b c d e g : Int) (w : World) : (Instr.index 180 (.agg #[.int .i32 a, .int .i32 b, .int .i32 c, .int .i32 d, .int .i32 e, .int .i32 g]) (.int .i64 ((2 : Nat) : Int))).run Tryz.prog w = .ok (.int .i32 c) w := by kernel_rfl
theorem run_index6_3 (a b c d e g : Int) (w : World) : (Instr.index 180 (.agg #[.int .i32 a, .int .i32 b, .int .i32 c, .int .i32 d, .int .i32 e, .int .i32 g]) (.int .i64 ((3 : Nat) : Int))).run Tryz.prog w = .ok (.int .i32 d) w := by kernel_rfl
theorem run_index6_4 (a b c d e g : Int) (w : World) : (Instr.index 180 (.agg #[.int .i32 a, .int .i32 b, .int .i32 c, .int .i32 d, .int .i32 e, .int .i32 g]) (.int .i64 ((4 : Nat) : Int))).run Tryz.prog w = .ok (.int .i32 e) w := by kernel_rfl
theorem run_index6_5 (a b c d e g : Int) (w : World) : (Instr.index 180 (.agg #[.int .i32 a, .int .i32 b, .int .i32 c, .int .i32 d, .int .i32 e, .int .i32 g]) (.int .i64 ((5 : Nat) : Int))).run Tryz.prog w = .ok (.int .i32 g) w := by kernel_rfl
theorem run_index6 (a b c d e g : Int) (f : Nat → Int) (h0 : a = f 0) (h1 : b = f 1) (h2 : c = f 2) (h3 : d = f 3) (h4 : e = f 4) (h5 : g = f 5) (k : Nat) (hk : k < 6) (w : World) :
    (Instr.index 180 (.agg #[.int .i32 a, .int .i32 b, .int .i32 c, .int .i32 d, .int .i32 e, .int .i32 g]) (.int .i64 k)).run Tryz.prog w = .ok (.int .i32 (f k)) w := by
  match k, hk with
  | 0, _ => exact h0 ▸ run_index6_0 a b c d e g w
  | 1, _ => exact h1 ▸ run_index6_1 a b c d e g w
  | 2, _ => exact h2 ▸ run_index6_2 a b c d e g w
  | 3, _ => exact h3 ▸ run_index6_3 a b c d e g w
  | 4, _ => exact h4 ▸ run_index6_4 a b c d e g w
  | 5, _ => exact h5 ▸ run_index6_5 a b c d e g w
set_option maxHeartbeats 1000000 in
theorem degree_any (f : Nat → Int) (w : World) (h : ExpR f) :
    Calls Tryz.prog 110 #[.agg (expCells f)] w fun e w' => e = .returned (.int .i64 (sumTo f 6)) ∧ w' = w.alloc (.cells (expCells f) 180) := by
  have HR := Lib.hid h
  clear h
  unfold expCells
  go_enter Tryz.func110, Tryz.ntmps110
  go_wp2
  go_loop [3, 7] (fun acc i => DegRel f acc i) (fun _ i => 6 - (intOf i).toNat)
  case atStart => exact ⟨0, by omega, rfl, rfl⟩
  case round =>
    obtain ⟨k, hk, rfl, rfl⟩ := hrel
    have hr := sumTo_range HR.out k
    obtain ⟨r1, r2⟩ := hr
    obtain ⟨r3, r4⟩ := HR.out k
    by_cases hlt : k < 6
    · have i0 := fun w => run_index6 (f 0) (f 1) (f 2) (f 3) (f 4) (f 5) f rfl rfl rfl rfl rfl rfl k hlt w
      go_wp2
      go_round
      case rel => exact ⟨k + 1, by omega, by go_num, rfl⟩
      case measure => simp [intOf]; omega
    · obtain rfl : k = 6 := by omega
      go_wp2
      go_ret
      exact ⟨rfl, rfl⟩
/-- The graded reverse lexicographic order. -/
def revCmp (f g : Nat → Int) : Nat → Int
  | 0 => 0
  | k + 1 => if f k > g k then -1 else if f k < g k then 1 else revCmp f g k
def expCmp (f g : Nat → Int) : Int := if sumTo f 6 = sumTo g 6 then revCmp f g 6 else if sumTo f 6 < sumTo g 6 then -1 else 1
def Six (w : World) (b : Nat) (f : Nat → Int) : Prop := w.cell? ⟨b, 0, none⟩ = some (.int .i32 (f 0)) ∧ w.cell? ⟨b, 1, none⟩ = some (.int .i32 (f 1)) ∧ w.cell? ⟨b, 2, none⟩ = some (.int .i32 (f 2)) ∧ w.cell? ⟨b, 3, none⟩ = some (.int .i32 (f 3)) ∧ w.cell? ⟨b, 4, none⟩ = some (.int .i32 (f 4)) ∧ w.cell? ⟨b, 5, none⟩ = some (.int .i32 (f 5))
def CmpRel (w : World) (f g : Nat → Int) (i : Value) (wr : World) : Prop := ∃ k : Nat, k ≤ 6 ∧ i = .int .i64 ((k : Int) - 1) ∧ revCmp f g 6 = revCmp f g k ∧
  wr.heap[w.heap.size]? = some (.cells (expCells f) 180 (0, 0)) ∧ wr.heap[w.heap.size + 1]? = some (.cells (expCells g) 180 (0, 0)) ∧ Below w.heap.size w wr

theorem cmp_lt {f g : Nat → Int} (h : sumTo f 6 < sumTo g 6) : expCmp f g = -1 := by
  unfold expCmp
  rw [if_neg (by omega), if_pos h]
theorem cmp_gt {f g : Nat → Int} (h : sumTo g 6 < sumTo f 6) : expCmp f g = 1 := by
  unfold expCmp
  rw [if_neg (by omega), if_neg (by omega)]
theorem cmp_eq {f g : Nat → Int} (h : sumTo f 6 = sumTo g 6) : expCmp f g = revCmp f g 6 := by
  unfold expCmp
  rw [if_pos h]
theorem heap_four0 (w : World) (a b c d : Obj) : ((((w.alloc a).alloc b).alloc c).alloc d).heap[w.heap.size]? = some a := by
  have h1 := (below_alloc (below_alloc (below_alloc (below_refl (w.alloc a)) b) c) d).block w.heap.size (by simp)
  exact h1.trans (heap_alloc_new w a)
theorem heap_four1 (w : World) (a b c d : Obj) : ((((w.alloc a).alloc b).alloc c).alloc d).heap[w.heap.size + 1]? = some b := by
  have h1 := (below_alloc (below_alloc (below_refl ((w.alloc a).alloc b)) c) d).block (w.heap.size + 1) (by simp)
  have h2 := heap_alloc_new (w.alloc a) b
  rw [show (w.alloc a).heap.size = w.heap.size + 1 by simp] at h2
  exact h1.trans h2
/-- The four worlds behind the two calls, whatever was drawn. -/
theorem below_many {w W : World} (h : Below w.heap.size w W) (a b : Obj) : Below w.heap.size w ((W.alloc a).alloc b) := below_alloc (below_alloc h _) _

set_option maxRecDepth 100000 in
set_option maxHeartbeats 4000000 in
theorem cmp_any (f g : Nat → Int) (w : World) (hf : ExpR f) (hg : ExpR g) :
    Calls Tryz.prog 83 #[.agg (expCells f), .agg (expCells g)] w (Gives w fun v _ => v = .int .i64 (expCmp f g)) := by
  have HF := Lib.hid hf
  have HG := Lib.hid hg
  have df := fun W => degree_any f W HF.out
  have dg := fun W => degree_any g W HG.out
  have HDF := Lib.hid df
  have HDG := Lib.hid dg
  clear hf hg df dg
  have hcase : (sumTo f 6 != sumTo g 6) = true ∧ sumTo f 6 < sumTo g 6 ∨ (sumTo f 6 != sumTo g 6) = true ∧ ¬ sumTo f 6 < sumTo g 6 ∨ (sumTo f 6 != sumTo g 6) = false := by
    by_cases h : sumTo f 6 = sumTo g 6
    · exact .inr (.inr (by simp [h]))
    · by_cases h2 : sumTo f 6 < sumTo g 6
      · exact .inl ⟨by simp [h], h2⟩
      · exact .inr (.inl ⟨by simp [h], h2⟩)
  unfold expCells
  rcases hcase with ⟨c1, c2⟩ | ⟨c1, c2⟩ | c1
  · have HC := Lib.hid (cmp_lt c2)
    go_enter Tryz.func83, Tryz.ntmps83
    go_wp2_with fail
    go_region_with (first | (go_at_call_of 110 (Value.agg #[.int .i32 (f 0), .int .i32 (f 1), .int .i32 (f 2), .int .i32 (f 3), .int .i32 (f 4), .int .i32 (f 5)]); refine (HDF.out _).mono ?_; rintro e w' ⟨rfl, rfl⟩) | (go_at_call_of 110 (Value.agg #[.int .i32 (g 0), .int .i32 (g 1), .int .i32 (g 2), .int .i32 (g 3), .int .i32 (g 4), .int .i32 (g 5)]); refine (HDG.out _).mono ?_; rintro e w' ⟨rfl, rfl⟩))
    all_goals go_wp2
    all_goals go_ret
    all_goals exact ⟨_, rfl, by rw [HC.out]; rfl, by first | exact below_alloc (below_alloc (below_alloc (below_alloc (below_refl _) _) _) _) _ | exact below_drew (below_alloc (below_alloc (below_alloc (below_alloc (below_refl _) _) _) _) _)⟩
  · have HC := Lib.hid (cmp_gt (f := f) (g := g) (by
      have : sumTo f 6 ≠ sumTo g 6 := by simpa using c1
      omega))
    go_enter Tryz.func83, Tryz.ntmps83
    go_wp2_with fail
    go_region_with (first | (go_at_call_of 110 (Value.agg #[.int .i32 (f 0), .int .i32 (f 1), .int .i32 (f 2), .int .i32 (f 3), .int .i32 (f 4), .int .i32 (f 5)]); refine (HDF.out _).mono ?_; rintro e w' ⟨rfl, rfl⟩) | (go_at_call_of 110 (Value.agg #[.int .i32 (g 0), .int .i32 (g 1), .int .i32 (g 2), .int .i32 (g 3), .int .i32 (g 4), .int .i32 (g 5)]); refine (HDG.out _).mono ?_; rintro e w' ⟨rfl, rfl⟩))
    all_goals go_wp2
    all_goals go_ret
    all_goals exact ⟨_, rfl, by rw [HC.out]; rfl, by first | exact below_alloc (below_alloc (below_alloc (below_alloc (below_refl _) _) _) _) _ | exact below_drew (below_alloc (below_alloc (below_alloc (below_alloc (below_refl _) _) _) _) _)⟩
  · have HC := Lib.hid (cmp_eq (f := f) (g := g) (by simpa using c1))
    go_enter Tryz.func83, Tryz.ntmps83
    go_wp2_with fail
    go_region_with (first | (go_at_call_of 110 (Value.agg #[.int .i32 (f 0), .int .i32 (f 1), .int .i32 (f 2), .int .i32 (f 3), .int .i32 (f 4), .int .i32 (f 5)]); refine (HDF.out _).mono ?_; rintro e w' ⟨rfl, rfl⟩) | (go_at_call_of 110 (Value.agg #[.int .i32 (g 0), .int .i32 (g 1), .int .i32 (g 2), .int .i32 (g 3), .int .i32 (g 4), .int .i32 (g 5)]); refine (HDG.out _).mono ?_; rintro e w' ⟨rfl, rfl⟩))
    all_goals go_wp2
    all_goals (
      go_loopw [7, 22, 30] (fun i _ _ wr => CmpRel w f g i wr) (fun i _ _ _ => (intOf i + 1).toNat)
      case atStart =>
        exact ⟨6, by omega, rfl, rfl, heap_four0 w _ _ _ _, heap_four1 w _ _ _ _, by first | exact below_alloc (below_alloc (below_alloc (below_alloc (below_refl _) _) _) _) _ | exact below_drew (below_alloc (below_alloc (below_alloc (below_alloc (below_refl _) _) _) _) _)⟩
      case round =>
        obtain ⟨k, hk, rfl, he, h0, h1, hB⟩ := hrel
        have HE := Lib.hid he
        have H0 := Lib.hid h0
        have H1 := Lib.hid h1
        have HB := Lib.hid hB
        clear he hB
        cases k with
        | zero =>
          clear h0 h1
          go_wp2
          go_ret
          exact ⟨_, rfl, by rw [HC.out, HE.out]; rfl, HB.out⟩
        | succ k =>
          have y := exp_at_k h0 (show k < 6 by omega)
          have z := exp_at_k h1 (show k < 6 by omega)
          have hi : ((k + 1 : Nat) : Int) - 1 = (k : Int) := by omega
          rw [hi]
          clear h0 h1 hi
          by_cases c2 : f k > g k
          · have HV := Lib.hid (show revCmp f g (k + 1) = -1 by simp [revCmp, c2])
            go_wp2_with fail
            go_region
            all_goals go_wp2
            all_goals go_ret
            all_goals exact ⟨_, rfl, by rw [HC.out, HE.out, HV.out]; rfl, by first | exact HB.out | exact below_drew HB.out⟩
          · by_cases c3 : f k < g k
            · have HV := Lib.hid (show revCmp f g (k + 1) = 1 by simp [revCmp, c2, c3])
              go_wp2_with fail
              go_region
              all_goals go_wp2_with fail
              all_goals go_region
              all_goals go_wp2
              all_goals go_ret
              all_goals exact ⟨_, rfl, by rw [HC.out, HE.out, HV.out]; rfl, by first | exact HB.out | exact below_drew HB.out | exact below_drew (below_drew HB.out)⟩
            · have HV := Lib.hid (show revCmp f g (k + 1) = revCmp f g k by simp [revCmp, c2, c3])
              go_wp2_with fail
              go_region
              all_goals go_wp2_with fail
              all_goals go_region
              all_goals go_wp2
              all_goals (
                go_roundw
                case rel => exact ⟨k, by omega, by go_num, by rw [HE.out, HV.out], H0.out, H1.out, by first | exact HB.out | exact below_drew HB.out | exact below_drew (below_drew HB.out)⟩
                case measure => simp [intOf] <;> omega))
end Go.Proofs.YtoflmheodiajaaaGreatDoor
