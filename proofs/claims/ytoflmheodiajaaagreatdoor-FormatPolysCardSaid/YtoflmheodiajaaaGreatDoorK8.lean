import Derived.Test.YtoflmheodiajaaaGreatDoorK7
namespace Go.Proofs.YtoflmheodiajaaaGreatDoor
open Go.RowKit
set_option linter.unusedVariables false
set_option linter.unusedSimpArgs false
variable {Bs : Nat}
def OfSpec (Bs : Nat) (okC zC : ByteArray → Bool) (dom : ByteArray → Prop) : Prop := ∀ s w, Bs ≤ w.heap.size → dom s → Calls Tryz.prog 80 #[.string s] w (Gives w fun v _ => ∃ p q a, v = .tuple #[.agg #[.int .i64 p, .int .i64 q, .pointer a], .bool (okC s)] ∧ (okC s = true → isZ a p = zC s))
def exF (t : TermV) (j : Nat) : Int := el t.xs j
def tOk (okC zC : ByteArray → Bool) (vars : Int) (ts : List TermV) (k : Nat) : Bool :=
  okC (tm ts k).c && (expOk (tm ts k).xs 1048576 && (!zC (tm ts k).c && (decide (((tm ts k).xs.length : Int) = vars) && (decide (k = 0) || decide (0 < expCmp (exF (tm ts (k - 1))) (exF (tm ts k)))))))
def wfFrom (okC zC : ByteArray → Bool) (vars : Int) (ts : List TermV) (k : Nat) : Bool := decide (∀ i, i < ts.length → k ≤ i → tOk okC zC vars ts i = true)
def wfOk (okC zC : ByteArray → Bool) (vars : Int) (ts : List TermV) : Bool := decide (0 ≤ vars ∧ vars ≤ 6) && wfFrom okC zC vars ts 0
section
variable {okC zC : ByteArray → Bool} {vars : Int} {ts : List TermV}
theorem wfFrom_step {k : Nat} (h : tOk okC zC vars ts k = true) : wfFrom okC zC vars ts k = wfFrom okC zC vars ts (k + 1) := by
  unfold wfFrom
  rw [decide_eq_decide]
  constructor
  · intro g i h1 h2; exact g i h1 (by omega)
  · intro g i h1 h2
    by_cases e : i = k
    · subst e; exact h
    · exact g i h1 (by omega)
theorem wfFrom_no {k : Nat} (hk : k < ts.length) (h : tOk okC zC vars ts k = false) : wfFrom okC zC vars ts k = false := by
  unfold wfFrom
  rw [decide_eq_false_iff_not]
  intro g
  rw [g k hk (Nat.le_refl _)] at h
  cases h
theorem wfFrom_end : wfFrom okC zC vars ts ts.length = true := by
  unfold wfFrom
  rw [decide_eq_true_iff]
  intro i h1 h2
  omega
end
theorem expR_of {xs : List Int} {m : Int} (hm : m ≤ 1048576) (h0 : 0 ≤ m) (h : expOk xs m = true) : ExpR (fun j => el xs j) := by
  intro j
  simp only [expOk, expsFrom, Bool.and_eq_true, decide_eq_true_iff] at h
  by_cases hj : j < xs.length
  · obtain ⟨h1, h2⟩ := h.2 j hj (Nat.zero_le _)
    constructor <;> simp only <;> omega
  · simp only [el_ge _ _ (by omega : xs.length ≤ j)]
    omega
structure WfIn (w : World) (A : Option Addr) (ca : Nat) (ts : List TermV) (vars : Int) (k : Nat) (tv : Value) (W : World) : Prop where
  below : Below w.heap.size w W
  size : w.heap.size + 2 < W.heap.size
  box : W.heap[w.heap.size]? = some (.cells #[.int .i64 vars, .slice A ts.length ca] 24 (0, 0))
  out : W.heap[w.heap.size + 1]? = some (.cells #[.int .i64 0, .slice none 0 0] 111 (0, 0))
  poly : W.heap[w.heap.size + 2]? = some (.cells #[.int .i64 vars, tv] 111 (0, 0))
  terms : TermsOut W (w.heap.size + 3) tv ts k
theorem WfIn.since {w W W1 : World} {A : Option Addr} {ca : Nat} {ts : List TermV} {vars : Int} {k : Nat} {tv : Value} (h : WfIn w A ca ts vars k tv W) (hb : Below W.heap.size W W1) : WfIn w A ca ts vars k tv W1 :=
  ⟨below_then h.below h.below.size hb, Nat.lt_of_lt_of_le h.size hb.size, by rw [hb.block _ (by have := h.size; omega)]; exact h.box, by rw [hb.block _ (by have := h.size; omega)]; exact h.out, by rw [hb.block _ h.size]; exact h.poly, h.terms.below hb⟩
theorem below_mix {B B' : Nat} {w w1 w2 : World} (h : Below B w w1) (hB : B ≤ B') (k : Below B' w1 w2) : Below B w w2 :=
  ⟨k.os.trans h.os, k.tape.trans h.tape, k.output.trans h.output, Nat.le_trans h.size k.size, fun i hi => (k.block i (by omega)).trans (h.block i hi)⟩
theorem WfIn.next {w W W4 : World} {A : Option Addr} {ca : Nat} {ts : List TermV} {vars : Int} {k : Nat} {tv v1 : Value} (h : WfIn w A ca ts vars k tv W) (hb : Below (w.heap.size + 3) W W4) (ht : TermsOut W4 (w.heap.size + 3) v1 ts (k + 1)) :
    WfIn w A ca ts vars (k + 1) v1 (W4.setCell ⟨w.heap.size + 2, 1, none⟩ v1) := by
  have p4 : W4.heap[w.heap.size + 2]? = some (.cells #[.int .i64 vars, tv] 111 (0, 0)) := (hb.block _ (by omega)).trans h.poly
  refine ⟨(below_mix h.below (by omega) hb).setCell (p := ⟨w.heap.size + 2, 1, none⟩) (by simp) _, ?_, ?_, ?_, ?_, ht.setOther (by omega) _⟩
  · have := hb.size
    have := h.size
    simp
    omega
  · exact heap_far ((hb.block _ (by omega)).trans h.box) (by omega) _
  · exact heap_far ((hb.block _ (by omega)).trans h.out) (by omega) _
  · rw [heap_setCell p4]; rfl
theorem heap_three (w : World) (a b c : Obj) : (((w.alloc a).alloc b).alloc c).heap[w.heap.size]? = some a ∧ (((w.alloc a).alloc b).alloc c).heap[w.heap.size + 1]? = some b ∧ (((w.alloc a).alloc b).alloc c).heap[w.heap.size + 2]? = some c := by
  refine ⟨?_, ?_, ?_⟩
  · exact ((below_alloc (below_alloc (below_refl (w.alloc a)) b) c).block w.heap.size (by simp)).trans (heap_alloc_new w a)
  · have h2 := heap_alloc_new (w.alloc a) b
    rw [show (w.alloc a).heap.size = w.heap.size + 1 by simp] at h2
    exact ((below_alloc (below_refl ((w.alloc a).alloc b)) c).block (w.heap.size + 1) (by simp)).trans h2
  · have h2 := heap_alloc_new ((w.alloc a).alloc b) c
    rw [show ((w.alloc a).alloc b).heap.size = w.heap.size + 2 by simp] at h2
    exact h2
theorem TermsOut.none (w : World) (base : Nat) (ts : List TermV) : TermsOut w base (.slice none 0 0) ts 0 := ⟨[], World.ownsRow_nil w base _ 9, fun i hi => by omega⟩
def WfRel (okC zC : ByteArray → Bool) (w : World) (A : Option Addr) (ca : Nat) (ts : List TermV) (vars : Int) (i : Value) (W : World) : Prop :=
  ∃ (k : Nat) (tv : Value), i = .int .i64 k ∧ k ≤ ts.length ∧ wfFrom okC zC vars ts 0 = wfFrom okC zC vars ts k ∧ (∀ i, i < k → tOk okC zC vars ts i = true) ∧ WfIn w A ca ts vars k tv W
def WfPost (okC zC : ByteArray → Bool) (ts : List TermV) (vars : Int) (base : Nat) (v : Value) (w' : World) : Prop :=
  ∃ n A l c, v = .tuple #[.agg #[.int .i64 n, .slice A l c], .bool (wfOk okC zC vars ts)] ∧ (wfOk okC zC vars ts = true → n = vars ∧ l = ts.length ∧ TermsOut w' base (.slice A l c) ts ts.length)
theorem wellFormed_range (okC zC : ByteArray → Bool) (A : Option Addr) (ca : Nat) (ts : List TermV) (vars : Int) (w : World) (hv : vars < 0 ∨ 6 < vars) :
    Calls Tryz.prog 52 #[.agg #[.int .i64 vars, .slice A ts.length ca]] w (Gives w fun v w' => WfPost okC zC ts vars (w.heap.size + 3) v w') := by
  have HK := Lib.hid (show wfOk okC zC vars ts = false by
    have : ¬ (0 ≤ vars ∧ vars ≤ 6) := by omega
    simp [wfOk, this])
  rcases hv with h | h
  · go_enter Tryz.func52, Tryz.ntmps52
    go_wp2
    refine bodyPost_ret (v := .tuple #[.agg #[.int .i64 0, .slice none 0 0], .bool false]) (by simp [results, Tryz.results52, go_sem]) rfl ⟨_, rfl, ⟨_, _, _, _, by rw [HK.out], (fun h => by rw [HK.out] at h; cases h)⟩, ?_⟩
    exact below_alloc (below_alloc (below_alloc (below_refl _) _) _) _
  · have h' : ¬ vars < 0 := by omega
    go_enter Tryz.func52, Tryz.ntmps52
    go_wp2
    refine bodyPost_ret (v := .tuple #[.agg #[.int .i64 0, .slice none 0 0], .bool false]) (by simp [results, Tryz.results52, go_sem]) rfl ⟨_, rfl, ⟨_, _, _, _, by rw [HK.out], (fun h => by rw [HK.out] at h; cases h)⟩, ?_⟩
    exact below_alloc (below_alloc (below_alloc (below_refl _) _) _) _
set_option maxRecDepth 100000 in
set_option maxHeartbeats 2000000 in
theorem wellFormed_in (okC zC : ByteArray → Bool) (dom : ByteArray → Prop) (HS : OfSpec Bs okC zC dom) (A : Option Addr) (ca : Nat) (ts : List TermV) (vars : Int) (w : World) (hBs : Bs ≤ w.heap.size) (hA : RdT Bs w A ts)
    (hc : ts.length ≤ ca) (hm : ts.length ≤ 4096) (hd : ∀ i, i < ts.length → dom (tm ts i).c) (hv1 : 0 ≤ vars) (hv2 : vars ≤ 6) :
    Calls Tryz.prog 52 #[.agg #[.int .i64 vars, .slice A ts.length ca]] w (Gives w fun v w' => WfPost okC zC ts vars (w.heap.size + 3) v w') := by
  have HS := Lib.hid HS
  have HA := Lib.hid hA
  have HD := Lib.hid hd
  have hv3 : ¬ vars < 0 := by omega
  have hv4 : ¬ 6 < vars := by omega
  have HW := Lib.hid (show wfOk okC zC vars ts = wfFrom okC zC vars ts 0 by simp [wfOk, hv1, hv2])
  clear hA hd
  go_enter Tryz.func52, Tryz.ntmps52
  go_wp2
  go_loopw [26] (fun i W => WfRel okC zC w A ca ts vars i W) (fun i _ => ts.length - (intOf i).toNat)
  case atStart =>
    exact ⟨0, .slice none 0 0, rfl, by omega, rfl, fun i hi => by omega, below_alloc (below_alloc (below_alloc (below_refl _) _) _) _, by simp, (heap_three w _ _ _).1, (heap_three w _ _ _).2.1, (heap_three w _ _ _).2.2, TermsOut.none _ _ _⟩
  case round =>
    obtain ⟨k, tv, rfl, hk, he, hall, hin⟩ := hrel
    have HE := Lib.hid he
    have HALL := Lib.hid hall
    have HIN := Lib.hid hin
    clear he hall hin
    by_cases hlt : k < ts.length
    · obtain ⟨ab, ao, rfl, hab, hcA⟩ := HA.out.plain (by omega)
      obtain ⟨hcA1, hcA2, hT1, hT2, hT3⟩ := hcA k hlt
      have hA1 := (HIN.out.below.cell (p := ⟨ab, ao + 2 * k, none⟩) hab).trans hcA1
      have hA2 := (HIN.out.below.cell (p := ⟨ab, ao + 2 * k + 1, none⟩) hab).trans hcA2
      rw [show 2 * k = k * 2 by omega] at hA1 hA2
      have HT := Lib.hid hT1
      clear hcA hcA1 hcA2 hT1
      have hsz := HIN.out.below.size
      go_wp2_with fail
      refine (HS.out (tm ts k).c _ (by simp; omega) (HD.out k hlt)).mono ?_
      rintro e w1 ⟨_, rfl, ⟨p, q, a, rfl, hz⟩, hb1⟩
      obtain ⟨k1, _, hs1⟩ := box_kept hb1
      have k1 : w1.cell? ⟨wr.heap.size, 1, none⟩ = some (.slice (tm ts k).A (tm ts k).xs.length (tm ts k).cap) := k1 1
      have hB1 : Below wr.heap.size wr w1 := below_then (below_alloc (below_refl wr) _) (by simp) hb1
      have HB1 := Lib.hid hB1
      have HZ := Lib.hid hz
      clear hb1 hB1 hz
      go_wp2_with fail
      refine (expOf_any (Bs := Bs) (tm ts k).A (tm ts k).cap (tm ts k).xs 1048576 _ (HT.out.below (below_alloc (below_then HIN.out.below HIN.out.below.size HB1.out) _)) hT2 (by omega) (by omega)).mono ?_
      rintro e w2 ⟨_, rfl, ⟨f, rfl, hf⟩, hb2⟩
      have HF := Lib.hid hf
      obtain ⟨k2, _, hs2⟩ := box_kept hb2
      have hB2 : Below wr.heap.size wr w2 := below_then (below_alloc HB1.out _) (by simp; omega) hb2
      have hcell : w2.cell? ⟨wr.heap.size, 1, none⟩ = some (.slice (tm ts k).A (tm ts k).xs.length (tm ts k).cap) := by
        rw [hb2.cell (p := ⟨wr.heap.size, 1, none⟩) (by simp; omega)]
        rw [(below_alloc (below_refl w1) _).cell (p := ⟨wr.heap.size, 1, none⟩) hs1]
        exact k1
      have HB3 := Lib.hid (below_alloc hB2 (.cells (expCells f) 180))
      have HW3 := Lib.hid (HIN.out.since HB3.out)
      have g1 := (below_alloc (below_refl w2) (.cells (expCells f) 180)).cell (p := ⟨wr.heap.size, 1, none⟩) (by show wr.heap.size < w2.heap.size; omega)
      rw [hcell] at g1
      have g2 : ∀ i, (w2.alloc (.cells (expCells f) 180)).cell? ⟨w1.heap.size, i, none⟩ = (#[.int .i64 p, .int .i64 q, .pointer a] : Array Value)[i]? := fun i => by
        rw [(below_alloc (below_refl w2) (.cells (expCells f) 180)).cell (p := ⟨w1.heap.size, i, none⟩) (by show w1.heap.size < w2.heap.size; omega)]
        exact k2 i
      have g20 := g2 0
      have g21 := g2 1
      have g22 := g2 2
      have g3 : (w2.alloc (.cells (expCells f) 180)).cell? ⟨w.heap.size, 0, none⟩ = some (.int .i64 vars) := by rw [Lib.cell_of_heap HW3.out.box]; rfl
      have g4 : (w2.alloc (.cells (expCells f) 180)).cell? ⟨w.heap.size + 2, 1, none⟩ = some tv := by rw [Lib.cell_of_heap HW3.out.poly]; rfl
      clear hf k1 k2 hB2 hcell hb2 g2
      unfold expCells at g1 g20 g21 g22 g3 g4
      unfold expCells
      have F1 := fun x : After (w2.alloc (.cells #[.int .i32 (f 0), .int .i32 (f 1), .int .i32 (f 2), .int .i32 (f 3), .int .i32 (f 4), .int .i32 (f 5)] 180)) => (x.below.cell (p := ⟨wr.heap.size, 1, none⟩) (by simp; omega)).trans g1
      have F20 := fun x : After (w2.alloc (.cells #[.int .i32 (f 0), .int .i32 (f 1), .int .i32 (f 2), .int .i32 (f 3), .int .i32 (f 4), .int .i32 (f 5)] 180)) => (x.below.cell (p := ⟨w1.heap.size, 0, none⟩) (by simp; omega)).trans g20
      have F21 := fun x : After (w2.alloc (.cells #[.int .i32 (f 0), .int .i32 (f 1), .int .i32 (f 2), .int .i32 (f 3), .int .i32 (f 4), .int .i32 (f 5)] 180)) => (x.below.cell (p := ⟨w1.heap.size, 1, none⟩) (by simp; omega)).trans g21
      have F22 := fun x : After (w2.alloc (.cells #[.int .i32 (f 0), .int .i32 (f 1), .int .i32 (f 2), .int .i32 (f 3), .int .i32 (f 4), .int .i32 (f 5)] 180)) => (x.below.cell (p := ⟨w1.heap.size, 2, none⟩) (by simp; omega)).trans g22
      have F3 := fun x : After (w2.alloc (.cells #[.int .i32 (f 0), .int .i32 (f 1), .int .i32 (f 2), .int .i32 (f 3), .int .i32 (f 4), .int .i32 (f 5)] 180)) => (x.below.cell (p := ⟨w.heap.size, 0, none⟩) (by have := HIN.out.size; simp; omega)).trans g3
      have F4 := fun x : After (w2.alloc (.cells #[.int .i32 (f 0), .int .i32 (f 1), .int .i32 (f 2), .int .i32 (f 3), .int .i32 (f 4), .int .i32 (f 5)] 180)) => (x.below.cell (p := ⟨w.heap.size + 2, 1, none⟩) (by have := HIN.out.size; simp; omega)).trans g4
      clear g1 g20 g21 g22 g3 g4
      have HZ0 := Lib.hid (zero_any p q a)
      have FO := fun x : After (w2.alloc (.cells #[.int .i32 (f 0), .int .i32 (f 1), .int .i32 (f 2), .int .i32 (f 3), .int .i32 (f 4), .int .i32 (f 5)] 180)) => show x.w.cell? ⟨w.heap.size + 1, 0, none⟩ = some (.int .i64 0) by rw [Lib.cell_of_heap (HW3.out.since x.below).out]; rfl
      have FO1 := fun x : After (w2.alloc (.cells #[.int .i32 (f 0), .int .i32 (f 1), .int .i32 (f 2), .int .i32 (f 3), .int .i32 (f 4), .int .i32 (f 5)] 180)) => show x.w.cell? ⟨w.heap.size + 1, 1, none⟩ = some (.slice none 0 0) by rw [Lib.cell_of_heap (HW3.out.since x.below).out]; rfl
      have FZ := fun (x : After (w2.alloc (.cells #[.int .i32 (f 0), .int .i32 (f 1), .int .i32 (f 2), .int .i32 (f 3), .int .i32 (f 4), .int .i32 (f 5)] 180))) i => Lib.frozen_of_heap (HW3.out.since x.below).out i
      have FZ2 := fun (x : After (w2.alloc (.cells #[.int .i32 (f 0), .int .i32 (f 1), .int .i32 (f 2), .int .i32 (f 3), .int .i32 (f 4), .int .i32 (f 5)] 180))) i => Lib.frozen_of_heap (HW3.out.since x.below).poly i
      have F50 := fun x : After (w2.alloc (.cells #[.int .i32 (f 0), .int .i32 (f 1), .int .i32 (f 2), .int .i32 (f 3), .int .i32 (f 4), .int .i32 (f 5)] 180)) => show x.w.cell? ⟨w2.heap.size, 0, none⟩ = some (.int .i32 (f 0)) by
        rw [x.below.cell (p := ⟨w2.heap.size, 0, none⟩) (by simp)]
        exact World.cell?_alloc_at _ _ _ 0 rfl
      have F51 := fun x : After (w2.alloc (.cells #[.int .i32 (f 0), .int .i32 (f 1), .int .i32 (f 2), .int .i32 (f 3), .int .i32 (f 4), .int .i32 (f 5)] 180)) => show x.w.cell? ⟨w2.heap.size, 1, none⟩ = some (.int .i32 (f 1)) by
        rw [x.below.cell (p := ⟨w2.heap.size, 1, none⟩) (by simp)]
        exact World.cell?_alloc_at _ _ _ 1 rfl
      have F52 := fun x : After (w2.alloc (.cells #[.int .i32 (f 0), .int .i32 (f 1), .int .i32 (f 2), .int .i32 (f 3), .int .i32 (f 4), .int .i32 (f 5)] 180)) => show x.w.cell? ⟨w2.heap.size, 2, none⟩ = some (.int .i32 (f 2)) by
        rw [x.below.cell (p := ⟨w2.heap.size, 2, none⟩) (by simp)]
        exact World.cell?_alloc_at _ _ _ 2 rfl
      have F53 := fun x : After (w2.alloc (.cells #[.int .i32 (f 0), .int .i32 (f 1), .int .i32 (f 2), .int .i32 (f 3), .int .i32 (f 4), .int .i32 (f 5)] 180)) => show x.w.cell? ⟨w2.heap.size, 3, none⟩ = some (.int .i32 (f 3)) by
        rw [x.below.cell (p := ⟨w2.heap.size, 3, none⟩) (by simp)]
        exact World.cell?_alloc_at _ _ _ 3 rfl
      have F54 := fun x : After (w2.alloc (.cells #[.int .i32 (f 0), .int .i32 (f 1), .int .i32 (f 2), .int .i32 (f 3), .int .i32 (f 4), .int .i32 (f 5)] 180)) => show x.w.cell? ⟨w2.heap.size, 4, none⟩ = some (.int .i32 (f 4)) by
        rw [x.below.cell (p := ⟨w2.heap.size, 4, none⟩) (by simp)]
        exact World.cell?_alloc_at _ _ _ 4 rfl
      have F55 := fun x : After (w2.alloc (.cells #[.int .i32 (f 0), .int .i32 (f 1), .int .i32 (f 2), .int .i32 (f 3), .int .i32 (f 4), .int .i32 (f 5)] 180)) => show x.w.cell? ⟨w2.heap.size, 5, none⟩ = some (.int .i32 (f 5)) by
        rw [x.below.cell (p := ⟨w2.heap.size, 5, none⟩) (by simp)]
        exact World.cell?_alloc_at _ _ _ 5 rfl
      cases hoc : okC (tm ts k).c
      · have HN := Lib.hid (show tOk okC zC vars ts k = false by simp [tOk, hoc])
        go_wp2_with fail
        (refine wp_region_after_lit (by kernel_rfl) (by kernel_rfl) ?_; (repeat (go_big_quiet_step (fail))); refine wpQuiet_nil ?_; intro _ hw'; obtain ⟨xa, hw''⟩ := hw'; subst hw'')
        go_wp2
        have HX := Lib.hid (HW3.out.since xa.below)
        have o0 := FO xa
        have o1 := FO1 xa
        have hs9 := HX.out.size
        refine bodyPost_ret (v := .tuple #[.agg #[.int .i64 0, .slice none 0 0], .bool false]) (by simp [results, Tryz.results52, go_sem, o0, o1, hs9, Nat.lt_of_succ_lt hs9]) rfl ⟨_, rfl, ⟨_, _, _, _, by rw [HW.out, HE.out, wfFrom_no hlt HN.out], (fun h => by rw [HW.out, HE.out, wfFrom_no hlt HN.out] at h; cases h)⟩, ?_⟩
        exact (HX.out.below.setCell (p := ⟨w.heap.size + 1, 0, none⟩) (Nat.le_succ _) _).setCell (p := ⟨w.heap.size + 1, 1, none⟩) (Nat.le_succ _) _
      · cases hox : expOk (tm ts k).xs 1048576
        · have HN := Lib.hid (show tOk okC zC vars ts k = false by simp [tOk, hox])
          go_wp2_with fail
          (refine wp_region_after_lit (by kernel_rfl) (by kernel_rfl) ?_; (repeat (go_big_quiet_step (fail))); refine wpQuiet_nil ?_; intro _ hw'; obtain ⟨xa, hw''⟩ := hw'; subst hw'')
          go_wp2
          have HX := Lib.hid (HW3.out.since xa.below)
          have o0 := FO xa
          have o1 := FO1 xa
          have hs9 := HX.out.size
          refine bodyPost_ret (v := .tuple #[.agg #[.int .i64 0, .slice none 0 0], .bool false]) (by simp [results, Tryz.results52, go_sem, o0, o1, hs9, Nat.lt_of_succ_lt hs9]) rfl ⟨_, rfl, ⟨_, _, _, _, by rw [HW.out, HE.out, wfFrom_no hlt HN.out], (fun h => by rw [HW.out, HE.out, wfFrom_no hlt HN.out] at h; cases h)⟩, ?_⟩
          exact (HX.out.below.setCell (p := ⟨w.heap.size + 1, 0, none⟩) (Nat.le_succ _) _).setCell (p := ⟨w.heap.size + 1, 1, none⟩) (Nat.le_succ _) _
        · cases hzc : zC (tm ts k).c
          · have hzz : isZ a p = false := (HZ.out hoc).trans hzc
            by_cases hln : ((tm ts k).xs.length : Int) = vars
            · have hlb : (((tm ts k).xs.length : Int) != vars) = false := by simp [hln]
              have hfe : f = exF (tm ts k) := funext fun j => HF.out hox j
              subst hfe
              cases k with
              | zero =>
                have HT0 := Lib.hid (show tOk okC zC vars ts 0 = true by simp [tOk, hoc, hox, hzc, hln])
                go_wp2_with fail
                (refine wp_region_after_lit (by kernel_rfl) (by kernel_rfl) ?_; (repeat (go_big_quiet_step ((go_at_call_of 82 (Value.agg #[.int .i64 p, .int .i64 q, .pointer a]); exact after_call (HZ0.out _))))); refine wpQuiet_nil ?_; intro _ hw'; obtain ⟨xa, hw''⟩ := hw'; subst hw'')
                have HX := Lib.hid (HW3.out.since xa.below)
                have x4 := F4 xa
                have x0 := F20 xa
                have x1 := F21 xa
                have x2 := F22 xa
                have y0 := F50 xa
                have y1 := F51 xa
                have y2 := F52 xa
                have y3 := F53 xa
                have y4 := F54 xa
                have y5 := F55 xa
                have hs9 := HX.out.size
                clear F1 F20 F21 F22 F3 F4 F50 F51 F52 F53 F54 F55 FO FO1 FZ FZ2
                go_wp2_with (at_builtin; refine appendT (w0 := xa.w) (w.heap.size + 3) rfl (.tmp 79) (.tmp 83) rfl tv ts 0 p q a rfl rfl HX.out.terms (Below.refl _ _) hs9 (by omega) ?_)
                intro v1 w4 ht4 hb4 hs4
                obtain ⟨A4, n4, rfl⟩ := ht4.shape
                have c4 : w4.cell? ⟨w.heap.size + 2, 1, none⟩ = some tv := by rw [Lib.cell_of_heap ((hb4.block _ (by omega)).trans HX.out.poly)]; rfl
                have z4 := fun i => Lib.frozen_of_heap ((hb4.block _ (by omega)).trans HX.out.poly) i
                have c4' : w4.cell? ⟨w.heap.size + 1 + 1, 1, none⟩ = some tv := c4
                have z4' : ∀ i, w4.frozen? ⟨w.heap.size + 1 + 1, i, none⟩ = false := z4
                have HN4 := Lib.hid (HX.out.next hb4 ht4)
                clear ht4
                go_wp2
                go_roundw
                case rel => exact ⟨0 + 1, _, by go_num, by omega, wfFrom_step HT0.out, fun i hi => by (obtain rfl : i = 0 := by omega); exact HT0.out, HN4.out⟩
                case measure => simp [intOf]; omega
              | succ k =>
                have hpk := HALL.out k (by omega)
                have hox' : expOk (tm ts k).xs 1048576 = true := by
                  simp only [tOk, Bool.and_eq_true] at hpk
                  exact hpk.2.1
                obtain ⟨C, hC⟩ : ∃ C, C = expCmp (exF (tm ts k)) (exF (tm ts (k + 1))) := ⟨_, rfl⟩
                have HCM := Lib.hid (fun W => (cmp_any (exF (tm ts k)) (exF (tm ts (k + 1))) W (expR_of (by omega) (by omega) hox') (expR_of (by omega) (by omega) hox)).mono (R' := fun e w' => e = .returned (.int .i64 C) ∧ Below W.heap.size W w') (by rintro e w' ⟨_, rfl, rfl, hb⟩; exact ⟨by rw [hC], hb⟩))
                obtain ⟨tg, tc, rfl, htg, htg2, htc⟩ := HIN.out.terms.at (i := k) (by omega)
                have htc0 : (Value.slice (some ⟨tg, 0, none⟩) (k + 1) tc) = .slice (some ⟨tg, 0, none⟩) (k + 1) tc := rfl
                have hi1 : ((k + 1 : Nat) : Int) - 1 = (k : Int) := by omega
                have HTC := Lib.hid htc
                clear htc
                have F60 := fun x : After (w2.alloc (.cells #[.int .i32 (exF (tm ts (k + 1)) 0), .int .i32 (exF (tm ts (k + 1)) 1), .int .i32 (exF (tm ts (k + 1)) 2), .int .i32 (exF (tm ts (k + 1)) 3), .int .i32 (exF (tm ts (k + 1)) 4), .int .i32 (exF (tm ts (k + 1)) 5)] 180)) => show x.w.cell? ⟨tg, k * 9 + 3, none⟩ = some (.int .i32 (exF (tm ts k) 0)) by
                  have := (((below_then HB3.out HB3.out.size x.below).cell (p := ⟨tg, 9 * k + 3 + 0, none⟩) htg2).trans (HTC.out 0 (by omega)))
                  rw [show k * 9 + 3 = 9 * k + 3 + 0 by omega]; exact this
                have F61 := fun x : After (w2.alloc (.cells #[.int .i32 (exF (tm ts (k + 1)) 0), .int .i32 (exF (tm ts (k + 1)) 1), .int .i32 (exF (tm ts (k + 1)) 2), .int .i32 (exF (tm ts (k + 1)) 3), .int .i32 (exF (tm ts (k + 1)) 4), .int .i32 (exF (tm ts (k + 1)) 5)] 180)) => show x.w.cell? ⟨tg, k * 9 + 4, none⟩ = some (.int .i32 (exF (tm ts k) 1)) by
                  have := (((below_then HB3.out HB3.out.size x.below).cell (p := ⟨tg, 9 * k + 3 + 1, none⟩) htg2).trans (HTC.out 1 (by omega)))
                  rw [show k * 9 + 4 = 9 * k + 3 + 1 by omega]; exact this
                have F62 := fun x : After (w2.alloc (.cells #[.int .i32 (exF (tm ts (k + 1)) 0), .int .i32 (exF (tm ts (k + 1)) 1), .int .i32 (exF (tm ts (k + 1)) 2), .int .i32 (exF (tm ts (k + 1)) 3), .int .i32 (exF (tm ts (k + 1)) 4), .int .i32 (exF (tm ts (k + 1)) 5)] 180)) => show x.w.cell? ⟨tg, k * 9 + 5, none⟩ = some (.int .i32 (exF (tm ts k) 2)) by
                  have := (((below_then HB3.out HB3.out.size x.below).cell (p := ⟨tg, 9 * k + 3 + 2, none⟩) htg2).trans (HTC.out 2 (by omega)))
                  rw [show k * 9 + 5 = 9 * k + 3 + 2 by omega]; exact this
                have F63 := fun x : After (w2.alloc (.cells #[.int .i32 (exF (tm ts (k + 1)) 0), .int .i32 (exF (tm ts (k + 1)) 1), .int .i32 (exF (tm ts (k + 1)) 2), .int .i32 (exF (tm ts (k + 1)) 3), .int .i32 (exF (tm ts (k + 1)) 4), .int .i32 (exF (tm ts (k + 1)) 5)] 180)) => show x.w.cell? ⟨tg, k * 9 + 6, none⟩ = some (.int .i32 (exF (tm ts k) 3)) by
                  have := (((below_then HB3.out HB3.out.size x.below).cell (p := ⟨tg, 9 * k + 3 + 3, none⟩) htg2).trans (HTC.out 3 (by omega)))
                  rw [show k * 9 + 6 = 9 * k + 3 + 3 by omega]; exact this
                have F64 := fun x : After (w2.alloc (.cells #[.int .i32 (exF (tm ts (k + 1)) 0), .int .i32 (exF (tm ts (k + 1)) 1), .int .i32 (exF (tm ts (k + 1)) 2), .int .i32 (exF (tm ts (k + 1)) 3), .int .i32 (exF (tm ts (k + 1)) 4), .int .i32 (exF (tm ts (k + 1)) 5)] 180)) => show x.w.cell? ⟨tg, k * 9 + 7, none⟩ = some (.int .i32 (exF (tm ts k) 4)) by
                  have := (((below_then HB3.out HB3.out.size x.below).cell (p := ⟨tg, 9 * k + 3 + 4, none⟩) htg2).trans (HTC.out 4 (by omega)))
                  rw [show k * 9 + 7 = 9 * k + 3 + 4 by omega]; exact this
                have F65 := fun x : After (w2.alloc (.cells #[.int .i32 (exF (tm ts (k + 1)) 0), .int .i32 (exF (tm ts (k + 1)) 1), .int .i32 (exF (tm ts (k + 1)) 2), .int .i32 (exF (tm ts (k + 1)) 3), .int .i32 (exF (tm ts (k + 1)) 4), .int .i32 (exF (tm ts (k + 1)) 5)] 180)) => show x.w.cell? ⟨tg, k * 9 + 8, none⟩ = some (.int .i32 (exF (tm ts k) 5)) by
                  have := (((below_then HB3.out HB3.out.size x.below).cell (p := ⟨tg, 9 * k + 3 + 5, none⟩) htg2).trans (HTC.out 5 (by omega)))
                  rw [show k * 9 + 8 = 9 * k + 3 + 5 by omega]; exact this
                by_cases hcm : C ≤ 0
                · have HN := Lib.hid (show tOk okC zC vars ts (k + 1) = false by
                    have : ¬ (0 < expCmp (exF (tm ts k)) (exF (tm ts (k + 1)))) := by omega
                    simp [tOk, this])
                  clear hC
                  go_wp2_with fail
                  (refine wp_region_after_lit (by kernel_rfl) (by kernel_rfl) ?_; (repeat (go_big_quiet_step ((first | (go_at_call_of 82 (Value.agg #[.int .i64 p, .int .i64 q, .pointer a]); exact after_call (HZ0.out _)) | (go_at_call 83; exact after_call (HCM.out _)))))); refine wpQuiet_nil ?_; intro _ hw'; obtain ⟨xa, hw''⟩ := hw'; subst hw'')
                  go_wp2
                  have HX := Lib.hid (HW3.out.since xa.below)
                  have o0 := FO xa
                  have o1 := FO1 xa
                  have hs9 := HX.out.size
                  refine bodyPost_ret (v := .tuple #[.agg #[.int .i64 0, .slice none 0 0], .bool false]) (by simp [results, Tryz.results52, go_sem, o0, o1, hs9, Nat.lt_of_succ_lt hs9]) rfl ⟨_, rfl, ⟨_, _, _, _, by rw [HW.out, HE.out, wfFrom_no hlt HN.out], (fun h => by rw [HW.out, HE.out, wfFrom_no hlt HN.out] at h; cases h)⟩, ?_⟩
                  exact (HX.out.below.setCell (p := ⟨w.heap.size + 1, 0, none⟩) (Nat.le_succ _) _).setCell (p := ⟨w.heap.size + 1, 1, none⟩) (Nat.le_succ _) _
                · have HT0 := Lib.hid (show tOk okC zC vars ts (k + 1) = true by
                    have : 0 < expCmp (exF (tm ts k)) (exF (tm ts (k + 1))) := by omega
                    simp [tOk, hoc, hox, hzc, hln, this])
                  clear hC
                  go_wp2_with fail
                  (refine wp_region_after_lit (by kernel_rfl) (by kernel_rfl) ?_; (repeat (go_big_quiet_step ((first | (go_at_call_of 82 (Value.agg #[.int .i64 p, .int .i64 q, .pointer a]); exact after_call (HZ0.out _)) | (go_at_call 83; exact after_call (HCM.out _)))))); refine wpQuiet_nil ?_; intro _ hw'; obtain ⟨xa, hw''⟩ := hw'; subst hw'')
                  have HX := Lib.hid (HW3.out.since xa.below)
                  have x4 := F4 xa
                  have x0 := F20 xa
                  have x1 := F21 xa
                  have x2 := F22 xa
                  have y0 := F50 xa
                  have y1 := F51 xa
                  have y2 := F52 xa
                  have y3 := F53 xa
                  have y4 := F54 xa
                  have y5 := F55 xa
                  have hs9 := HX.out.size
                  clear F1 F20 F21 F22 F3 F4 F50 F51 F52 F53 F54 F55 FO FO1 FZ FZ2 F60 F61 F62 F63 F64 F65
                  go_wp2_with (at_builtin; refine appendT (w0 := xa.w) (w.heap.size + 3) rfl (.tmp 79) (.tmp 83) rfl _ ts (k + 1) p q a rfl rfl HX.out.terms (Below.refl _ _) hs9 (by omega) ?_)
                  intro v1 w4 ht4 hb4 hs4
                  obtain ⟨A4, n4, rfl⟩ := ht4.shape
                  have c4 : w4.cell? ⟨w.heap.size + 2, 1, none⟩ = some (.slice (some ⟨tg, 0, none⟩) (k + 1) tc) := by rw [Lib.cell_of_heap ((hb4.block _ (by omega)).trans HX.out.poly)]; rfl
                  have z4 := fun i => Lib.frozen_of_heap ((hb4.block _ (by omega)).trans HX.out.poly) i
                  have c4' : w4.cell? ⟨w.heap.size + 1 + 1, 1, none⟩ = some (.slice (some ⟨tg, 0, none⟩) (k + 1) tc) := c4
                  have z4' : ∀ i, w4.frozen? ⟨w.heap.size + 1 + 1, i, none⟩ = false := z4
                  have HN4 := Lib.hid (HX.out.next hb4 ht4)
                  clear ht4
                  go_wp2
                  go_roundw
                  case rel => exact ⟨k + 1 + 1, _, by go_num, by omega, by rw [HE.out, wfFrom_step HT0.out], fun i hi => (Nat.lt_succ_iff_lt_or_eq.1 hi).elim (HALL.out i) (fun e => by rw [e]; exact HT0.out), HN4.out⟩
                  case measure => simp [intOf]; omega
            · have hlb : (((tm ts k).xs.length : Int) != vars) = true := by simp [hln]
              have HN := Lib.hid (show tOk okC zC vars ts k = false by simp [tOk, hln])
              go_wp2_with fail
              (refine wp_region_after_lit (by kernel_rfl) (by kernel_rfl) ?_; (repeat (go_big_quiet_step ((go_at_call_of 82 (Value.agg #[.int .i64 p, .int .i64 q, .pointer a]); exact after_call (HZ0.out _))))); refine wpQuiet_nil ?_; intro _ hw'; obtain ⟨xa, hw''⟩ := hw'; subst hw'')
              go_wp2
              have HX := Lib.hid (HW3.out.since xa.below)
              have o0 := FO xa
              have o1 := FO1 xa
              have hs9 := HX.out.size
              refine bodyPost_ret (v := .tuple #[.agg #[.int .i64 0, .slice none 0 0], .bool false]) (by simp [results, Tryz.results52, go_sem, o0, o1, hs9, Nat.lt_of_succ_lt hs9]) rfl ⟨_, rfl, ⟨_, _, _, _, by rw [HW.out, HE.out, wfFrom_no hlt HN.out], (fun h => by rw [HW.out, HE.out, wfFrom_no hlt HN.out] at h; cases h)⟩, ?_⟩
              exact (HX.out.below.setCell (p := ⟨w.heap.size + 1, 0, none⟩) (Nat.le_succ _) _).setCell (p := ⟨w.heap.size + 1, 1, none⟩) (Nat.le_succ _) _
          · have HN := Lib.hid (show tOk okC zC vars ts k = false by simp [tOk, hzc])
            have hzz : isZ a p = true := (HZ.out hoc).trans hzc
            go_wp2_with fail
            (refine wp_region_after_lit (by kernel_rfl) (by kernel_rfl) ?_; (repeat (go_big_quiet_step ((go_at_call_of 82 (Value.agg #[.int .i64 p, .int .i64 q, .pointer a]); exact after_call (HZ0.out _))))); refine wpQuiet_nil ?_; intro _ hw'; obtain ⟨xa, hw''⟩ := hw'; subst hw'')
            go_wp2
            have HX := Lib.hid (HW3.out.since xa.below)
            have o0 := FO xa
            have o1 := FO1 xa
            have hs9 := HX.out.size
            refine bodyPost_ret (v := .tuple #[.agg #[.int .i64 0, .slice none 0 0], .bool false]) (by simp [results, Tryz.results52, go_sem, o0, o1, hs9, Nat.lt_of_succ_lt hs9]) rfl ⟨_, rfl, ⟨_, _, _, _, by rw [HW.out, HE.out, wfFrom_no hlt HN.out], (fun h => by rw [HW.out, HE.out, wfFrom_no hlt HN.out] at h; cases h)⟩, ?_⟩
            exact (HX.out.below.setCell (p := ⟨w.heap.size + 1, 0, none⟩) (Nat.le_succ _) _).setCell (p := ⟨w.heap.size + 1, 1, none⟩) (Nat.le_succ _) _
    · obtain rfl : k = ts.length := by omega
      obtain ⟨A4, n4, rfl⟩ := HIN.out.terms.shape
      have o0 : wr.cell? ⟨w.heap.size + 1, 0, none⟩ = some (.int .i64 0) := by rw [Lib.cell_of_heap HIN.out.out]; rfl
      have o1 : wr.cell? ⟨w.heap.size + 1, 1, none⟩ = some (.slice none 0 0) := by rw [Lib.cell_of_heap HIN.out.out]; rfl
      have q0 : wr.cell? ⟨w.heap.size + 1 + 1, 0, none⟩ = some (.int .i64 vars) := by rw [Lib.cell_of_heap HIN.out.poly]; rfl
      have q1 : wr.cell? ⟨w.heap.size + 1 + 1, 1, none⟩ = some (.slice A4 ts.length n4) := by rw [Lib.cell_of_heap HIN.out.poly]; rfl
      have oz := fun i => Lib.frozen_of_heap HIN.out.out i
      have hs9 := HIN.out.size
      go_wp2
      refine bodyPost_ret (v := .tuple #[.agg #[.int .i64 vars, .slice A4 ts.length n4], .bool true]) (by simp [results, Tryz.results52, go_sem, o0, o1, hs9, Nat.lt_of_succ_lt hs9]) rfl ⟨_, rfl, ⟨_, _, _, _, by rw [HW.out, HE.out, wfFrom_end], fun _ => ⟨rfl, rfl, ?_⟩⟩, ?_⟩
      · exact (HIN.out.terms.setOther (b := w.heap.size + 1) (by omega) _).setOther (b := w.heap.size + 1) (by omega) _
      · exact (HIN.out.below.setCell (p := ⟨w.heap.size + 1, 0, none⟩) (Nat.le_succ _) _).setCell (p := ⟨w.heap.size + 1, 1, none⟩) (Nat.le_succ _) _
end Go.Proofs.YtoflmheodiajaaaGreatDoor
