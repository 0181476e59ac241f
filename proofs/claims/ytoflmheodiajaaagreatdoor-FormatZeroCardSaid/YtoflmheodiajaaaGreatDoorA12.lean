/- multi.Of: whether a polynomial of the interface is one of ours, and not too great. -/
import Derived.Test.YtoflmheodiajaaaGreatDoorA11
namespace Go.Proofs.YtoflmheodiajaaaGreatDoor
open Go.RowKit
set_option linter.unusedVariables false
set_option linter.unusedSimpArgs false
variable {Bs : Nat}

theorem wellFormed_any (okC zC : ByteArray → Bool) (dom : ByteArray → Prop) (HS : OfSpec Bs okC zC dom) (A : Option Addr) (ca : Nat) (ts : List TermV) (vars : Int) (w : World) (hBs : Bs ≤ w.heap.size) (hA : RdT Bs w A ts)
    (hc : ts.length ≤ ca) (hm : ts.length ≤ 4096) (hd : ∀ i, i < ts.length → dom (tm ts i).c) :
    Calls Tryz.prog 52 #[.agg #[.int .i64 vars, .slice A ts.length ca]] w (Gives w fun v w' => WfPost okC zC ts vars (w.heap.size + 3) v w') := by
  by_cases hv : vars < 0 ∨ 6 < vars
  · exact wellFormed_range okC zC A ca ts vars w hv
  · exact wellFormed_in okC zC dom HS A ca ts vars w hBs hA hc hm hd (by omega) (by omega)
theorem expR_first {okC zC : ByteArray → Bool} {vars : Int} {ts : List TermV} (h : wfOk okC zC vars ts = true) (h0 : 0 < ts.length) : ExpR (fun j => el (tm ts 0).xs j) := by
  simp only [wfOk, wfFrom, Bool.and_eq_true, decide_eq_true_iff] at h
  have := h.2 0 h0 (Nat.le_refl _)
  simp only [tOk, Bool.and_eq_true] at this
  exact expR_of (by omega) (by omega) this.2.1
def polyOk (okC zC : ByteArray → Bool) (vars : Int) (ts : List TermV) : Bool := decide (ts.length ≤ 4096) && (wfOk okC zC vars ts && fitsOf ts)
def PolyPost (ok : Bool) (v : Value) : Prop := ∃ n A l c, v = .tuple #[.agg #[.int .i64 n, .slice A l c], .bool ok]

set_option maxHeartbeats 1000000 in
theorem polyOf_any (okC zC : ByteArray → Bool) (dom : ByteArray → Prop) (HS : OfSpec Bs okC zC dom) (A : Option Addr) (ca : Nat) (ts : List TermV) (vars : Int) (w : World) (hBs : Bs ≤ w.heap.size) (hA : RdT Bs w A ts)
    (hc : ts.length ≤ ca) (hl : ts.length ≤ 9223372036854775807) (hd : ∀ i, i < ts.length → dom (tm ts i).c) :
    Calls Tryz.prog 30 #[.agg #[.int .i64 vars, .slice A ts.length ca]] w (Gives w fun v _ => PolyPost (polyOk okC zC vars ts) v) := by
  by_cases hm : ts.length ≤ 4096
  · have hm2 : ¬ (4096 < (ts.length : Int)) := by omega
    have HWF := Lib.hid (fun W => fun h1 h2 => wellFormed_any okC zC dom HS A ca ts vars W h1 h2 hc hm hd)
    have HA := Lib.hid hA
    clear hA HS hd
    go_enter Tryz.func30, Tryz.ntmps30
    go_wp2_with fail
    refine (HWF.out _ (by simp; omega) (HA.out.below (below_alloc (below_alloc (below_refl _) _) _))).mono ?_
    rintro e w1 ⟨_, rfl, ⟨n, A1, l1, c1, rfl, hpost⟩, hb1⟩
    have HP := Lib.hid hpost
    have hB1 : Below w.heap.size w w1 := below_then (below_alloc (below_alloc (below_refl w) _) _) (by simp; omega) hb1
    have HB1 := Lib.hid hB1
    have ho := (hb1.block (w.heap.size + 1) (by simp)).trans (heap_two w _ _)
    have HO := Lib.hid ho
    have hs1 := hb1.size
    simp at hs1
    have o0 : w1.cell? ⟨w.heap.size + 1, 0, none⟩ = some (.int .i64 0) := by rw [Lib.cell_of_heap ho]; rfl
    have o1 : w1.cell? ⟨w.heap.size + 1, 1, none⟩ = some (.slice none 0 0) := by rw [Lib.cell_of_heap ho]; rfl
    have oz := fun i => Lib.frozen_of_heap ho i
    clear hpost hB1 ho hb1
    have hs2 : w.heap.size + 1 < w1.heap.size := by omega
    have hs3 : w.heap.size + 1 < w1.heap.size + 1 := by omega
    cases hw : wfOk okC zC vars ts
    · have HK := Lib.hid (show polyOk okC zC vars ts = false by simp [polyOk, hw])
      go_wp2_with fail
      refine bodyPost_ret (v := .tuple #[.agg #[.int .i64 0, .slice none 0 0], .bool false]) (by simp [results, Tryz.results30, go_sem, o0, o1, hs2, hs3]) rfl ⟨_, rfl, ⟨_, _, _, _, by rw [HK.out]⟩, ?_⟩
      exact below_alloc ((HB1.out.setCell (p := ⟨w.heap.size + 1, 0, none⟩) (Nat.le_succ _) _).setCell (p := ⟨w.heap.size + 1, 1, none⟩) (Nat.le_succ _) _) _
    · obtain ⟨rfl, rfl, ht⟩ := HP.out hw
      have HFT := Lib.hid (fun (base : Nat) W hW => fits_any n (.slice A1 ts.length c1) ts base W hW (expR_first hw) hm)
      have HT := Lib.hid (ht.below (below_alloc (below_refl w1) (.cells #[.int .i64 n, .slice A1 ts.length c1] 111)))
      clear ht
      go_wp2_with fail
      refine (HFT.out _ _ HT.out).mono ?_
      rintro e w2 ⟨_, rfl, rfl, hb2⟩
      obtain ⟨k2, _, hs4⟩ := box_kept hb2
      have k20 : w2.cell? ⟨w1.heap.size, 0, none⟩ = some (.int .i64 n) := k2 0
      have k21 : w2.cell? ⟨w1.heap.size, 1, none⟩ = some (.slice A1 ts.length c1) := k2 1
      have ho2 := ((below_then (below_alloc (below_refl w1) _) (by simp) hb2).block (w.heap.size + 1) hs2).trans HO.out
      have HB2 := Lib.hid (below_then HB1.out HB1.out.size (below_then (below_alloc (below_refl w1) _) (by simp) hb2))
      clear o0 o1 oz k2 hb2
      have o0 : w2.cell? ⟨w.heap.size + 1, 0, none⟩ = some (.int .i64 0) := by rw [Lib.cell_of_heap ho2]; rfl
      have o1 : w2.cell? ⟨w.heap.size + 1, 1, none⟩ = some (.slice none 0 0) := by rw [Lib.cell_of_heap ho2]; rfl
      have oz := fun i => Lib.frozen_of_heap ho2 i
      have hs5 : w.heap.size + 1 < w2.heap.size := by omega
      clear ho2
      cases hf : fitsOf ts
      · have HK := Lib.hid (show polyOk okC zC n ts = false by simp [polyOk, hf])
        go_wp2_with fail
        refine bodyPost_ret (v := .tuple #[.agg #[.int .i64 0, .slice none 0 0], .bool false]) (by simp [results, Tryz.results30, go_sem, o0, o1, hs5]) rfl ⟨_, rfl, ⟨_, _, _, _, by rw [HK.out]⟩, ?_⟩
        exact (HB2.out.setCell (p := ⟨w.heap.size + 1, 0, none⟩) (Nat.le_succ _) _).setCell (p := ⟨w.heap.size + 1, 1, none⟩) (Nat.le_succ _) _
      · have HK := Lib.hid (show polyOk okC zC n ts = true by simp [polyOk, hf, hw, hm])
        go_wp2_with fail
        refine bodyPost_ret (v := .tuple #[.agg #[.int .i64 n, .slice A1 ts.length c1], .bool true]) (by simp [results, Tryz.results30, go_sem, o0, o1, hs5]) rfl ⟨_, rfl, ⟨_, _, _, _, by rw [HK.out]⟩, ?_⟩
        exact (HB2.out.setCell (p := ⟨w.heap.size + 1, 0, none⟩) (Nat.le_succ _) _).setCell (p := ⟨w.heap.size + 1, 1, none⟩) (Nat.le_succ _) _
  · have hm2 : 4096 < (ts.length : Int) := by omega
    have HK := Lib.hid (show polyOk okC zC vars ts = false by simp [polyOk, hm])
    go_enter Tryz.func30, Tryz.ntmps30
    go_wp2_with fail
    refine bodyPost_ret (v := .tuple #[.agg #[.int .i64 0, .slice none 0 0], .bool false]) (by simp [results, Tryz.results30, go_sem]) rfl ⟨_, rfl, ⟨_, _, _, _, by rw [HK.out]⟩, ?_⟩
    exact below_alloc (below_alloc (below_refl _) _) _
end Go.Proofs.YtoflmheodiajaaaGreatDoor
