import Derived.Test.YtoflmheodiajaaaGreatDoorK48
namespace Go.Proofs.YtoflmheodiajaaaGreatDoor
open Go.RowKit
set_option linter.unusedVariables false
set_option linter.unusedSimpArgs false
variable {Bs : Nat}
theorem refRead_any (A : Option Addr) (ca : Nat) (ts : List TermV) (vars : Int) (w : World) (hBs : Bs ≤ w.heap.size) (hA : RdT Bs w A ts)
    (hc : ts.length ≤ ca) (hm : ts.length ≤ 4096) (hd : ∀ i, i < ts.length → (tm ts i).c.size ≤ 1000000) :
    Calls Tryz.prog 88 #[.agg #[.int .i64 vars, .slice A ts.length ca]] w (Gives w fun v w' => WrPost ts vars (w.heap.size + 3) (wfOk okF zF vars ts) v w') := by
  by_cases hv : vars < 0 ∨ 6 < vars
  · exact refRead_range okF zF A ca ts vars w hv
  · exact refRead_in A ca ts vars w hBs hA hc hm hd (by omega) (by omega)
theorem first_len {vars : Int} {ts : List TermV} (h : wfOk okF zF vars ts = true) (h0 : 0 < ts.length) : (tm ts 0).xs.length ≤ 6 := by
  simp only [wfOk, wfFrom, Bool.and_eq_true, decide_eq_true_iff] at h
  have := h.2 0 h0 (Nat.le_refl _)
  simp only [tOk, expOk, Bool.and_eq_true, decide_eq_true_iff] at this
  exact this.2.1.1
set_option maxHeartbeats 1000000 in
theorem refReadV_any (A : Option Addr) (ca : Nat) (ts : List TermV) (vars : Int) (w : World) (hBs : Bs ≤ w.heap.size) (hA : RdT Bs w A ts)
    (hc : ts.length ≤ ca) (hl : ts.length ≤ 9223372036854775807) (hd : ∀ i, i < ts.length → (tm ts i).c.size ≤ 1000000) :
    Calls Tryz.prog 58 #[.agg #[.int .i64 vars, .slice A ts.length ca]] w (Gives w fun v _ => PolyPost (polyOk okF zF vars ts) v) := by
  by_cases hm : ts.length ≤ 4096
  · have hm2 : ¬ (4096 < (ts.length : Int)) := by omega
    have HWF := Lib.hid (fun W h1 h2 => refRead_any (Bs := Bs) A ca ts vars W h1 h2 hc hm hd)
    have HA := Lib.hid hA
    clear hA hd
    go_enter Tryz.func58, Tryz.ntmps58
    go_wp2_with fail
    refine (HWF.out _ (by simp; omega) (HA.out.below (below_alloc (below_alloc (below_refl _) _) _))).mono ?_
    rintro e w1 ⟨_, rfl, ⟨n, A1, l1, c1, rfl, hpost⟩, hb1⟩
    have HP := Lib.hid hpost
    have hB1 : Below w.heap.size w w1 := below_then (below_alloc (below_alloc (below_refl w) _) _) (by simp; omega) hb1
    have HB1 := Lib.hid hB1
    have ho := (hb1.block (w.heap.size + 1) (by simp)).trans (heap_two w _ _)
    have HO := Lib.hid ho
    have hs1 := hb1.size
    simp at hs1
    have o0 : w1.cell? ⟨w.heap.size + 1, 0, none⟩ = some (.int .i64 0) := by rw [Lib.cell_of_heap ho]; rfl
    have o1 : w1.cell? ⟨w.heap.size + 1, 1, none⟩ = some (.slice none 0 0) := by rw [Lib.cell_of_heap ho]; rfl
    have oz := fun i => Lib.frozen_of_heap ho i
    clear hpost hB1 ho hb1
    have hs2 : w.heap.size + 1 < w1.heap.size := by omega
    have hs3 : w.heap.size + 1 < w1.heap.size + 1 := by omega
    cases hw : wfOk okF zF vars ts
    · have HK := Lib.hid (show polyOk okF zF vars ts = false by simp [polyOk, hw])
      go_wp2_with fail
      refine bodyPost_ret (v := .tuple #[.agg #[.int .i64 0, .slice none 0 0], .bool false]) (by simp [results, Tryz.results58, go_sem, o0, o1, hs2, hs3]) rfl ⟨_, rfl, ⟨_, _, _, _, by rw [HK.out]⟩, ?_⟩
      exact below_alloc ((HB1.out.setCell (p := ⟨w.heap.size + 1, 0, none⟩) (Nat.le_succ _) _).setCell (p := ⟨w.heap.size + 1, 1, none⟩) (Nat.le_succ _) _) _
    · obtain ⟨rfl, rfl, ht⟩ := HP.out hw
      have HT := Lib.hid ht
      by_cases h0 : ts.length = 0
      · have HK := Lib.hid (show polyOk okF zF n ts = true by simp [polyOk, hw, fitsOf, degOf, h0])
        have hlen : (ts.length : Int) = 0 := by omega
        have hlen2 : ¬ (0 < (ts.length : Int)) := by omega
        go_wp2_with fail
        refine bodyPost_ret (v := .tuple #[.agg #[.int .i64 n, .slice A1 0 c1], .bool true]) (by simp [results, Tryz.results58, go_sem, o0, o1, hs2, hs3]) rfl ⟨_, rfl, ⟨_, _, _, _, by rw [HK.out]⟩, ?_⟩
        exact below_alloc ((HB1.out.setCell (p := ⟨w.heap.size + 1, 0, none⟩) (Nat.le_succ _) _).setCell (p := ⟨w.heap.size + 1, 1, none⟩) (Nat.le_succ _) _) _
      · have h6 := first_len hw (by omega)
        have hex := expR_first hw (by omega)
        obtain ⟨g, c, e1, hg1, hg2, hg3⟩ := HT.out.first (by omega)
        simp only [Value.slice.injEq] at e1
        obtain ⟨rfl, _, rfl⟩ := e1
        have hpos : (0 : Int) < (ts.length : Int) := by omega
        have hX : ∃ xA xc, (tm ts 0).A = xA ∧ (tm ts 0).cap = xc ∧ Rd Bs w .i64 3 xA (tm ts 0).xs ∧ (tm ts 0).xs.length ≤ xc := by
          obtain ⟨b, off, _, _, hcc⟩ := HA.out.plain (by omega)
          obtain ⟨_, _, k1, k2, _⟩ := hcc 0 (by omega)
          exact ⟨_, _, rfl, rfl, k1, k2⟩
        obtain ⟨xA, xc, hxA, hxc, hxr, hxl⟩ := hX
        rw [hxA, hxc] at hg3
        have hg4 := ((below_alloc (below_refl w1) (.cells #[.int .i64 n, .slice (some ⟨g, 0, none⟩) ts.length c1] 39)).cell (p := ⟨g, 4, none⟩) hg2).trans hg3
        have HV := Lib.hid (fun W (hb : Below w.heap.size w W) => validRef_any (Bs := Bs) xA xc (tm ts 0).xs W (hxr.below hb) hxl h6 hex)
        have HDG := Lib.hid (show fitsOf ts = decide (sumTo (fun j => el (tm ts 0).xs j) 6 ≤ 24) by simp [fitsOf, degOf, h0])
        generalize hB0 : decide (sumTo (fun j => el (tm ts 0).xs j) 6 ≤ 24) = B0 at HV HDG
        clear h6 hex hxA hxc hxr hxl hg3 hB0
        cases B0
        · have HK := Lib.hid (show polyOk okF zF n ts = false by simp [polyOk, HDG.out])
          go_wp2_with fail
          refine (HV.out _ (below_alloc HB1.out _)).mono ?_
          rintro e w2 ⟨rfl, hb2⟩
          have ho2 := (hb2.block _ (by simp; omega)).trans ((heap_alloc_old _ _ (by omega)).trans HO.out)
          have p0 : w2.cell? ⟨w.heap.size + 1, 0, none⟩ = some (.int .i64 0) := by rw [Lib.cell_of_heap ho2]; rfl
          have p1 : w2.cell? ⟨w.heap.size + 1, 1, none⟩ = some (.slice none 0 0) := by rw [Lib.cell_of_heap ho2]; rfl
          have pz := fun i => Lib.frozen_of_heap ho2 i
          have ps := lt_of_heap ho2
          have HB2 := Lib.hid (below_then (below_alloc HB1.out _) (Nat.le_trans HB1.out.size (by simp)) hb2)
          clear hb2 ho2 o0 o1 oz
          go_wp2_with fail
          refine bodyPost_ret (v := .tuple #[.agg #[.int .i64 0, .slice none 0 0], .bool false]) (by simp [results, Tryz.results58, go_sem, p0, p1, ps]) rfl ⟨_, rfl, ⟨_, _, _, _, by rw [HK.out]⟩, ?_⟩
          exact (HB2.out.setCell (p := ⟨w.heap.size + 1, 0, none⟩) (Nat.le_succ _) _).setCell (p := ⟨w.heap.size + 1, 1, none⟩) (Nat.le_succ _) _
        · have HK := Lib.hid (show polyOk okF zF n ts = true by simp [polyOk, HDG.out, hw, hm])
          go_wp2_with fail
          refine (HV.out _ (below_alloc HB1.out _)).mono ?_
          rintro e w2 ⟨rfl, hb2⟩
          have ho2 := (hb2.block _ (by simp; omega)).trans ((heap_alloc_old _ _ (by omega)).trans HO.out)
          have hq2 := (hb2.block _ (by simp)).trans (heap_alloc_new w1 (.cells #[.int .i64 n, .slice (some ⟨g, 0, none⟩) ts.length c1] 39))
          have p0 : w2.cell? ⟨w.heap.size + 1, 0, none⟩ = some (.int .i64 0) := by rw [Lib.cell_of_heap ho2]; rfl
          have p1 : w2.cell? ⟨w.heap.size + 1, 1, none⟩ = some (.slice none 0 0) := by rw [Lib.cell_of_heap ho2]; rfl
          have q0 : w2.cell? ⟨w1.heap.size, 0, none⟩ = some (.int .i64 n) := by rw [Lib.cell_of_heap hq2]; rfl
          have q1 : w2.cell? ⟨w1.heap.size, 1, none⟩ = some (.slice (some ⟨g, 0, none⟩) ts.length c1) := by rw [Lib.cell_of_heap hq2]; rfl
          have pz := fun i => Lib.frozen_of_heap ho2 i
          have ps := lt_of_heap ho2
          have HB2 := Lib.hid (below_then (below_alloc HB1.out _) (Nat.le_trans HB1.out.size (by simp)) hb2)
          clear hb2 ho2 hq2 o0 o1 oz
          go_wp2_with fail
          refine bodyPost_ret (v := .tuple #[.agg #[.int .i64 n, .slice (some ⟨g, 0, none⟩) ts.length c1], .bool true]) (by simp [results, Tryz.results58, go_sem, p0, p1, ps]) rfl ⟨_, rfl, ⟨_, _, _, _, by rw [HK.out]⟩, ?_⟩
          exact (HB2.out.setCell (p := ⟨w.heap.size + 1, 0, none⟩) (Nat.le_succ _) _).setCell (p := ⟨w.heap.size + 1, 1, none⟩) (Nat.le_succ _) _
  · have hm2 : 4096 < (ts.length : Int) := by omega
    have HK := Lib.hid (show polyOk okF zF vars ts = false by simp [polyOk, hm])
    clear hA hd
    go_enter Tryz.func58, Tryz.ntmps58
    go_wp2
    refine bodyPost_ret (v := .tuple #[.agg #[.int .i64 0, .slice none 0 0], .bool false]) (by simp [results, Tryz.results58, go_sem]) rfl ⟨_, rfl, ⟨_, _, _, _, by rw [HK.out]⟩, ?_⟩
    exact below_alloc (below_alloc (below_refl _) _) _
theorem refValid_any (A : Option Addr) (ca : Nat) (ts : List TermV) (vars : Int) (w : World) (hBs : Bs ≤ w.heap.size) (hA : RdT Bs w A ts)
    (hc : ts.length ≤ ca) (hl : ts.length ≤ 9223372036854775807) (hd : ∀ i, i < ts.length → (tm ts i).c.size ≤ 1000000) :
    Calls Tryz.prog 34 #[.agg #[.int .i64 vars, .slice A ts.length ca]] w (Gives w fun v _ => v = .bool (polyOk okF zF vars ts)) := by
  have HR := Lib.hid (fun W (hb : Below w.heap.size w W) => refReadV_any (Bs := Bs) A ca ts vars W (Nat.le_trans hBs hb.size) (hA.below hb) hc hl hd)
  clear hA hd
  go_enter Tryz.func34, Tryz.ntmps34
  go_wp2_with fail
  refine (HR.out _ (below_alloc (below_refl w) _)).mono ?_
  rintro e w1 ⟨_, rfl, ⟨n, A1, l1, c1, rfl⟩, hb1⟩
  have HB := Lib.hid (below_then (below_alloc (below_refl w) _) (by simp) hb1)
  clear hb1
  obtain ⟨B, hB⟩ : ∃ B, polyOk okF zF vars ts = B := ⟨_, rfl⟩
  rw [hB]
  have HBB := Lib.hid hB
  clear hB
  go_wp2
  go_ret
  exact ⟨_, rfl, by rw [HBB.out]; rfl, below_alloc HB.out _⟩
end Go.Proofs.YtoflmheodiajaaaGreatDoor
