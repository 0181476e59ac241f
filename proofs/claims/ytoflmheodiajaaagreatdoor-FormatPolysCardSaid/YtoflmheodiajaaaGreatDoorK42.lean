import Derived.Test.YtoflmheodiajaaaGreatDoorK41
namespace Go.Proofs.YQ.PR
open Go.RowKit Go.Proofs.YtoflmheodiajaaaGreatDoor.G Go.Proofs.YW.PrintWords Go.Proofs.YW.PrintLast Go.Proofs.YW.PrintMore
attribute [local go_sem] max2_int min2_int max_two min_two max_three min_three max_four min_four
set_option linter.unusedVariables false
set_option linter.unusedSimpArgs false
mutual
def nDg.l0 : Nat → List Int → List Int → Option (ByteArray)
  | 0, _, _ => none
  | k + 1, x3, x4 => if (x4.length : Int) > 0 then ((nSD.f x4 1000000000).bind fun bt102 => (if x3.length < 35184372088832 then (nDg.l0 k (x3 ++ [bt102.2]) bt102.1) else (none))) else (nDg.l1 k x3 ([] : List Int) (wrap64 ((x3.length : Int) - 1)))
def nDg.l1 : Nat → List Int → List Int → Int → Option (ByteArray)
  | 0, _, _, _ => none
  | k + 1, x3, x7, x8 => if x8 ≥ 0 then (nDg.l2 k x3 x7 x8 100000000) else (some (strOfNums x7))
def nDg.l2 : Nat → List Int → List Int → Int → Int → Option (ByteArray)
  | 0, _, _, _, _ => none
  | k + 1, x3, x7, x8, x9 => if x9 > 0 then (if 0 ≤ x8 then (if x8 < (x3.length : Int) then (if x9 = 0 then (none) else (if (x7.length : Int) > 0 then (if x7.length < 140737488355328 then (nDg.l2 k x3 (x7 ++ [48 + (((Int.tdiv (rd x3 x8) x9) % 4294967296) % 10)]) x8 ((Int.tdiv x9 10) % 4294967296)) else (none)) else (if (48 + (((Int.tdiv (rd x3 x8) x9) % 4294967296) % 10)) = 48 then (nDg.l2 k x3 x7 x8 ((Int.tdiv x9 10) % 4294967296)) else (if x7.length < 140737488355328 then (nDg.l2 k x3 (x7 ++ [48 + (((Int.tdiv (rd x3 x8) x9) % 4294967296) % 10)]) x8 ((Int.tdiv x9 10) % 4294967296)) else (none))))) else (none)) else (none)) else (nDg.l1 k x3 x7 (wrap64 (x8 - 1)))
end
def nDg.f (k : Nat) (a0_0 : Bool) (l0_1 : List Int) : Option (ByteArray) := if (l0_1.length : Int) = 0 then (some (⟨#[48]⟩ : ByteArray)) else (nDg.l0 k ([] : List Int) l0_1)
set_option maxHeartbeats 8000000 in
set_option maxRecDepth 100000 in
theorem nDg.calls (k : Nat) (a0_0 : Bool) (P0_1_ : Nat → Prop) (A0_1 : Option Addr) (c0_1 : Nat) (l0_1 : List Int) (r : ByteArray) (w : World) (hs0_1 : Kd.V (Kd.int .u32) 143 w w.heap.size (fun k_ => P0_1_ k_) (.slice A0_1 l0_1.length c0_1) l0_1) (h : nDg.f k a0_0 l0_1 = some r) :
    Calls Tryz.prog 43 #[.agg #[.bool a0_0, .slice A0_1 l0_1.length c0_1]] w fun e w' => e = .returned (.string r) ∧ Below w.heap.size w w' := by
  have hu94 := Tryz.underlying94
  have HO0_1 := As0.mk (show Kd.V (Kd.int .u32) 143 w w.heap.size (fun k_ => (P0_1_ k_ ∨ w.heap.size ≤ k_)) (.slice A0_1 l0_1.length c0_1) l0_1 from Kd.V_mono hs0_1 (fun k_ hk => .inl hk))
  have HB := As0.mk (Below.refl w.heap.size w)
  have H : (if (l0_1.length : Int) = 0 then (some (⟨#[48]⟩ : ByteArray)) else (nDg.l0 k ([] : List Int) l0_1)) = some r := h
  clear h
  by_cases c2 : (l0_1.length : Int) = 0
  · rw [if_pos c2] at H
    have c2b0 : ((l0_1.length : Int) == 0) = true := beq_iff_eq.mpr c2
    have c2b1 : ((l0_1.length : Int) != 0) = false := bne_eq_false_iff_eq.mpr c2
    clear c2
    obtain rfl := Option.some.inj H
    go_enter Tryz.func43, Tryz.ntmps43
    go_wp2_with (first | ((with_reducible refine gate_dst (N := 1) rfl ?_); refine box_event ?hg (N := 1) ?hd (cs := #[.bool a0_0, .slice A0_1 l0_1.length c0_1]) (t := 94) ?hr ?_; (case hd => rfl); (case hg => rfl); (case hr => first | (go_simp; done) | (go_simp; rfl)); intro gb101 hg w3 hbox hb; have n0_ := As0.mk (Kd.V_below (Kd.V_elderB (by (with_reducible repeat (first | apply Kd.V_alloc | apply Kd.V_drewN | apply Kd.V_drew)); exact HO0_1.out) gb101 (Nat.le_of_eq hg.symm)) hb); have n1_ := As0.mk (bsp (by repeat (first | (with_reducible first | exact HB.out | apply below_alloc | apply pbn | apply bd1) | exact HB.out)) hb); have n2_ := As0.mk (hbox); have n3_ := As0.mk ((by rw [hg]; exact (bsz (by repeat (first | (with_reducible first | exact HB.out | apply below_alloc | apply pbn | apply bd1) | exact HB.out))) : w.heap.size ≤ gb101)); have n4_ := As0.mk ((by rw [hg]; exact (bsz (by repeat (first | (with_reducible first | exact HB.out | apply below_alloc | apply pbn | apply bd1) | exact HB.out))) : w.heap.size ≤ gb101)); clear HO0_1; clear HB; have HO0_1 := n0_; have HB := n1_; have BK101 := n2_; have GW101 := n3_; have GE101 := n4_; clear n0_ n1_ n2_ n3_ n4_; clear hb hbox hg; have hcz4_0 : w3.cell? ⟨gb101, 0, none⟩ = some (.bool a0_0) := (blk_cell BK101.out 0).trans rfl; have hcz4_1 : w3.cell? ⟨gb101, 1, none⟩ = some (.slice A0_1 l0_1.length c0_1) := (blk_cell BK101.out 1).trans rfl; have hfz4_0 := kfz BK101.out 0; have hfz4_1 := kfz BK101.out 1))
    go_ret
    exact ⟨by first | rfl | (simp [errW_none, errW_some] <;> rfl) | (simp [*, errW_none, errW_some] <;> rfl), by repeat (first | (with_reducible first | exact HB.out | apply below_alloc | apply pbn | apply bd1 | refine bst ?_ GE101.out) | exact HB.out)⟩
  · rw [if_neg c2] at H
    have c2b0 : ((l0_1.length : Int) == 0) = false := beq_eq_false_iff_ne.mpr c2
    have c2b1 : ((l0_1.length : Int) != 0) = true := bne_iff_ne.mpr c2
    have c2b2 : ¬ (l0_1 = []) := fun h_ => c2 (by rw [h_]; rfl)
    have H' := As0.mk H
    clear H
    go_enter Tryz.func43, Tryz.ntmps43
    go_wp2_with (first | ((with_reducible refine gate_dst (N := 1) rfl ?_); refine box_event ?hg (N := 1) ?hd (cs := #[.bool a0_0, .slice A0_1 l0_1.length c0_1]) (t := 94) ?hr ?_; (case hd => rfl); (case hg => rfl); (case hr => first | (go_simp; done) | (go_simp; rfl)); intro gb101 hg w5 hbox hb; have n0_ := As0.mk (Kd.V_below (Kd.V_elderB (by (with_reducible repeat (first | apply Kd.V_alloc | apply Kd.V_drewN | apply Kd.V_drew)); exact HO0_1.out) gb101 (Nat.le_of_eq hg.symm)) hb); have n1_ := As0.mk (bsp (by repeat (first | (with_reducible first | exact HB.out | apply below_alloc | apply pbn | apply bd1) | exact HB.out)) hb); have n2_ := As0.mk (hbox); have n3_ := As0.mk ((by rw [hg]; exact (bsz (by repeat (first | (with_reducible first | exact HB.out | apply below_alloc | apply pbn | apply bd1) | exact HB.out))) : w.heap.size ≤ gb101)); have n4_ := As0.mk ((by rw [hg]; exact (bsz (by repeat (first | (with_reducible first | exact HB.out | apply below_alloc | apply pbn | apply bd1) | exact HB.out))) : w.heap.size ≤ gb101)); clear HO0_1; clear HB; have HO0_1 := n0_; have HB := n1_; have BK101 := n2_; have GW101 := n3_; have GE101 := n4_; clear n0_ n1_ n2_ n3_ n4_; clear hb hbox hg; have hcz6_0 : w5.cell? ⟨gb101, 0, none⟩ = some (.bool a0_0) := (blk_cell BK101.out 0).trans rfl; have hcz6_1 : w5.cell? ⟨gb101, 1, none⟩ = some (.slice A0_1 l0_1.length c0_1) := (blk_cell BK101.out 1).trans rfl; have hfz6_0 := kfz BK101.out 0; have hfz6_1 := kfz BK101.out 1))
    go_loopg [3, 4] k (fun kq v3 v4 w' => ∃ (x3_1 : List Int) (x4_1 : List Int), As0 (nDg.l0 kq x3_1 x4_1 = some r) ∧ As0 (kq ≤ k) ∧ As0 (Kd.R (Kd.int .u32) 143 w' w.heap.size (fun k_ => (w.heap.size ≤ k_)) v3 x3_1) ∧ As0 (Kd.V (Kd.int .u32) 143 w' w.heap.size (fun k_ => (P0_1_ k_ ∨ w.heap.size ≤ k_) ∧ some k_ ≠ (v3 : Value).ownBlock ∧ k_ ≠ gb101) v4 x4_1) ∧ As0 (Kd.V (Kd.int .u32) 143 w' w.heap.size (fun k_ => (P0_1_ k_ ∨ w.heap.size ≤ k_) ∧ some k_ ≠ (v3 : Value).ownBlock ∧ k_ ≠ gb101) (.slice A0_1 l0_1.length c0_1) l0_1) ∧ As0 (w'.heap[gb101]? = some (.cells #[.bool a0_0, (.slice A0_1 l0_1.length c0_1)] 94 (0, 0))) ∧ As0 (Below w.heap.size w w'))
    case atStart => exact ⟨(([] : List Int)), (l0_1), H', ⟨Nat.le_refl _⟩, ⟨by first | exact Kd.R_nil _ _ _ _ _ | exact Kd.N_nil _ _ _ _ _ | exact Kd.V_nil _ _ _ _ _ | exact Kd.Q_nil _ _ _ _ _ | exact Kd.S_nil _ _ _ _ _⟩, ⟨by (with_reducible repeat (first | apply Kd.V_alloc | apply Kd.V_drewN | apply Kd.V_drew)); exact Kd.V_mono HO0_1.out (fun _ hk => ⟨hk.1, ⟨(by simp [Value.ownBlock]), hk.2⟩⟩)⟩, ⟨by (with_reducible repeat (first | apply Kd.V_alloc | apply Kd.V_drewN | apply Kd.V_drew)); exact Kd.V_mono HO0_1.out (fun _ hk => ⟨hk.1, ⟨(by simp [Value.ownBlock]), hk.2⟩⟩)⟩, ⟨by (with_reducible repeat (first | refine kdn ?_ _ | refine kdw ?_ | refine kal ?_ _)); exact BK101.out⟩, ⟨by repeat (first | (with_reducible first | exact HB.out | apply below_alloc | apply pbn | apply bd1 | refine bst ?_ GE101.out) | exact HB.out)⟩⟩
    case round =>
      clear H'
      try clear c2
      try clear c2b0
      try clear c2b1
      try clear c2b2
      try clear p2
      try clear c4
      try clear hcz4_0
      try clear hcz4_1
      try clear hcz6_0
      try clear hcz6_1
      try clear hfz4_0
      try clear hfz4_1
      try clear hfz6_0
      try clear hfz6_1
      obtain ⟨x3_1, x4_1, HA, HK1, HO_3, HO_4, HO_102001, BK101, HB⟩ := hrel
      cases gk with
      | zero => exact absurd HA.out (by simp [nDg.l0])
      | succ k1 =>
        have H := HA.out
        clear HA
        simp only [nDg.l0] at H
        by_cases c7 : (x4_1.length : Int) > 0
        · rw [if_pos c7] at H
          have c7b0 : decide (0 < (x4_1.length : Int)) = true := decide_eq_true c7
          have c7b1 : decide (0 < x4_1.length) = true := decide_eq_true (by omega)
          clear c7
          replace H := Option.bind_eq_some_iff.mp H
          obtain ⟨⟨t102, t105⟩, A80, H⟩ := H
          replace H : (if x3_1.length < 35184372088832 then (nDg.l0 k1 (x3_1 ++ [t105]) t102) else (none)) = some r := H
          have A8 := As0.mk A80
          clear A80
          by_cases c9 : x3_1.length < 35184372088832
          · rw [if_pos c9] at H
            have LMc9 := As0.mk c9
            clear c9
            obtain ⟨y106, hy106⟩ : ∃ y_ : List Int, y_ = (x3_1 ++ [t105]) := ⟨_, rfl⟩
            replace H : (nDg.l0 k1 y106 t102) = some r := by first | (rw [hy106]; with_reducible exact H) | (have H2_ := (Option.bind_some _ _).symm.trans H; rw [hy106]; with_reducible exact H2_) | (have H2_ := (Option.bind_some _ _).symm.trans H; with_reducible exact H2_) | with_reducible exact H | (rw [hy106]; exact H) | exact H
            have Ny106 := As0.mk hy106
            clear hy106
            have H' := As0.mk H
            clear H
            obtain ⟨Ao10, co10, eo10⟩ := Kd.V_slice HO_4.out
            subst eo10
            go_wp2_with (first | ((with_reducible refine gate_callee (f := 63) rfl ?_); refine goesL_ (some 22) rfl rfl Tryz.func63 (by kernel_rfl) rfl #[.slice Ao10 x4_1.length co10, .int .u32 1000000000] rfl (by (try simp only [List.map_toArray, List.map_cons, List.map_nil]); first | done | rfl | (simp only [List.length_drop, List.length_take]; rfl)) ?_; (with_reducible refine (nSD.calls _ _ x4_1 1000000000 t102 t105 _ ?side1 ?side2 A8.out).mono ?_); (case side1 => repeat (first | exact (Kd.V_reads' HO_4.out).2.2 | (with_reducible refine Kd.C_alloc ?_ _) | (with_reducible refine Kd.C_drewN ?_ _) | (with_reducible refine Kd.C_drew ?_))); (case side2 => exact (Kd.V_reads' HO_4.out).2.1); rintro e w11 ⟨v103, rfl, ho0, hb⟩; refine ⟨_, rfl, ?_⟩; have n0_ := As0.mk (Kd.R_below (by (with_reducible repeat (first | apply Kd.R_alloc | apply Kd.R_drewN | apply Kd.R_drew)); exact HO_3.out) hb); have n1_ := As0.mk (Kd.V_below (by (with_reducible repeat (first | apply Kd.V_alloc | apply Kd.V_drewN | apply Kd.V_drew)); exact HO_4.out) hb); have n2_ := As0.mk (Kd.V_below (by (with_reducible repeat (first | apply Kd.V_alloc | apply Kd.V_drewN | apply Kd.V_drew)); exact HO_102001.out) hb); have n3_ := As0.mk (Kd.V_lower (Kd.V_mono (ok' := fun k_ => (P0_1_ k_ ∨ w.heap.size ≤ k_) ∧ some k_ ≠ (u3 : Value).ownBlock ∧ k_ ≠ gb101) ho0 (fun k_ hk_ => ⟨(.inr (Nat.le_trans (bsz (by repeat (first | (with_reducible first | exact HB.out | apply below_alloc | apply pbn | apply bd1 | refine bst ?_ GE101.out) | exact HB.out))) hk_)), (Kd.fresh' (Kd.R_lt (by (with_reducible repeat (first | apply Kd.R_alloc | apply Kd.R_drewN | apply Kd.R_drew)); exact HO_3.out)) k_ hk_), (Kd.freshB (g := gb101) (o := .cells #[.bool a0_0, .slice A0_1 l0_1.length c0_1] 94 (0, 0)) (by (with_reducible repeat (first | refine kdn ?_ _ | refine kdw ?_ | refine kal ?_ _)); exact BK101.out) k_ hk_)⟩)) (bsz (by repeat (first | (with_reducible first | exact HB.out | apply below_alloc | apply pbn | apply bd1 | refine bst ?_ GE101.out) | exact HB.out)))); have n4_ := As0.mk (blk_below (g := gb101) (o := .cells #[.bool a0_0, .slice A0_1 l0_1.length c0_1] 94 (0, 0)) (by (with_reducible repeat (first | refine kdn ?_ _ | refine kdw ?_ | refine kal ?_ _)); exact BK101.out) hb); have n5_ := As0.mk (bsp (by repeat (first | (with_reducible first | exact HB.out | apply below_alloc | apply pbn | apply bd1 | refine bst ?_ GE101.out) | exact HB.out)) hb); clear HO_3; clear HO_4; clear HO_102001; clear BK101; clear HB; have HO_3 := n0_; have HO_4 := n1_; have HO_102001 := n2_; have HO104 := n3_; have BK101 := n4_; have HB := n5_; clear n0_ n1_ n2_ n3_ n4_ n5_; (try clear hb); (try clear hb2); (try clear hk); (try clear hi); (try clear ho0)) | ((with_reducible refine gate_builtin (b := .append) (xs := #[.tmp 25, .tmp 27]) rfl ?_); at_builtin; refine Kd.R_append (Kd.int .u32) (w0 := w) w.heap.size rfl (.tmp 25) (.tmp 27) 92 143 (.int .u32 0) 4 rfl Tryz.underlying92 info143 rfl (by decide) (by omega) u3 x3_1 t105 [.int .u32 t105] (fun k_ => (w.heap.size ≤ k_)) (fun _ => False) rfl rfl ?aP (fun _ hk => hk.elim) ?aF ?aO ?aB ?aS ?aL ?_; (case aP => exact rfl); (case aB => exact (by repeat (first | (with_reducible first | exact HB.out | apply below_alloc | apply pbn | apply bd1 | refine bst ?_ GE101.out) | exact HB.out))); (case aF => exact (fun k_ hk => (Nat.le_trans (bsz (by repeat (first | (with_reducible first | exact HB.out | apply below_alloc | apply pbn | apply bd1 | refine bst ?_ GE101.out) | exact HB.out))) hk))); (case aO => exact (by (with_reducible repeat (first | apply Kd.R_alloc | apply Kd.R_drewN | apply Kd.R_drew)); exact HO_3.out)); (case aS => exact (bsz (by repeat (first | (with_reducible first | exact HB.out | apply below_alloc | apply pbn | apply bd1 | refine bst ?_ GE101.out) | exact HB.out)))); (case aL => have := LMc9.out; omega); intro v107 w12 ho hb hg hat; rw [← Ny106.out] at ho; have n0_ := As0.mk (Kd.V_afterv (ok := (fun k_ => (P0_1_ k_ ∨ w.heap.size ≤ k_) ∧ k_ ≠ gb101)) (by (with_reducible repeat (first | apply Kd.V_alloc | apply Kd.V_drewN | apply Kd.V_drew)); exact Kd.V_mono HO_4.out (fun _ hk => ⟨⟨hk.1, hk.2.2⟩, hk.2.1⟩)) hg hat); have n1_ := As0.mk (Kd.V_afterv (ok := (fun k_ => (P0_1_ k_ ∨ w.heap.size ≤ k_) ∧ k_ ≠ gb101)) (by (with_reducible repeat (first | apply Kd.V_alloc | apply Kd.V_drewN | apply Kd.V_drew)); exact Kd.V_mono HO_102001.out (fun _ hk => ⟨⟨hk.1, hk.2.2⟩, hk.2.1⟩)) hg hat); have n2_ := As0.mk (blk_grown (g := gb101) (o := .cells #[.bool a0_0, .slice A0_1 l0_1.length c0_1] 94 (0, 0)) (by (with_reducible repeat (first | refine kdn ?_ _ | refine kdw ?_ | refine kal ?_ _)); exact BK101.out) hg (Kd.R_ne HO_3.out BK101.out (by decide))); have n3_ := As0.mk (Kd.V_afterv (ok := (fun k_ => (P0_1_ k_ ∨ w.heap.size ≤ k_) ∧ k_ ≠ gb101)) (by (with_reducible repeat (first | apply Kd.V_alloc | apply Kd.V_drewN | apply Kd.V_drew)); exact Kd.V_mono HO104.out (fun _ hk => ⟨⟨hk.1, hk.2.2⟩, hk.2.1⟩)) hg hat); have n4_ := As0.mk (hb); have n5_ := As0.mk (ho); clear HO_4; clear HO_102001; clear BK101; clear HO104; clear HB; clear HO_3; have HO_4 := n0_; have HO_102001 := n1_; have BK101 := n2_; have HO104 := n3_; have HB := n4_; have HO108 := n5_; clear n0_ n1_ n2_ n3_ n4_ n5_; clear ho hb hg hat))
            go_roundg k1
            case measure => have := HK1.out; omega
            case rel => exact ⟨(y106), (t102), H', ⟨by have := HK1.out; omega⟩, ⟨by (with_reducible repeat (first | apply Kd.R_alloc | apply Kd.R_drewN | apply Kd.R_drew)); exact HO108.out⟩, ⟨by (with_reducible repeat (first | apply Kd.V_alloc | apply Kd.V_drewN | apply Kd.V_drew)); exact Kd.V_mono HO104.out (fun _ hk => ⟨hk.1.1, ⟨hk.2, hk.1.2⟩⟩)⟩, ⟨by (with_reducible repeat (first | apply Kd.V_alloc | apply Kd.V_drewN | apply Kd.V_drew)); exact Kd.V_mono HO_102001.out (fun _ hk => ⟨hk.1.1, ⟨hk.2, hk.1.2⟩⟩)⟩, ⟨by (with_reducible repeat (first | refine kdn ?_ _ | refine kdw ?_ | refine kal ?_ _)); exact BK101.out⟩, ⟨by repeat (first | (with_reducible first | exact HB.out | apply below_alloc | apply pbn | apply bd1 | refine bst ?_ GE101.out) | exact HB.out)⟩⟩
          · rw [if_neg c9] at H
            exact absurd H (by simp)
        · rw [if_neg c7] at H
          have c7b0 : decide (0 < (x4_1.length : Int)) = false := decide_eq_false c7
          have c7b1 : decide (0 < x4_1.length) = false := decide_eq_false (by omega)
          clear c7
          have H' := As0.mk H
          clear H
          obtain ⟨Ao13, co13, eo13⟩ := Kd.V_slice HO_4.out
          subst eo13
          obtain ⟨Ao14, co14, eo14⟩ := Kd.R_slice HO_3.out
          subst eo14
          go_wp2
          go_loopg [7, 8] k1 (fun kq v7 v8 w' => ∃ (x7_2 : List Int) (x8_2 : Int), v8 = .int .i64 x8_2 ∧ As0 (nDg.l1 kq x3_1 x7_2 x8_2 = some r) ∧ As0 (kq ≤ k1) ∧ As0 (Kd.R (Kd.int .u32) 143 w' w.heap.size (fun k_ => (w.heap.size ≤ k_)) (.slice Ao14 x3_1.length co14) x3_1) ∧ As0 (Kd.R (Kd.int .u8) 5 w' w.heap.size (fun k_ => (w.heap.size ≤ k_)) v7 x7_2) ∧ As0 (Kd.V (Kd.int .u32) 143 w' w.heap.size (fun k_ => (P0_1_ k_ ∨ w.heap.size ≤ k_) ∧ some k_ ≠ ((.slice Ao14 x3_1.length co14) : Value).ownBlock ∧ some k_ ≠ (v7 : Value).ownBlock ∧ k_ ≠ gb101) (.slice A0_1 l0_1.length c0_1) l0_1) ∧ As0 (w'.heap[gb101]? = some (.cells #[.bool a0_0, (.slice A0_1 l0_1.length c0_1)] 94 (0, 0))) ∧ As0 (Below w.heap.size w w'))
          case atStart => exact ⟨(([] : List Int)), (wrap64 ((x3_1.length : Int) - 1)), (by first | rfl | (simp; done) | (simp [*]; done)), H', ⟨Nat.le_refl _⟩, ⟨by (with_reducible repeat (first | apply Kd.R_alloc | apply Kd.R_drewN | apply Kd.R_drew)); exact HO_3.out⟩, ⟨by first | exact Kd.R_nil _ _ _ _ _ | exact Kd.N_nil _ _ _ _ _ | exact Kd.V_nil _ _ _ _ _ | exact Kd.Q_nil _ _ _ _ _ | exact Kd.S_nil _ _ _ _ _⟩, ⟨by (with_reducible repeat (first | apply Kd.V_alloc | apply Kd.V_drewN | apply Kd.V_drew)); exact Kd.V_mono HO_102001.out (fun _ hk => ⟨hk.1, ⟨hk.2.1, ⟨(by simp [Value.ownBlock]), hk.2.2⟩⟩⟩)⟩, ⟨by (with_reducible repeat (first | refine kdn ?_ _ | refine kdw ?_ | refine kal ?_ _)); exact BK101.out⟩, ⟨by repeat (first | (with_reducible first | exact HB.out | apply below_alloc | apply pbn | apply bd1 | refine bst ?_ GE101.out) | exact HB.out)⟩⟩
          case round =>
            clear H'
            try clear c2
            try clear c2b0
            try clear c2b1
            try clear c2b2
            try clear p2
            try clear c4
            try clear c6
            try clear p6
            try clear c7
            try clear c7b0
            try clear c7b1
            try clear c9
            try clear hcz4_0
            try clear hcz4_1
            try clear hcz6_0
            try clear hcz6_1
            try clear hfz4_0
            try clear hfz4_1
            try clear hfz6_0
            try clear hfz6_1
            try clear p2
            obtain ⟨x7_2, x8_2, rfl, HA, HK2, HO_3, HO_7, HO_102001, BK101, HB⟩ := hrel
            cases gk with
            | zero => exact absurd HA.out (by simp [nDg.l1])
            | succ k2 =>
              have H := HA.out
              clear HA
              simp only [nDg.l1] at H
              by_cases c15 : x8_2 ≥ 0
              · rw [if_pos c15] at H
                have c15b0 : decide (0 ≤ x8_2) = true := decide_eq_true c15
                clear c15
                have H' := As0.mk H
                clear H
                go_wp2
                go_loopg [7, 9] k2 (fun kq v7 v9 w' => ∃ (x7_3 : List Int) (x9_3 : Int), v9 = .int .u32 x9_3 ∧ As0 (nDg.l2 kq x3_1 x7_3 x8_2 x9_3 = some r) ∧ As0 (kq ≤ k2) ∧ As0 (Kd.R (Kd.int .u32) 143 w' w.heap.size (fun k_ => (w.heap.size ≤ k_)) (.slice Ao14 x3_1.length co14) x3_1) ∧ As0 (Kd.R (Kd.int .u8) 5 w' w.heap.size (fun k_ => (w.heap.size ≤ k_)) v7 x7_3) ∧ As0 (Kd.V (Kd.int .u32) 143 w' w.heap.size (fun k_ => (P0_1_ k_ ∨ w.heap.size ≤ k_) ∧ some k_ ≠ ((.slice Ao14 x3_1.length co14) : Value).ownBlock ∧ some k_ ≠ (v7 : Value).ownBlock ∧ k_ ≠ gb101) (.slice A0_1 l0_1.length c0_1) l0_1) ∧ As0 (w'.heap[gb101]? = some (.cells #[.bool a0_0, (.slice A0_1 l0_1.length c0_1)] 94 (0, 0))) ∧ As0 (Below w.heap.size w w'))
                case atStart => exact ⟨(x7_2), (100000000), (by first | rfl | (simp; done) | (simp [*]; done)), H', ⟨Nat.le_refl _⟩, ⟨by (with_reducible repeat (first | apply Kd.R_alloc | apply Kd.R_drewN | apply Kd.R_drew)); exact HO_3.out⟩, ⟨by (with_reducible repeat (first | apply Kd.R_alloc | apply Kd.R_drewN | apply Kd.R_drew)); exact HO_7.out⟩, ⟨by (with_reducible repeat (first | apply Kd.V_alloc | apply Kd.V_drewN | apply Kd.V_drew)); exact HO_102001.out⟩, ⟨by (with_reducible repeat (first | refine kdn ?_ _ | refine kdw ?_ | refine kal ?_ _)); exact BK101.out⟩, ⟨by repeat (first | (with_reducible first | exact HB.out | apply below_alloc | apply pbn | apply bd1 | refine bst ?_ GE101.out) | exact HB.out)⟩⟩
                case round =>
                  clear H'
                  try clear c1
                  try clear c2
                  try clear c2b0
                  try clear c2b1
                  try clear c2b2
                  try clear p2
                  try clear c4
                  try clear c6
                  try clear p6
                  try clear c7
                  try clear c7b0
                  try clear c7b1
                  try clear c9
                  try clear c15
                  try clear c15b0
                  try clear hcz4_0
                  try clear hcz4_1
                  try clear hcz6_0
                  try clear hcz6_1
                  try clear hfz4_0
                  try clear hfz4_1
                  try clear hfz6_0
                  try clear hfz6_1
                  try clear p2
                  try clear p6
                  obtain ⟨x7_3, x9_3, rfl, HA, HK3, HO_3, HO_7, HO_102001, BK101, HB⟩ := hrel
                  cases gk with
                  | zero => exact absurd HA.out (by simp [nDg.l2])
                  | succ k3 =>
                    have H := HA.out
                    clear HA
                    simp only [nDg.l2] at H
                    by_cases c16 : x9_3 > 0
                    · rw [if_pos c16] at H
                      have c16b0 : decide (0 < x9_3) = true := decide_eq_true c16
                      clear c16
                      by_cases c17 : 0 ≤ x8_2
                      · rw [if_pos c17] at H
                        have c17b0 : decide (0 ≤ x8_2) = true := decide_eq_true c17
                        clear c17
                        by_cases c18 : x8_2 < (x3_1.length : Int)
                        · rw [if_pos c18] at H
                          have c18b0 : decide (x8_2 < (x3_1.length : Int)) = true := decide_eq_true c18
                          clear c18
                          by_cases c19 : x9_3 = 0
                          · rw [if_pos c19] at H
                            exact absurd H (by simp)
                          · rw [if_neg c19] at H
                            have c19b0 : (x9_3 == 0) = false := beq_eq_false_iff_ne.mpr c19
                            have c19b1 : (x9_3 != 0) = true := bne_iff_ne.mpr c19
                            by_cases c20 : (x7_3.length : Int) > 0
                            · rw [if_pos c20] at H
                              have c20b0 : decide (0 < (x7_3.length : Int)) = true := decide_eq_true c20
                              have c20b1 : decide (0 < x7_3.length) = true := decide_eq_true (by omega)
                              clear c20
                              by_cases c21 : x7_3.length < 140737488355328
                              · rw [if_pos c21] at H
                                have LMc21 := As0.mk c21
                                clear c21
                                obtain ⟨y110, hy110⟩ : ∃ y_ : List Int, y_ = (x7_3 ++ [48 + (((Int.tdiv (rd x3_1 x8_2) x9_3) % 4294967296) % 10)]) := ⟨_, rfl⟩
                                replace H : (nDg.l2 k3 x3_1 y110 x8_2 ((Int.tdiv x9_3 10) % 4294967296)) = some r := by first | (rw [hy110]; with_reducible exact H) | (have H2_ := (Option.bind_some _ _).symm.trans H; rw [hy110]; with_reducible exact H2_) | (have H2_ := (Option.bind_some _ _).symm.trans H; with_reducible exact H2_) | with_reducible exact H | (rw [hy110]; exact H) | exact H
                                have Ny110 := As0.mk hy110
                                clear hy110
                                have H' := As0.mk H
                                clear H
                                have p109 : 0 ≤ (x8_2 : Int) := of_decide_eq_true (by first | (with_reducible assumption) | assumption)
                                have q109 : x8_2 < (x3_1.length : Int) := of_decide_eq_true (by first | (with_reducible assumption) | assumption)
                                obtain ⟨ad109, e109, hx109_0⟩ := Kd.at_int (Kd.R_reads' HO_3.out).2.2 x8_2 p109 q109
                                cases e109
                                replace p109 := eq_true p109
                                replace q109 := eq_true q109
                                obtain ⟨Ao22, co22, eo22⟩ := Kd.R_slice HO_7.out
                                subst eo22
                                go_wp2_with (first | ((with_reducible refine gate_builtin (b := .append) (xs := #[.tmp 57, .tmp 59]) rfl ?_); at_builtin; refine Kd.R_append (Kd.int .u8) (w0 := w) w.heap.size rfl (.tmp 57) (.tmp 59) 41 5 (.int .u8 0) 1 rfl Tryz.underlying41 info5 rfl (by decide) (by omega) (.slice Ao22 x7_3.length co22) x7_3 (48 + (((Int.tdiv (rd x3_1 x8_2) x9_3) % 4294967296) % 10)) [.int .u8 (48 + (((Int.tdiv (rd x3_1 x8_2) x9_3) % 4294967296) % 10))] (fun k_ => (w.heap.size ≤ k_)) (fun _ => False) rfl rfl ?aP (fun _ hk => hk.elim) ?aF ?aO ?aB ?aS ?aL ?_; (case aP => exact rfl); (case aB => exact (by repeat (first | (with_reducible first | exact HB.out | apply below_alloc | apply pbn | apply bd1 | refine bst ?_ GE101.out) | exact HB.out))); (case aF => exact (fun k_ hk => (Nat.le_trans (bsz (by repeat (first | (with_reducible first | exact HB.out | apply below_alloc | apply pbn | apply bd1 | refine bst ?_ GE101.out) | exact HB.out))) hk))); (case aO => exact (by (with_reducible repeat (first | apply Kd.R_alloc | apply Kd.R_drewN | apply Kd.R_drew)); exact HO_7.out)); (case aS => exact (bsz (by repeat (first | (with_reducible first | exact HB.out | apply below_alloc | apply pbn | apply bd1 | refine bst ?_ GE101.out) | exact HB.out)))); (case aL => have := LMc21.out; omega); intro v111 w23 ho hb hg hat; rw [← Ny110.out] at ho; have n0_ := As0.mk (Kd.R_over' (by (with_reducible repeat (first | apply Kd.R_alloc | apply Kd.R_drewN | apply Kd.R_drew)); exact HO_3.out) (Kd.R_typed (by (with_reducible repeat (first | apply Kd.R_alloc | apply Kd.R_drewN | apply Kd.R_drew)); exact HO_7.out)) (by decide) hg); have n1_ := As0.mk (Kd.V_afterv (ok := (fun k_ => (P0_1_ k_ ∨ w.heap.size ≤ k_) ∧ some k_ ≠ (.slice (some ad109) x3_1.length co14 : Value).ownBlock ∧ k_ ≠ gb101)) (by (with_reducible repeat (first | apply Kd.V_alloc | apply Kd.V_drewN | apply Kd.V_drew)); exact Kd.V_mono HO_102001.out (fun _ hk => ⟨⟨hk.1, ⟨hk.2.1, hk.2.2.2⟩⟩, hk.2.2.1⟩)) hg hat); have n2_ := As0.mk (blk_grown (g := gb101) (o := .cells #[.bool a0_0, .slice A0_1 l0_1.length c0_1] 94 (0, 0)) (by (with_reducible repeat (first | refine kdn ?_ _ | refine kdw ?_ | refine kal ?_ _)); exact BK101.out) hg (Kd.R_ne HO_7.out BK101.out (by decide))); have n3_ := As0.mk (hb); have n4_ := As0.mk (ho); clear HO_3; clear HO_102001; clear BK101; clear HB; clear HO_7; have HO_3 := n0_; have HO_102001 := n1_; have BK101 := n2_; have HB := n3_; have HO112 := n4_; clear n0_ n1_ n2_ n3_ n4_; clear ho hb hg hat))
                                go_roundg k3
                                case measure => have := HK1.out; have := HK2.out; have := HK3.out; omega
                                case rel => exact ⟨(y110), ((Int.tdiv x9_3 10) % 4294967296), (by first | rfl | (simp; done) | (simp [*]; done)), H', ⟨by have := HK1.out; have := HK2.out; have := HK3.out; omega⟩, ⟨by (with_reducible repeat (first | apply Kd.R_alloc | apply Kd.R_drewN | apply Kd.R_drew)); exact HO_3.out⟩, ⟨by (with_reducible repeat (first | apply Kd.R_alloc | apply Kd.R_drewN | apply Kd.R_drew)); exact HO112.out⟩, ⟨by (with_reducible repeat (first | apply Kd.V_alloc | apply Kd.V_drewN | apply Kd.V_drew)); exact Kd.V_mono HO_102001.out (fun _ hk => ⟨hk.1.1, ⟨hk.1.2.1, ⟨hk.2, hk.1.2.2⟩⟩⟩)⟩, ⟨by (with_reducible repeat (first | refine kdn ?_ _ | refine kdw ?_ | refine kal ?_ _)); exact BK101.out⟩, ⟨by repeat (first | (with_reducible first | exact HB.out | apply below_alloc | apply pbn | apply bd1 | refine bst ?_ GE101.out) | exact HB.out)⟩⟩
                              · rw [if_neg c21] at H
                                exact absurd H (by simp)
                            · rw [if_neg c20] at H
                              have c20b0 : decide (0 < (x7_3.length : Int)) = false := decide_eq_false c20
                              have c20b1 : decide (0 < x7_3.length) = false := decide_eq_false (by omega)
                              clear c20
                              by_cases c24 : (48 + (((Int.tdiv (rd x3_1 x8_2) x9_3) % 4294967296) % 10)) = 48
                              · rw [if_pos c24] at H
                                have c24b0 : ((48 + (((Int.tdiv (rd x3_1 x8_2) x9_3) % 4294967296) % 10)) == 48) = true := beq_iff_eq.mpr c24
                                have c24b1 : ((48 + (((Int.tdiv (rd x3_1 x8_2) x9_3) % 4294967296) % 10)) != 48) = false := bne_eq_false_iff_eq.mpr c24
                                clear c24
                                have H' := As0.mk H
                                clear H
                                have p109 : 0 ≤ (x8_2 : Int) := of_decide_eq_true (by first | (with_reducible assumption) | assumption)
                                have q109 : x8_2 < (x3_1.length : Int) := of_decide_eq_true (by first | (with_reducible assumption) | assumption)
                                obtain ⟨ad109, e109, hx109_0⟩ := Kd.at_int (Kd.R_reads' HO_3.out).2.2 x8_2 p109 q109
                                cases e109
                                replace p109 := eq_true p109
                                replace q109 := eq_true q109
                                obtain ⟨Ao25, co25, eo25⟩ := Kd.R_slice HO_7.out
                                subst eo25
                                go_wp2
                                go_roundg k3
                                case measure => have := HK1.out; have := HK2.out; have := HK3.out; omega
                                case rel => exact ⟨(x7_3), ((Int.tdiv x9_3 10) % 4294967296), (by first | rfl | (simp; done) | (simp [*]; done)), H', ⟨by have := HK1.out; have := HK2.out; have := HK3.out; omega⟩, ⟨by (with_reducible repeat (first | apply Kd.R_alloc | apply Kd.R_drewN | apply Kd.R_drew)); exact HO_3.out⟩, ⟨by (with_reducible repeat (first | apply Kd.R_alloc | apply Kd.R_drewN | apply Kd.R_drew)); exact HO_7.out⟩, ⟨by (with_reducible repeat (first | apply Kd.V_alloc | apply Kd.V_drewN | apply Kd.V_drew)); exact HO_102001.out⟩, ⟨by (with_reducible repeat (first | refine kdn ?_ _ | refine kdw ?_ | refine kal ?_ _)); exact BK101.out⟩, ⟨by repeat (first | (with_reducible first | exact HB.out | apply below_alloc | apply pbn | apply bd1 | refine bst ?_ GE101.out) | exact HB.out)⟩⟩
                              · rw [if_neg c24] at H
                                have c24b0 : ((48 + (((Int.tdiv (rd x3_1 x8_2) x9_3) % 4294967296) % 10)) == 48) = false := beq_eq_false_iff_ne.mpr c24
                                have c24b1 : ((48 + (((Int.tdiv (rd x3_1 x8_2) x9_3) % 4294967296) % 10)) != 48) = true := bne_iff_ne.mpr c24
                                by_cases c26 : x7_3.length < 140737488355328
                                · rw [if_pos c26] at H
                                  have LMc26 := As0.mk c26
                                  clear c26
                                  obtain ⟨y113, hy113⟩ : ∃ y_ : List Int, y_ = (x7_3 ++ [48 + (((Int.tdiv (rd x3_1 x8_2) x9_3) % 4294967296) % 10)]) := ⟨_, rfl⟩
                                  replace H : (nDg.l2 k3 x3_1 y113 x8_2 ((Int.tdiv x9_3 10) % 4294967296)) = some r := by first | (rw [hy113]; with_reducible exact H) | (have H2_ := (Option.bind_some _ _).symm.trans H; rw [hy113]; with_reducible exact H2_) | (have H2_ := (Option.bind_some _ _).symm.trans H; with_reducible exact H2_) | with_reducible exact H | (rw [hy113]; exact H) | exact H
                                  have Ny113 := As0.mk hy113
                                  clear hy113
                                  have H' := As0.mk H
                                  clear H
                                  have p109 : 0 ≤ (x8_2 : Int) := of_decide_eq_true (by first | (with_reducible assumption) | assumption)
                                  have q109 : x8_2 < (x3_1.length : Int) := of_decide_eq_true (by first | (with_reducible assumption) | assumption)
                                  obtain ⟨ad109, e109, hx109_0⟩ := Kd.at_int (Kd.R_reads' HO_3.out).2.2 x8_2 p109 q109
                                  cases e109
                                  replace p109 := eq_true p109
                                  replace q109 := eq_true q109
                                  obtain ⟨Ao27, co27, eo27⟩ := Kd.R_slice HO_7.out
                                  subst eo27
                                  go_wp2_with (first | ((with_reducible refine gate_builtin (b := .append) (xs := #[.tmp 57, .tmp 59]) rfl ?_); at_builtin; refine Kd.R_append (Kd.int .u8) (w0 := w) w.heap.size rfl (.tmp 57) (.tmp 59) 41 5 (.int .u8 0) 1 rfl Tryz.underlying41 info5 rfl (by decide) (by omega) (.slice Ao27 x7_3.length co27) x7_3 (48 + (((Int.tdiv (rd x3_1 x8_2) x9_3) % 4294967296) % 10)) [.int .u8 (48 + (((Int.tdiv (rd x3_1 x8_2) x9_3) % 4294967296) % 10))] (fun k_ => (w.heap.size ≤ k_)) (fun _ => False) rfl rfl ?aP (fun _ hk => hk.elim) ?aF ?aO ?aB ?aS ?aL ?_; (case aP => exact rfl); (case aB => exact (by repeat (first | (with_reducible first | exact HB.out | apply below_alloc | apply pbn | apply bd1 | refine bst ?_ GE101.out) | exact HB.out))); (case aF => exact (fun k_ hk => (Nat.le_trans (bsz (by repeat (first | (with_reducible first | exact HB.out | apply below_alloc | apply pbn | apply bd1 | refine bst ?_ GE101.out) | exact HB.out))) hk))); (case aO => exact (by (with_reducible repeat (first | apply Kd.R_alloc | apply Kd.R_drewN | apply Kd.R_drew)); exact HO_7.out)); (case aS => exact (bsz (by repeat (first | (with_reducible first | exact HB.out | apply below_alloc | apply pbn | apply bd1 | refine bst ?_ GE101.out) | exact HB.out)))); (case aL => have := LMc26.out; omega); intro v114 w28 ho hb hg hat; rw [← Ny113.out] at ho; have n0_ := As0.mk (Kd.R_over' (by (with_reducible repeat (first | apply Kd.R_alloc | apply Kd.R_drewN | apply Kd.R_drew)); exact HO_3.out) (Kd.R_typed (by (with_reducible repeat (first | apply Kd.R_alloc | apply Kd.R_drewN | apply Kd.R_drew)); exact HO_7.out)) (by decide) hg); have n1_ := As0.mk (Kd.V_afterv (ok := (fun k_ => (P0_1_ k_ ∨ w.heap.size ≤ k_) ∧ some k_ ≠ (.slice (some ad109) x3_1.length co14 : Value).ownBlock ∧ k_ ≠ gb101)) (by (with_reducible repeat (first | apply Kd.V_alloc | apply Kd.V_drewN | apply Kd.V_drew)); exact Kd.V_mono HO_102001.out (fun _ hk => ⟨⟨hk.1, ⟨hk.2.1, hk.2.2.2⟩⟩, hk.2.2.1⟩)) hg hat); have n2_ := As0.mk (blk_grown (g := gb101) (o := .cells #[.bool a0_0, .slice A0_1 l0_1.length c0_1] 94 (0, 0)) (by (with_reducible repeat (first | refine kdn ?_ _ | refine kdw ?_ | refine kal ?_ _)); exact BK101.out) hg (Kd.R_ne HO_7.out BK101.out (by decide))); have n3_ := As0.mk (hb); have n4_ := As0.mk (ho); clear HO_3; clear HO_102001; clear BK101; clear HB; clear HO_7; have HO_3 := n0_; have HO_102001 := n1_; have BK101 := n2_; have HB := n3_; have HO115 := n4_; clear n0_ n1_ n2_ n3_ n4_; clear ho hb hg hat))
                                  go_roundg k3
                                  case measure => have := HK1.out; have := HK2.out; have := HK3.out; omega
                                  case rel => exact ⟨(y113), ((Int.tdiv x9_3 10) % 4294967296), (by first | rfl | (simp; done) | (simp [*]; done)), H', ⟨by have := HK1.out; have := HK2.out; have := HK3.out; omega⟩, ⟨by (with_reducible repeat (first | apply Kd.R_alloc | apply Kd.R_drewN | apply Kd.R_drew)); exact HO_3.out⟩, ⟨by (with_reducible repeat (first | apply Kd.R_alloc | apply Kd.R_drewN | apply Kd.R_drew)); exact HO115.out⟩, ⟨by (with_reducible repeat (first | apply Kd.V_alloc | apply Kd.V_drewN | apply Kd.V_drew)); exact Kd.V_mono HO_102001.out (fun _ hk => ⟨hk.1.1, ⟨hk.1.2.1, ⟨hk.2, hk.1.2.2⟩⟩⟩)⟩, ⟨by (with_reducible repeat (first | refine kdn ?_ _ | refine kdw ?_ | refine kal ?_ _)); exact BK101.out⟩, ⟨by repeat (first | (with_reducible first | exact HB.out | apply below_alloc | apply pbn | apply bd1 | refine bst ?_ GE101.out) | exact HB.out)⟩⟩
                                · rw [if_neg c26] at H
                                  exact absurd H (by simp)
                        · rw [if_neg c18] at H
                          exact absurd H (by simp)
                      · rw [if_neg c17] at H
                        exact absurd H (by simp)
                    · rw [if_neg c16] at H
                      have c16b0 : decide (0 < x9_3) = false := decide_eq_false c16
                      clear c16
                      have H' := As0.mk H
                      clear H
                      go_wp2
                      go_roundg k3
                      case measure => have := HK1.out; have := HK2.out; have := HK3.out; omega
                      case rel => exact ⟨(x7_3), (wrap64 (x8_2 - 1)), (by first | rfl | (simp; done) | (simp [*]; done)), H', ⟨by have := HK1.out; have := HK2.out; have := HK3.out; omega⟩, ⟨by (with_reducible repeat (first | apply Kd.R_alloc | apply Kd.R_drewN | apply Kd.R_drew)); exact HO_3.out⟩, ⟨by (with_reducible repeat (first | apply Kd.R_alloc | apply Kd.R_drewN | apply Kd.R_drew)); exact HO_7.out⟩, ⟨by (with_reducible repeat (first | apply Kd.V_alloc | apply Kd.V_drewN | apply Kd.V_drew)); exact HO_102001.out⟩, ⟨by (with_reducible repeat (first | refine kdn ?_ _ | refine kdw ?_ | refine kal ?_ _)); exact BK101.out⟩, ⟨by repeat (first | (with_reducible first | exact HB.out | apply below_alloc | apply pbn | apply bd1 | refine bst ?_ GE101.out) | exact HB.out)⟩⟩
              · rw [if_neg c15] at H
                have c15b0 : decide (0 ≤ x8_2) = false := decide_eq_false c15
                clear c15
                obtain rfl := Option.some.inj H
                have hcv29 := own_string (P := Tryz.prog) Tryz.underlying41 Tryz.underlying5 Tryz.underlying9 (Kd.own_of_R HO_7.out)
                go_wp2
                go_ret
                exact ⟨by first | rfl | (simp [errW_none, errW_some] <;> rfl) | (simp [*, errW_none, errW_some] <;> rfl), by repeat (first | (with_reducible first | exact HB.out | apply below_alloc | apply pbn | apply bd1 | refine bst ?_ GE101.out) | exact HB.out)⟩
def nTx.f (k : Nat) (a0_0 : Bool) (l0_1 : List Int) (a0_2 : Bool) (l0_3 : List Int) : Option (ByteArray) := (nDg.f k a0_0 l0_1).bind fun t117 => (if a0_0 = true then (if 1 + t117.size ≤ 9223372036854775807 then (if (l0_3.length : Int) > 0 then ((nDg.f k a0_2 l0_3).bind fun t118 => (if 1 + t118.size ≤ 9223372036854775807 then (if ((⟨#[45]⟩ : ByteArray) ++ t117).size + ((⟨#[47]⟩ : ByteArray) ++ t118).size ≤ 9223372036854775807 then (some (((⟨#[45]⟩ : ByteArray) ++ t117) ++ ((⟨#[47]⟩ : ByteArray) ++ t118))) else (none)) else (none))) else (some ((⟨#[45]⟩ : ByteArray) ++ t117))) else (none)) else (if (l0_3.length : Int) > 0 then ((nDg.f k a0_2 l0_3).bind fun t119 => (if 1 + t119.size ≤ 9223372036854775807 then (if t117.size + ((⟨#[47]⟩ : ByteArray) ++ t119).size ≤ 9223372036854775807 then (some (t117 ++ ((⟨#[47]⟩ : ByteArray) ++ t119))) else (none)) else (none))) else (some t117)))
set_option maxHeartbeats 8000000 in
set_option maxRecDepth 100000 in
theorem nTx.calls (k : Nat) (a0_0 : Bool) (A0_1 : Option Addr) (c0_1 : Nat) (l0_1 : List Int) (a0_2 : Bool) (A0_3 : Option Addr) (c0_3 : Nat) (l0_3 : List Int) (r : ByteArray) (w : World) (hr0_1 : Kd.C (Kd.int .u32) w A0_1 l0_1.length l0_1) (hc0_1 : l0_1.length ≤ c0_1) (hr0_3 : Kd.C (Kd.int .u32) w A0_3 l0_3.length l0_3) (hc0_3 : l0_3.length ≤ c0_3) (h : nTx.f k a0_0 l0_1 a0_2 l0_3 = some r) :
    Calls Tryz.prog 22 #[.agg #[.bool a0_0, .slice A0_1 l0_1.length c0_1, .bool a0_2, .slice A0_3 l0_3.length c0_3]] w fun e w' => e = .returned (.string r) ∧ Below w.heap.size w w' := by
  have hu96 := Tryz.underlying96
  have hu94 := Tryz.underlying94
  have HR0_1 := As0.mk hr0_1
  have HC0_1 := As0.mk hc0_1
  clear hr0_1 hc0_1
  have HR0_3 := As0.mk hr0_3
  have HC0_3 := As0.mk hc0_3
  clear hr0_3 hc0_3
  have HB := As0.mk (Below.refl w.heap.size w)
  have H : ((nDg.f k a0_0 l0_1).bind fun t117 => (if a0_0 = true then (if 1 + t117.size ≤ 9223372036854775807 then (if (l0_3.length : Int) > 0 then ((nDg.f k a0_2 l0_3).bind fun t118 => (if 1 + t118.size ≤ 9223372036854775807 then (if ((⟨#[45]⟩ : ByteArray) ++ t117).size + ((⟨#[47]⟩ : ByteArray) ++ t118).size ≤ 9223372036854775807 then (some (((⟨#[45]⟩ : ByteArray) ++ t117) ++ ((⟨#[47]⟩ : ByteArray) ++ t118))) else (none)) else (none))) else (some ((⟨#[45]⟩ : ByteArray) ++ t117))) else (none)) else (if (l0_3.length : Int) > 0 then ((nDg.f k a0_2 l0_3).bind fun t119 => (if 1 + t119.size ≤ 9223372036854775807 then (if t117.size + ((⟨#[47]⟩ : ByteArray) ++ t119).size ≤ 9223372036854775807 then (some (t117 ++ ((⟨#[47]⟩ : ByteArray) ++ t119))) else (none)) else (none))) else (some t117)))) = some r := h
  clear h
  replace H := Option.bind_eq_some_iff.mp H
  obtain ⟨t117, A20, H⟩ := H
  replace H : (if a0_0 = true then (if 1 + t117.size ≤ 9223372036854775807 then (if (l0_3.length : Int) > 0 then ((nDg.f k a0_2 l0_3).bind fun t118 => (if 1 + t118.size ≤ 9223372036854775807 then (if ((⟨#[45]⟩ : ByteArray) ++ t117).size + ((⟨#[47]⟩ : ByteArray) ++ t118).size ≤ 9223372036854775807 then (some (((⟨#[45]⟩ : ByteArray) ++ t117) ++ ((⟨#[47]⟩ : ByteArray) ++ t118))) else (none)) else (none))) else (some ((⟨#[45]⟩ : ByteArray) ++ t117))) else (none)) else (if (l0_3.length : Int) > 0 then ((nDg.f k a0_2 l0_3).bind fun t119 => (if 1 + t119.size ≤ 9223372036854775807 then (if t117.size + ((⟨#[47]⟩ : ByteArray) ++ t119).size ≤ 9223372036854775807 then (some (t117 ++ ((⟨#[47]⟩ : ByteArray) ++ t119))) else (none)) else (none))) else (some t117))) = some r := H
  have A2 := As0.mk A20
  clear A20
  by_cases c3 : a0_0 = true
  · subst c3
    have H1 : (if 1 + t117.size ≤ 9223372036854775807 then (if (l0_3.length : Int) > 0 then ((nDg.f k a0_2 l0_3).bind fun t118 => (if 1 + t118.size ≤ 9223372036854775807 then (if ((⟨#[45]⟩ : ByteArray) ++ t117).size + ((⟨#[47]⟩ : ByteArray) ++ t118).size ≤ 9223372036854775807 then (some (((⟨#[45]⟩ : ByteArray) ++ t117) ++ ((⟨#[47]⟩ : ByteArray) ++ t118))) else (none)) else (none))) else (some ((⟨#[45]⟩ : ByteArray) ++ t117))) else (none)) = some r := by rw [if_pos rfl] at H; exact H
    clear H
    have H := H1
    clear H1
    by_cases c4 : 1 + t117.size ≤ 9223372036854775807
    · rw [if_pos c4] at H
      have c4b0 := eq_true c4
      have c4b1 : decide (1 + t117.size ≤ 9223372036854775807) = true := decide_eq_true c4
      try have c4b2 : (9223372036854775807 < 1 + t117.size) = False := eq_false (Nat.not_lt.2 c4)
      by_cases c5 : (l0_3.length : Int) > 0
      · rw [if_pos c5] at H
        have c5b0 : decide (0 < (l0_3.length : Int)) = true := decide_eq_true c5
        have c5b1 : decide (0 < l0_3.length) = true := decide_eq_true (by omega)
        clear c5
        replace H := Option.bind_eq_some_iff.mp H
        obtain ⟨t118, A60, H⟩ := H
        replace H : (if 1 + t118.size ≤ 9223372036854775807 then (if ((⟨#[45]⟩ : ByteArray) ++ t117).size + ((⟨#[47]⟩ : ByteArray) ++ t118).size ≤ 9223372036854775807 then (some (((⟨#[45]⟩ : ByteArray) ++ t117) ++ ((⟨#[47]⟩ : ByteArray) ++ t118))) else (none)) else (none)) = some r := H
        have A6 := As0.mk A60
        clear A60
        by_cases c7 : 1 + t118.size ≤ 9223372036854775807
        · rw [if_pos c7] at H
          have c7b0 := eq_true c7
          have c7b1 : decide (1 + t118.size ≤ 9223372036854775807) = true := decide_eq_true c7
          try have c7b2 : (9223372036854775807 < 1 + t118.size) = False := eq_false (Nat.not_lt.2 c7)
          by_cases c8 : ((⟨#[45]⟩ : ByteArray) ++ t117).size + ((⟨#[47]⟩ : ByteArray) ++ t118).size ≤ 9223372036854775807
          · rw [if_pos c8] at H
            have c8b0 := eq_true c8
            have c8b1 : decide (((⟨#[45]⟩ : ByteArray) ++ t117).size + ((⟨#[47]⟩ : ByteArray) ++ t118).size ≤ 9223372036854775807) = true := decide_eq_true c8
            try have c8b2 : (9223372036854775807 < ((⟨#[45]⟩ : ByteArray) ++ t117).size + ((⟨#[47]⟩ : ByteArray) ++ t118).size) = False := eq_false (Nat.not_lt.2 c8)
            obtain rfl := Option.some.inj H
            go_enter Tryz.func22, Tryz.ntmps22
            go_wp2_with (first | ((with_reducible refine gate_dst (N := 1) rfl ?_); refine box_event ?hg (N := 1) ?hd (cs := #[.bool true, .slice A0_1 l0_1.length c0_1, .bool a0_2, .slice A0_3 l0_3.length c0_3]) (t := 96) ?hr ?_; (case hd => rfl); (case hg => rfl); (case hr => first | (go_simp; done) | (go_simp; rfl)); intro gb116 hg w9 hbox hb; have n0_ := As0.mk (bsp (by repeat (first | (with_reducible first | exact HB.out | apply below_alloc | apply pbn | apply bd1) | exact HB.out)) hb); have n1_ := As0.mk (hbox); have n2_ := As0.mk ((by rw [hg]; exact (bsz (by repeat (first | (with_reducible first | exact HB.out | apply below_alloc | apply pbn | apply bd1) | exact HB.out))) : w.heap.size ≤ gb116)); have n3_ := As0.mk ((by rw [hg]; exact (bsz (by repeat (first | (with_reducible first | exact HB.out | apply below_alloc | apply pbn | apply bd1) | exact HB.out))) : w.heap.size ≤ gb116)); clear HB; have HB := n0_; have BK116 := n1_; have GW116 := n2_; have GE116 := n3_; clear n0_ n1_ n2_ n3_; clear hb hbox hg; have hcz10_0 : w9.cell? ⟨gb116, 0, none⟩ = some (.bool true) := (blk_cell BK116.out 0).trans rfl; have hcz10_1 : w9.cell? ⟨gb116, 1, none⟩ = some (.slice A0_1 l0_1.length c0_1) := (blk_cell BK116.out 1).trans rfl; have hcz10_2 : w9.cell? ⟨gb116, 2, none⟩ = some (.bool a0_2) := (blk_cell BK116.out 2).trans rfl; have hcz10_3 : w9.cell? ⟨gb116, 3, none⟩ = some (.slice A0_3 l0_3.length c0_3) := (blk_cell BK116.out 3).trans rfl; have hfz10_0 := kfz BK116.out 0; have hfz10_1 := kfz BK116.out 1; have hfz10_2 := kfz BK116.out 2; have hfz10_3 := kfz BK116.out 3) | ((with_reducible refine gate_callee (f := 43) rfl ?_); refine goesL_ (some 6) rfl rfl Tryz.func43 (by kernel_rfl) rfl #[.agg #[.bool true, .slice A0_1 l0_1.length c0_1]] rfl (by (try simp only [List.map_toArray, List.map_cons, List.map_nil]); first | done | rfl | (simp only [List.length_drop, List.length_take]; rfl)) ?_; (with_reducible refine (nDg.calls k true (fun k_ => k_ < w.heap.size) _ _ l0_1 t117 _ ?side1 A2.out).mono ?_); (case side1 => exact Kd.V_mk HC0_1.out (Kd.F_below (Kd.C_F (Kd.heap_int .u32) HR0_1.out) (by repeat (first | (with_reducible first | exact HB.out | apply below_alloc | apply pbn | apply bd1 | refine bst ?_ GE116.out) | exact HB.out)))); rintro e w11 ⟨rfl, hb⟩; refine ⟨_, rfl, ?_⟩; have n0_ := As0.mk (blk_below (g := gb116) (o := .cells #[.bool true, .slice A0_1 l0_1.length c0_1, .bool a0_2, .slice A0_3 l0_3.length c0_3] 96 (0, 0)) (by (with_reducible repeat (first | refine kdn ?_ _ | refine kdw ?_ | refine kal ?_ _)); exact BK116.out) hb); have n1_ := As0.mk (bsp (by repeat (first | (with_reducible first | exact HB.out | apply below_alloc | apply pbn | apply bd1 | refine bst ?_ GE116.out) | exact HB.out)) hb); clear BK116; clear HB; have BK116 := n0_; have HB := n1_; clear n0_ n1_; (try clear hb); (try clear hb2); (try clear hk); (try clear hi); have hcz12_0 : w11.cell? ⟨gb116, 0, none⟩ = some (.bool true) := (blk_cell BK116.out 0).trans rfl; have hcz12_1 : w11.cell? ⟨gb116, 1, none⟩ = some (.slice A0_1 l0_1.length c0_1) := (blk_cell BK116.out 1).trans rfl; have hcz12_2 : w11.cell? ⟨gb116, 2, none⟩ = some (.bool a0_2) := (blk_cell BK116.out 2).trans rfl; have hcz12_3 : w11.cell? ⟨gb116, 3, none⟩ = some (.slice A0_3 l0_3.length c0_3) := (blk_cell BK116.out 3).trans rfl; have hfz12_0 := kfz BK116.out 0; have hfz12_1 := kfz BK116.out 1; have hfz12_2 := kfz BK116.out 2; have hfz12_3 := kfz BK116.out 3) | ((with_reducible refine gate_callee (f := 43) rfl ?_); refine goesL_ (some 20) rfl rfl Tryz.func43 (by kernel_rfl) rfl #[.agg #[.bool a0_2, .slice A0_3 l0_3.length c0_3]] rfl (by (try simp only [List.map_toArray, List.map_cons, List.map_nil]); first | done | rfl | (simp only [List.length_drop, List.length_take]; rfl)) ?_; (with_reducible refine (nDg.calls k a0_2 (fun k_ => k_ < w.heap.size) _ _ l0_3 t118 _ ?side1 A6.out).mono ?_); (case side1 => exact Kd.V_mk HC0_3.out (Kd.F_below (Kd.C_F (Kd.heap_int .u32) HR0_3.out) (by repeat (first | (with_reducible first | exact HB.out | apply below_alloc | apply pbn | apply bd1 | refine bst ?_ GE116.out) | exact HB.out)))); rintro e w13 ⟨rfl, hb⟩; refine ⟨_, rfl, ?_⟩; have n0_ := As0.mk (blk_below (g := gb116) (o := .cells #[.bool true, .slice A0_1 l0_1.length c0_1, .bool a0_2, .slice A0_3 l0_3.length c0_3] 96 (0, 0)) (by (with_reducible repeat (first | refine kdn ?_ _ | refine kdw ?_ | refine kal ?_ _)); exact BK116.out) hb); have n1_ := As0.mk (bsp (by repeat (first | (with_reducible first | exact HB.out | apply below_alloc | apply pbn | apply bd1 | refine bst ?_ GE116.out) | exact HB.out)) hb); clear BK116; clear HB; have BK116 := n0_; have HB := n1_; clear n0_ n1_; (try clear hb); (try clear hb2); (try clear hk); (try clear hi)))
            go_ret
            exact ⟨by first | rfl | (simp [errW_none, errW_some] <;> rfl) | (simp [*, errW_none, errW_some] <;> rfl), by repeat (first | (with_reducible first | exact HB.out | apply below_alloc | apply pbn | apply bd1 | refine bst ?_ GE116.out) | exact HB.out)⟩
          · rw [if_neg c8] at H
            exact absurd H (by simp)
        · rw [if_neg c7] at H
          exact absurd H (by simp)
      · rw [if_neg c5] at H
        have c5b0 : decide (0 < (l0_3.length : Int)) = false := decide_eq_false c5
        have c5b1 : decide (0 < l0_3.length) = false := decide_eq_false (by omega)
        clear c5
        obtain rfl := Option.some.inj H
        go_enter Tryz.func22, Tryz.ntmps22
        go_wp2_with (first | ((with_reducible refine gate_dst (N := 1) rfl ?_); refine box_event ?hg (N := 1) ?hd (cs := #[.bool true, .slice A0_1 l0_1.length c0_1, .bool a0_2, .slice A0_3 l0_3.length c0_3]) (t := 96) ?hr ?_; (case hd => rfl); (case hg => rfl); (case hr => first | (go_simp; done) | (go_simp; rfl)); intro gb116 hg w14 hbox hb; have n0_ := As0.mk (bsp (by repeat (first | (with_reducible first | exact HB.out | apply below_alloc | apply pbn | apply bd1) | exact HB.out)) hb); have n1_ := As0.mk (hbox); have n2_ := As0.mk ((by rw [hg]; exact (bsz (by repeat (first | (with_reducible first | exact HB.out | apply below_alloc | apply pbn | apply bd1) | exact HB.out))) : w.heap.size ≤ gb116)); have n3_ := As0.mk ((by rw [hg]; exact (bsz (by repeat (first | (with_reducible first | exact HB.out | apply below_alloc | apply pbn | apply bd1) | exact HB.out))) : w.heap.size ≤ gb116)); clear HB; have HB := n0_; have BK116 := n1_; have GW116 := n2_; have GE116 := n3_; clear n0_ n1_ n2_ n3_; clear hb hbox hg; have hcz15_0 : w14.cell? ⟨gb116, 0, none⟩ = some (.bool true) := (blk_cell BK116.out 0).trans rfl; have hcz15_1 : w14.cell? ⟨gb116, 1, none⟩ = some (.slice A0_1 l0_1.length c0_1) := (blk_cell BK116.out 1).trans rfl; have hcz15_2 : w14.cell? ⟨gb116, 2, none⟩ = some (.bool a0_2) := (blk_cell BK116.out 2).trans rfl; have hcz15_3 : w14.cell? ⟨gb116, 3, none⟩ = some (.slice A0_3 l0_3.length c0_3) := (blk_cell BK116.out 3).trans rfl; have hfz15_0 := kfz BK116.out 0; have hfz15_1 := kfz BK116.out 1; have hfz15_2 := kfz BK116.out 2; have hfz15_3 := kfz BK116.out 3) | ((with_reducible refine gate_callee (f := 43) rfl ?_); refine goesL_ (some 6) rfl rfl Tryz.func43 (by kernel_rfl) rfl #[.agg #[.bool true, .slice A0_1 l0_1.length c0_1]] rfl (by (try simp only [List.map_toArray, List.map_cons, List.map_nil]); first | done | rfl | (simp only [List.length_drop, List.length_take]; rfl)) ?_; (with_reducible refine (nDg.calls k true (fun k_ => k_ < w.heap.size) _ _ l0_1 t117 _ ?side1 A2.out).mono ?_); (case side1 => exact Kd.V_mk HC0_1.out (Kd.F_below (Kd.C_F (Kd.heap_int .u32) HR0_1.out) (by repeat (first | (with_reducible first | exact HB.out | apply below_alloc | apply pbn | apply bd1 | refine bst ?_ GE116.out) | exact HB.out)))); rintro e w16 ⟨rfl, hb⟩; refine ⟨_, rfl, ?_⟩; have n0_ := As0.mk (blk_below (g := gb116) (o := .cells #[.bool true, .slice A0_1 l0_1.length c0_1, .bool a0_2, .slice A0_3 l0_3.length c0_3] 96 (0, 0)) (by (with_reducible repeat (first | refine kdn ?_ _ | refine kdw ?_ | refine kal ?_ _)); exact BK116.out) hb); have n1_ := As0.mk (bsp (by repeat (first | (with_reducible first | exact HB.out | apply below_alloc | apply pbn | apply bd1 | refine bst ?_ GE116.out) | exact HB.out)) hb); clear BK116; clear HB; have BK116 := n0_; have HB := n1_; clear n0_ n1_; (try clear hb); (try clear hb2); (try clear hk); (try clear hi); have hcz17_0 : w16.cell? ⟨gb116, 0, none⟩ = some (.bool true) := (blk_cell BK116.out 0).trans rfl; have hcz17_1 : w16.cell? ⟨gb116, 1, none⟩ = some (.slice A0_1 l0_1.length c0_1) := (blk_cell BK116.out 1).trans rfl; have hcz17_2 : w16.cell? ⟨gb116, 2, none⟩ = some (.bool a0_2) := (blk_cell BK116.out 2).trans rfl; have hcz17_3 : w16.cell? ⟨gb116, 3, none⟩ = some (.slice A0_3 l0_3.length c0_3) := (blk_cell BK116.out 3).trans rfl; have hfz17_0 := kfz BK116.out 0; have hfz17_1 := kfz BK116.out 1; have hfz17_2 := kfz BK116.out 2; have hfz17_3 := kfz BK116.out 3))
        go_ret
        exact ⟨by first | rfl | (simp [errW_none, errW_some] <;> rfl) | (simp [*, errW_none, errW_some] <;> rfl), by repeat (first | (with_reducible first | exact HB.out | apply below_alloc | apply pbn | apply bd1 | refine bst ?_ GE116.out) | exact HB.out)⟩
    · rw [if_neg c4] at H
      exact absurd H (by simp)
  · replace c3 := Bool.eq_false_iff.mpr c3
    subst c3
    have H1 : (if (l0_3.length : Int) > 0 then ((nDg.f k a0_2 l0_3).bind fun t119 => (if 1 + t119.size ≤ 9223372036854775807 then (if t117.size + ((⟨#[47]⟩ : ByteArray) ++ t119).size ≤ 9223372036854775807 then (some (t117 ++ ((⟨#[47]⟩ : ByteArray) ++ t119))) else (none)) else (none))) else (some t117)) = some r := by rw [if_neg (show ¬ (false = true) by decide)] at H; exact H
    clear H
    have H := H1
    clear H1
    by_cases c18 : (l0_3.length : Int) > 0
    · rw [if_pos c18] at H
      have c18b0 : decide (0 < (l0_3.length : Int)) = true := decide_eq_true c18
      have c18b1 : decide (0 < l0_3.length) = true := decide_eq_true (by omega)
      clear c18
      replace H := Option.bind_eq_some_iff.mp H
      obtain ⟨t119, A190, H⟩ := H
      replace H : (if 1 + t119.size ≤ 9223372036854775807 then (if t117.size + ((⟨#[47]⟩ : ByteArray) ++ t119).size ≤ 9223372036854775807 then (some (t117 ++ ((⟨#[47]⟩ : ByteArray) ++ t119))) else (none)) else (none)) = some r := H
      have A19 := As0.mk A190
      clear A190
      by_cases c20 : 1 + t119.size ≤ 9223372036854775807
      · rw [if_pos c20] at H
        have c20b0 := eq_true c20
        have c20b1 : decide (1 + t119.size ≤ 9223372036854775807) = true := decide_eq_true c20
        try have c20b2 : (9223372036854775807 < 1 + t119.size) = False := eq_false (Nat.not_lt.2 c20)
        by_cases c21 : t117.size + ((⟨#[47]⟩ : ByteArray) ++ t119).size ≤ 9223372036854775807
        · rw [if_pos c21] at H
          have c21b0 := eq_true c21
          have c21b1 : decide (t117.size + ((⟨#[47]⟩ : ByteArray) ++ t119).size ≤ 9223372036854775807) = true := decide_eq_true c21
          try have c21b2 : (9223372036854775807 < t117.size + ((⟨#[47]⟩ : ByteArray) ++ t119).size) = False := eq_false (Nat.not_lt.2 c21)
          obtain rfl := Option.some.inj H
          go_enter Tryz.func22, Tryz.ntmps22
          go_wp2_with (first | ((with_reducible refine gate_dst (N := 1) rfl ?_); refine box_event ?hg (N := 1) ?hd (cs := #[.bool false, .slice A0_1 l0_1.length c0_1, .bool a0_2, .slice A0_3 l0_3.length c0_3]) (t := 96) ?hr ?_; (case hd => rfl); (case hg => rfl); (case hr => first | (go_simp; done) | (go_simp; rfl)); intro gb116 hg w22 hbox hb; have n0_ := As0.mk (bsp (by repeat (first | (with_reducible first | exact HB.out | apply below_alloc | apply pbn | apply bd1) | exact HB.out)) hb); have n1_ := As0.mk (hbox); have n2_ := As0.mk ((by rw [hg]; exact (bsz (by repeat (first | (with_reducible first | exact HB.out | apply below_alloc | apply pbn | apply bd1) | exact HB.out))) : w.heap.size ≤ gb116)); have n3_ := As0.mk ((by rw [hg]; exact (bsz (by repeat (first | (with_reducible first | exact HB.out | apply below_alloc | apply pbn | apply bd1) | exact HB.out))) : w.heap.size ≤ gb116)); clear HB; have HB := n0_; have BK116 := n1_; have GW116 := n2_; have GE116 := n3_; clear n0_ n1_ n2_ n3_; clear hb hbox hg; have hcz23_0 : w22.cell? ⟨gb116, 0, none⟩ = some (.bool false) := (blk_cell BK116.out 0).trans rfl; have hcz23_1 : w22.cell? ⟨gb116, 1, none⟩ = some (.slice A0_1 l0_1.length c0_1) := (blk_cell BK116.out 1).trans rfl; have hcz23_2 : w22.cell? ⟨gb116, 2, none⟩ = some (.bool a0_2) := (blk_cell BK116.out 2).trans rfl; have hcz23_3 : w22.cell? ⟨gb116, 3, none⟩ = some (.slice A0_3 l0_3.length c0_3) := (blk_cell BK116.out 3).trans rfl; have hfz23_0 := kfz BK116.out 0; have hfz23_1 := kfz BK116.out 1; have hfz23_2 := kfz BK116.out 2; have hfz23_3 := kfz BK116.out 3) | ((with_reducible refine gate_callee (f := 43) rfl ?_); refine goesL_ (some 6) rfl rfl Tryz.func43 (by kernel_rfl) rfl #[.agg #[.bool false, .slice A0_1 l0_1.length c0_1]] rfl (by (try simp only [List.map_toArray, List.map_cons, List.map_nil]); first | done | rfl | (simp only [List.length_drop, List.length_take]; rfl)) ?_; (with_reducible refine (nDg.calls k false (fun k_ => k_ < w.heap.size) _ _ l0_1 t117 _ ?side1 A2.out).mono ?_); (case side1 => exact Kd.V_mk HC0_1.out (Kd.F_below (Kd.C_F (Kd.heap_int .u32) HR0_1.out) (by repeat (first | (with_reducible first | exact HB.out | apply below_alloc | apply pbn | apply bd1 | refine bst ?_ GE116.out) | exact HB.out)))); rintro e w24 ⟨rfl, hb⟩; refine ⟨_, rfl, ?_⟩; have n0_ := As0.mk (blk_below (g := gb116) (o := .cells #[.bool false, .slice A0_1 l0_1.length c0_1, .bool a0_2, .slice A0_3 l0_3.length c0_3] 96 (0, 0)) (by (with_reducible repeat (first | refine kdn ?_ _ | refine kdw ?_ | refine kal ?_ _)); exact BK116.out) hb); have n1_ := As0.mk (bsp (by repeat (first | (with_reducible first | exact HB.out | apply below_alloc | apply pbn | apply bd1 | refine bst ?_ GE116.out) | exact HB.out)) hb); clear BK116; clear HB; have BK116 := n0_; have HB := n1_; clear n0_ n1_; (try clear hb); (try clear hb2); (try clear hk); (try clear hi); have hcz25_0 : w24.cell? ⟨gb116, 0, none⟩ = some (.bool false) := (blk_cell BK116.out 0).trans rfl; have hcz25_1 : w24.cell? ⟨gb116, 1, none⟩ = some (.slice A0_1 l0_1.length c0_1) := (blk_cell BK116.out 1).trans rfl; have hcz25_2 : w24.cell? ⟨gb116, 2, none⟩ = some (.bool a0_2) := (blk_cell BK116.out 2).trans rfl; have hcz25_3 : w24.cell? ⟨gb116, 3, none⟩ = some (.slice A0_3 l0_3.length c0_3) := (blk_cell BK116.out 3).trans rfl; have hfz25_0 := kfz BK116.out 0; have hfz25_1 := kfz BK116.out 1; have hfz25_2 := kfz BK116.out 2; have hfz25_3 := kfz BK116.out 3) | ((with_reducible refine gate_callee (f := 43) rfl ?_); refine goesL_ (some 20) rfl rfl Tryz.func43 (by kernel_rfl) rfl #[.agg #[.bool a0_2, .slice A0_3 l0_3.length c0_3]] rfl (by (try simp only [List.map_toArray, List.map_cons, List.map_nil]); first | done | rfl | (simp only [List.length_drop, List.length_take]; rfl)) ?_; (with_reducible refine (nDg.calls k a0_2 (fun k_ => k_ < w.heap.size) _ _ l0_3 t119 _ ?side1 A19.out).mono ?_); (case side1 => exact Kd.V_mk HC0_3.out (Kd.F_below (Kd.C_F (Kd.heap_int .u32) HR0_3.out) (by repeat (first | (with_reducible first | exact HB.out | apply below_alloc | apply pbn | apply bd1 | refine bst ?_ GE116.out) | exact HB.out)))); rintro e w26 ⟨rfl, hb⟩; refine ⟨_, rfl, ?_⟩; have n0_ := As0.mk (blk_below (g := gb116) (o := .cells #[.bool false, .slice A0_1 l0_1.length c0_1, .bool a0_2, .slice A0_3 l0_3.length c0_3] 96 (0, 0)) (by (with_reducible repeat (first | refine kdn ?_ _ | refine kdw ?_ | refine kal ?_ _)); exact BK116.out) hb); have n1_ := As0.mk (bsp (by repeat (first | (with_reducible first | exact HB.out | apply below_alloc | apply pbn | apply bd1 | refine bst ?_ GE116.out) | exact HB.out)) hb); clear BK116; clear HB; have BK116 := n0_; have HB := n1_; clear n0_ n1_; (try clear hb); (try clear hb2); (try clear hk); (try clear hi)))
          go_ret
          exact ⟨by first | rfl | (simp [errW_none, errW_some] <;> rfl) | (simp [*, errW_none, errW_some] <;> rfl), by repeat (first | (with_reducible first | exact HB.out | apply below_alloc | apply pbn | apply bd1 | refine bst ?_ GE116.out) | exact HB.out)⟩
        · rw [if_neg c21] at H
          exact absurd H (by simp)
      · rw [if_neg c20] at H
        exact absurd H (by simp)
    · rw [if_neg c18] at H
      have c18b0 : decide (0 < (l0_3.length : Int)) = false := decide_eq_false c18
      have c18b1 : decide (0 < l0_3.length) = false := decide_eq_false (by omega)
      clear c18
      obtain rfl := Option.some.inj H
      go_enter Tryz.func22, Tryz.ntmps22
      go_wp2_with (first | ((with_reducible refine gate_dst (N := 1) rfl ?_); refine box_event ?hg (N := 1) ?hd (cs := #[.bool false, .slice A0_1 l0_1.length c0_1, .bool a0_2, .slice A0_3 l0_3.length c0_3]) (t := 96) ?hr ?_; (case hd => rfl); (case hg => rfl); (case hr => first | (go_simp; done) | (go_simp; rfl)); intro gb116 hg w27 hbox hb; have n0_ := As0.mk (bsp (by repeat (first | (with_reducible first | exact HB.out | apply below_alloc | apply pbn | apply bd1) | exact HB.out)) hb); have n1_ := As0.mk (hbox); have n2_ := As0.mk ((by rw [hg]; exact (bsz (by repeat (first | (with_reducible first | exact HB.out | apply below_alloc | apply pbn | apply bd1) | exact HB.out))) : w.heap.size ≤ gb116)); have n3_ := As0.mk ((by rw [hg]; exact (bsz (by repeat (first | (with_reducible first | exact HB.out | apply below_alloc | apply pbn | apply bd1) | exact HB.out))) : w.heap.size ≤ gb116)); clear HB; have HB := n0_; have BK116 := n1_; have GW116 := n2_; have GE116 := n3_; clear n0_ n1_ n2_ n3_; clear hb hbox hg; have hcz28_0 : w27.cell? ⟨gb116, 0, none⟩ = some (.bool false) := (blk_cell BK116.out 0).trans rfl; have hcz28_1 : w27.cell? ⟨gb116, 1, none⟩ = some (.slice A0_1 l0_1.length c0_1) := (blk_cell BK116.out 1).trans rfl; have hcz28_2 : w27.cell? ⟨gb116, 2, none⟩ = some (.bool a0_2) := (blk_cell BK116.out 2).trans rfl; have hcz28_3 : w27.cell? ⟨gb116, 3, none⟩ = some (.slice A0_3 l0_3.length c0_3) := (blk_cell BK116.out 3).trans rfl; have hfz28_0 := kfz BK116.out 0; have hfz28_1 := kfz BK116.out 1; have hfz28_2 := kfz BK116.out 2; have hfz28_3 := kfz BK116.out 3) | ((with_reducible refine gate_callee (f := 43) rfl ?_); refine goesL_ (some 6) rfl rfl Tryz.func43 (by kernel_rfl) rfl #[.agg #[.bool false, .slice A0_1 l0_1.length c0_1]] rfl (by (try simp only [List.map_toArray, List.map_cons, List.map_nil]); first | done | rfl | (simp only [List.length_drop, List.length_take]; rfl)) ?_; (with_reducible refine (nDg.calls k false (fun k_ => k_ < w.heap.size) _ _ l0_1 t117 _ ?side1 A2.out).mono ?_); (case side1 => exact Kd.V_mk HC0_1.out (Kd.F_below (Kd.C_F (Kd.heap_int .u32) HR0_1.out) (by repeat (first | (with_reducible first | exact HB.out | apply below_alloc | apply pbn | apply bd1 | refine bst ?_ GE116.out) | exact HB.out)))); rintro e w29 ⟨rfl, hb⟩; refine ⟨_, rfl, ?_⟩; have n0_ := As0.mk (blk_below (g := gb116) (o := .cells #[.bool false, .slice A0_1 l0_1.length c0_1, .bool a0_2, .slice A0_3 l0_3.length c0_3] 96 (0, 0)) (by (with_reducible repeat (first | refine kdn ?_ _ | refine kdw ?_ | refine kal ?_ _)); exact BK116.out) hb); have n1_ := As0.mk (bsp (by repeat (first | (with_reducible first | exact HB.out | apply below_alloc | apply pbn | apply bd1 | refine bst ?_ GE116.out) | exact HB.out)) hb); clear BK116; clear HB; have BK116 := n0_; have HB := n1_; clear n0_ n1_; (try clear hb); (try clear hb2); (try clear hk); (try clear hi); have hcz30_0 : w29.cell? ⟨gb116, 0, none⟩ = some (.bool false) := (blk_cell BK116.out 0).trans rfl; have hcz30_1 : w29.cell? ⟨gb116, 1, none⟩ = some (.slice A0_1 l0_1.length c0_1) := (blk_cell BK116.out 1).trans rfl; have hcz30_2 : w29.cell? ⟨gb116, 2, none⟩ = some (.bool a0_2) := (blk_cell BK116.out 2).trans rfl; have hcz30_3 : w29.cell? ⟨gb116, 3, none⟩ = some (.slice A0_3 l0_3.length c0_3) := (blk_cell BK116.out 3).trans rfl; have hfz30_0 := kfz BK116.out 0; have hfz30_1 := kfz BK116.out 1; have hfz30_2 := kfz BK116.out 2; have hfz30_3 := kfz BK116.out 3))
      go_ret
      exact ⟨by first | rfl | (simp [errW_none, errW_some] <;> rfl) | (simp [*, errW_none, errW_some] <;> rfl), by repeat (first | (with_reducible first | exact HB.out | apply below_alloc | apply pbn | apply bd1 | refine bst ?_ GE116.out) | exact HB.out)⟩
def sosoptnum_trim.l0 : Nat → List Int → Option (List Int)
  | 0, _ => none
  | k + 1, x0 => if (x0.length : Int) > 0 then (if 0 ≤ (wrap64 ((x0.length : Int) - 1)) then (if (wrap64 ((x0.length : Int) - 1)) < (x0.length : Int) then (if (rd x0 (wrap64 ((x0.length : Int) - 1))) = 0 then (if (wrap64 ((x0.length : Int) - 1)) ≤ (x0.length : Int) then (sosoptnum_trim.l0 k (x0.take ((wrap64 ((x0.length : Int) - 1)) : Int).toNat)) else (none)) else (some x0)) else (none)) else (none)) else (some x0)
def sosoptnum_trim.f (k : Nat) (l0 : List Int) : Option (List Int) := sosoptnum_trim.l0 k l0
set_option maxHeartbeats 8000000 in
set_option maxRecDepth 100000 in
theorem sosoptnum_trim.calls (k : Nat) (P0_ : Nat → Prop) (A0 : Option Addr) (c0 : Nat) (l0 : List Int) (r : List Int) (w : World) (hs0 : Kd.V (Kd.int .u32) 143 w w.heap.size (fun k_ => P0_ k_) (.slice A0 l0.length c0) l0) (h : sosoptnum_trim.f k l0 = some r) :
    Calls Tryz.prog 96 #[.slice A0 l0.length c0] w fun e w' => ∃ v0_ : Value, e = .returned (v0_) ∧ Kd.V (Kd.int .u32) 143 w' w.heap.size (fun k_ => (P0_ k_ ∨ w.heap.size ≤ k_)) v0_ r ∧ Below w.heap.size w w' := by
  have HO0 := As0.mk (show Kd.V (Kd.int .u32) 143 w w.heap.size (fun k_ => (P0_ k_ ∨ w.heap.size ≤ k_)) (.slice A0 l0.length c0) l0 from Kd.V_mono hs0 (fun k_ hk => .inl hk))
  have HB := As0.mk (Below.refl w.heap.size w)
  have H : (sosoptnum_trim.l0 k l0) = some r := h
  clear h
  have H' := As0.mk H
  clear H
  go_enter Tryz.func96, Tryz.ntmps96
  go_wp2
  go_loopg [0] k (fun kq v0 w' => ∃ (x0_1 : List Int), As0 (sosoptnum_trim.l0 kq x0_1 = some r) ∧ As0 (kq ≤ k) ∧ As0 (Kd.V (Kd.int .u32) 143 w' w.heap.size (fun k_ => (P0_ k_ ∨ w.heap.size ≤ k_)) v0 x0_1) ∧ As0 (Below w.heap.size w w'))
  case atStart => exact ⟨(l0), H', ⟨Nat.le_refl _⟩, ⟨by (with_reducible repeat (first | apply Kd.V_alloc | apply Kd.V_drewN | apply Kd.V_drew)); exact HO0.out⟩, ⟨by repeat (first | (with_reducible first | exact HB.out | apply below_alloc | apply pbn | apply bd1) | exact HB.out)⟩⟩
  case round =>
    clear H'
    obtain ⟨x0_1, HA, HK1, HO_0, HB⟩ := hrel
    cases gk with
    | zero => exact absurd HA.out (by simp [sosoptnum_trim.l0])
    | succ k1 =>
      have H := HA.out
      clear HA
      simp only [sosoptnum_trim.l0] at H
      by_cases c2 : (x0_1.length : Int) > 0
      · rw [if_pos c2] at H
        have c2b0 : decide (0 < (x0_1.length : Int)) = true := decide_eq_true c2
        have c2b1 : decide (0 < x0_1.length) = true := decide_eq_true (by omega)
        clear c2
        obtain ⟨ji3, hji3⟩ : ∃ j_ : Int, (wrap64 ((x0_1.length : Int) - 1)) = j_ := ⟨_, rfl⟩
        replace H : (if 0 ≤ (ji3) then (if (ji3) < (x0_1.length : Int) then (if (rd x0_1 (ji3)) = 0 then (if (ji3) ≤ (x0_1.length : Int) then (sosoptnum_trim.l0 k1 (x0_1.take ((ji3) : Int).toNat)) else (none)) else (some x0_1)) else (none)) else (none)) = some r := by first | (rw [hji3] at H; exact H) | (simp only [hji3] at H ⊢; exact H)
        have hji3w : (IntKind.i64.wrap ((x0_1.length : Int) - 1)) = ji3 := (i64_w _).trans hji3
        by_cases c4 : 0 ≤ (ji3)
        · rw [if_pos c4] at H
          have c4b0 : decide (0 ≤ (ji3)) = true := decide_eq_true c4
          clear c4
          by_cases c5 : (ji3) < (x0_1.length : Int)
          · rw [if_pos c5] at H
            have c5b0 : decide ((ji3) < (x0_1.length : Int)) = true := decide_eq_true c5
            clear c5
            by_cases c6 : (rd x0_1 (ji3)) = 0
            · rw [if_pos c6] at H
              have c6b0 : ((rd x0_1 (ji3)) == 0) = true := beq_iff_eq.mpr c6
              have c6b1 : ((rd x0_1 (ji3)) != 0) = false := bne_eq_false_iff_eq.mpr c6
              clear c6
              have c7b0 := eq_true (of_decide_eq_true (by first | (with_reducible assumption) | assumption) : 0 ≤ (ji3))
              by_cases c8 : (ji3) ≤ (x0_1.length : Int)
              · rw [if_pos c8] at H
                have c8b0 := eq_true c8
                have c8b1 : decide ((ji3) ≤ (x0_1.length : Int)) = true := decide_eq_true c8
                clear c8
                obtain ⟨y121, hy121⟩ : ∃ y_ : List Int, y_ = (x0_1.take ((ji3) : Int).toNat) := ⟨_, rfl⟩
                replace H : (sosoptnum_trim.l0 k1 y121) = some r := by first | (rw [hy121]; with_reducible exact H) | (have H2_ := (Option.bind_some _ _).symm.trans H; rw [hy121]; with_reducible exact H2_) | (have H2_ := (Option.bind_some _ _).symm.trans H; with_reducible exact H2_) | with_reducible exact H | (rw [hy121]; exact H) | exact H
                have Ny121 := As0.mk hy121
                clear hy121
                have H' := As0.mk H
                clear H
                obtain ⟨Ao9, co9, eo9⟩ := Kd.V_slice HO_0.out
                subst eo9
                have p120 : 0 ≤ ((ji3) : Int) := of_decide_eq_true (by first | (with_reducible assumption) | assumption)
                have q120 : (ji3) < (x0_1.length : Int) := of_decide_eq_true (by first | (with_reducible assumption) | assumption)
                obtain ⟨ad120, e120, hx120_0⟩ := Kd.at_int (Kd.V_reads' HO_0.out).2.2 (ji3) p120 q120
                cases e120
                replace p120 := eq_true p120
                replace q120 := eq_true q120
                have q10 : ((ji3) : Int) ≤ ((x0_1.length : Int) : Int) := of_decide_eq_true (by first | (with_reducible assumption) | assumption)
                obtain ⟨i010, hi010, _, hsz10, _⟩ := info_parts info143
                have hroom10 : x0_1.length ≤ co9 := (Kd.V_reads' HO_0.out).2.1
                have hC10 : Kd.F (Kd.int .u32) _ _ (some ad120) x0_1.length x0_1 := (Kd.V_at (base := w.heap.size) HO_0.out).2.2
                have hcut10 := cut_to (P := Tryz.prog) 92 143 .i64 Tryz.underlying92 hi010 (some ad120) x0_1.length co9 (ji3) (of_decide_eq_true (by first | (with_reducible assumption) | assumption)) q10 hroom10
                have hr10 := Kd.F_take (m := ((ji3) : Int).toNat) hC10 (by omega)
                have hy10 : y121.length = ((ji3) : Int).toNat := (by rw [Ny121.out, List.length_take]; omega)
                rw [← Ny121.out] at hr10
                rw [← hy10] at hcut10
                have HO125 := As0.mk (show Kd.V (Kd.int .u32) 143 _ w.heap.size _ (.slice (some ad120) y121.length co9) y121 from Kd.V_mk (by omega) hr10)
                have HC125 := As0.mk (show y121.length ≤ co9 from by omega)
                clear hr10 hC10 hroom10 hi010 hsz10
                have KY10 := As0.mk hy10
                clear hy10
                replace q10 := eq_true q10
                go_wp2
                go_roundg k1
                case measure => have := HK1.out; omega
                case rel => exact ⟨(y121), H', ⟨by have := HK1.out; omega⟩, ⟨by (with_reducible repeat (first | apply Kd.V_alloc | apply Kd.V_drewN | apply Kd.V_drew)); exact HO125.out⟩, ⟨by repeat (first | (with_reducible first | exact HB.out | apply below_alloc | apply pbn | apply bd1) | exact HB.out)⟩⟩
              · rw [if_neg c8] at H
                exact absurd H (by simp)
            · rw [if_neg c6] at H
              have c6b0 : ((rd x0_1 (ji3)) == 0) = false := beq_eq_false_iff_ne.mpr c6
              have c6b1 : ((rd x0_1 (ji3)) != 0) = true := bne_iff_ne.mpr c6
              obtain rfl := Option.some.inj H
              obtain ⟨Ao11, co11, eo11⟩ := Kd.V_slice HO_0.out
              subst eo11
              have p120 : 0 ≤ ((ji3) : Int) := of_decide_eq_true (by first | (with_reducible assumption) | assumption)
              have q120 : (ji3) < (x0_1.length : Int) := of_decide_eq_true (by first | (with_reducible assumption) | assumption)
              obtain ⟨ad120, e120, hx120_0⟩ := Kd.at_int (Kd.V_reads' HO_0.out).2.2 (ji3) p120 q120
              cases e120
              replace p120 := eq_true p120
              replace q120 := eq_true q120
              go_wp2
              go_ret
              exact ⟨_, by first | rfl | (simp [errW_none, errW_some] <;> rfl) | (simp only [← hji3]; first | rfl | (simp [errW_none, errW_some] <;> rfl)) | (simp [*, errW_none, errW_some] <;> rfl), by (with_reducible repeat (first | apply Kd.V_alloc | apply Kd.V_drewN | apply Kd.V_drew)); exact HO_0.out, by repeat (first | (with_reducible first | exact HB.out | apply below_alloc | apply pbn | apply bd1) | exact HB.out)⟩
          · rw [if_neg c5] at H
            exact absurd H (by simp)
        · rw [if_neg c4] at H
          exact absurd H (by simp)
      · rw [if_neg c2] at H
        have c2b0 : decide (0 < (x0_1.length : Int)) = false := decide_eq_false c2
        have c2b1 : decide (0 < x0_1.length) = false := decide_eq_false (by omega)
        clear c2
        obtain rfl := Option.some.inj H
        obtain ⟨Ao12, co12, eo12⟩ := Kd.V_slice HO_0.out
        subst eo12
        go_wp2
        go_ret
        exact ⟨_, by first | rfl | (simp [errW_none, errW_some] <;> rfl) | (simp [*, errW_none, errW_some] <;> rfl), by (with_reducible repeat (first | apply Kd.V_alloc | apply Kd.V_drewN | apply Kd.V_drew)); exact HO_0.out, by repeat (first | (with_reducible first | exact HB.out | apply below_alloc | apply pbn | apply bd1) | exact HB.out)⟩
mutual
def nFD.l0 : Nat → ByteArray → List Int → Int → Option (Bool × List Int × Bool)
  | 0, _, _, _ => none
  | k + 1, x0, x4, x5 => if x5 < (x0.size : Int) then (nFD.l1 k x0 x4 x5 0 1 0) else ((nM1.f false x4).bind fun bt127 => (some (bt127.1, bt127.2, (!x0.toList.isEmpty))))
def nFD.l1 : Nat → ByteArray → List Int → Int → Int → Int → Int → Option (Bool × List Int × Bool)
  | 0, _, _, _, _, _, _ => none
  | k + 1, x0, x4, x5, x6, x7, x8 => if x8 < 9 then (nFD.j2 k x0 x4 x5 x6 x7 x8 (decide (x5 < (x0.size : Int)))) else (nFD.j2 k x0 x4 x5 x6 x7 x8 false)
def nFD.j2 : Nat → ByteArray → List Int → Int → Int → Int → Int → Bool → Option (Bool × List Int × Bool)
  | 0, _, _, _, _, _, _, _ => none
  | k + 1, x0, x4, x5, x6, x7, x8, x20 => if x20 = true then (if 0 ≤ x5 then (if x5 < (x0.size : Int) then (if (bt x0 x5) < 48 then (some (false, ([] : List Int), false)) else (if (bt x0 x5) > 57 then (some (false, ([] : List Int), false)) else (nFD.l1 k x0 x4 (wrap64 (x5 + 1)) ((((x6 * 10) % 4294967296) + (((bt x0 x5) - 48) % 256)) % 4294967296) ((x7 * 10) % 4294967296) (wrap64 (x8 + 1))))) else (none)) else (none)) else ((sosoptnum_mulMag.f x4 (([x7] : List Int))).bind fun t134 => ((sosoptnum_trim.f k (([x6] : List Int))).bind fun t140 => ((sosoptnum_addMag.f t134 t140).bind fun t143 => (nFD.l0 k x0 t143 x5))))
end
def nFD.f (k : Nat) (a0 : ByteArray) : Option (Bool × List Int × Bool) := nFD.l0 k a0 ([] : List Int) 0
set_option maxHeartbeats 8000000 in
set_option maxRecDepth 100000 in
theorem nFD.calls (k : Nat) (a0 : ByteArray) (r1 : Bool) (r2 : List Int) (r3 : Bool) (w : World) (h : nFD.f k a0 = some (r1, r2, r3)) :
    Calls Tryz.prog 137 #[.string a0] w fun e w' => ∃ v1_ : Value, e = .returned (.tuple #[.agg #[.bool r1, v1_], .bool r3]) ∧ Kd.V (Kd.int .u32) 143 w' w.heap.size (fun k_ => (w.heap.size ≤ k_)) v1_ r2 ∧ Below w.heap.size w w' := by
  have hu94 := Tryz.underlying94
  have HB := As0.mk (Below.refl w.heap.size w)
  have H : (nFD.l0 k a0 ([] : List Int) 0) = some (r1, r2, r3) := h
  clear h
  have H' := As0.mk H
  clear H
  go_enter Tryz.func137, Tryz.ntmps137
  go_wp2_with (first | ((with_reducible refine gate_dst (N := 2) rfl ?_); (try (refine gate_guard (by rfl) ?_; dsimp only)); refine box_event ?hg (N := 2) ?hd (cs := #[.bool false, .slice none 0 0]) (t := 94) ?hr ?_; (case hd => rfl); (case hg => rfl); (case hr => first | (go_simp; done) | (go_simp; rfl)); intro gb126 hg w2 hbox hb; have n0_ := As0.mk (bsp (by repeat (first | (with_reducible first | exact HB.out | apply below_alloc | apply pbn | apply bd1) | exact HB.out)) hb); have n1_ := As0.mk (hbox); have n2_ := As0.mk ((by rw [hg]; exact (bsz (by repeat (first | (with_reducible first | exact HB.out | apply below_alloc | apply pbn | apply bd1) | exact HB.out))) : w.heap.size ≤ gb126)); have n3_ := As0.mk ((by rw [hg]; exact (bsz (by repeat (first | (with_reducible first | exact HB.out | apply below_alloc | apply pbn | apply bd1) | exact HB.out))) : w.heap.size ≤ gb126)); clear HB; have HB := n0_; have BK126 := n1_; have GW126 := n2_; have GE126 := n3_; clear n0_ n1_ n2_ n3_; clear hb hbox hg))
  go_loopg [4, 5] k (fun kq v4 v5 w' => ∃ (x4_1 : List Int) (x5_1 : Int) (x127000_1 : Bool), v5 = .int .i64 x5_1 ∧ As0 (nFD.l0 kq a0 x4_1 x5_1 = some (r1, r2, r3)) ∧ As0 (kq ≤ k) ∧ As0 (Kd.V (Kd.int .u32) 143 w' w.heap.size (fun k_ => (w.heap.size ≤ k_) ∧ k_ ≠ gb126) v4 x4_1) ∧ As0 (w'.heap[gb126]? = some (.cells #[.bool x127000_1, (.slice none 0 0)] 94 (0, 0))) ∧ As0 (Below w.heap.size w w'))
  case atStart => exact ⟨(([] : List Int)), (0), (false), (by first | rfl | (simp; done) | (simp [*]; done)), H', ⟨Nat.le_refl _⟩, ⟨(Kd.V_nil _ _ _ _ _)⟩, ⟨by (with_reducible repeat (first | refine kdn ?_ _ | refine kdw ?_ | refine kal ?_ _)); exact BK126.out⟩, ⟨by repeat (first | (with_reducible first | exact HB.out | apply below_alloc | apply pbn | apply bd1 | refine bst ?_ GE126.out) | exact HB.out)⟩⟩
  case round =>
    clear H'
    try clear c1
    try clear p2
    obtain ⟨x4_1, x5_1, x127000_1, rfl, HA, HK1, HO_4, BK126, HB⟩ := hrel
    cases gk with
    | zero => exact absurd HA.out (by simp [nFD.l0])
    | succ k1 =>
      have H := HA.out
      clear HA
      simp only [nFD.l0] at H
      by_cases c3 : x5_1 < (a0.size : Int)
      · rw [if_pos c3] at H
        have c3b0 : decide (x5_1 < (a0.size : Int)) = true := decide_eq_true c3
        clear c3
        have H' := As0.mk H
        clear H
        go_wp2
        go_loopg [5, 6, 7, 8] k1 (fun kq v5 v6 v7 v8 w' => ∃ (x5_2 : Int) (x6_2 : Int) (x7_2 : Int) (x8_2 : Int) (x127000_2 : Bool), v5 = .int .i64 x5_2 ∧ v6 = .int .u32 x6_2 ∧ v7 = .int .u32 x7_2 ∧ v8 = .int .i64 x8_2 ∧ As0 (nFD.l1 kq a0 x4_1 x5_2 x6_2 x7_2 x8_2 = some (r1, r2, r3)) ∧ As0 (kq ≤ k1) ∧ As0 (Kd.V (Kd.int .u32) 143 w' w.heap.size (fun k_ => (w.heap.size ≤ k_) ∧ k_ ≠ gb126) u4 x4_1) ∧ As0 (w'.heap[gb126]? = some (.cells #[.bool x127000_2, (.slice none 0 0)] 94 (0, 0))) ∧ As0 (Below w.heap.size w w'))
        case atStart => exact ⟨(x5_1), (0), (1), (0), (x127000_1), (by first | rfl | (simp; done) | (simp [*]; done)), (by first | rfl | (simp; done) | (simp [*]; done)), (by first | rfl | (simp; done) | (simp [*]; done)), (by first | rfl | (simp; done) | (simp [*]; done)), H', ⟨Nat.le_refl _⟩, ⟨by (with_reducible repeat (first | apply Kd.V_alloc | apply Kd.V_drewN | apply Kd.V_drew)); exact HO_4.out⟩, ⟨by (with_reducible repeat (first | refine kdn ?_ _ | refine kdw ?_ | refine kal ?_ _)); exact BK126.out⟩, ⟨by repeat (first | (with_reducible first | exact HB.out | apply below_alloc | apply pbn | apply bd1 | refine bst ?_ GE126.out) | exact HB.out)⟩⟩
        case round =>
          clear H'
          try clear c1
          try clear p2
          try clear c3
          try clear c3b0
          try clear p2
          obtain ⟨x5_2, x6_2, x7_2, x8_2, x127000_2, rfl, rfl, rfl, rfl, HA, HK2, HO_4, BK126, HB⟩ := hrel
          cases gk with
          | zero => exact absurd HA.out (by simp [nFD.l1])
          | succ k2 =>
            have H := HA.out
            clear HA
            simp only [nFD.l1] at H
            have HC4 := As0.mk H
            clear H
            go_upto_region 6 with (fail)
            go_cut [20] (fun v20 wc => ∃ (kq : Nat) (x20_3 : Bool), v20 = .bool x20_3 ∧ As0 (nFD.j2 kq a0 x4_1 x5_2 x6_2 x7_2 x8_2 x20_3 = some (r1, r2, r3)) ∧ As0 (kq ≤ k2) ∧ As0 (Kd.V (Kd.int .u32) 143 wc w.heap.size (fun k_ => (w.heap.size ≤ k_) ∧ k_ ≠ gb126) u4 x4_1) ∧ As0 (wc.heap[gb126]? = some (.cells #[.bool x127000_2, (.slice none 0 0)] 94 (0, 0))) ∧ As0 (Below w.heap.size w wc))
            case first =>
              have H := HC4.out
              clear HC4
              by_cases c5 : x8_2 < 9
              · rw [if_pos c5] at H
                have c5b0 : decide (x8_2 < 9) = true := decide_eq_true c5
                clear c5
                (first | rw [c5b0] | (simp only [i64_w, i32_w]; rw [c5b0]) | skip)
                have H' := As0.mk H
                clear H
                go_wp2
                go_meet
                case rel => exact ⟨_, (decide (x5_2 < (a0.size : Int))), (by first | rfl | (simp; done) | (simp [*]; done)), H', ⟨by have := HK1.out; have := HK2.out; first | omega | exact Nat.le_refl _⟩, ⟨by (with_reducible repeat (first | apply Kd.V_alloc | apply Kd.V_drewN | apply Kd.V_drew)); exact HO_4.out⟩, ⟨by (with_reducible repeat (first | refine kdn ?_ _ | refine kdw ?_ | refine kal ?_ _)); exact BK126.out⟩, ⟨by repeat (first | (with_reducible first | exact HB.out | apply below_alloc | apply pbn | apply bd1 | refine bst ?_ GE126.out) | exact HB.out)⟩⟩
              · rw [if_neg c5] at H
                have c5b0 : decide (x8_2 < 9) = false := decide_eq_false c5
                clear c5
                (first | rw [c5b0] | (simp only [i64_w, i32_w]; rw [c5b0]) | skip)
                have H' := As0.mk H
                clear H
                go_wp2
                go_meet
                case rel => exact ⟨_, (false), (by first | rfl | (simp; done) | (simp [*]; done)), H', ⟨by have := HK1.out; have := HK2.out; first | omega | exact Nat.le_refl _⟩, ⟨by (with_reducible repeat (first | apply Kd.V_alloc | apply Kd.V_drewN | apply Kd.V_drew)); exact HO_4.out⟩, ⟨by (with_reducible repeat (first | refine kdn ?_ _ | refine kdw ?_ | refine kal ?_ _)); exact BK126.out⟩, ⟨by repeat (first | (with_reducible first | exact HB.out | apply below_alloc | apply pbn | apply bd1 | refine bst ?_ GE126.out) | exact HB.out)⟩⟩
            case rest =>
              clear HC4
              try clear c1
              try clear p2
              try clear c3
              try clear c3b0
              try clear c5
              try clear c5b0
              try clear p2
              obtain ⟨kq, x20_3, rfl, HA, HJ3, HO_4, BK126, HB⟩ := hcut
              cases kq with
              | zero => exact absurd HA.out (by simp [nFD.j2])
              | succ kj3 =>
                have H := HA.out
                clear HA
                simp only [nFD.j2] at H
                by_cases c6 : x20_3 = true
                · subst c6
                  have H1 : (if 0 ≤ x5_2 then (if x5_2 < (a0.size : Int) then (if (bt a0 x5_2) < 48 then (some (false, ([] : List Int), false)) else (if (bt a0 x5_2) > 57 then (some (false, ([] : List Int), false)) else (nFD.l1 kj3 a0 x4_1 (wrap64 (x5_2 + 1)) ((((x6_2 * 10) % 4294967296) + (((bt a0 x5_2) - 48) % 256)) % 4294967296) ((x7_2 * 10) % 4294967296) (wrap64 (x8_2 + 1))))) else (none)) else (none)) = some (r1, r2, r3) := by rw [if_pos rfl] at H; exact H
                  clear H
                  have H := H1
                  clear H1
                  by_cases c7 : 0 ≤ x5_2
                  · rw [if_pos c7] at H
                    have c7b0 : decide (0 ≤ x5_2) = true := decide_eq_true c7
                    clear c7
                    by_cases c8 : x5_2 < (a0.size : Int)
                    · rw [if_pos c8] at H
                      have c8b0 : decide (x5_2 < (a0.size : Int)) = true := decide_eq_true c8
                      clear c8
                      by_cases c10 : (bt a0 x5_2) < 48
                      · rw [if_pos c10] at H
                        have c10b0 : decide ((bt a0 x5_2) < 48) = true := decide_eq_true c10
                        clear c10
                        simp only [Option.some.injEq, Prod.mk.injEq] at H
                        obtain ⟨rfl, rfl, rfl⟩ := H
                        have p9 : 0 ≤ (x5_2 : Int) := of_decide_eq_true (by first | (with_reducible assumption) | assumption)
                        have q9 : x5_2 < (a0.size : Int) := of_decide_eq_true (by first | (with_reducible assumption) | assumption)
                        have hx9 := bt_at a0 x5_2
                        replace p9 := eq_true p9
                        replace q9 := eq_true q9
                        have hcz11_0 : wc.cell? ⟨gb126, 0, none⟩ = some (.bool x127000_2) := (blk_cell BK126.out 0).trans rfl
                        have hcz11_1 : wc.cell? ⟨gb126, 1, none⟩ = some (.slice none 0 0) := (blk_cell BK126.out 1).trans rfl
                        have hfz11_0 := kfz BK126.out 0
                        have hfz11_1 := kfz BK126.out 1
                        go_wp2
                        refine bodyPost_ret (results_ct rfl _ _ gb126 94 #[.bool false, .slice none 0 0] (0, 0) _ rfl (by (with_reducible repeat (first | refine kdn ?_ _ | refine kdw ?_ | refine kal ?_ _)); refine blk_put (cs := #[.bool false, .slice none 0 0]) ?_ 1 _ rfl; (with_reducible repeat (first | refine kdn ?_ _ | refine kdw ?_ | refine kal ?_ _)); refine blk_put (cs := #[.bool x127000_2, .slice none 0 0]) ?_ 0 _ rfl; (with_reducible repeat (first | refine kdn ?_ _ | refine kdw ?_ | refine kal ?_ _)); exact BK126.out) Tryz.underlying94 rfl (by kernel_rfl)) rfl ?_
                        exact ⟨_, by first | rfl | (simp [errW_none, errW_some] <;> rfl) | (simp [*, errW_none, errW_some] <;> rfl), (Kd.V_nil _ _ _ _ _), by repeat (first | (with_reducible first | exact HB.out | apply below_alloc | apply pbn | apply bd1 | refine bst ?_ GE126.out) | exact HB.out)⟩
                      · rw [if_neg c10] at H
                        have c10b0 : decide ((bt a0 x5_2) < 48) = false := decide_eq_false c10
                        clear c10
                        by_cases c13 : (bt a0 x5_2) > 57
                        · rw [if_pos c13] at H
                          have c13b0 : decide (57 < (bt a0 x5_2)) = true := decide_eq_true c13
                          clear c13
                          simp only [Option.some.injEq, Prod.mk.injEq] at H
                          obtain ⟨rfl, rfl, rfl⟩ := H
                          have p9 : 0 ≤ (x5_2 : Int) := of_decide_eq_true (by first | (with_reducible assumption) | assumption)
                          have q9 : x5_2 < (a0.size : Int) := of_decide_eq_true (by first | (with_reducible assumption) | assumption)
                          have hx9 := bt_at a0 x5_2
                          replace p9 := eq_true p9
                          replace q9 := eq_true q9
                          have p12 : 0 ≤ (x5_2 : Int) := of_decide_eq_true (by first | (with_reducible assumption) | assumption)
                          have q12 : x5_2 < (a0.size : Int) := of_decide_eq_true (by first | (with_reducible assumption) | assumption)
                          have hx12 := bt_at a0 x5_2
                          replace p12 := eq_true p12
                          replace q12 := eq_true q12
                          have hcz14_0 : wc.cell? ⟨gb126, 0, none⟩ = some (.bool x127000_2) := (blk_cell BK126.out 0).trans rfl
                          have hcz14_1 : wc.cell? ⟨gb126, 1, none⟩ = some (.slice none 0 0) := (blk_cell BK126.out 1).trans rfl
                          have hfz14_0 := kfz BK126.out 0
                          have hfz14_1 := kfz BK126.out 1
                          go_wp2
                          refine bodyPost_ret (results_ct rfl _ _ gb126 94 #[.bool false, .slice none 0 0] (0, 0) _ rfl (by (with_reducible repeat (first | refine kdn ?_ _ | refine kdw ?_ | refine kal ?_ _)); refine blk_put (cs := #[.bool false, .slice none 0 0]) ?_ 1 _ rfl; (with_reducible repeat (first | refine kdn ?_ _ | refine kdw ?_ | refine kal ?_ _)); refine blk_put (cs := #[.bool x127000_2, .slice none 0 0]) ?_ 0 _ rfl; (with_reducible repeat (first | refine kdn ?_ _ | refine kdw ?_ | refine kal ?_ _)); exact BK126.out) Tryz.underlying94 rfl (by kernel_rfl)) rfl ?_
                          exact ⟨_, by first | rfl | (simp [errW_none, errW_some] <;> rfl) | (simp [*, errW_none, errW_some] <;> rfl), (Kd.V_nil _ _ _ _ _), by repeat (first | (with_reducible first | exact HB.out | apply below_alloc | apply pbn | apply bd1 | refine bst ?_ GE126.out) | exact HB.out)⟩
                        · rw [if_neg c13] at H
                          have c13b0 : decide (57 < (bt a0 x5_2)) = false := decide_eq_false c13
                          clear c13
                          have H' := As0.mk H
                          clear H
                          have p9 : 0 ≤ (x5_2 : Int) := of_decide_eq_true (by first | (with_reducible assumption) | assumption)
                          have q9 : x5_2 < (a0.size : Int) := of_decide_eq_true (by first | (with_reducible assumption) | assumption)
                          have hx9 := bt_at a0 x5_2
                          replace p9 := eq_true p9
                          replace q9 := eq_true q9
                          have p12 : 0 ≤ (x5_2 : Int) := of_decide_eq_true (by first | (with_reducible assumption) | assumption)
                          have q12 : x5_2 < (a0.size : Int) := of_decide_eq_true (by first | (with_reducible assumption) | assumption)
                          have hx12 := bt_at a0 x5_2
                          replace p12 := eq_true p12
                          replace q12 := eq_true q12
                          have p15 : 0 ≤ (x5_2 : Int) := of_decide_eq_true (by first | (with_reducible assumption) | assumption)
                          have q15 : x5_2 < (a0.size : Int) := of_decide_eq_true (by first | (with_reducible assumption) | assumption)
                          have hx15 := bt_at a0 x5_2
                          replace p15 := eq_true p15
                          replace q15 := eq_true q15
                          go_wp2
                          go_roundg kj3
                          case measure => have := HK1.out; have := HK2.out; have := HJ3.out; omega
                          case rel => exact ⟨(wrap64 (x5_2 + 1)), ((((x6_2 * 10) % 4294967296) + (((bt a0 x5_2) - 48) % 256)) % 4294967296), ((x7_2 * 10) % 4294967296), (wrap64 (x8_2 + 1)), (x127000_2), (by first | rfl | (simp; done) | (simp [*]; done)), (by first | rfl | (simp; done) | (simp [*]; done)), (by first | rfl | (simp; done) | (simp [*]; done)), (by first | rfl | (simp; done) | (simp [*]; done)), H', ⟨by have := HK1.out; have := HK2.out; have := HJ3.out; omega⟩, ⟨by (with_reducible repeat (first | apply Kd.V_alloc | apply Kd.V_drewN | apply Kd.V_drew)); exact HO_4.out⟩, ⟨by (with_reducible repeat (first | refine kdn ?_ _ | refine kdw ?_ | refine kal ?_ _)); exact BK126.out⟩, ⟨by repeat (first | (with_reducible first | exact HB.out | apply below_alloc | apply pbn | apply bd1 | refine bst ?_ GE126.out) | exact HB.out)⟩⟩
                    · rw [if_neg c8] at H
                      exact absurd H (by simp)
                  · rw [if_neg c7] at H
                    exact absurd H (by simp)
                · replace c6 := Bool.eq_false_iff.mpr c6
                  subst c6
                  have H1 : ((sosoptnum_mulMag.f x4_1 (([x7_2] : List Int))).bind fun t134 => ((sosoptnum_trim.f kj3 (([x6_2] : List Int))).bind fun t140 => ((sosoptnum_addMag.f t134 t140).bind fun t143 => (nFD.l0 kj3 a0 t143 x5_2)))) = some (r1, r2, r3) := by rw [if_neg (show ¬ (false = true) by decide)] at H; exact H
                  clear H
                  have H := H1
                  clear H1
                  obtain ⟨y131, hy131⟩ : ∃ y_ : List Int, y_ = (([x7_2] : List Int)) := ⟨_, rfl⟩
                  replace H : ((sosoptnum_mulMag.f x4_1 y131).bind fun t134 => ((sosoptnum_trim.f kj3 (([x6_2] : List Int))).bind fun t140 => ((sosoptnum_addMag.f t134 t140).bind fun t143 => (nFD.l0 kj3 a0 t143 x5_2)))) = some (r1, r2, r3) := by first | (rw [hy131]; with_reducible exact H) | (have H2_ := (Option.bind_some _ _).symm.trans H; rw [hy131]; with_reducible exact H2_) | (have H2_ := (Option.bind_some _ _).symm.trans H; with_reducible exact H2_) | with_reducible exact H | (rw [hy131]; exact H) | exact H
                  have Ny131 := As0.mk hy131
                  clear hy131
                  replace H := Option.bind_eq_some_iff.mp H
                  obtain ⟨t134, A160, H⟩ := H
                  replace H : ((sosoptnum_trim.f kj3 (([x6_2] : List Int))).bind fun t140 => ((sosoptnum_addMag.f t134 t140).bind fun t143 => (nFD.l0 kj3 a0 t143 x5_2))) = some (r1, r2, r3) := H
                  have A16 := As0.mk A160
                  clear A160
                  obtain ⟨y137, hy137⟩ : ∃ y_ : List Int, y_ = (([x6_2] : List Int)) := ⟨_, rfl⟩
                  replace H : ((sosoptnum_trim.f kj3 y137).bind fun t140 => ((sosoptnum_addMag.f t134 t140).bind fun t143 => (nFD.l0 kj3 a0 t143 x5_2))) = some (r1, r2, r3) := by first | (rw [hy137]; with_reducible exact H) | (have H2_ := (Option.bind_some _ _).symm.trans H; rw [hy137]; with_reducible exact H2_) | (have H2_ := (Option.bind_some _ _).symm.trans H; with_reducible exact H2_) | with_reducible exact H | (rw [hy137]; exact H) | exact H
                  have Ny137 := As0.mk hy137
                  clear hy137
                  replace H := Option.bind_eq_some_iff.mp H
                  obtain ⟨t140, A170, H⟩ := H
                  replace H : ((sosoptnum_addMag.f t134 t140).bind fun t143 => (nFD.l0 kj3 a0 t143 x5_2)) = some (r1, r2, r3) := H
                  have A17 := As0.mk A170
                  clear A170
                  replace H := Option.bind_eq_some_iff.mp H
                  obtain ⟨t143, A180, H⟩ := H
                  replace H : (nFD.l0 kj3 a0 t143 x5_2) = some (r1, r2, r3) := H
                  have A18 := As0.mk A180
                  clear A180
                  have H' := As0.mk H
                  clear H
                  go_wp2_with (first | ((with_reducible refine gate_dst (N := 48) rfl ?_); (try (refine gate_guard (by rfl) ?_; dsimp only)); refine Kd.R_lit (Kd.int .u32) _ 143 ?hg (N := 48) ?hd (xs := ([x7_2] : List Int)) (inner := [.int .u32 x7_2]) (ok := fun _ => True) (okp := fun _ => True) ?hr ?hp (fun _ hk => hk) trivial (Below.refl _ _) (Nat.le_refl _) (by simp) ?_; (case hd => rfl); (case hg => rfl); (case hr => first | (go_simp; done) | (go_simp; rfl)); (case hp => exact (Reps.one (show Kd.M (Kd.int .u32) _ _ _ x7_2 [.int .u32 x7_2] from rfl) (Reps.none _ _))); intro v132 w19 ho20 hb hg_ hnew_; clear hg_ hnew_; (first | rw [← Ny131.out] at ho20 | (simp only [Int.reduceToNat] at ho20; rw [← Ny131.out] at ho20)); have n0_ := As0.mk (Kd.V_elder' (by (with_reducible repeat (first | apply Kd.V_alloc | apply Kd.V_drewN | apply Kd.V_drew)); exact HO_4.out) (Kd.R_base ho20) hb); have n1_ := As0.mk (Kd.R_lower (Kd.R_newM (M := fun k_ => (w.heap.size ≤ k_)) ho20 (bsz (by repeat (first | (with_reducible first | exact HB.out | apply below_alloc | apply pbn | apply bd1 | refine bst ?_ GE126.out) | exact HB.out))) (fun k_ h_ => h_)) (bsz (by repeat (first | (with_reducible first | exact HB.out | apply below_alloc | apply pbn | apply bd1 | refine bst ?_ GE126.out) | exact HB.out)))); have n2_ := As0.mk (blk_below (g := gb126) (o := .cells #[.bool x127000_2, .slice none 0 0] 94 (0, 0)) (by (with_reducible repeat (first | refine kdn ?_ _ | refine kdw ?_ | refine kal ?_ _)); exact BK126.out) hb); have n3_ := As0.mk (bsp (by repeat (first | (with_reducible first | exact HB.out | apply below_alloc | apply pbn | apply bd1 | refine bst ?_ GE126.out) | exact HB.out)) hb); clear HO_4; clear BK126; clear HB; have HO_4 := n0_; have HO133 := n1_; have BK126 := n2_; have HB := n3_; clear n0_ n1_ n2_ n3_; clear hb ho20; obtain ⟨Ao21, co21, eo21⟩ := Kd.V_slice HO_4.out; subst eo21; obtain ⟨Ao22, co22, eo22⟩ := Kd.R_slice HO133.out; subst eo22) | ((with_reducible refine gate_callee (f := 166) rfl ?_); refine goesL_ (some 49) rfl rfl Tryz.func166 (by kernel_rfl) rfl #[.slice Ao21 x4_1.length co21, .slice Ao22 y131.length co22] rfl (by (try simp only [List.map_toArray, List.map_cons, List.map_nil]); first | done | rfl | (simp only [List.length_drop, List.length_take]; rfl)) ?_; (with_reducible refine (sosoptnum_mulMag.calls _ _ x4_1 _ _ y131 t134 _ ?side1 ?side2 ?side3 ?side4 A16.out).mono ?_); (case side1 => repeat (first | exact (Kd.V_reads' HO_4.out).2.2 | (with_reducible refine Kd.C_alloc ?_ _) | (with_reducible refine Kd.C_drewN ?_ _) | (with_reducible refine Kd.C_drew ?_))); (case side2 => exact (Kd.V_reads' HO_4.out).2.1); (case side3 => repeat (first | exact (Kd.R_reads' HO133.out).2.2 | (with_reducible refine Kd.C_alloc ?_ _) | (with_reducible refine Kd.C_drewN ?_ _) | (with_reducible refine Kd.C_drew ?_))); (case side4 => exact (Kd.R_reads' HO133.out).2.1); rintro e w23 ⟨v135, rfl, ho0, hb⟩; refine ⟨_, rfl, ?_⟩; have n0_ := As0.mk (Kd.V_below (by (with_reducible repeat (first | apply Kd.V_alloc | apply Kd.V_drewN | apply Kd.V_drew)); exact HO_4.out) hb); have n1_ := As0.mk (Kd.R_below (by (with_reducible repeat (first | apply Kd.R_alloc | apply Kd.R_drewN | apply Kd.R_drew)); exact HO133.out) hb); have n2_ := As0.mk (Kd.V_lower (Kd.V_mono (ok' := fun k_ => (w.heap.size ≤ k_) ∧ some k_ ≠ (.slice Ao22 y131.length co22 : Value).ownBlock ∧ k_ ≠ gb126) ho0 (fun k_ hk_ => ⟨(Nat.le_trans (bsz (by repeat (first | (with_reducible first | exact HB.out | apply below_alloc | apply pbn | apply bd1 | refine bst ?_ GE126.out) | exact HB.out))) hk_), (Kd.fresh' (Kd.R_lt (by (with_reducible repeat (first | apply Kd.R_alloc | apply Kd.R_drewN | apply Kd.R_drew)); exact HO133.out)) k_ hk_), (Kd.freshB (g := gb126) (o := .cells #[.bool x127000_2, .slice none 0 0] 94 (0, 0)) (by (with_reducible repeat (first | refine kdn ?_ _ | refine kdw ?_ | refine kal ?_ _)); exact BK126.out) k_ hk_)⟩)) (bsz (by repeat (first | (with_reducible first | exact HB.out | apply below_alloc | apply pbn | apply bd1 | refine bst ?_ GE126.out) | exact HB.out)))); have n3_ := As0.mk (blk_below (g := gb126) (o := .cells #[.bool x127000_2, .slice none 0 0] 94 (0, 0)) (by (with_reducible repeat (first | refine kdn ?_ _ | refine kdw ?_ | refine kal ?_ _)); exact BK126.out) hb); have n4_ := As0.mk (bsp (by repeat (first | (with_reducible first | exact HB.out | apply below_alloc | apply pbn | apply bd1 | refine bst ?_ GE126.out) | exact HB.out)) hb); clear HO_4; clear HO133; clear BK126; clear HB; have HO_4 := n0_; have HO133 := n1_; have HO136 := n2_; have BK126 := n3_; have HB := n4_; clear n0_ n1_ n2_ n3_ n4_; (try clear hb); (try clear hb2); (try clear hk); (try clear hi); (try clear ho0)) | ((with_reducible refine gate_dst (N := 51) rfl ?_); (try (refine gate_guard (by rfl) ?_; dsimp only)); refine Kd.R_lit (Kd.int .u32) _ 143 ?hg (N := 51) ?hd (xs := ([x6_2] : List Int)) (inner := [.int .u32 x6_2]) (ok := fun _ => True) (okp := fun _ => True) ?hr ?hp (fun _ hk => hk) trivial (Below.refl _ _) (Nat.le_refl _) (by simp) ?_; (case hd => rfl); (case hg => rfl); (case hr => first | (go_simp; done) | (go_simp; rfl)); (case hp => exact (Reps.one (show Kd.M (Kd.int .u32) _ _ _ x6_2 [.int .u32 x6_2] from rfl) (Reps.none _ _))); intro v138 w24 ho25 hb hg_ hnew_; clear hg_ hnew_; (first | rw [← Ny137.out] at ho25 | (simp only [Int.reduceToNat] at ho25; rw [← Ny137.out] at ho25)); have n0_ := As0.mk (Kd.V_elder' (by (with_reducible repeat (first | apply Kd.V_alloc | apply Kd.V_drewN | apply Kd.V_drew)); exact HO_4.out) (Kd.R_base ho25) hb); have n1_ := As0.mk (Kd.R_elder' (by (with_reducible repeat (first | apply Kd.R_alloc | apply Kd.R_drewN | apply Kd.R_drew)); exact HO133.out) (Kd.R_base ho25) hb); have n2_ := As0.mk (Kd.V_elder' (by (with_reducible repeat (first | apply Kd.V_alloc | apply Kd.V_drewN | apply Kd.V_drew)); exact HO136.out) (Kd.R_base ho25) hb); have n3_ := As0.mk (Kd.R_lower (Kd.R_new' (Kd.R_newM (M := fun k_ => (w.heap.size ≤ k_)) ho25 (bsz (by repeat (first | (with_reducible first | exact HB.out | apply below_alloc | apply pbn | apply bd1 | refine bst ?_ GE126.out) | exact HB.out))) (fun k_ h_ => h_)) (Kd.R_lt (by (with_reducible repeat (first | apply Kd.R_alloc | apply Kd.R_drewN | apply Kd.R_drew)); exact HO133.out))) (bsz (by repeat (first | (with_reducible first | exact HB.out | apply below_alloc | apply pbn | apply bd1 | refine bst ?_ GE126.out) | exact HB.out)))); have n4_ := As0.mk (blk_below (g := gb126) (o := .cells #[.bool x127000_2, .slice none 0 0] 94 (0, 0)) (by (with_reducible repeat (first | refine kdn ?_ _ | refine kdw ?_ | refine kal ?_ _)); exact BK126.out) hb); have n5_ := As0.mk (bsp (by repeat (first | (with_reducible first | exact HB.out | apply below_alloc | apply pbn | apply bd1 | refine bst ?_ GE126.out) | exact HB.out)) hb); clear HO_4; clear HO133; clear HO136; clear BK126; clear HB; have HO_4 := n0_; have HO133 := n1_; have HO136 := n2_; have HO139 := n3_; have BK126 := n4_; have HB := n5_; clear n0_ n1_ n2_ n3_ n4_ n5_; clear hb ho25; obtain ⟨Ao26, co26, eo26⟩ := Kd.R_slice HO139.out; subst eo26) | ((with_reducible refine gate_callee (f := 96) rfl ?_); refine goesL_ (some 52) rfl rfl Tryz.func96 (by kernel_rfl) rfl #[.slice Ao26 y137.length co26] rfl (by (try simp only [List.map_toArray, List.map_cons, List.map_nil]); first | done | rfl | (simp only [List.length_drop, List.length_take]; rfl)) ?_; (with_reducible refine (sosoptnum_trim.calls kj3 (fun k_ => some k_ = (.slice Ao26 y137.length co26 : Value).ownBlock) _ _ y137 t140 _ ?side1 A17.out).mono ?_); (case side1 => exact Kd.R_V (Kd.R_tight rfl (Kd.R_types (HO139.out) BK126.out (by decide)))); rintro e w27 ⟨v141, rfl, ho0, hb⟩; refine ⟨_, rfl, ?_⟩; have n0_ := As0.mk (Kd.V_below (by (with_reducible repeat (first | apply Kd.V_alloc | apply Kd.V_drewN | apply Kd.V_drew)); exact HO_4.out) hb); have n1_ := As0.mk (Kd.R_below (by (with_reducible repeat (first | apply Kd.R_alloc | apply Kd.R_drewN | apply Kd.R_drew)); exact HO133.out) hb); have n2_ := As0.mk (Kd.V_below (by (with_reducible repeat (first | apply Kd.V_alloc | apply Kd.V_drewN | apply Kd.V_drew)); exact HO136.out) hb); have n3_ := As0.mk (Kd.R_below (by (with_reducible repeat (first | apply Kd.R_alloc | apply Kd.R_drewN | apply Kd.R_drew)); exact HO139.out) hb); have n4_ := As0.mk (Kd.V_lower (Kd.V_mono (ok' := fun k_ => (w.heap.size ≤ k_) ∧ some k_ ≠ (.slice Ao22 y131.length co22 : Value).ownBlock ∧ k_ ≠ gb126) ho0 (fun k_ hk_ => ⟨Or.elim hk_ (fun hs_ => ((Kd.R_types (HO139.out) BK126.out (by decide)).1 k_ hs_.symm).1.1.1) (fun hn_ => (Nat.le_trans (bsz (by repeat (first | (with_reducible first | exact HB.out | apply below_alloc | apply pbn | apply bd1 | refine bst ?_ GE126.out) | exact HB.out))) hn_)), Or.elim hk_ (fun hs_ => ((Kd.R_types (HO139.out) BK126.out (by decide)).1 k_ hs_.symm).1.2) (fun hn_ => (Kd.fresh' (Kd.R_lt (by (with_reducible repeat (first | apply Kd.R_alloc | apply Kd.R_drewN | apply Kd.R_drew)); exact HO133.out)) k_ hn_)), Or.elim hk_ (fun hs_ => ((Kd.R_types (HO139.out) BK126.out (by decide)).1 k_ hs_.symm).2) (fun hn_ => (Kd.freshB (g := gb126) (o := .cells #[.bool x127000_2, .slice none 0 0] 94 (0, 0)) (by (with_reducible repeat (first | refine kdn ?_ _ | refine kdw ?_ | refine kal ?_ _)); exact BK126.out) k_ hn_))⟩)) (bsz (by repeat (first | (with_reducible first | exact HB.out | apply below_alloc | apply pbn | apply bd1 | refine bst ?_ GE126.out) | exact HB.out)))); have n5_ := As0.mk (blk_below (g := gb126) (o := .cells #[.bool x127000_2, .slice none 0 0] 94 (0, 0)) (by (with_reducible repeat (first | refine kdn ?_ _ | refine kdw ?_ | refine kal ?_ _)); exact BK126.out) hb); have n6_ := As0.mk (bsp (by repeat (first | (with_reducible first | exact HB.out | apply below_alloc | apply pbn | apply bd1 | refine bst ?_ GE126.out) | exact HB.out)) hb); clear HO_4; clear HO133; clear HO136; clear HO139; clear BK126; clear HB; have HO_4 := n0_; have HO133 := n1_; have HO136 := n2_; have HO139 := n3_; have HO142 := n4_; have BK126 := n5_; have HB := n6_; clear n0_ n1_ n2_ n3_ n4_ n5_ n6_; (try clear hb); (try clear hb2); (try clear hk); (try clear hi); (try clear ho0); obtain ⟨Ao28, co28, eo28⟩ := Kd.V_slice HO136.out; subst eo28; obtain ⟨Ao29, co29, eo29⟩ := Kd.V_slice HO142.out; subst eo29) | ((with_reducible refine gate_callee (f := 165) rfl ?_); refine goesL_ (some 53) rfl rfl Tryz.func165 (by kernel_rfl) rfl #[.slice Ao28 t134.length co28, .slice Ao29 t140.length co29] rfl (by (try simp only [List.map_toArray, List.map_cons, List.map_nil]); first | done | rfl | (simp only [List.length_drop, List.length_take]; rfl)) ?_; (with_reducible refine (sosoptnum_addMag.calls _ _ t134 _ _ t140 t143 _ ?side1 ?side2 ?side3 ?side4 A18.out).mono ?_); (case side1 => repeat (first | exact (Kd.V_reads' HO136.out).2.2 | (with_reducible refine Kd.C_alloc ?_ _) | (with_reducible refine Kd.C_drewN ?_ _) | (with_reducible refine Kd.C_drew ?_))); (case side2 => exact (Kd.V_reads' HO136.out).2.1); (case side3 => repeat (first | exact (Kd.V_reads' HO142.out).2.2 | (with_reducible refine Kd.C_alloc ?_ _) | (with_reducible refine Kd.C_drewN ?_ _) | (with_reducible refine Kd.C_drew ?_))); (case side4 => exact (Kd.V_reads' HO142.out).2.1); rintro e w30 ⟨v144, rfl, ho0, hb⟩; refine ⟨_, rfl, ?_⟩; have n0_ := As0.mk (Kd.V_below (by (with_reducible repeat (first | apply Kd.V_alloc | apply Kd.V_drewN | apply Kd.V_drew)); exact HO_4.out) hb); have n1_ := As0.mk (Kd.R_below (by (with_reducible repeat (first | apply Kd.R_alloc | apply Kd.R_drewN | apply Kd.R_drew)); exact HO133.out) hb); have n2_ := As0.mk (Kd.V_below (by (with_reducible repeat (first | apply Kd.V_alloc | apply Kd.V_drewN | apply Kd.V_drew)); exact HO136.out) hb); have n3_ := As0.mk (Kd.R_below (by (with_reducible repeat (first | apply Kd.R_alloc | apply Kd.R_drewN | apply Kd.R_drew)); exact HO139.out) hb); have n4_ := As0.mk (Kd.V_below (by (with_reducible repeat (first | apply Kd.V_alloc | apply Kd.V_drewN | apply Kd.V_drew)); exact HO142.out) hb); have n5_ := As0.mk (Kd.V_lower (Kd.V_mono (ok' := fun k_ => (w.heap.size ≤ k_) ∧ some k_ ≠ (.slice Ao22 y131.length co22 : Value).ownBlock ∧ some k_ ≠ (.slice Ao26 y137.length co26 : Value).ownBlock ∧ k_ ≠ gb126) ho0 (fun k_ hk_ => ⟨(Nat.le_trans (bsz (by repeat (first | (with_reducible first | exact HB.out | apply below_alloc | apply pbn | apply bd1 | refine bst ?_ GE126.out) | exact HB.out))) hk_), (Kd.fresh' (Kd.R_lt (by (with_reducible repeat (first | apply Kd.R_alloc | apply Kd.R_drewN | apply Kd.R_drew)); exact HO133.out)) k_ hk_), (Kd.fresh' (Kd.R_lt (by (with_reducible repeat (first | apply Kd.R_alloc | apply Kd.R_drewN | apply Kd.R_drew)); exact HO139.out)) k_ hk_), (Kd.freshB (g := gb126) (o := .cells #[.bool x127000_2, .slice none 0 0] 94 (0, 0)) (by (with_reducible repeat (first | refine kdn ?_ _ | refine kdw ?_ | refine kal ?_ _)); exact BK126.out) k_ hk_)⟩)) (bsz (by repeat (first | (with_reducible first | exact HB.out | apply below_alloc | apply pbn | apply bd1 | refine bst ?_ GE126.out) | exact HB.out)))); have n6_ := As0.mk (blk_below (g := gb126) (o := .cells #[.bool x127000_2, .slice none 0 0] 94 (0, 0)) (by (with_reducible repeat (first | refine kdn ?_ _ | refine kdw ?_ | refine kal ?_ _)); exact BK126.out) hb); have n7_ := As0.mk (bsp (by repeat (first | (with_reducible first | exact HB.out | apply below_alloc | apply pbn | apply bd1 | refine bst ?_ GE126.out) | exact HB.out)) hb); clear HO_4; clear HO133; clear HO136; clear HO139; clear HO142; clear BK126; clear HB; have HO_4 := n0_; have HO133 := n1_; have HO136 := n2_; have HO139 := n3_; have HO142 := n4_; have HO145 := n5_; have BK126 := n6_; have HB := n7_; clear n0_ n1_ n2_ n3_ n4_ n5_ n6_ n7_; (try clear hb); (try clear hb2); (try clear hk); (try clear hi); (try clear ho0)))
                  go_roundg kj3
                  case measure => have := HK1.out; have := HK2.out; have := HJ3.out; omega
                  case rel => exact ⟨(t143), (x5_2), (x127000_2), (by first | rfl | (simp; done) | (simp [*]; done)), H', ⟨by have := HK1.out; have := HK2.out; have := HJ3.out; omega⟩, ⟨by (with_reducible repeat (first | apply Kd.V_alloc | apply Kd.V_drewN | apply Kd.V_drew)); exact Kd.V_mono HO145.out (fun _ hk => ⟨hk.1, hk.2.2.2⟩)⟩, ⟨by (with_reducible repeat (first | refine kdn ?_ _ | refine kdw ?_ | refine kal ?_ _)); exact BK126.out⟩, ⟨by repeat (first | (with_reducible first | exact HB.out | apply below_alloc | apply pbn | apply bd1 | refine bst ?_ GE126.out) | exact HB.out)⟩⟩
      · rw [if_neg c3] at H
        have c3b0 : decide (x5_1 < (a0.size : Int)) = false := decide_eq_false c3
        clear c3
        replace H := Option.bind_eq_some_iff.mp H
        obtain ⟨⟨t127, t128⟩, A310, H⟩ := H
        replace H : (some (t127, t128, (!a0.toList.isEmpty))) = some (r1, r2, r3) := H
        have A31 := As0.mk A310
        clear A310
        simp only [Option.some.injEq, Prod.mk.injEq] at H
        obtain ⟨rfl, rfl, rfl⟩ := H
        obtain ⟨Ao32, co32, eo32⟩ := Kd.V_slice HO_4.out
        subst eo32
        go_wp2_with (first | ((with_reducible refine gate_callee (f := 138) rfl ?_); refine goesL_ (some 55) rfl rfl Tryz.func138 (by kernel_rfl) rfl #[.bool false, .slice Ao32 x4_1.length co32] rfl (by (try simp only [List.map_toArray, List.map_cons, List.map_nil]); first | done | rfl | (simp only [List.length_drop, List.length_take]; rfl)) ?_; (with_reducible refine (nM1.calls false (fun k_ => ((w.heap.size ≤ k_) ∧ k_ ≠ gb126)) _ _ x4_1 t127 t128 _ ?side1 A31.out).mono ?_); (case side1 => exact HO_4.out); rintro e w33 ⟨v129, rfl, ho0, hb⟩; refine ⟨_, rfl, ?_⟩; have n0_ := As0.mk (Kd.V_below (by (with_reducible repeat (first | apply Kd.V_alloc | apply Kd.V_drewN | apply Kd.V_drew)); exact HO_4.out) hb); have n1_ := As0.mk (Kd.V_lower (Kd.V_mono (ok' := fun k_ => (w.heap.size ≤ k_) ∧ k_ ≠ gb126) ho0 (fun k_ hk_ => ⟨Or.elim hk_ (fun hs_ => hs_.1) (fun hn_ => (Nat.le_trans (bsz (by repeat (first | (with_reducible first | exact HB.out | apply below_alloc | apply pbn | apply bd1 | refine bst ?_ GE126.out) | exact HB.out))) hn_)), Or.elim hk_ (fun hs_ => hs_.2) (fun hn_ => (Kd.freshB (g := gb126) (o := .cells #[.bool x127000_1, .slice none 0 0] 94 (0, 0)) (by (with_reducible repeat (first | refine kdn ?_ _ | refine kdw ?_ | refine kal ?_ _)); exact BK126.out) k_ hn_))⟩)) (bsz (by repeat (first | (with_reducible first | exact HB.out | apply below_alloc | apply pbn | apply bd1 | refine bst ?_ GE126.out) | exact HB.out)))); have n2_ := As0.mk (blk_below (g := gb126) (o := .cells #[.bool x127000_1, .slice none 0 0] 94 (0, 0)) (by (with_reducible repeat (first | refine kdn ?_ _ | refine kdw ?_ | refine kal ?_ _)); exact BK126.out) hb); have n3_ := As0.mk (bsp (by repeat (first | (with_reducible first | exact HB.out | apply below_alloc | apply pbn | apply bd1 | refine bst ?_ GE126.out) | exact HB.out)) hb); clear HO_4; clear BK126; clear HB; have HO_4 := n0_; have HO130 := n1_; have BK126 := n2_; have HB := n3_; clear n0_ n1_ n2_ n3_; (try clear hb); (try clear hb2); (try clear hk); (try clear hi); (try clear ho0); have hcz34_0 : w33.cell? ⟨gb126, 0, none⟩ = some (.bool x127000_1) := (blk_cell BK126.out 0).trans rfl; have hcz34_1 : w33.cell? ⟨gb126, 1, none⟩ = some (.slice none 0 0) := (blk_cell BK126.out 1).trans rfl; have hfz34_0 := kfz BK126.out 0; have hfz34_1 := kfz BK126.out 1; obtain ⟨Ao35, co35, eo35⟩ := Kd.V_slice HO130.out; subst eo35))
        refine bodyPost_ret (results_ct rfl _ _ gb126 94 #[.bool t127, .slice Ao35 t128.length co35] (0, 0) _ rfl (by (with_reducible repeat (first | refine kdn ?_ _ | refine kdw ?_ | refine kal ?_ _)); refine blk_put (cs := #[.bool t127, .slice none 0 0]) ?_ 1 _ rfl; (with_reducible repeat (first | refine kdn ?_ _ | refine kdw ?_ | refine kal ?_ _)); refine blk_put (cs := #[.bool x127000_1, .slice none 0 0]) ?_ 0 _ rfl; (with_reducible repeat (first | refine kdn ?_ _ | refine kdw ?_ | refine kal ?_ _)); exact BK126.out) Tryz.underlying94 rfl (by kernel_rfl)) rfl ?_
        exact ⟨_, by first | rfl | (simp [errW_none, errW_some] <;> rfl) | (simp [*, errW_none, errW_some] <;> rfl), by (with_reducible repeat (first | apply Kd.V_alloc | apply Kd.V_drewN | apply Kd.V_drew)); exact Kd.V_mono (Kd.V_far (p := ⟨gb126, 1, none⟩) (Kd.V_far (p := ⟨gb126, 0, none⟩) (Kd.V_mono HO130.out (fun k_ hk => (⟨hk, hk.2⟩ : _ ∧ k_ ≠ gb126))) (fun _ hk => hk.2) (.bool t127)) (fun _ hk => hk.2) (.slice Ao35 t128.length co35)) (fun _ hk => hk.1.1), by repeat (first | (with_reducible first | exact HB.out | apply below_alloc | apply pbn | apply bd1 | refine bst ?_ GE126.out) | exact HB.out)⟩
def sosoptnum_Sign.f (a0_0 : Bool) (l0_1 : List Int) : Option (Int) := if a0_0 = true then (some (-1)) else (if (l0_1.length : Int) = 0 then (some 0) else (some 1))
set_option maxHeartbeats 8000000 in
set_option maxRecDepth 100000 in
theorem sosoptnum_Sign.calls (a0_0 : Bool) (A0_1 : Option Addr) (c0_1 : Nat) (l0_1 : List Int) (r : Int) (w : World) (hr0_1 : Kd.C (Kd.int .u32) w A0_1 l0_1.length l0_1) (hc0_1 : l0_1.length ≤ c0_1) (h : sosoptnum_Sign.f a0_0 l0_1 = some r) :
    Calls Tryz.prog 139 #[.agg #[.bool a0_0, .slice A0_1 l0_1.length c0_1]] w fun e w' => e = .returned (.int .i64 r) ∧ Below w.heap.size w w' := by
  have hu94 := Tryz.underlying94
  have HR0_1 := As0.mk hr0_1
  have HC0_1 := As0.mk hc0_1
  clear hr0_1 hc0_1
  have HB := As0.mk (Below.refl w.heap.size w)
  have H : (if a0_0 = true then (some (-1)) else (if (l0_1.length : Int) = 0 then (some 0) else (some 1))) = some r := h
  clear h
  by_cases c2 : a0_0 = true
  · subst c2
    have H1 : (some (-1)) = some r := by rw [if_pos rfl] at H; exact H
    clear H
    have H := H1
    clear H1
    obtain rfl := Option.some.inj H
    go_enter Tryz.func139, Tryz.ntmps139
    go_wp2_with (first | ((with_reducible refine gate_dst (N := 1) rfl ?_); refine box_event ?hg (N := 1) ?hd (cs := #[.bool true, .slice A0_1 l0_1.length c0_1]) (t := 94) ?hr ?_; (case hd => rfl); (case hg => rfl); (case hr => first | (go_simp; done) | (go_simp; rfl)); intro gb146 hg w3 hbox hb; have n0_ := As0.mk (bsp (by repeat (first | (with_reducible first | exact HB.out | apply below_alloc | apply pbn | apply bd1) | exact HB.out)) hb); have n1_ := As0.mk (hbox); have n2_ := As0.mk ((by rw [hg]; exact (bsz (by repeat (first | (with_reducible first | exact HB.out | apply below_alloc | apply pbn | apply bd1) | exact HB.out))) : w.heap.size ≤ gb146)); have n3_ := As0.mk ((by rw [hg]; exact (bsz (by repeat (first | (with_reducible first | exact HB.out | apply below_alloc | apply pbn | apply bd1) | exact HB.out))) : w.heap.size ≤ gb146)); clear HB; have HB := n0_; have BK146 := n1_; have GW146 := n2_; have GE146 := n3_; clear n0_ n1_ n2_ n3_; clear hb hbox hg; have hcz4_0 : w3.cell? ⟨gb146, 0, none⟩ = some (.bool true) := (blk_cell BK146.out 0).trans rfl; have hcz4_1 : w3.cell? ⟨gb146, 1, none⟩ = some (.slice A0_1 l0_1.length c0_1) := (blk_cell BK146.out 1).trans rfl; have hfz4_0 := kfz BK146.out 0; have hfz4_1 := kfz BK146.out 1))
    go_ret
    exact ⟨by first | rfl | (simp [errW_none, errW_some] <;> rfl) | (simp [*, errW_none, errW_some] <;> rfl), by repeat (first | (with_reducible first | exact HB.out | apply below_alloc | apply pbn | apply bd1 | refine bst ?_ GE146.out) | exact HB.out)⟩
  · replace c2 := Bool.eq_false_iff.mpr c2
    subst c2
    have H1 : (if (l0_1.length : Int) = 0 then (some 0) else (some 1)) = some r := by rw [if_neg (show ¬ (false = true) by decide)] at H; exact H
    clear H
    have H := H1
    clear H1
    by_cases c5 : (l0_1.length : Int) = 0
    · rw [if_pos c5] at H
      have c5b0 : ((l0_1.length : Int) == 0) = true := beq_iff_eq.mpr c5
      have c5b1 : ((l0_1.length : Int) != 0) = false := bne_eq_false_iff_eq.mpr c5
      clear c5
      obtain rfl := Option.some.inj H
      go_enter Tryz.func139, Tryz.ntmps139
      go_wp2_with (first | ((with_reducible refine gate_dst (N := 1) rfl ?_); refine box_event ?hg (N := 1) ?hd (cs := #[.bool false, .slice A0_1 l0_1.length c0_1]) (t := 94) ?hr ?_; (case hd => rfl); (case hg => rfl); (case hr => first | (go_simp; done) | (go_simp; rfl)); intro gb146 hg w6 hbox hb; have n0_ := As0.mk (bsp (by repeat (first | (with_reducible first | exact HB.out | apply below_alloc | apply pbn | apply bd1) | exact HB.out)) hb); have n1_ := As0.mk (hbox); have n2_ := As0.mk ((by rw [hg]; exact (bsz (by repeat (first | (with_reducible first | exact HB.out | apply below_alloc | apply pbn | apply bd1) | exact HB.out))) : w.heap.size ≤ gb146)); have n3_ := As0.mk ((by rw [hg]; exact (bsz (by repeat (first | (with_reducible first | exact HB.out | apply below_alloc | apply pbn | apply bd1) | exact HB.out))) : w.heap.size ≤ gb146)); clear HB; have HB := n0_; have BK146 := n1_; have GW146 := n2_; have GE146 := n3_; clear n0_ n1_ n2_ n3_; clear hb hbox hg; have hcz7_0 : w6.cell? ⟨gb146, 0, none⟩ = some (.bool false) := (blk_cell BK146.out 0).trans rfl; have hcz7_1 : w6.cell? ⟨gb146, 1, none⟩ = some (.slice A0_1 l0_1.length c0_1) := (blk_cell BK146.out 1).trans rfl; have hfz7_0 := kfz BK146.out 0; have hfz7_1 := kfz BK146.out 1))
      go_ret
      exact ⟨by first | rfl | (simp [errW_none, errW_some] <;> rfl) | (simp [*, errW_none, errW_some] <;> rfl), by repeat (first | (with_reducible first | exact HB.out | apply below_alloc | apply pbn | apply bd1 | refine bst ?_ GE146.out) | exact HB.out)⟩
    · rw [if_neg c5] at H
      have c5b0 : ((l0_1.length : Int) == 0) = false := beq_eq_false_iff_ne.mpr c5
      have c5b1 : ((l0_1.length : Int) != 0) = true := bne_iff_ne.mpr c5
      have c5b2 : ¬ (l0_1 = []) := fun h_ => c5 (by rw [h_]; rfl)
      obtain rfl := Option.some.inj H
      go_enter Tryz.func139, Tryz.ntmps139
      go_wp2_with (first | ((with_reducible refine gate_dst (N := 1) rfl ?_); refine box_event ?hg (N := 1) ?hd (cs := #[.bool false, .slice A0_1 l0_1.length c0_1]) (t := 94) ?hr ?_; (case hd => rfl); (case hg => rfl); (case hr => first | (go_simp; done) | (go_simp; rfl)); intro gb146 hg w8 hbox hb; have n0_ := As0.mk (bsp (by repeat (first | (with_reducible first | exact HB.out | apply below_alloc | apply pbn | apply bd1) | exact HB.out)) hb); have n1_ := As0.mk (hbox); have n2_ := As0.mk ((by rw [hg]; exact (bsz (by repeat (first | (with_reducible first | exact HB.out | apply below_alloc | apply pbn | apply bd1) | exact HB.out))) : w.heap.size ≤ gb146)); have n3_ := As0.mk ((by rw [hg]; exact (bsz (by repeat (first | (with_reducible first | exact HB.out | apply below_alloc | apply pbn | apply bd1) | exact HB.out))) : w.heap.size ≤ gb146)); clear HB; have HB := n0_; have BK146 := n1_; have GW146 := n2_; have GE146 := n3_; clear n0_ n1_ n2_ n3_; clear hb hbox hg; have hcz9_0 : w8.cell? ⟨gb146, 0, none⟩ = some (.bool false) := (blk_cell BK146.out 0).trans rfl; have hcz9_1 : w8.cell? ⟨gb146, 1, none⟩ = some (.slice A0_1 l0_1.length c0_1) := (blk_cell BK146.out 1).trans rfl; have hfz9_0 := kfz BK146.out 0; have hfz9_1 := kfz BK146.out 1))
      go_ret
      exact ⟨by first | rfl | (simp [errW_none, errW_some] <;> rfl) | (simp [*, errW_none, errW_some] <;> rfl), by repeat (first | (with_reducible first | exact HB.out | apply below_alloc | apply pbn | apply bd1 | refine bst ?_ GE146.out) | exact HB.out)⟩
end Go.Proofs.YQ.PR
