import Derived.Test.YtoflmheodiajaaaGreatDoorK8
import Derived.Lib.Builder
import Derived.Lib.AppendStr
import Derived.Lib.UnsafeStr
import Derived.Laws.AppendOwn
import Derived.Lib.Walk
import Derived.RegionTactic
import Derived.Deep.RegionWith
namespace Go.Proofs.YtoflmheodiajaaaGreatDoor
open Go.RowKit
set_option linter.unusedVariables false
set_option linter.unusedSimpArgs false
variable {Bs : Nat}
theorem wellFormed_any (okC zC : ByteArray → Bool) (dom : ByteArray → Prop) (HS : OfSpec Bs okC zC dom) (A : Option Addr) (ca : Nat) (ts : List TermV) (vars : Int) (w : World) (hBs : Bs ≤ w.heap.size) (hA : RdT Bs w A ts)
    (hc : ts.length ≤ ca) (hm : ts.length ≤ 4096) (hd : ∀ i, i < ts.length → dom (tm ts i).c) :
    Calls Tryz.prog 52 #[.agg #[.int .i64 vars, .slice A ts.length ca]] w (Gives w fun v w' => WfPost okC zC ts vars (w.heap.size + 3) v w') := by
  by_cases hv : vars < 0 ∨ 6 < vars
  · exact wellFormed_range okC zC A ca ts vars w hv
  · exact wellFormed_in okC zC dom HS A ca ts vars w hBs hA hc hm hd (by omega) (by omega)
theorem expR_first {okC zC : ByteArray → Bool} {vars : Int} {ts : List TermV} (h : wfOk okC zC vars ts = true) (h0 : 0 < ts.length) : ExpR (fun j => el (tm ts 0).xs j) := by
  simp only [wfOk, wfFrom, Bool.and_eq_true, decide_eq_true_iff] at h
  have := h.2 0 h0 (Nat.le_refl _)
  simp only [tOk, Bool.and_eq_true] at this
  exact expR_of (by omega) (by omega) this.2.1
def polyOk (okC zC : ByteArray → Bool) (vars : Int) (ts : List TermV) : Bool := decide (ts.length ≤ 4096) && (wfOk okC zC vars ts && fitsOf ts)
def PolyPost (ok : Bool) (v : Value) : Prop := ∃ n A l c, v = .tuple #[.agg #[.int .i64 n, .slice A l c], .bool ok]
set_option maxHeartbeats 1000000 in
theorem polyOf_any (okC zC : ByteArray → Bool) (dom : ByteArray → Prop) (HS : OfSpec Bs okC zC dom) (A : Option Addr) (ca : Nat) (ts : List TermV) (vars : Int) (w : World) (hBs : Bs ≤ w.heap.size) (hA : RdT Bs w A ts)
    (hc : ts.length ≤ ca) (hl : ts.length ≤ 9223372036854775807) (hd : ∀ i, i < ts.length → dom (tm ts i).c) :
    Calls Tryz.prog 30 #[.agg #[.int .i64 vars, .slice A ts.length ca]] w (Gives w fun v _ => PolyPost (polyOk okC zC vars ts) v) := by
  by_cases hm : ts.length ≤ 4096
  · have hm2 : ¬ (4096 < (ts.length : Int)) := by omega
    have HWF := Lib.hid (fun W => fun h1 h2 => wellFormed_any okC zC dom HS A ca ts vars W h1 h2 hc hm hd)
    have HA := Lib.hid hA
    clear hA HS hd
    go_enter Tryz.func30, Tryz.ntmps30
    go_wp2_with fail
    refine (HWF.out _ (by simp; omega) (HA.out.below (below_alloc (below_alloc (below_refl _) _) _))).mono ?_
    rintro e w1 ⟨_, rfl, ⟨n, A1, l1, c1, rfl, hpost⟩, hb1⟩
    have HP := Lib.hid hpost
    have hB1 : Below w.heap.size w w1 := below_then (below_alloc (below_alloc (below_refl w) _) _) (by simp; omega) hb1
    have HB1 := Lib.hid hB1
    have ho := (hb1.block (w.heap.size + 1) (by simp)).trans (heap_two w _ _)
    have HO := Lib.hid ho
    have hs1 := hb1.size
    simp at hs1
    have o0 : w1.cell? ⟨w.heap.size + 1, 0, none⟩ = some (.int .i64 0) := by rw [Lib.cell_of_heap ho]; rfl
    have o1 : w1.cell? ⟨w.heap.size + 1, 1, none⟩ = some (.slice none 0 0) := by rw [Lib.cell_of_heap ho]; rfl
    have oz := fun i => Lib.frozen_of_heap ho i
    clear hpost hB1 ho hb1
    have hs2 : w.heap.size + 1 < w1.heap.size := by omega
    have hs3 : w.heap.size + 1 < w1.heap.size + 1 := by omega
    cases hw : wfOk okC zC vars ts
    · have HK := Lib.hid (show polyOk okC zC vars ts = false by simp [polyOk, hw])
      go_wp2_with fail
      refine bodyPost_ret (v := .tuple #[.agg #[.int .i64 0, .slice none 0 0], .bool false]) (by simp [results, Tryz.results30, go_sem, o0, o1, hs2, hs3]) rfl ⟨_, rfl, ⟨_, _, _, _, by rw [HK.out]⟩, ?_⟩
      exact below_alloc ((HB1.out.setCell (p := ⟨w.heap.size + 1, 0, none⟩) (Nat.le_succ _) _).setCell (p := ⟨w.heap.size + 1, 1, none⟩) (Nat.le_succ _) _) _
    · obtain ⟨rfl, rfl, ht⟩ := HP.out hw
      have HFT := Lib.hid (fun (base : Nat) W hW => fits_any n (.slice A1 ts.length c1) ts base W hW (expR_first hw) hm)
      have HT := Lib.hid (ht.below (below_alloc (below_refl w1) (.cells #[.int .i64 n, .slice A1 ts.length c1] 111)))
      clear ht
      go_wp2_with fail
      refine (HFT.out _ _ HT.out).mono ?_
      rintro e w2 ⟨_, rfl, rfl, hb2⟩
      obtain ⟨k2, _, hs4⟩ := box_kept hb2
      have k20 : w2.cell? ⟨w1.heap.size, 0, none⟩ = some (.int .i64 n) := k2 0
      have k21 : w2.cell? ⟨w1.heap.size, 1, none⟩ = some (.slice A1 ts.length c1) := k2 1
      have ho2 := ((below_then (below_alloc (below_refl w1) _) (by simp) hb2).block (w.heap.size + 1) hs2).trans HO.out
      have HB2 := Lib.hid (below_then HB1.out HB1.out.size (below_then (below_alloc (below_refl w1) _) (by simp) hb2))
      clear o0 o1 oz k2 hb2
      have o0 : w2.cell? ⟨w.heap.size + 1, 0, none⟩ = some (.int .i64 0) := by rw [Lib.cell_of_heap ho2]; rfl
      have o1 : w2.cell? ⟨w.heap.size + 1, 1, none⟩ = some (.slice none 0 0) := by rw [Lib.cell_of_heap ho2]; rfl
      have oz := fun i => Lib.frozen_of_heap ho2 i
      have hs5 : w.heap.size + 1 < w2.heap.size := by omega
      clear ho2
      cases hf : fitsOf ts
      · have HK := Lib.hid (show polyOk okC zC n ts = false by simp [polyOk, hf])
        go_wp2_with fail
        refine bodyPost_ret (v := .tuple #[.agg #[.int .i64 0, .slice none 0 0], .bool false]) (by simp [results, Tryz.results30, go_sem, o0, o1, hs5]) rfl ⟨_, rfl, ⟨_, _, _, _, by rw [HK.out]⟩, ?_⟩
        exact (HB2.out.setCell (p := ⟨w.heap.size + 1, 0, none⟩) (Nat.le_succ _) _).setCell (p := ⟨w.heap.size + 1, 1, none⟩) (Nat.le_succ _) _
      · have HK := Lib.hid (show polyOk okC zC n ts = true by simp [polyOk, hf, hw, hm])
        go_wp2_with fail
        refine bodyPost_ret (v := .tuple #[.agg #[.int .i64 n, .slice A1 ts.length c1], .bool true]) (by simp [results, Tryz.results30, go_sem, o0, o1, hs5]) rfl ⟨_, rfl, ⟨_, _, _, _, by rw [HK.out]⟩, ?_⟩
        exact (HB2.out.setCell (p := ⟨w.heap.size + 1, 0, none⟩) (Nat.le_succ _) _).setCell (p := ⟨w.heap.size + 1, 1, none⟩) (Nat.le_succ _) _
  · have hm2 : 4096 < (ts.length : Int) := by omega
    have HK := Lib.hid (show polyOk okC zC vars ts = false by simp [polyOk, hm])
    go_enter Tryz.func30, Tryz.ntmps30
    go_wp2_with fail
    refine bodyPost_ret (v := .tuple #[.agg #[.int .i64 0, .slice none 0 0], .bool false]) (by simp [results, Tryz.results30, go_sem]) rfl ⟨_, rfl, ⟨_, _, _, _, by rw [HK.out]⟩, ?_⟩
    exact below_alloc (below_alloc (below_refl _) _) _
end Go.Proofs.YtoflmheodiajaaaGreatDoor
namespace Go.Proofs.YtoflmheodiajaaaGreatDoor
open Go.RowKit
set_option linter.unusedVariables false
set_option linter.unusedSimpArgs false
def BAt (T : TypeId) (ext : List Value) (B b : Nat) (p : Value) (bs : List Value) (w : World) : Prop :=
  B ≤ b ∧ ∃ v, w.heap[b]? = some (.cells (p :: v :: ext).toArray T (0, 0)) ∧ w.ownsRow B 5 1 v bs.length bs ∧ v.ownBlock ≠ some b
def IsB (T : TypeId) (ext : List Value) (B b : Nat) (bs : List Value) (w : World) : Prop := ∃ p, (p = .pointer none ∨ p = .pointer (some ⟨b, 0, none⟩)) ∧ BAt T ext B b p bs w
def Oth (B b : Nat) (w w' : World) : Prop := Below B w w' ∧ ∀ (k : Nat) cs t fr, w.heap[k]? = some (.cells cs t fr) → k ≠ b → t ≠ 5 → w'.heap[k]? = some (.cells cs t fr)
theorem Oth.refl (B b : Nat) (w : World) : Oth B b w w := ⟨Below.refl B w, fun k cs t fr h _ _ => h⟩
theorem Oth.trans {B b : Nat} {w w1 w2 : World} (h : Oth B b w w1) (k : Oth B b w1 w2) : Oth B b w w2 := ⟨below_mix h.1 (Nat.le_refl _) k.1, fun i cs t fr hi h1 h2 => k.2 i cs t fr (h.2 i cs t fr hi h1 h2) h1 h2⟩
theorem Oth.set {B b i : Nat} {w w1 : World} (h : Oth B b w w1) (hB : B ≤ b) (v : Value) : Oth B b w (w1.setCell ⟨b, i, none⟩ v) :=
  ⟨h.1.setCell (p := ⟨b, i, none⟩) hB v, fun k cs t fr hk h1 h2 => heap_far (h.2 k cs t fr hk h1 h2) (Ne.symm h1) v⟩
theorem Oth.of_below {B b : Nat} {w w1 w2 : World} (h : Oth B b w w1) (hB : B ≤ w1.heap.size) (k : Below w1.heap.size w1 w2) : Oth B b w w2 :=
  ⟨below_mix h.1 hB k, fun i cs t fr hi h1 h2 => by
    have := h.2 i cs t fr hi h1 h2
    rw [k.block i (lt_of_heap this)]; exact this⟩
theorem Oth.grown {B b : Nat} {w w1 w2 : World} {v : Value} {n : Nat} {xs : List Value} (h : Oth B b w w1) (hown : w1.ownsRow B 5 1 v n xs) (hg : w1.grownBy w2 v.ownBlock) (hB : B ≤ w1.heap.size) : Oth B b w w2 :=
  ⟨h.1.grown hg hB (fun k hk => (hown.lt k hk).1), fun i cs t fr hi h1 h2 => by
    have h3 := h.2 i cs t fr hi h1 h2
    rw [hg.block i (lt_of_heap h3) (fun e => Lib.ownBlock_ne hown h3 h2 e.symm)]
    exact h3⟩
theorem BAt.lt {T : TypeId} {ext : List Value} {B b : Nat} {p : Value} {bs : List Value} {w : World} (h : BAt T ext B b p bs w) : b < w.heap.size := by
  obtain ⟨_, v, hb, _⟩ := h
  exact lt_of_heap hb
theorem BAt.below {T : TypeId} {ext : List Value} {B b : Nat} {p : Value} {bs : List Value} {w w1 : World} (h : BAt T ext B b p bs w) (hb : Below w.heap.size w w1) : BAt T ext B b p bs w1 := by
  obtain ⟨h1, v, h2, h3, h4⟩ := h
  refine ⟨h1, v, (hb.block b (lt_of_heap h2)).trans h2, ⟨h3.1, ?_⟩, h4⟩
  rcases h3.2 with h' | ⟨g, cap, cur, e, hbg, hh, r⟩
  · exact .inl h'
  · exact .inr ⟨g, cap, cur, e, hbg, by rw [hb.block g (lt_of_heap hh)]; exact hh, r⟩
theorem IsB.below {T : TypeId} {ext : List Value} {B b : Nat} {bs : List Value} {w w1 : World} (h : IsB T ext B b bs w) (hb : Below w.heap.size w w1) : IsB T ext B b bs w1 := by
  obtain ⟨p, hp, h⟩ := h
  exact ⟨p, hp, h.below hb⟩
theorem BAt.put {T : TypeId} {ext : List Value} {B b : Nat} {p v v' : Value} {bs' : List Value} {w : World} (hB : B ≤ b) (hb : w.heap[b]? = some (.cells (p :: v :: ext).toArray T (0, 0))) (hown : w.ownsRow B 5 1 v' bs'.length bs') (hTe : T ≠ 5) :
    BAt T ext B b p bs' (w.setCell ⟨b, 1, none⟩ v') := by
  have hne := Lib.ownBlock_ne hown hb hTe
  refine ⟨hB, v', ?_, ?_, hne⟩
  · rw [heap_setCell hb]; simp
  · exact hown.kept (row := some b) ⟨rfl, rfl, rfl, by simp [World.setCell], fun k _ hk => Below.heap_setCell _ _ _ _ (fun e => hk (by simp [e]))⟩ (Or.inr hne)
theorem BAt.used {T : TypeId} {ext : List Value} {B b : Nat} {p : Value} {bs : List Value} {w : World} (h : BAt T ext B b p bs w) (q : Value) : BAt T ext B b q bs (w.setCell ⟨b, 0, none⟩ q) := by
  obtain ⟨hB, v, hb, hown, hne⟩ := h
  refine ⟨hB, v, ?_, ?_, hne⟩
  · rw [heap_setCell hb]; simp
  · exact hown.kept (row := some b) ⟨rfl, rfl, rfl, by simp [World.setCell], fun k _ hk => Below.heap_setCell _ _ _ _ (fun e => hk (by simp [e]))⟩ (Or.inr hne)
structure BT (T : TypeId) (n : Nat) : Prop where
  ne : T ≠ 5
  lies : liesAt Tryz.prog Tryz.prog.depth T ((2 + n) / Tryz.prog.cellsOf T) 0 82 1 = true
theorem infoByte : (Tryz.prog.info? 5).map (fun i => (i.zero, i.size, i.bytes)) = some (some (.int .u8 0), 1, 1) := by kernel_rfl
theorem sizeBuilder : (Tryz.prog.info? 82).map (fun i => i.size) = some 2 := by kernel_rfl
set_option maxHeartbeats 1000000 in
set_option maxRecDepth 100000 in
theorem copyCheck_used (b : Nat) (w : World) (h0 : w.cell? ⟨b, 0, none⟩ = some (.pointer (some ⟨b, 0, none⟩))) :
    Calls Tryz.prog 85 #[.pointer (some ⟨b, 0, none⟩)] w fun e w' => e = .returned (.tuple #[]) ∧ w' = w := by
  obtain ⟨j, hj, _⟩ := Option.map_eq_some_iff.1 sizeBuilder
  go_enter Tryz.func85, Tryz.ntmps85
  go_wp2
  rw [Lib.run_neq_ptr_same w _ Tryz.underlying80 hj]
  go_wp2
  go_end0
  exact ⟨rfl, rfl⟩
set_option maxHeartbeats 1000000 in
set_option maxRecDepth 100000 in
theorem copyCheck_fresh {T : TypeId} {n : Nat} (X : BT T n) (b : Nat) (w : World) (h0 : w.cell? ⟨b, 0, none⟩ = some (.pointer none)) (hsh : w.shape? b = some (T, 2 + n)) (hfz : w.frozen? ⟨b, 0, none⟩ = false) :
    Calls Tryz.prog 85 #[.pointer (some ⟨b, 0, none⟩)] w fun e w' => e = .returned (.tuple #[]) ∧ w' = w.setCell ⟨b, 0, none⟩ (.pointer (some ⟨b, 0, none⟩)) := by
  obtain ⟨j, hj, hjs⟩ := Option.map_eq_some_iff.1 sizeBuilder
  go_enter Tryz.func85, Tryz.ntmps85
  go_wp2
  rw [Lib.run_to_unsafe w ⟨b, 0, none⟩ Tryz.underlying80 Tryz.underlying205 hj (by rw [hjs]; decide) hsh (by show 0 < 2 + n; omega)]
  simp only [Result.andThen]
  rw [Oper.upon_value]
  go_wp2
  rw [run_callFunc_extern Tryz.func111 (by kernel_rfl) (by kernel_rfl) (by kernel_rfl) (e := Extern.AbiNoEscape.same) (by kernel_rfl)]
  rw [Lib.run_noEscape]
  simp only [Result.andThen]
  rw [Oper.upon_value]
  go_wp2
  rw [Lib.run_from_unsafe w ⟨b, 0, none⟩ Tryz.underlying205 Tryz.underlying80 hj hsh X.lies]
  simp only [Result.andThen]
  rw [Oper.upon_value]
  go_wp2
  go_end0
  exact ⟨rfl, rfl⟩
theorem copyCheck_any {T : TypeId} {ext : List Value} (X : BT T ext.length) (B b : Nat) (bs : List Value) (w : World) (h : IsB T ext B b bs w) :
    Calls Tryz.prog 85 #[.pointer (some ⟨b, 0, none⟩)] w fun e w' => e = .returned (.tuple #[]) ∧ BAt T ext B b (.pointer (some ⟨b, 0, none⟩)) bs w' ∧ Oth B b w w' := by
  obtain ⟨p, hp, h⟩ := h
  have h' := h
  obtain ⟨hB, v, hb, _, _⟩ := h'
  rcases hp with rfl | rfl
  · refine (copyCheck_fresh X b w (by rw [Lib.cell_of_heap hb]; rfl) (by simp [World.shape?, hb]; omega) (Lib.frozen_of_heap hb 0)).mono ?_
    rintro e w' ⟨rfl, rfl⟩
    exact ⟨rfl, h.used _, (Oth.refl B b w).set hB _⟩
  · refine (copyCheck_used b w (by rw [Lib.cell_of_heap hb]; rfl)).mono ?_
    rintro e w' ⟨rfl, rfl⟩
    exact ⟨rfl, h, Oth.refl B b _⟩
set_option maxHeartbeats 2000000 in
set_option maxRecDepth 100000 in
theorem writeByte_any {T : TypeId} {ext : List Value} (X : BT T ext.length) (B b : Nat) (bs : List Value) (c : Int) (w : World) (h : IsB T ext B b bs w) (hlen : bs.length + 1 ≤ 140737488355328) (hBw : B ≤ w.heap.size) :
    Calls Tryz.prog 56 #[.pointer (some ⟨b, 0, none⟩), .int .u8 c] w fun e w' => e = .returned .nilIface ∧ BAt T ext B b (.pointer (some ⟨b, 0, none⟩)) (bs ++ [.int .u8 c]) w' ∧ Oth B b w w' := by
  obtain ⟨i0, hi, hzz⟩ := Option.map_eq_some_iff.1 infoByte
  simp only [Prod.mk.injEq] at hzz
  obtain ⟨hz0, hz1, hz2⟩ := hzz
  have HC := Lib.hid (copyCheck_any X B b bs w h)
  go_enter Tryz.func56, Tryz.ntmps56
  go_wp2_with fail
  refine HC.out.mono ?_
  rintro e w1 ⟨rfl, h1, hb1⟩
  obtain ⟨hB, v, hbk, hown, hne⟩ := h1
  have c0 : w1.cell? ⟨b, 0, none⟩ = some (.pointer (some ⟨b, 0, none⟩)) := by rw [Lib.cell_of_heap hbk]; rfl
  have c1 : w1.cell? ⟨b, 1, none⟩ = some v := by rw [Lib.cell_of_heap hbk]; rfl
  have HB := Lib.hid hb1
  have HX := Lib.hid X
  have HBK := Lib.hid hbk
  have HH := Lib.hid h
  clear hb1 X hbk h
  go_wp2_with (at_builtin; refine wpList_append_own _ rfl _ _ 41 rfl B 5 i0 (.int .u8 0) 1 1 Tryz.underlying41 hi hz0 hz1 hz2 rfl (by decide) _ _ _ rfl (hown.alloc _) ⟨w1.heap.size, 0, none⟩ 1 1 [.int .u8 c] rfl rfl ?c1 ?c2 ?c3 ?c4 ?c5 ?_)
  case c1 =>
    intro j u hj
    match j, hj with
    | 0, hj => simp at hj; subst hj; simp [Addr.add]
  case c2 => intro u hu; simp at hu; subst hu; rfl
  case c3 => unfold maxLen; omega
  case c4 => omega
  case c5 => have := HB.out.1.size; simp; omega
  intro v' w2 hown' hgrow _
  have hB2 : Oth B b w w2 := Oth.grown (Oth.of_below HB.out (by have := HB.out.1.size; omega) (below_alloc (below_refl w1) _)) (hown.alloc _) hgrow (by have := HB.out.1.size; simp; omega)
  have hb2 : w2.heap[b]? = some (.cells (.pointer (some ⟨b, 0, none⟩) :: v :: ext).toArray T (0, 0)) := by
    rw [hgrow.block b (by have := lt_of_heap HBK.out; simp; omega) (fun e => hne e.symm), Lib.alloc_old w1 _ b (lt_of_heap HBK.out)]
    exact HBK.out
  have d0 : w2.cell? ⟨b, 0, none⟩ = some (.pointer (some ⟨b, 0, none⟩)) := by rw [Lib.cell_of_heap hb2]; rfl
  have d1 : w2.cell? ⟨b, 1, none⟩ = some v := by rw [Lib.cell_of_heap hb2]; rfl
  have f1 : w2.frozen? ⟨b, 1, none⟩ = false := Lib.frozen_of_heap hb2 1
  have HB2 := Lib.hid hB2
  have HK2 := Lib.hid hb2
  obtain ⟨g, cap, rfl⟩ : ∃ g cap, v' = .slice (some ⟨g, 0, none⟩) (bs.length + 1) cap := by
    rcases hown'.2 with ⟨_, h0⟩ | ⟨g, cap, cur, hv, _⟩
    · omega
    · exact ⟨g, cap, hv⟩
  clear hB2 hb2
  go_wp2
  go_ret
  refine ⟨rfl, ?_, HB2.out.set hB _⟩
  exact BAt.put hB HK2.out (bs' := bs ++ [.int .u8 c]) (by simpa using hown') HX.out.ne
set_option maxHeartbeats 2000000 in
set_option maxRecDepth 100000 in
theorem writeString_any {T : TypeId} {ext : List Value} (X : BT T ext.length) (B b : Nat) (bs : List Value) (s : ByteArray) (w : World) (h : IsB T ext B b bs w) (hlen : bs.length + s.size ≤ 140737488355328) (hBw : B ≤ w.heap.size) :
    Calls Tryz.prog 54 #[.pointer (some ⟨b, 0, none⟩), .string s] w fun e w' => e = .returned (.tuple #[.int .i64 s.size, .nilIface]) ∧ BAt T ext B b (.pointer (some ⟨b, 0, none⟩)) (bs ++ Lib.strCells s) w' ∧ Oth B b w w' := by
  obtain ⟨i0, hi, hzz⟩ := Option.map_eq_some_iff.1 infoByte
  simp only [Prod.mk.injEq] at hzz
  obtain ⟨hz0, hz1, hz2⟩ := hzz
  have HC := Lib.hid (copyCheck_any X B b bs w h)
  go_enter Tryz.func54, Tryz.ntmps54
  go_wp2_with fail
  refine HC.out.mono ?_
  rintro e w1 ⟨rfl, h1, hb1⟩
  obtain ⟨hB, v, hbk, hown, hne⟩ := h1
  have c0 : w1.cell? ⟨b, 0, none⟩ = some (.pointer (some ⟨b, 0, none⟩)) := by rw [Lib.cell_of_heap hbk]; rfl
  have c1 : w1.cell? ⟨b, 1, none⟩ = some v := by rw [Lib.cell_of_heap hbk]; rfl
  have HB := Lib.hid hb1
  have HX := Lib.hid X
  have HBK := Lib.hid hbk
  have HH := Lib.hid h
  clear hb1 X hbk h
  go_wp2_with (at_builtin; refine Lib.wpList_append_own_string _ rfl _ _ 41 9 rfl B 5 i0 Tryz.underlying41 Tryz.underlying9 hi hz0 hz1 hz2 _ _ _ rfl hown s rfl ?c3 ?c4 ?c5 ?_)
  case c3 => unfold maxLen; omega
  case c4 => omega
  case c5 => have := HB.out.1.size; omega
  intro v' w2 hown' hgrow _
  have hB2 : Oth B b w w2 := Oth.grown HB.out hown hgrow (by have := HB.out.1.size; omega)
  have hb2 : w2.heap[b]? = some (.cells (.pointer (some ⟨b, 0, none⟩) :: v :: ext).toArray T (0, 0)) := by
    rw [hgrow.block b (lt_of_heap HBK.out) (fun e => hne e.symm)]
    exact HBK.out
  have d0 : w2.cell? ⟨b, 0, none⟩ = some (.pointer (some ⟨b, 0, none⟩)) := by rw [Lib.cell_of_heap hb2]; rfl
  have d1 : w2.cell? ⟨b, 1, none⟩ = some v := by rw [Lib.cell_of_heap hb2]; rfl
  have f1 : w2.frozen? ⟨b, 1, none⟩ = false := Lib.frozen_of_heap hb2 1
  have HB2 := Lib.hid hB2
  have HK2 := Lib.hid hb2
  obtain ⟨ao, n', cap, rfl⟩ : ∃ ao n' cap, v' = .slice ao n' cap := by
    rcases hown'.2 with ⟨hv, _⟩ | ⟨g, cap, cur, hv, _⟩
    · exact ⟨_, _, _, hv⟩
    · exact ⟨_, _, _, hv⟩
  clear hB2 hb2
  go_wp2
  go_ret2
  refine ⟨rfl, ?_, HB2.out.set hB _⟩
  exact BAt.put hB HK2.out (bs' := bs ++ Lib.strCells s) (by simpa [Lib.strCells_length] using hown') HX.out.ne
set_option maxHeartbeats 1000000 in
set_option maxRecDepth 100000 in
theorem len_any {T : TypeId} {ext : List Value} (B b : Nat) (bs : List Value) (w : World) (h : IsB T ext B b bs w) :
    Calls Tryz.prog 28 #[.pointer (some ⟨b, 0, none⟩)] w fun e w' => e = .returned (.int .i64 bs.length) ∧ w' = w := by
  obtain ⟨p, _, hB, v, hbk, hown, hne⟩ := h
  obtain ⟨ao, cap, rfl⟩ : ∃ ao cap, v = .slice ao bs.length cap := by
    rcases hown.2 with ⟨hv, h0⟩ | ⟨g, cap, cur, hv, _⟩
    · exact ⟨none, 0, by rw [hv, h0]⟩
    · exact ⟨_, _, hv⟩
  have c1 : w.cell? ⟨b, 1, none⟩ = some (.slice ao bs.length cap) := by rw [Lib.cell_of_heap hbk]; rfl
  clear hown hbk hne
  go_enter Tryz.func28, Tryz.ntmps28
  go_wp2
  go_ret
  exact ⟨rfl, rfl⟩
theorem cellsByte : Tryz.prog.cellsOf 5 = 1 := by kernel_rfl
set_option maxHeartbeats 1000000 in
set_option maxRecDepth 100000 in
theorem string_any {T : TypeId} {ext : List Value} (B b : Nat) (l : List UInt8) (w : World) (h : IsB T ext B b (Lib.byteCells l) w) (h0 : l ≠ []) :
    Calls Tryz.prog 29 #[.pointer (some ⟨b, 0, none⟩)] w fun e w' => e = .returned (.string ⟨l.toArray⟩) ∧ Below B w w' := by
  obtain ⟨p, _, hB, v, hbk, hown, hne⟩ := h
  have hl0 : l.length ≠ 0 := by simpa using h0
  rw [Lib.byteCells_length] at hown
  obtain ⟨g, cap, cur, rfl, hbg, hg, hnc, hcm, hcs, htake⟩ : ∃ g cap cur, v = .slice (some ⟨g, 0, none⟩) l.length cap ∧ B ≤ g ∧ w.heap[g]? = some (.cells cur 5 (0, 0)) ∧ l.length ≤ cap ∧ cap ≤ maxLen ∧ cur.size = cap * 1 ∧ cur.toList.take (l.length * 1) = Lib.byteCells l := by
    rcases hown.2 with ⟨_, hz⟩ | ⟨g, cap, cur, hv, r⟩
    · exact absurd hz hl0
    · exact ⟨g, cap, cur, hv, r⟩
  have c1 : w.drew.cell? ⟨b, 1, none⟩ = some (.slice (some ⟨g, 0, none⟩) l.length cap) := by
    have : w.drew.heap[b]? = some (.cells (p :: .slice (some ⟨g, 0, none⟩) l.length cap :: ext).toArray T (0, 0)) := hbk
    rw [Lib.cell_of_heap this]; rfl
  have hSD : (Builtin.unsafeSliceData_ #[41] 133 #[.slice (some ⟨g, 0, none⟩) l.length cap]).run Tryz.prog w.drew = .ok (.pointer (some ⟨g, 0, none⟩)) w.drew :=
    Lib.run_unsafeSliceData_row _ _ _ _ _ _ (by omega)
  have hUS : (Builtin.unsafeString_ #[133, 3] 9 #[.pointer (some ⟨g, 0, none⟩), .int .i64 l.length]).run Tryz.prog w.drew = .ok (.string ⟨l.toArray⟩) (w.drew.freeze ⟨g, 0, none⟩ l.length) := by
    refine Lib.run_unsafeString_row w.drew 133 3 9 5 Tryz.underlying133 cellsByte g cur.size (by have hg' : w.drew.heap[g]? = some (.cells cur 5 (0, 0)) := hg; simp [World.shape?, hg']) l h0 (by omega) (by unfold maxLen at hcm; omega) ?_
    intro j x hx
    exact hown.cells (g := g) rfl j (.int .u8 x.toNat) (by simp [Lib.byteCells, hx])
  clear hbk hown hg htake hne
  go_enter Tryz.func29, Tryz.ntmps29
  go_wp2
  go_region
  all_goals (go_wp2; go_ret; exact ⟨rfl, Lib.below_freeze (Below.drew (Below.refl B w)) (p := ⟨g, 0, none⟩) hbg _⟩)
end Go.Proofs.YtoflmheodiajaaaGreatDoor
namespace Go.Proofs.YtoflmheodiajaaaGreatDoor
open Go.RowKit
set_option linter.unusedVariables false
set_option linter.unusedSimpArgs false
def decS (i : Nat) : ByteArray := ⟨(Lib.decDigits i).toArray⟩
theorem natural_small (i : Nat) (hi : i < 100) (w : World) :
    Calls Tryz.prog 33 #[.int .i64 i] w fun e w' => e = .returned (.string (decS i)) ∧ w' = w := by
  have hi0 : ¬ ((i : Int) < 0) := by omega
  go_enter Tryz.func33, Tryz.ntmps33
  go_wp2_with fail
  refine (Tryz.strconv_Itoa_small i hi _).mono ?_
  rintro e w' ⟨rfl, rfl⟩
  go_wp2
  go_ret
  exact ⟨rfl, rfl⟩
theorem writerT : BT 106 ([] : List Value).length := ⟨by decide, by kernel_rfl⟩
def IsW (B b : Nat) (l : List UInt8) (w : World) : Prop := IsB 106 [] B b (Lib.byteCells l) w
def lineOf (xs : List ByteArray) : List UInt8 := Lib.join (xs.map (·.data.toList)) [32] ++ [10]
set_option maxHeartbeats 1000000 in
theorem line_any (B b : Nat) (l : List UInt8) (xs : List ByteArray) (bk o c : Nat) (w : World) (h : IsW B b l w) (hcells : ∀ (j : Nat) x, xs[j]? = some x → w.cell? ⟨bk, o + j, none⟩ = some (.string x)) (hbk : bk < w.heap.size) (hcap : xs.length ≤ c)
    (hN : xs.length ≤ 140737488355328) (hlen : l.length + (lineOf xs).length ≤ 140737488355328) (hBw : B ≤ w.heap.size) :
    Calls Tryz.prog 32 #[.pointer (some ⟨b, 0, none⟩), .slice (some ⟨bk, o, none⟩) xs.length c] w fun e w' => e = .returned (.tuple #[]) ∧ IsW B b (l ++ lineOf xs) w' ∧ Oth B b w w' := by
  have hl1 : (lineOf xs).length = (Lib.join (xs.map (·.data.toList)) [32]).length + 1 := by simp [lineOf]
  have HJ := Lib.hid (Tryz.strings_Join bk o c xs ⟨#[32]⟩ w.drew hcells hbk hN hcap (by
    show (Lib.join (xs.map (·.data.toList)) [32]).length ≤ _
    omega))
  have HH := Lib.hid h
  clear h hcells
  go_enter Tryz.func32, Tryz.ntmps32
  go_wp2_with fail
  go_region_with (first | (go_at_call 55; refine HJ.out.mono ?_; rintro e w1 ⟨rfl, hb1⟩; have HB1 := Lib.hid hb1; clear hb1) | (go_at_call 54; refine (writeString_any writerT B b (Lib.byteCells l) _ w1 (IsB.below HH.out (below_then (below_drew (below_refl w)) (Nat.le_refl _) HB1.out)) (by rw [Lib.byteCells_length]; show l.length + (Lib.join (xs.map (·.data.toList)) [32]).toArray.size ≤ _; simp; omega) (Nat.le_trans hBw HB1.out.size)).mono ?_; rintro e w2 ⟨rfl, h2, hb2⟩; have H2 := Lib.hid h2; have HB2 := Lib.hid hb2; clear h2 hb2))
  all_goals (
    go_wp2_with fail
    refine (writeByte_any writerT B b _ 10 w2 ⟨_, .inr rfl, H2.out⟩ (by rw [List.length_append, Lib.byteCells_length, Lib.strCells_length]; show l.length + (Lib.join (xs.map (·.data.toList)) [32]).toArray.size + 1 ≤ _; simp; omega) (Nat.le_trans (Nat.le_trans hBw HB1.out.size) HB2.out.1.size)).mono ?_
    rintro e w3 ⟨rfl, h3, hb3⟩
    have H3 := Lib.hid h3
    have HB3 := Lib.hid hb3
    clear h3 hb3
    go_wp2
    go_end0
    refine ⟨rfl, ⟨_, .inr rfl, ?_⟩, ?_⟩
    · have e : Lib.byteCells (l ++ lineOf xs) = (Lib.byteCells l ++ Lib.strCells ⟨(Lib.join (xs.map (·.data.toList)) [32]).toArray⟩) ++ [.int .u8 10] := by
        simp [Lib.byteCells, Lib.strCells, lineOf]
      rw [e]
      exact H3.out
    · exact (Oth.of_below (Oth.refl B b w) hBw (below_then (below_drew (below_refl w)) (Nat.le_refl _) HB1.out)).trans (HB2.out.trans HB3.out))
end Go.Proofs.YtoflmheodiajaaaGreatDoor
