/- strings.Builder, wherever it lies: at the head of a block of any type (a writer of ours bears one). The walks are turned from the shelf's. -/
import Derived.Test.YtoflmheodiajaaaGreatDoorA12
import Derived.Lib.Builder
import Derived.Lib.AppendStr
import Derived.Lib.UnsafeStr
import Derived.Laws.AppendOwn
import Derived.Lib.Walk
import Derived.RegionTactic
namespace Go.Proofs.YtoflmheodiajaaaGreatDoor
open Go.RowKit
set_option linter.unusedVariables false
set_option linter.unusedSimpArgs false

/-- A builder at the head of block b (of type T, ext: the cells behind it), that holds bs. -/
def BAt (T : TypeId) (ext : List Value) (B b : Nat) (p : Value) (bs : List Value) (w : World) : Prop :=
  B ≤ b ∧ ∃ v, w.heap[b]? = some (.cells (p :: v :: ext).toArray T (0, 0)) ∧ w.ownsRow B 5 1 v bs.length bs ∧ v.ownBlock ≠ some b
def IsB (T : TypeId) (ext : List Value) (B b : Nat) (bs : List Value) (w : World) : Prop := ∃ p, (p = .pointer none ∨ p = .pointer (some ⟨b, 0, none⟩)) ∧ BAt T ext B b p bs w
/-- Nothing but the builder, its bytes and new memory was written. -/
def Oth (B b : Nat) (w w' : World) : Prop := Below B w w' ∧ ∀ (k : Nat) cs t fr, w.heap[k]? = some (.cells cs t fr) → k ≠ b → t ≠ 5 → w'.heap[k]? = some (.cells cs t fr)
theorem Oth.refl (B b : Nat) (w : World) : Oth B b w w := ⟨Below.refl B w, fun k cs t fr h _ _ => h⟩
theorem Oth.trans {B b : Nat} {w w1 w2 : World} (h : Oth B b w w1) (k : Oth B b w1 w2) : Oth B b w w2 := ⟨below_mix h.1 (Nat.le_refl _) k.1, fun i cs t fr hi h1 h2 => k.2 i cs t fr (h.2 i cs t fr hi h1 h2) h1 h2⟩
theorem Oth.set {B b i : Nat} {w w1 : World} (h : Oth B b w w1) (hB : B ≤ b) (v : Value) : Oth B b w (w1.setCell ⟨b, i, none⟩ v) :=
  ⟨h.1.setCell (p := ⟨b, i, none⟩) hB v, fun k cs t fr hk h1 h2 => heap_far (h.2 k cs t fr hk h1 h2) (Ne.symm h1) v⟩
theorem Oth.of_below {B b : Nat} {w w1 w2 : World} (h : Oth B b w w1) (hB : B ≤ w1.heap.size) (k : Below w1.heap.size w1 w2) : Oth B b w w2 :=
  ⟨below_mix h.1 hB k, fun i cs t fr hi h1 h2 => by
    have := h.2 i cs t fr hi h1 h2
    rw [k.block i (lt_of_heap this)]; exact this⟩
theorem Oth.grown {B b : Nat} {w w1 w2 : World} {v : Value} {n : Nat} {xs : List Value} (h : Oth B b w w1) (hown : w1.ownsRow B 5 1 v n xs) (hg : w1.grownBy w2 v.ownBlock) (hB : B ≤ w1.heap.size) : Oth B b w w2 :=
  ⟨h.1.grown hg hB (fun k hk => (hown.lt k hk).1), fun i cs t fr hi h1 h2 => by
    have h3 := h.2 i cs t fr hi h1 h2
    rw [hg.block i (lt_of_heap h3) (fun e => Lib.ownBlock_ne hown h3 h2 e.symm)]
    exact h3⟩
theorem BAt.lt {T : TypeId} {ext : List Value} {B b : Nat} {p : Value} {bs : List Value} {w : World} (h : BAt T ext B b p bs w) : b < w.heap.size := by
  obtain ⟨_, v, hb, _⟩ := h
  exact lt_of_heap hb
/-- What leaves old memory alone leaves a builder alone. -/
theorem BAt.below {T : TypeId} {ext : List Value} {B b : Nat} {p : Value} {bs : List Value} {w w1 : World} (h : BAt T ext B b p bs w) (hb : Below w.heap.size w w1) : BAt T ext B b p bs w1 := by
  obtain ⟨h1, v, h2, h3, h4⟩ := h
  refine ⟨h1, v, (hb.block b (lt_of_heap h2)).trans h2, ⟨h3.1, ?_⟩, h4⟩
  rcases h3.2 with h' | ⟨g, cap, cur, e, hbg, hh, r⟩
  · exact .inl h'
  · exact .inr ⟨g, cap, cur, e, hbg, by rw [hb.block g (lt_of_heap hh)]; exact hh, r⟩
theorem IsB.below {T : TypeId} {ext : List Value} {B b : Nat} {bs : List Value} {w w1 : World} (h : IsB T ext B b bs w) (hb : Below w.heap.size w w1) : IsB T ext B b bs w1 := by
  obtain ⟨p, hp, h⟩ := h
  exact ⟨p, hp, h.below hb⟩
theorem BAt.put {T : TypeId} {ext : List Value} {B b : Nat} {p v v' : Value} {bs' : List Value} {w : World} (hB : B ≤ b) (hb : w.heap[b]? = some (.cells (p :: v :: ext).toArray T (0, 0))) (hown : w.ownsRow B 5 1 v' bs'.length bs') (hTe : T ≠ 5) :
    BAt T ext B b p bs' (w.setCell ⟨b, 1, none⟩ v') := by
  have hne := Lib.ownBlock_ne hown hb hTe
  refine ⟨hB, v', ?_, ?_, hne⟩
  · rw [heap_setCell hb]; simp
  · exact hown.kept (row := some b) ⟨rfl, rfl, rfl, by simp [World.setCell], fun k _ hk => Below.heap_setCell _ _ _ _ (fun e => hk (by simp [e]))⟩ (Or.inr hne)
theorem BAt.used {T : TypeId} {ext : List Value} {B b : Nat} {p : Value} {bs : List Value} {w : World} (h : BAt T ext B b p bs w) (q : Value) : BAt T ext B b q bs (w.setCell ⟨b, 0, none⟩ q) := by
  obtain ⟨hB, v, hb, hown, hne⟩ := h
  refine ⟨hB, v, ?_, ?_, hne⟩
  · rw [heap_setCell hb]; simp
  · exact hown.kept (row := some b) ⟨rfl, rfl, rfl, by simp [World.setCell], fun k _ hk => Below.heap_setCell _ _ _ _ (fun e => hk (by simp [e]))⟩ (Or.inr hne)

/-- What is asked of the type of the block. -/
structure BT (T : TypeId) (n : Nat) : Prop where
  ne : T ≠ 5
  lies : liesAt Tryz.prog Tryz.prog.depth T ((2 + n) / Tryz.prog.cellsOf T) 0 82 1 = true
theorem infoByte : (Tryz.prog.info? 5).map (fun i => (i.zero, i.size, i.bytes)) = some (some (.int .u8 0), 1, 1) := by kernel_rfl
theorem sizeBuilder : (Tryz.prog.info? 82).map (fun i => i.size) = some 2 := by kernel_rfl

set_option maxHeartbeats 1000000 in
set_option maxRecDepth 100000 in
theorem copyCheck_used (b : Nat) (w : World) (h0 : w.cell? ⟨b, 0, none⟩ = some (.pointer (some ⟨b, 0, none⟩))) :
    Calls Tryz.prog 85 #[.pointer (some ⟨b, 0, none⟩)] w fun e w' => e = .returned (.tuple #[]) ∧ w' = w := by
  obtain ⟨j, hj, _⟩ := Option.map_eq_some_iff.1 sizeBuilder
  go_enter Tryz.func85, Tryz.ntmps85
  go_wp2
  rw [Lib.run_neq_ptr_same w _ Tryz.underlying80 hj]
  go_wp2
  go_end0
  exact ⟨rfl, rfl⟩
set_option maxHeartbeats 1000000 in
set_option maxRecDepth 100000 in
theorem copyCheck_fresh {T : TypeId} {n : Nat} (X : BT T n) (b : Nat) (w : World) (h0 : w.cell? ⟨b, 0, none⟩ = some (.pointer none)) (hsh : w.shape? b = some (T, 2 + n)) (hfz : w.frozen? ⟨b, 0, none⟩ = false) :
    Calls Tryz.prog 85 #[.pointer (some ⟨b, 0, none⟩)] w fun e w' => e = .returned (.tuple #[]) ∧ w' = w.setCell ⟨b, 0, none⟩ (.pointer (some ⟨b, 0, none⟩)) := by
  obtain ⟨j, hj, hjs⟩ := Option.map_eq_some_iff.1 sizeBuilder
  go_enter Tryz.func85, Tryz.ntmps85
  go_wp2
  rw [Lib.run_to_unsafe w ⟨b, 0, none⟩ Tryz.underlying80 Tryz.underlying205 hj (by rw [hjs]; decide) hsh (by show 0 < 2 + n; omega)]
  simp only [Result.andThen]
  rw [Oper.upon_value]
  go_wp2
  rw [run_callFunc_extern Tryz.func111 (by kernel_rfl) (by kernel_rfl) (by kernel_rfl) (e := Extern.AbiNoEscape.same) (by kernel_rfl)]
  rw [Lib.run_noEscape]
  simp only [Result.andThen]
  rw [Oper.upon_value]
  go_wp2
  rw [Lib.run_from_unsafe w ⟨b, 0, none⟩ Tryz.underlying205 Tryz.underlying80 hj hsh X.lies]
  simp only [Result.andThen]
  rw [Oper.upon_value]
  go_wp2
  go_end0
  exact ⟨rfl, rfl⟩
theorem copyCheck_any {T : TypeId} {ext : List Value} (X : BT T ext.length) (B b : Nat) (bs : List Value) (w : World) (h : IsB T ext B b bs w) :
    Calls Tryz.prog 85 #[.pointer (some ⟨b, 0, none⟩)] w fun e w' => e = .returned (.tuple #[]) ∧ BAt T ext B b (.pointer (some ⟨b, 0, none⟩)) bs w' ∧ Oth B b w w' := by
  obtain ⟨p, hp, h⟩ := h
  have h' := h
  obtain ⟨hB, v, hb, _, _⟩ := h'
  rcases hp with rfl | rfl
  · refine (copyCheck_fresh X b w (by rw [Lib.cell_of_heap hb]; rfl) (by simp [World.shape?, hb]; omega) (Lib.frozen_of_heap hb 0)).mono ?_
    rintro e w' ⟨rfl, rfl⟩
    exact ⟨rfl, h.used _, (Oth.refl B b w).set hB _⟩
  · refine (copyCheck_used b w (by rw [Lib.cell_of_heap hb]; rfl)).mono ?_
    rintro e w' ⟨rfl, rfl⟩
    exact ⟨rfl, h, Oth.refl B b _⟩

set_option maxHeartbeats 2000000 in
set_option maxRecDepth 100000 in
theorem writeByte_any {T : TypeId} {ext : List Value} (X : BT T ext.length) (B b : Nat) (bs : List Value) (c : Int) (w : World) (h : IsB T ext B b bs w) (hlen : bs.length + 1 ≤ 140737488355328) (hBw : B ≤ w.heap.size) :
    Calls Tryz.prog 56 #[.pointer (some ⟨b, 0, none⟩), .int .u8 c] w fun e w' => e = .returned .nilIface ∧ BAt T ext B b (.pointer (some ⟨b, 0, none⟩)) (bs ++ [.int .u8 c]) w' ∧ Oth B b w w' := by
  obtain ⟨i0, hi, hzz⟩ := Option.map_eq_some_iff.1 infoByte
  simp only [Prod.mk.injEq] at hzz
  obtain ⟨hz0, hz1, hz2⟩ := hzz
  have HC := Lib.hid (copyCheck_any X B b bs w h)
  go_enter Tryz.func56, Tryz.ntmps56
  go_wp2_with fail
  refine HC.out.mono ?_
  rintro e w1 ⟨rfl, h1, hb1⟩
  obtain ⟨hB, v, hbk, hown, hne⟩ := h1
  have c0 : w1.cell? ⟨b, 0, none⟩ = some (.pointer (some ⟨b, 0, none⟩)) := by rw [Lib.cell_of_heap hbk]; rfl
  have c1 : w1.cell? ⟨b, 1, none⟩ = some v := by rw [Lib.cell_of_heap hbk]; rfl
  have HB := Lib.hid hb1
  have HX := Lib.hid X
  have HBK := Lib.hid hbk
  have HH := Lib.hid h
  clear hb1 X hbk h
  go_wp2_with (at_builtin; refine wpList_append_own _ rfl _ _ 41 rfl B 5 i0 (.int .u8 0) 1 1 Tryz.underlying41 hi hz0 hz1 hz2 rfl (by decide) _ _ _ rfl (hown.alloc _) ⟨w1.heap.size, 0, none⟩ 1 1 [.int .u8 c] rfl rfl ?c1 ?c2 ?c3 ?c4 ?c5 ?_)
  case c1 =>
    intro j u hj
    match j, hj with
    | 0, hj => simp at hj; subst hj; simp [Addr.add]
  case c2 => intro u hu; simp at hu; subst hu; rfl
  case c3 => unfold maxLen; omega
  case c4 => omega
  case c5 => have := HB.out.1.size; simp; omega
  intro v' w2 hown' hgrow _
  have hB2 : Oth B b w w2 := Oth.grown (Oth.of_below HB.out (by have := HB.out.1.size; omega) (below_alloc (below_refl w1) _)) (hown.alloc _) hgrow (by have := HB.out.1.size; simp; omega)
  have hb2 : w2.heap[b]? = some (.cells (.pointer (some ⟨b, 0, none⟩) :: v :: ext).toArray T (0, 0)) := by
    rw [hgrow.block b (by have := lt_of_heap HBK.out; simp; omega) (fun e => hne e.symm), Lib.alloc_old w1 _ b (lt_of_heap HBK.out)]
    exact HBK.out
  have d0 : w2.cell? ⟨b, 0, none⟩ = some (.pointer (some ⟨b, 0, none⟩)) := by rw [Lib.cell_of_heap hb2]; rfl
  have d1 : w2.cell? ⟨b, 1, none⟩ = some v := by rw [Lib.cell_of_heap hb2]; rfl
  have f1 : w2.frozen? ⟨b, 1, none⟩ = false := Lib.frozen_of_heap hb2 1
  have HB2 := Lib.hid hB2
  have HK2 := Lib.hid hb2
  obtain ⟨g, cap, rfl⟩ : ∃ g cap, v' = .slice (some ⟨g, 0, none⟩) (bs.length + 1) cap := by
    rcases hown'.2 with ⟨_, h0⟩ | ⟨g, cap, cur, hv, _⟩
    · omega
    · exact ⟨g, cap, hv⟩
  clear hB2 hb2
  go_wp2
  go_ret
  refine ⟨rfl, ?_, HB2.out.set hB _⟩
  exact BAt.put hB HK2.out (bs' := bs ++ [.int .u8 c]) (by simpa using hown') HX.out.ne

set_option maxHeartbeats 2000000 in
set_option maxRecDepth 100000 in
theorem writeString_any {T : TypeId} {ext : List Value} (X : BT T ext.length) (B b : Nat) (bs : List Value) (s : ByteArray) (w : World) (h : IsB T ext B b bs w) (hlen : bs.length + s.size ≤ 140737488355328) (hBw : B ≤ w.heap.size) :
    Calls Tryz.prog 54 #[.pointer (some ⟨b, 0, none⟩), .string s] w fun e w' => e = .returned (.tuple #[.int .i64 s.size, .nilIface]) ∧ BAt T ext B b (.pointer (some ⟨b, 0, none⟩)) (bs ++ Lib.strCells s) w' ∧ Oth B b w w' := by
  obtain ⟨i0, hi, hzz⟩ := Option.map_eq_some_iff.1 infoByte
  simp only [Prod.mk.injEq] at hzz
  obtain ⟨hz0, hz1, hz2⟩ := hzz
  have HC := Lib.hid (copyCheck_any X B b bs w h)
  go_enter Tryz.func54, Tryz.ntmps54
  go_wp2_with fail
  refine HC.out.mono ?_
  rintro e w1 ⟨rfl, h1, hb1⟩
  obtain ⟨hB, v, hbk, hown, hne⟩ := h1
  have c0 : w1.cell? ⟨b, 0, none⟩ = some (.pointer (some ⟨b, 0, none⟩)) := by rw [Lib.cell_of_heap hbk]; rfl
  have c1 : w1.cell? ⟨b, 1, none⟩ = some v := by rw [Lib.cell_of_heap hbk]; rfl
  have HB := Lib.hid hb1
  have HX := Lib.hid X
  have HBK := Lib.hid hbk
  have HH := Lib.hid h
  clear hb1 X hbk h
  go_wp2_with (at_builtin; refine Lib.wpList_append_own_string _ rfl _ _ 41 9 rfl B 5 i0 Tryz.underlying41 Tryz.underlying9 hi hz0 hz1 hz2 _ _ _ rfl hown s rfl ?c3 ?c4 ?c5 ?_)
  case c3 => unfold maxLen; omega
  case c4 => omega
  case c5 => have := HB.out.1.size; omega
  intro v' w2 hown' hgrow _
  have hB2 : Oth B b w w2 := Oth.grown HB.out hown hgrow (by have := HB.out.1.size; omega)
  have hb2 : w2.heap[b]? = some (.cells (.pointer (some ⟨b, 0, none⟩) :: v :: ext).toArray T (0, 0)) := by
    rw [hgrow.block b (lt_of_heap HBK.out) (fun e => hne e.symm)]
    exact HBK.out
  have d0 : w2.cell? ⟨b, 0, none⟩ = some (.pointer (some ⟨b, 0, none⟩)) := by rw [Lib.cell_of_heap hb2]; rfl
  have d1 : w2.cell? ⟨b, 1, none⟩ = some v := by rw [Lib.cell_of_heap hb2]; rfl
  have f1 : w2.frozen? ⟨b, 1, none⟩ = false := Lib.frozen_of_heap hb2 1
  have HB2 := Lib.hid hB2
  have HK2 := Lib.hid hb2
  obtain ⟨ao, n', cap, rfl⟩ : ∃ ao n' cap, v' = .slice ao n' cap := by
    rcases hown'.2 with ⟨hv, _⟩ | ⟨g, cap, cur, hv, _⟩
    · exact ⟨_, _, _, hv⟩
    · exact ⟨_, _, _, hv⟩
  clear hB2 hb2
  go_wp2
  go_ret2
  refine ⟨rfl, ?_, HB2.out.set hB _⟩
  exact BAt.put hB HK2.out (bs' := bs ++ Lib.strCells s) (by simpa [Lib.strCells_length] using hown') HX.out.ne

set_option maxHeartbeats 1000000 in
set_option maxRecDepth 100000 in
theorem len_any {T : TypeId} {ext : List Value} (B b : Nat) (bs : List Value) (w : World) (h : IsB T ext B b bs w) :
    Calls Tryz.prog 28 #[.pointer (some ⟨b, 0, none⟩)] w fun e w' => e = .returned (.int .i64 bs.length) ∧ w' = w := by
  obtain ⟨p, _, hB, v, hbk, hown, hne⟩ := h
  obtain ⟨ao, cap, rfl⟩ : ∃ ao cap, v = .slice ao bs.length cap := by
    rcases hown.2 with ⟨hv, h0⟩ | ⟨g, cap, cur, hv, _⟩
    · exact ⟨none, 0, by rw [hv, h0]⟩
    · exact ⟨_, _, hv⟩
  have c1 : w.cell? ⟨b, 1, none⟩ = some (.slice ao bs.length cap) := by rw [Lib.cell_of_heap hbk]; rfl
  clear hown hbk hne
  go_enter Tryz.func28, Tryz.ntmps28
  go_wp2
  go_ret
  exact ⟨rfl, rfl⟩

theorem cellsByte : Tryz.prog.cellsOf 5 = 1 := by kernel_rfl
set_option maxHeartbeats 1000000 in
set_option maxRecDepth 100000 in
theorem string_any {T : TypeId} {ext : List Value} (B b : Nat) (l : List UInt8) (w : World) (h : IsB T ext B b (Lib.byteCells l) w) (h0 : l ≠ []) :
    Calls Tryz.prog 29 #[.pointer (some ⟨b, 0, none⟩)] w fun e w' => e = .returned (.string ⟨l.toArray⟩) ∧ Below B w w' := by
  obtain ⟨p, _, hB, v, hbk, hown, hne⟩ := h
  have hl0 : l.length ≠ 0 := by simpa using h0
  rw [Lib.byteCells_length] at hown
  obtain ⟨g, cap, cur, rfl, hbg, hg, hnc, hcm, hcs, htake⟩ : ∃ g cap cur, v = .slice (some ⟨g, 0, none⟩) l.length cap ∧ B ≤ g ∧ w.heap[g]? = some (.cells cur 5 (0, 0)) ∧ l.length ≤ cap ∧ cap ≤ maxLen ∧ cur.size = cap * 1 ∧ cur.toList.take (l.length * 1) = Lib.byteCells l := by
    rcases hown.2 with ⟨_, hz⟩ | ⟨g, cap, cur, hv, r⟩
    · exact absurd hz hl0
    · exact ⟨g, cap, cur, hv, r⟩
  have c1 : w.drew.cell? ⟨b, 1, none⟩ = some (.slice (some ⟨g, 0, none⟩) l.length cap) := by
    have : w.drew.heap[b]? = some (.cells (p :: .slice (some ⟨g, 0, none⟩) l.length cap :: ext).toArray T (0, 0)) := hbk
    rw [Lib.cell_of_heap this]; rfl
  have hSD : (Builtin.unsafeSliceData_ #[41] 133 #[.slice (some ⟨g, 0, none⟩) l.length cap]).run Tryz.prog w.drew = .ok (.pointer (some ⟨g, 0, none⟩)) w.drew :=
    Lib.run_unsafeSliceData_row _ _ _ _ _ _ (by omega)
  have hUS : (Builtin.unsafeString_ #[133, 3] 9 #[.pointer (some ⟨g, 0, none⟩), .int .i64 l.length]).run Tryz.prog w.drew = .ok (.string ⟨l.toArray⟩) (w.drew.freeze ⟨g, 0, none⟩ l.length) := by
    refine Lib.run_unsafeString_row w.drew 133 3 9 5 Tryz.underlying133 cellsByte g cur.size (by have hg' : w.drew.heap[g]? = some (.cells cur 5 (0, 0)) := hg; simp [World.shape?, hg']) l h0 (by omega) (by unfold maxLen at hcm; omega) ?_
    intro j x hx
    exact hown.cells (g := g) rfl j (.int .u8 x.toNat) (by simp [Lib.byteCells, hx])
  clear hbk hown hg htake hne
  go_enter Tryz.func29, Tryz.ntmps29
  go_wp2
  go_region
  all_goals (go_wp2; go_ret; exact ⟨rfl, Lib.below_freeze (Below.drew (Below.refl B w)) (p := ⟨g, 0, none⟩) hbg _⟩)
end Go.Proofs.YtoflmheodiajaaaGreatDoor
