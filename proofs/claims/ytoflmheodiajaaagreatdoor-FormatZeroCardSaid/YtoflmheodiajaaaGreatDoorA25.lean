/- The reader of a polynomial without terms. -/
import Derived.Test.YtoflmheodiajaaaGreatDoorA24
namespace Go.Proofs.YtoflmheodiajaaaGreatDoor
open Go.RowKit
set_option linter.unusedVariables false
set_option linter.unusedSimpArgs false

theorem LineOut.other {w w' : World} {b k g : Nat} {ws : List ByteArray} (h : LineOut w b k ws w') (hg : g < w.heap.size) (hb : g ≠ b) : w'.heap[g]? = w.heap[g]? := by
  obtain ⟨W, hW, hw, rfl⟩ := h
  rw [heap_setCell_other _ _ _ _ (by show g ≠ b; exact hb)]
  exact hW.block g hg
def pS : ByteArray := ⟨#[112, 111, 108, 121]⟩
theorem max_below {B : Nat} {w w1 : World} {u : Value} (hb : Below B w w1) (hB : 0 < B) (hm : w.cell? ⟨0, 0, none⟩ = some u) : w1.cell? ⟨0, 0, none⟩ = some u := (hb.cell (p := ⟨0, 0, none⟩) hB).trans hm
set_option maxHeartbeats 1000000 in
theorem readerPoly_zero (b lb : Nat) (ls : List ByteArray) (sv sn : ByteArray) (v : Int) (k : Nat) (m : Int) (w : World) (h : RdrAt w b lb ls k) (hm : w.cell? ⟨0, 0, none⟩ = some (.int .i64 m)) (h0 : 0 < b) (hk : k < ls.length) (hl : ls.length ≤ 1099511627776)
    (hs : (ls.getD k ⟨#[]⟩).size < 4294967281) (hw : Words (ls.getD k ⟨#[]⟩) [pS, sv, sn]) (hv : Reads sv v) (hn : Reads sn 0) :
    Calls Tryz.prog 20 #[.pointer (some ⟨b, 0, none⟩)] w fun e w' => e = .returned (.agg #[.int .i64 v, .slice none 0 0]) ∧ Besides b w w' := by
  have hR0 := h.below (below_alloc (below_refl w) (.cells #[.int .i64 0, .slice none 0 0] 24))
  have hbw : b < w.heap.size := lt_of_heap h.rdr
  have HE := Lib.hid (exactly_ok b lb ls [pS, sv, sn] k 2 m pS (w.alloc (.cells #[.int .i64 0, .slice none 0 0] 24)) hR0 (max_below (below_alloc (below_refl w) _) (by omega) hm) hk hl hs hw rfl (by decide) (by decide) rfl)
  have HR0 := Lib.hid hR0
  have HV := Lib.hid (fun W => integer_ok sv v W hv)
  have HN := Lib.hid (fun W => fun b => count_ok b sn 0 W hn (by decide) (by decide))
  clear h hm hk hl hs hw hv hn hR0
  go_enter Tryz.func20, Tryz.ntmps20
  go_wp2_with fail
  refine HE.out.mono ?_
  rintro e w1 ⟨rfl, hlo⟩
  rw [show (w.alloc (.cells #[.int .i64 0, .slice none 0 0] 24)).heap.size = w.heap.size + 1 by simp]
  have hwd := hlo.words HR0.out
  rw [show (w.alloc (.cells #[.int .i64 0, .slice none 0 0] 24)).heap.size = w.heap.size + 1 by simp] at hwd
  have hs1 := hlo.size
  have hb1 := hlo.besides
  have hr1 := (hlo.other (g := w.heap.size) (by simp) (by omega)).trans (heap_alloc_new w _)
  simp at hs1
  have hr := Lib.hid hr1
  have cw1 : w1.cell? ⟨w.heap.size + 1, 1, none⟩ = some (.string sv) := by rw [Lib.cell_of_heap hwd]; rfl
  have HB1 := Lib.hid ((Besides.of_below (b := b) (below_alloc (below_refl w) (.cells #[.int .i64 0, .slice none 0 0] 24))).trans hb1)
  have HW := Lib.hid hwd
  clear hwd hlo hb1 hr1
  go_wp2_with fail
  refine (HV.out _).mono ?_
  rintro e w2 ⟨_, rfl, rfl, hb2⟩
  have hwd2 := (hb2.block _ (lt_of_heap HW.out)).trans HW.out
  have hr2 := (hb2.block _ (lt_of_heap hr.out)).trans hr.out
  have hs2 := Nat.lt_of_lt_of_le hs1 hb2.size
  have HR2 := Lib.hid hr2
  have HB2 := Lib.hid (HB1.out.next hb2)
  have HW2 := Lib.hid hwd2
  have cw2 : w2.cell? ⟨w.heap.size + 1, 2, none⟩ = some (.string sn) := by rw [Lib.cell_of_heap hwd2]; rfl
  clear hb2 cw1 hwd2 hr2 hs1
  go_wp2_with fail
  refine (HN.out _ _).mono ?_
  rintro e w3 ⟨_, rfl, rfl, hb3⟩
  have hr3 := (hb3.block w.heap.size (by simp; omega)).trans ((heap_alloc_old _ _ (by omega)).trans HR2.out)
  have hp3 := (hb3.block w2.heap.size (by simp)).trans (heap_alloc_new w2 _)
  have HB3 := Lib.hid ((HB2.out.alloc (.cells #[.int .i64 v, .slice none 0 0] 24)).next hb3)
  have r0 : w3.cell? ⟨w.heap.size, 0, none⟩ = some (.int .i64 0) := by rw [Lib.cell_of_heap hr3]; rfl
  have r1 : w3.cell? ⟨w.heap.size, 1, none⟩ = some (.slice none 0 0) := by rw [Lib.cell_of_heap hr3]; rfl
  have rz := fun i => Lib.frozen_of_heap hr3 i
  have p0 : w3.cell? ⟨w2.heap.size, 0, none⟩ = some (.int .i64 v) := by rw [Lib.cell_of_heap hp3]; rfl
  have p1 : w3.cell? ⟨w2.heap.size, 1, none⟩ = some (.slice none 0 0) := by rw [Lib.cell_of_heap hp3]; rfl
  clear hb3 cw2 hr3 hp3 hs2
  go_wp2_with fail
  go_loop [21] (fun i => i = .int .i64 0) (fun _ => 0)
  case atStart => rfl
  case round =>
    subst hrel
    go_wp2_with fail
    refine bodyPost_ret (v := .agg #[.int .i64 v, .slice none 0 0]) (by simp [results, Tryz.results20, go_sem, r0, r1]) rfl ⟨rfl, ?_⟩
    exact (HB3.out.set (p := ⟨w.heap.size, 0, none⟩) (.inl (Nat.le_refl _)) _).set (p := ⟨w.heap.size, 1, none⟩) (.inl (Nat.le_refl _)) _
end Go.Proofs.YtoflmheodiajaaaGreatDoor
