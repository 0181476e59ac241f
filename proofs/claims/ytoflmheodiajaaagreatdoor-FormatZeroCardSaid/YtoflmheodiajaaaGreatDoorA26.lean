/- parsed[Poly] and ParsePoly at the text of a polynomial without terms. -/
import Derived.Test.YtoflmheodiajaaaGreatDoorA25
import Derived.Test.YtoflmheodiajaaaGreatDoorA21
namespace Go.Proofs.YtoflmheodiajaaaGreatDoor
open Go.RowKit
set_option linter.unusedVariables false
set_option linter.unusedSimpArgs false

theorem closureRead_zero (b lb : Nat) (ls : List ByteArray) (sv sn : ByteArray) (v : Int) (k : Nat) (m : Int) (w : World) (h : RdrAt w b lb ls k) (hm : w.cell? ⟨0, 0, none⟩ = some (.int .i64 m)) (h0 : 0 < b) (hk : k < ls.length) (hl : ls.length ≤ 1099511627776)
    (hs : (ls.getD k ⟨#[]⟩).size < 4294967281) (hw : Words (ls.getD k ⟨#[]⟩) [pS, sv, sn]) (hv : Reads sv v) (hn : Reads sn 0) :
    Calls Tryz.prog 19 #[.pointer (some ⟨b, 0, none⟩)] w fun e w' => e = .returned (.agg #[.int .i64 v, .slice none 0 0]) ∧ Besides b w w' := by
  have hbw : b < w.heap.size := lt_of_heap h.rdr
  have hR0 := h.below (below_alloc (below_refl w) (.cells #[.int .i64 0, .slice none 0 0] 24))
  have HP := Lib.hid (readerPoly_zero b lb ls sv sn v k m (w.alloc (.cells #[.int .i64 0, .slice none 0 0] 24)) hR0 (max_below (below_alloc (below_refl w) _) (by omega) hm) h0 hk hl hs hw hv hn)
  clear h hm hk hl hs hw hv hn hR0
  go_enter Tryz.func19, Tryz.ntmps19
  go_wp2_with fail
  refine HP.out.mono ?_
  rintro e w1 ⟨rfl, hb⟩
  have hx := (hb.block w.heap.size (by simp) (by omega)).trans (heap_alloc_new w _)
  have r0 : w1.cell? ⟨w.heap.size, 0, none⟩ = some (.int .i64 0) := by rw [Lib.cell_of_heap hx]; rfl
  have r1 : w1.cell? ⟨w.heap.size, 1, none⟩ = some (.slice none 0 0) := by rw [Lib.cell_of_heap hx]; rfl
  have rz := fun i => Lib.frozen_of_heap hx i
  have HB := Lib.hid ((Besides.of_below (b := b) (below_alloc (below_refl w) (.cells #[.int .i64 0, .slice none 0 0] 24))).trans hb)
  clear hb hx
  go_wp2
  refine bodyPost_ret (v := .agg #[.int .i64 v, .slice none 0 0]) (by simp [results, Tryz.results19, go_sem, r0, r1]) rfl ⟨rfl, ?_⟩
  exact (HB.out.set (p := ⟨w.heap.size, 0, none⟩) (.inl (Nat.le_refl _)) _).set (p := ⟨w.heap.size, 1, none⟩) (.inl (Nat.le_refl _)) _

theorem heap_four (w : World) (a b c d : Obj) : ((((w.alloc a).alloc b).alloc c).alloc d).heap[w.heap.size]? = some a ∧ ((((w.alloc a).alloc b).alloc c).alloc d).heap[w.heap.size + 1]? = some b ∧
    ((((w.alloc a).alloc b).alloc c).alloc d).heap[w.heap.size + 1 + 1]? = some c ∧ ((((w.alloc a).alloc b).alloc c).alloc d).heap[w.heap.size + 1 + 1 + 1]? = some d := by
  obtain ⟨h1, h2, h3⟩ := heap_three w a b c
  have hs : (((w.alloc a).alloc b).alloc c).heap.size = w.heap.size + 1 + 1 + 1 := by simp
  refine ⟨(heap_alloc_old _ _ (by omega)).trans h1, (heap_alloc_old _ _ (by omega)).trans h2, (heap_alloc_old _ _ (by omega)).trans h3, ?_⟩
  have := heap_alloc_new (((w.alloc a).alloc b).alloc c) d
  rwa [hs] at this
def nlS : ByteArray := ⟨#[10]⟩
set_option maxHeartbeats 1000000 in
theorem parsedPoly_zero (s text sv sn : ByteArray) (vars : Nat) (m : Int) (w : World) (hm : w.cell? ⟨0, 0, none⟩ = some (.int .i64 m)) (h0 : 0 < w.heap.size) (hv6 : vars ≤ 6) (hok : polyOk okI zI vars [] = true) (he : (⟨(polyL vars []).toArray⟩ : ByteArray) = s) (hsz : s.size ≤ 1048576) (hts : text.size ≤ 1048576)
    (hc : ∀ W, Calls Tryz.prog 37 #[.string s, .string ⟨#[10]⟩] W fun e w' => e = .returned (.tuple #[.string text, .bool true]) ∧ w' = W) (hsp : Lib.splitB nlS 0 (Lib.countB text nlS) text = [text] ∧ Lib.countB text nlS + 1 = 1)
    (hw : Words text [pS, sv, sn]) (hv : Reads sv vars) (hn : Reads sn 0) :
    Calls Tryz.prog 18 #[.string s, .func (Fn.func 19) #[] #[], .func (Fn.func 7) #[] #[]] w (Gives w fun v _ => v = .tuple #[.agg #[.int .i64 vars, .slice none 0 0], .int .i64 0]) := by
  have hs2 : ¬ (1048576 : Int) < (s.size : Int) := by omega
  have HC := Lib.hid hc
  have HSP := Lib.hid (fun W hm => Tryz.strings_Split text nlS m W (by omega) hm (by decide))
  have HE := Lib.hid hsp
  have HCL := Lib.hid (fun b lb W (h : RdrAt W b lb [text] 0) hm h0 => closureRead_zero b lb [text] sv sn vars 0 m W h hm h0 (by simp) (by simp) (by show text.size < _; omega) hw hv hn)
  have HF := Lib.hid (fun W => formatPoly_ok okI zI domI (ofSpec_int (Bs := 0)) none 0 [] vars W (Nat.zero_le _) (fun h => by simp at h) (Nat.le_refl _) (by decide) (fun i hi => by simp at hi) hv6 hok (fun i hi => by simp at hi) (fun i hi => by simp at hi) (by
    have : (polyL vars []).length = s.size := by rw [← he]; rfl
    omega))
  have HEQ := Lib.hid he
  have HM := Lib.hid hm
  clear hc hsp hw hv hn hok hm he hsz hts
  go_enter_defers Tryz.func18, Tryz.ntmps18
  go_wp2_with fail
  refine (HC.out _).mono ?_
  rintro e w' ⟨rfl, rfl⟩
  go_wp2_with fail
  refine (HSP.out _ (max_below (below_alloc (below_alloc (below_refl w) _) _) h0 HM.out)).mono ?_
  rintro e w1 ⟨rfl, rfl⟩
  rw [HE.out.2, HE.out.1]
  go_wp2_with fail
  obtain ⟨f0, f1, f2, f3⟩ := heap_four w (.cells #[.int .i64 0, .slice none 0 0] 24) (.cells #[.int .i64 0] 29) (.cells #[.string text] 9) (.cells #[.slice (some ⟨w.heap.size + 1 + 1, 0, none⟩) 1 1, .int .i64 0] 121)
  have hb4 := below_alloc (below_alloc (below_alloc (below_alloc (below_refl w) (.cells #[.int .i64 0, .slice none 0 0] 24)) (.cells #[.int .i64 0] 29)) (.cells #[.string text] 9)) (.cells #[.slice (some ⟨w.heap.size + 1 + 1, 0, none⟩) 1 1, .int .i64 0] 121)
  refine (HCL.out (w.heap.size + 1 + 1 + 1) (w.heap.size + 1 + 1) _ ⟨f3, f2⟩ (max_below hb4 h0 HM.out) (by omega)).mono ?_
  rintro e w3 ⟨rfl, hb3⟩
  have g0 := (hb3.block w.heap.size (by simp <;> omega) (by omega)).trans f0
  have g1 := (hb3.block (w.heap.size + 1) (by simp <;> omega) (by omega)).trans f1
  have hz3 : w.heap.size + 1 + 1 + 1 < w3.heap.size := by have := hb3.size; simp at this; omega
  have HB3 := Lib.hid (hb4.trans (hb3.below (B := w.heap.size) (by omega) (by simp <;> omega)))
  have G0 := Lib.hid g0
  have G1 := Lib.hid g1
  clear f0 f1 f2 f3 hb4 hb3 g0 g1
  go_wp2_with fail
  refine (HF.out _).mono ?_
  rintro e w5 ⟨_, rfl, rfl, hb5⟩
  rw [HEQ.out]
  have k0 := (hb5.block w.heap.size (by simp; omega)).trans ((heap_alloc_old _ _ (by omega)).trans G0.out)
  have k1 := (hb5.block (w.heap.size + 1) (by simp; omega)).trans ((heap_alloc_old _ _ (by omega)).trans G1.out)
  have kp := (hb5.block w3.heap.size (by simp)).trans (heap_alloc_new w3 _)
  have a0 : w5.cell? ⟨w.heap.size, 0, none⟩ = some (.int .i64 0) := by rw [Lib.cell_of_heap k0]; rfl
  have a1 : w5.cell? ⟨w.heap.size, 1, none⟩ = some (.slice none 0 0) := by rw [Lib.cell_of_heap k0]; rfl
  have az := fun i => Lib.frozen_of_heap k0 i
  have e0 : w5.cell? ⟨w.heap.size + 1, 0, none⟩ = some (.int .i64 0) := by rw [Lib.cell_of_heap k1]; rfl
  have ez := fun i => Lib.frozen_of_heap k1 i
  have p0 : w5.cell? ⟨w3.heap.size, 0, none⟩ = some (.int .i64 vars) := by rw [Lib.cell_of_heap kp]; rfl
  have p1 : w5.cell? ⟨w3.heap.size, 1, none⟩ = some (.slice none 0 0) := by rw [Lib.cell_of_heap kp]; rfl
  have HB5 := Lib.hid (below_then (HB3.out.alloc HB3.out.size (.cells #[.int .i64 vars, .slice none 0 0] 24)) (by simp; omega) hb5)
  clear k0 k1 kp hb5
  go_wp2_with fail
  refine leaves_cons (f := 27) (args := #[.pointer (some ⟨w.heap.size + 1, 0, none⟩)]) (by simp) (by simp [go_sem]) ?_
  refine (catch_idle ⟨w.heap.size + 1, 0, none⟩ _).mono ?_
  rintro e u' w'' ⟨rfl, rfl, rfl⟩
  simp [Leaves, settle, results, Tryz.results18, go_sem, a0, a1, e0]
  exact ⟨_, rfl, rfl, ((HB5.out.setCell (p := ⟨w.heap.size, 0, none⟩) (Nat.le_refl _) _).setCell (p := ⟨w.heap.size, 1, none⟩) (Nat.le_refl _) _).setCell (p := ⟨w.heap.size + 1, 0, none⟩) (Nat.le_succ _) _⟩
theorem parsePoly_zero (s text sv sn : ByteArray) (vars : Nat) (m : Int) (w : World) (hm : w.cell? ⟨0, 0, none⟩ = some (.int .i64 m)) (h0 : 0 < w.heap.size) (hv6 : vars ≤ 6) (hok : polyOk okI zI vars [] = true) (he : (⟨(polyL vars []).toArray⟩ : ByteArray) = s) (hsz : s.size ≤ 1048576) (hts : text.size ≤ 1048576)
    (hc : ∀ W, Calls Tryz.prog 37 #[.string s, .string ⟨#[10]⟩] W fun e w' => e = .returned (.tuple #[.string text, .bool true]) ∧ w' = W) (hsp : Lib.splitB nlS 0 (Lib.countB text nlS) text = [text] ∧ Lib.countB text nlS + 1 = 1)
    (hw : Words text [pS, sv, sn]) (hv : Reads sv vars) (hn : Reads sn 0) :
    Calls Tryz.prog 9 #[.string s] w (Gives w fun v _ => v = .tuple #[.agg #[.int .i64 vars, .slice none 0 0], .int .i64 0]) := by
  have hp := parsedPoly_zero s text sv sn vars m (w.alloc (.cells #[.int .i64 0, .slice none 0 0] 24)) (max_below (below_alloc (below_refl w) _) h0 hm) (by simp) hv6 hok he hsz hts hc hsp hw hv hn
  have HP := Lib.hid hp
  clear hp hm hok he hsz hts hc hsp hw hv hn
  go_enter Tryz.func9, Tryz.ntmps9
  go_wp2_with fail
  refine HP.out.mono ?_
  rintro e w' ⟨_, rfl, rfl, hb⟩
  have ho := (box_heap hb)
  have HB := Lib.hid (below_then (below_alloc (below_refl w) _) (by simp) hb)
  have o0 : w'.cell? ⟨w.heap.size, 0, none⟩ = some (.int .i64 0) := by rw [Lib.cell_of_heap ho]; rfl
  have o1 : w'.cell? ⟨w.heap.size, 1, none⟩ = some (.slice none 0 0) := by rw [Lib.cell_of_heap ho]; rfl
  have oz := fun i => Lib.frozen_of_heap ho i
  clear ho hb
  go_wp2
  refine bodyPost_ret (v := .tuple #[.agg #[.int .i64 vars, .slice none 0 0], .int .i64 0]) (by simp [results, Tryz.results9, go_sem, o0, o1]) rfl ⟨_, rfl, rfl, ?_⟩
  exact (HB.out.setCell (p := ⟨w.heap.size, 0, none⟩) (Nat.le_refl _) _).setCell (p := ⟨w.heap.size, 1, none⟩) (Nat.le_refl _) _
end Go.Proofs.YtoflmheodiajaaaGreatDoor
