/- format.written and format.Poly. -/
import Derived.Test.YtoflmheodiajaaaGreatDoorA16
namespace Go.Proofs.YtoflmheodiajaaaGreatDoor
open Go.RowKit
set_option linter.unusedVariables false
set_option linter.unusedSimpArgs false
variable {Bs : Nat}

theorem isW_new (w : World) : IsW w.heap.size w.heap.size [] (w.alloc (.cells #[.pointer none, .slice none 0 0] 106)) :=
  ⟨.pointer none, .inl rfl, Nat.le_refl _, .slice none 0 0, heap_alloc_new w _, World.ownsRow_nil _ _ _ _, by simp [Value.ownBlock]⟩

set_option maxHeartbeats 1000000 in
set_option maxRecDepth 100000 in
theorem written_ok (q : Addr) (l : List UInt8) (w : World) (hl : l ≠ []) (hm : l.length ≤ 1048576)
    (HC : Calls Tryz.prog 14 #[.pointer (some ⟨w.heap.size + 1, 0, none⟩), .pointer (some q)] ((w.alloc (.cells #[.int .i64 0] 29)).alloc (.cells #[.pointer none, .slice none 0 0] 106))
      fun e w' => e = .returned (.tuple #[]) ∧ IsW (w.heap.size + 1) (w.heap.size + 1) l w' ∧ Oth (w.heap.size + 1) (w.heap.size + 1) ((w.alloc (.cells #[.int .i64 0] 29)).alloc (.cells #[.pointer none, .slice none 0 0] 106)) w') :
    Calls Tryz.prog 13 #[.func (Fn.func 14) #[] #[.pointer (some q)]] w (Gives w fun v _ => v = .tuple #[.string ⟨l.toArray⟩, .int .i64 0]) := by
  have HC := Lib.hid HC
  go_enter_defers Tryz.func13, Tryz.ntmps13
  go_wp2_with fail
  refine HC.out.mono ?_
  rintro e w1 ⟨rfl, h1, h2⟩
  have hx : w1.heap[w.heap.size]? = some (.cells #[.int .i64 0] 29 (0, 0)) := (h2.1.block _ (by omega)).trans (heap_two_fst w _ _)
  have x0 : w1.cell? ⟨w.heap.size, 0, none⟩ = some (.int .i64 0) := by rw [Lib.cell_of_heap hx]; rfl
  have xz := fun i => Lib.frozen_of_heap hx i
  have H1 := Lib.hid h1
  have H2 := Lib.hid h2
  have HX := Lib.hid hx
  clear h1 h2 hx
  go_wp2_with fail
  refine (len_any (T := 106) (ext := []) _ _ _ _ H1.out).mono ?_
  rintro e w' ⟨rfl, rfl⟩
  rw [Lib.byteCells_length]
  have hm2 : ¬ (1048576 < (l.length : Int)) := by omega
  go_wp2_with fail
  refine (string_any (T := 106) (ext := []) _ _ _ _ H1.out hl).mono ?_
  rintro e w2 ⟨rfl, hb2⟩
  have hx2 : w2.heap[w.heap.size]? = some (.cells #[.int .i64 0] 29 (0, 0)) := (hb2.block _ (by omega)).trans HX.out
  have y0 : w2.cell? ⟨w.heap.size, 0, none⟩ = some (.int .i64 0) := by rw [Lib.cell_of_heap hx2]; rfl
  have yz := fun i => Lib.frozen_of_heap hx2 i
  have HB2 := Lib.hid hb2
  clear hb2 hx2 x0 xz
  go_wp2_with fail
  refine leaves_cons (f := 27) (args := #[.pointer (some ⟨w.heap.size, 0, none⟩)]) (by simp) (by simp [go_sem]) ?_
  refine (catch_idle ⟨w.heap.size, 0, none⟩ _).mono ?_
  rintro e u' w'' ⟨rfl, rfl, rfl⟩
  simp [Leaves, settle, results, Tryz.results13, go_sem, y0]
  exact ⟨_, rfl, rfl, (below_mix (below_mix (below_alloc (below_alloc (below_refl w) _) _) (Nat.le_succ _) H2.out.1) (Nat.le_succ _) HB2.out).setCell (p := ⟨w.heap.size, 0, none⟩) (Nat.le_refl _) _⟩
/-- format.Poly at a polynomial that is one of ours. -/
theorem formatPoly_ok (okC zC : ByteArray → Bool) (dom : ByteArray → Prop) (HS : OfSpec Bs okC zC dom) (A : Option Addr) (ca : Nat) (ts : List TermV) (vars : Nat) (w : World) (hBs : Bs ≤ w.heap.size) (hA : RdT Bs w A ts)
    (hc : ts.length ≤ ca) (hl : ts.length < 100) (hd : ∀ i, i < ts.length → dom (tm ts i).c) (hv : vars ≤ 6) (hok : polyOk okC zC vars ts = true) (hex : ∀ i, i < ts.length → ∀ j, j < (tm ts i).xs.length → 0 ≤ el (tm ts i).xs j ∧ el (tm ts i).xs j < 100)
    (hxs : ∀ i, i < ts.length → (tm ts i).xs.length ≤ 6) (hlen : (polyL vars ts).length ≤ 1048576) :
    Calls Tryz.prog 7 #[.agg #[.int .i64 vars, .slice A ts.length ca]] w (Gives w fun v _ => v = .tuple #[.string ⟨(polyL vars ts).toArray⟩, .int .i64 0]) := by
  have hmf : ∀ (fn : Fn) (first cap : Array Value) (w : World), (Instr.makeFunc fn first cap).run Tryz.prog w = .ok (.func fn first cap) w := fun _ _ _ _ => rfl
  have hne : polyL vars ts ≠ [] := by simp [polyL, headL, lineOf]
  have e1 : (w.alloc (.cells #[.int .i64 vars, .slice A ts.length ca] 24)).heap.size = w.heap.size + 1 := by simp
  have hbx := heap_alloc_new w (.cells #[.int .i64 vars, .slice A ts.length ca] 24)
  have hb3 := below_alloc (below_alloc (below_refl (w.alloc (.cells #[.int .i64 vars, .slice A ts.length ca] 24))) (.cells #[.int .i64 0] 29)) (.cells #[.pointer none, .slice none 0 0] 106)
  have hbx3 := (hb3.block w.heap.size (by simp)).trans hbx
  have hclo := closurePoly_any okC zC dom HS A ca ts vars (w.heap.size + 2) (w.heap.size + 2) w.heap.size [] (((w.alloc (.cells #[.int .i64 vars, .slice A ts.length ca] 24)).alloc (.cells #[.int .i64 0] 29)).alloc (.cells #[.pointer none, .slice none 0 0] 106))
    (by omega) (by simp) (hA.below (below_alloc (below_alloc (below_alloc (below_refl w) _) _) _)) (by rw [Lib.cell_of_heap hbx3]; rfl) (by rw [Lib.cell_of_heap hbx3]; rfl) hc hl hd hv hok hex hxs (by simpa using Nat.le_trans hlen (by omega))
    (by
      have := isW_new ((w.alloc (.cells #[.int .i64 vars, .slice A ts.length ca] 24)).alloc (.cells #[.int .i64 0] 29))
      rw [show ((w.alloc (.cells #[.int .i64 vars, .slice A ts.length ca] 24)).alloc (.cells #[.int .i64 0] 29)).heap.size = w.heap.size + 2 by simp] at this
      exact this)
  rw [List.nil_append] at hclo
  have hwr := written_ok ⟨w.heap.size, 0, none⟩ (polyL vars ts) (w.alloc (.cells #[.int .i64 vars, .slice A ts.length ca] 24)) hne hlen (by rw [e1]; exact hclo)
  have HWR := Lib.hid hwr
  clear hwr hclo hbx3 hb3 hbx hA hex hxs hlen hok HS hd e1
  go_enter Tryz.func7, Tryz.ntmps7
  go_wp2_with fail
  refine HWR.out.mono ?_
  rintro e w' ⟨_, rfl, rfl, hb⟩
  have HB := Lib.hid (below_then (below_alloc (below_refl w) _) (by simp) hb)
  clear hb
  go_wp2
  go_ret2
  exact ⟨_, rfl, rfl, HB.out⟩
end Go.Proofs.YtoflmheodiajaaaGreatDoor
