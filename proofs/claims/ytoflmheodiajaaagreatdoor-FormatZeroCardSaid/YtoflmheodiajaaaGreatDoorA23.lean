/- (*writer).poly, the closure of Poly, written and format.Poly, where the polynomial is none of ours: ErrInvalid. -/
import Derived.Test.YtoflmheodiajaaaGreatDoorA18
namespace Go.Proofs.YtoflmheodiajaaaGreatDoor
open Go.RowKit
set_option linter.unusedVariables false
set_option linter.unusedSimpArgs false
variable {Bs : Nat}

def errChain (x : Int) : List PanicEntry := [{ v := .iface 29 (.int .i64 x), recovered := false }]
set_option maxHeartbeats 1000000 in
set_option maxRecDepth 100000 in
theorem writerPoly_bad (okC zC : ByteArray → Bool) (dom : ByteArray → Prop) (HS : OfSpec Bs okC zC dom) (A : Option Addr) (ca : Nat) (ts : List TermV) (vars : Int) (b : Value) (w : World) (hBs : Bs ≤ w.heap.size) (hA : RdT Bs w A ts)
    (hc : ts.length ≤ ca) (hl : ts.length ≤ 9223372036854775807) (hd : ∀ i, i < ts.length → dom (tm ts i).c) (hok : polyOk okC zC vars ts = false) :
    Calls Tryz.prog 15 #[b, .agg #[.int .i64 vars, .slice A ts.length ca]] w fun e w' => e = .panicked (errChain 1) ∧ Below w.heap.size w w' := by
  have HO := Lib.hid (fun W h1 h2 => (polyOf_any okC zC dom HS A ca ts vars W h1 h2 hc hl hd))
  have HA := Lib.hid hA
  have HOK := Lib.hid hok
  clear hA hok HS hd
  go_enter Tryz.func15, Tryz.ntmps15
  go_wp2_with fail
  refine (HO.out _ (by simp; omega) (HA.out.below (below_alloc (below_refl _) _))).mono ?_
  rintro e w1 ⟨_, rfl, ⟨n, A1, l1, c1, rfl⟩, hb1⟩
  rw [HOK.out]
  have HB1 := Lib.hid (below_then (below_alloc (below_refl w) _) (by simp) hb1)
  clear hb1
  go_wp2_with fail
  refine (fail_any 1 _).mono ?_
  rintro e w2 ⟨rfl, rfl⟩
  go_wp2
  simp only [bodyPost]
  exact ⟨trivial, rfl, HB1.out.alloc HB1.out.size _⟩

theorem closurePoly_bad (okC zC : ByteArray → Bool) (dom : ByteArray → Prop) (HS : OfSpec Bs okC zC dom) (A : Option Addr) (ca : Nat) (ts : List TermV) (vars : Int) (b : Value) (pb : Nat) (w : World) (hBs : Bs ≤ w.heap.size) (hA : RdT Bs w A ts)
    (hp0 : w.cell? ⟨pb, 0, none⟩ = some (.int .i64 vars)) (hp1 : w.cell? ⟨pb, 1, none⟩ = some (.slice A ts.length ca))
    (hc : ts.length ≤ ca) (hl : ts.length ≤ 9223372036854775807) (hd : ∀ i, i < ts.length → dom (tm ts i).c) (hok : polyOk okC zC vars ts = false) :
    Calls Tryz.prog 14 #[b, .pointer (some ⟨pb, 0, none⟩)] w fun e w' => e = .panicked (errChain 1) ∧ Below w.heap.size w w' := by
  have HW := Lib.hid (writerPoly_bad okC zC dom HS A ca ts vars b w hBs hA hc hl hd hok)
  clear hA hok HS hd
  go_enter Tryz.func14, Tryz.ntmps14
  go_wp2_with fail
  refine HW.out.mono ?_
  rintro e w' ⟨rfl, hw⟩
  have H1 := Lib.hid hw
  clear hw
  go_wp2
  simp only [bodyPost]
  exact ⟨trivial, trivial, H1.out⟩

set_option maxHeartbeats 1000000 in
set_option maxRecDepth 100000 in
theorem written_bad (q : Addr) (x : Int) (w : World)
    (HC : Calls Tryz.prog 14 #[.pointer (some ⟨w.heap.size + 1, 0, none⟩), .pointer (some q)] ((w.alloc (.cells #[.int .i64 0] 29)).alloc (.cells #[.pointer none, .slice none 0 0] 106))
      fun e w' => e = .panicked (errChain x) ∧ Below ((w.alloc (.cells #[.int .i64 0] 29)).alloc (.cells #[.pointer none, .slice none 0 0] 106)).heap.size ((w.alloc (.cells #[.int .i64 0] 29)).alloc (.cells #[.pointer none, .slice none 0 0] 106)) w') :
    Calls Tryz.prog 13 #[.func (Fn.func 14) #[] #[.pointer (some q)]] w (Gives w fun v _ => v = .tuple #[.string ⟨#[]⟩, .int .i64 x]) := by
  have HC := Lib.hid HC
  go_enter_defers Tryz.func13, Tryz.ntmps13
  go_wp2_with fail
  refine HC.out.mono ?_
  rintro e w1 ⟨rfl, h2⟩
  have hx : w1.heap[w.heap.size]? = some (.cells #[.int .i64 0] 29 (0, 0)) := (h2.block _ (by simp; omega)).trans (heap_two_fst w _ _)
  have x0 : w1.cell? ⟨w.heap.size, 0, none⟩ = some (.int .i64 0) := by rw [Lib.cell_of_heap hx]; rfl
  have xz := Lib.frozen_of_heap hx 0
  have H2 := Lib.hid (below_then (below_alloc (below_alloc (below_refl w) _) _) (by simp; omega) h2)
  have x1 := World.cell?_setCell_same w1 ⟨w.heap.size, 0, none⟩ (.int .i64 x) x0
  clear h2 hx
  go_wp2_with fail
  unfold errChain
  refine leaves_cons (f := 27) (args := #[.pointer (some ⟨w.heap.size, 0, none⟩)]) (by simp) (by simp [go_sem]) ?_
  refine (catch_errno ⟨w.heap.size, 0, none⟩ 0 x [] _ x0 xz).mono ?_
  rintro e u' w'' ⟨rfl, rfl, rfl⟩
  simp [Leaves, settle, results, Tryz.results13, go_sem, x1]
  exact ⟨_, rfl, rfl, H2.out.setCell (p := ⟨w.heap.size, 0, none⟩) (Nat.le_refl _) _⟩
/-- format.Poly at a polynomial that is none of ours. -/
theorem formatPoly_bad (okC zC : ByteArray → Bool) (dom : ByteArray → Prop) (HS : OfSpec Bs okC zC dom) (A : Option Addr) (ca : Nat) (ts : List TermV) (vars : Int) (w : World) (hBs : Bs ≤ w.heap.size) (hA : RdT Bs w A ts)
    (hc : ts.length ≤ ca) (hl : ts.length ≤ 9223372036854775807) (hd : ∀ i, i < ts.length → dom (tm ts i).c) (hok : polyOk okC zC vars ts = false) :
    Calls Tryz.prog 7 #[.agg #[.int .i64 vars, .slice A ts.length ca]] w (Gives w fun v _ => v = .tuple #[.string ⟨#[]⟩, .int .i64 1]) := by
  have hmf : ∀ (fn : Fn) (first cap : Array Value) (w : World), (Instr.makeFunc fn first cap).run Tryz.prog w = .ok (.func fn first cap) w := fun _ _ _ _ => rfl
  have e1 : (w.alloc (.cells #[.int .i64 vars, .slice A ts.length ca] 24)).heap.size = w.heap.size + 1 := by simp
  have hbx := heap_alloc_new w (.cells #[.int .i64 vars, .slice A ts.length ca] 24)
  have hb3 := below_alloc (below_alloc (below_refl (w.alloc (.cells #[.int .i64 vars, .slice A ts.length ca] 24))) (.cells #[.int .i64 0] 29)) (.cells #[.pointer none, .slice none 0 0] 106)
  have hbx3 := (hb3.block w.heap.size (by simp)).trans hbx
  have hclo := closurePoly_bad okC zC dom HS A ca ts vars (.pointer (some ⟨w.heap.size + 2, 0, none⟩)) w.heap.size (((w.alloc (.cells #[.int .i64 vars, .slice A ts.length ca] 24)).alloc (.cells #[.int .i64 0] 29)).alloc (.cells #[.pointer none, .slice none 0 0] 106))
    (by simp; omega) (hA.below (below_alloc (below_alloc (below_alloc (below_refl w) _) _) _)) (by rw [Lib.cell_of_heap hbx3]; rfl) (by rw [Lib.cell_of_heap hbx3]; rfl) hc hl hd hok
  have hwr := written_bad ⟨w.heap.size, 0, none⟩ 1 (w.alloc (.cells #[.int .i64 vars, .slice A ts.length ca] 24)) (by rw [e1]; exact hclo)
  have HWR := Lib.hid hwr
  clear hwr hclo hbx3 hb3 hbx hA hok HS hd e1
  go_enter Tryz.func7, Tryz.ntmps7
  go_wp2_with fail
  refine HWR.out.mono ?_
  rintro e w' ⟨_, rfl, rfl, hb⟩
  have HB := Lib.hid (below_then (below_alloc (below_refl w) _) (by simp) hb)
  clear hb
  go_wp2
  go_ret2
  exact ⟨_, rfl, rfl, HB.out⟩
end Go.Proofs.YtoflmheodiajaaaGreatDoor
