/- format.fail, catch, the closure of Poly. -/
import Derived.Test.YtoflmheodiajaaaGreatDoorA15
import Derived.Defers
import Derived.Recover
namespace Go.Proofs.YtoflmheodiajaaaGreatDoor
open Go.RowKit
set_option linter.unusedVariables false
set_option linter.unusedSimpArgs false
variable {Bs : Nat}

theorem closurePoly_any (okC zC : ByteArray → Bool) (dom : ByteArray → Prop) (HS : OfSpec Bs okC zC dom) (A : Option Addr) (ca : Nat) (ts : List TermV) (vars : Nat) (B b pb : Nat) (l : List UInt8) (w : World) (hBs : Bs ≤ B) (hBw : B ≤ w.heap.size) (hA : RdT Bs w A ts)
    (hp0 : w.cell? ⟨pb, 0, none⟩ = some (.int .i64 vars)) (hp1 : w.cell? ⟨pb, 1, none⟩ = some (.slice A ts.length ca))
    (hc : ts.length ≤ ca) (hl : ts.length < 100) (hd : ∀ i, i < ts.length → dom (tm ts i).c) (hv : vars ≤ 6) (hok : polyOk okC zC vars ts = true) (hex : ∀ i, i < ts.length → ∀ j, j < (tm ts i).xs.length → 0 ≤ el (tm ts i).xs j ∧ el (tm ts i).xs j < 100)
    (hxs : ∀ i, i < ts.length → (tm ts i).xs.length ≤ 6) (hlen : (l ++ polyL vars ts).length ≤ 140737488355328) (h : IsW B b l w) :
    Calls Tryz.prog 14 #[.pointer (some ⟨b, 0, none⟩), .pointer (some ⟨pb, 0, none⟩)] w fun e w' => e = .returned (.tuple #[]) ∧ IsW B b (l ++ polyL vars ts) w' ∧ Oth B b w w' := by
  have HW := Lib.hid (writerPoly_any okC zC dom HS A ca ts vars B b l w hBs hBw hA hc hl hd hv hok hex hxs hlen h)
  clear hA h hex hxs hlen hok HS hd
  go_enter Tryz.func14, Tryz.ntmps14
  go_wp2_with fail
  refine HW.out.mono ?_
  rintro e w' ⟨rfl, hw, ho⟩
  have H1 := Lib.hid hw
  have H2 := Lib.hid ho
  clear hw ho
  go_wp2
  go_end0
  exact ⟨rfl, H1.out, H2.out⟩

theorem catch_idle (p : Addr) (w : World) :
    CallsD Tryz.prog 27 #[.pointer (some p)] .returning w fun e u' w' => e = .returned (.tuple #[]) ∧ u' = .returning ∧ w' = w := by
  refine callsD_of_wpS Tryz.func27 rfl fun c₀ cs hu => ?_
  apply wpS_seq
  apply wpS_region
  simp [wpOpsS, go_sem, recoverD, hu, Tryz.ntmps27, Exit.thenS]
  have hf : (#[Value.pointer (some p)] ++ (Array.replicate 13 undef).setIfInBounds 4 Value.nilIface : Array Value) = #[.pointer (some p), undef, undef, undef, undef, .nilIface, undef, undef, undef, undef, undef, undef, undef, undef] := by rfl
  rw [hf]
  refine wpS_of_wp ?_
  go_wp2
  cases c₀
  simp_all [bodyPostS, results, Tryz.results27]

theorem run_isErrno (x : Int) (w : World) : (Instr.typeAssert (.iface 29 (.int .i64 x)) 20 29 true).run Tryz.prog w = .ok (.tuple #[.int .i64 x, .bool true]) w := by kernel_rfl
set_option maxRecDepth 100000 in
/-- catch, where a panic with an error number goes by: it is caught, the number is laid. -/
theorem catch_errno (p : Addr) (x0 x : Int) (older : List PanicEntry) (w : World) (hc : w.cell? p = some (.int .i64 x0)) (hz : w.frozen? p = false) :
    CallsD Tryz.prog 27 #[.pointer (some p)] (.panicking ({ v := .iface 29 (.int .i64 x), recovered := false } :: older)) w fun e u' w' =>
      e = .returned (.tuple #[]) ∧ u' = .panicking ({ v := .iface 29 (.int .i64 x), recovered := true } :: older) ∧ w' = w.setCell p (.int .i64 x) := by
  refine callsD_of_wpS Tryz.func27 rfl fun c₀ cs hu => ?_
  apply wpS_seq
  apply wpS_region
  simp [wpOpsS, go_sem, recoverD, hu, Tryz.ntmps27, Exit.thenS]
  have hf : (#[Value.pointer (some p)] ++ (Array.replicate 13 undef).setIfInBounds 4 (.iface 29 (.int .i64 x)) : Array Value) = #[.pointer (some p), undef, undef, undef, undef, .iface 29 (.int .i64 x), undef, undef, undef, undef, undef, undef, undef, undef] := by rfl
  rw [hf]
  have hta := run_isErrno x
  refine wpS_of_wp ?_
  go_wp2
  simp_all [bodyPostS, results, Tryz.results27]

theorem fail_any (x : Int) (w : World) : Calls Tryz.prog 31 #[.int .i64 x] w fun e w' => e = .panicked [{ v := .iface 29 (.int .i64 x), recovered := false }] ∧ w' = w := by
  go_enter Tryz.func31, Tryz.ntmps31
  go_wp2
  first | exact ⟨rfl, rfl⟩ | simp [bodyPost]
end Go.Proofs.YtoflmheodiajaaaGreatDoor
