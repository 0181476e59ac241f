/- sosoptref06.Write and sosoptref30.SamePoly at polynomials without terms. -/
import Derived.Test.YtoflmheodiajaaaGreatDoorA23
namespace Go.Proofs.YtoflmheodiajaaaGreatDoor
open Go.RowKit
set_option linter.unusedVariables false
set_option linter.unusedSimpArgs false

theorem refWrite_zero (x : Int) (w : World) : Calls Tryz.prog 11 #[.agg #[.int .i64 x, .slice none 0 0]] w fun e w' => e = .returned (.agg #[.int .i64 x, .slice none 0 0]) ∧ Below w.heap.size w w' := by
  go_enter Tryz.func11, Tryz.ntmps11
  go_wp2
  go_loop [4] (fun i => i = .int .i64 0) (fun _ => 0)
  case atStart => rfl
  case round =>
    subst hrel
    go_wp2
    refine bodyPost_ret (v := .agg #[.int .i64 x, .slice none 0 0]) (by simp [results, Tryz.results11, go_sem]) rfl ⟨rfl, ?_⟩
    exact below_alloc (below_alloc (below_alloc (below_refl w) _) _) _
theorem samePoly_zero (x : Int) (w : World) : Calls Tryz.prog 10 #[.agg #[.int .i64 x, .slice none 0 0], .agg #[.int .i64 x, .slice none 0 0]] w fun e w' => e = .returned (.bool true) ∧ Below w.heap.size w w' := by
  have hx : (x != x) = false := by simp
  go_enter Tryz.func10, Tryz.ntmps10
  go_wp2
  go_loop [23] (fun i => i = .int .i64 0) (fun _ => 0)
  case atStart => rfl
  case round =>
    subst hrel
    go_wp2
    go_ret
    exact ⟨rfl, below_alloc (below_alloc (below_refl w) _) _⟩
end Go.Proofs.YtoflmheodiajaaaGreatDoor
