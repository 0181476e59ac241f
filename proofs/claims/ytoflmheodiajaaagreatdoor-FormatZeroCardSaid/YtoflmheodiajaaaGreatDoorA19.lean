/- parsed, where a text is refused ahead of its reading. -/
import Derived.Test.YtoflmheodiajaaaGreatDoorA18
namespace Go.Proofs.YtoflmheodiajaaaGreatDoor
open Go.RowKit
set_option linter.unusedVariables false
set_option linter.unusedSimpArgs false

set_option maxHeartbeats 1000000 in
theorem parsedPoly_long (s : ByteArray) (w : World) (hs : 1048576 < s.size) (f g : Value) :
    Calls Tryz.prog 18 #[.string s, f, g] w (Gives w fun v _ => v = .tuple #[.agg #[.int .i64 0, .slice none 0 0], .int .i64 2]) := by
  have hs2 : (1048576 : Int) < (s.size : Int) := by omega
  go_enter_defers Tryz.func18, Tryz.ntmps18
  go_wp2_with fail
  simp [bodyPostD, Leaves, settle, results, Tryz.results18, go_sem]
  exact ⟨_, rfl, rfl, below_alloc (below_alloc (below_refl _) _) _⟩
set_option maxHeartbeats 1000000 in
theorem parsedPoly_noline (s : ByteArray) (w : World) (hs : s.size ≤ 1048576) (f g : Value) (hc : ∀ W, Calls Tryz.prog 37 #[.string s, .string ⟨#[10]⟩] W fun e w' => e = .returned (.tuple #[.string s, .bool false]) ∧ w' = W) :
    Calls Tryz.prog 18 #[.string s, f, g] w (Gives w fun v _ => v = .tuple #[.agg #[.int .i64 0, .slice none 0 0], .int .i64 6]) := by
  have hs2 : ¬ (1048576 : Int) < (s.size : Int) := by omega
  have HC := Lib.hid hc
  clear hc
  go_enter_defers Tryz.func18, Tryz.ntmps18
  go_wp2_with fail
  refine (HC.out _).mono ?_
  rintro e w' ⟨rfl, rfl⟩
  go_wp2_with fail
  refine leaves_cons (f := 27) (args := #[.pointer (some ⟨w.heap.size + 1, 0, none⟩)]) (by simp) (by simp [go_sem]) ?_
  refine (catch_idle ⟨w.heap.size + 1, 0, none⟩ _).mono ?_
  rintro e u' w'' ⟨rfl, rfl, rfl⟩
  simp [Leaves, settle, results, Tryz.results18, go_sem]
  exact ⟨_, rfl, rfl, below_alloc (below_alloc (below_refl _) _) _⟩
end Go.Proofs.YtoflmheodiajaaaGreatDoor
