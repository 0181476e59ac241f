/- A region that draws its order, reads older memory and calls functions that make nothing but memory of their own: one walk of the order of the text serves (over Derived/Deep/Quiet.lean's theorem, at the class of the worlds behind w). -/
import Derived.Test.YtoflmheodiajaaaGreatDoorB0
import Derived.Deep.QuietTactic
import Derived.BigQuiet
namespace Go.Proofs.YtoflmheodiajaaaGreatDoor
open Go.RowKit
set_option linter.unusedVariables false

/-- A world in which everything that was there in w is as it was. -/
structure After (w0 : World) where
  w : World
  below : Below w0.heap.size w0 w
/-- The world behind one draw. -/
def After.start (w : World) : After w := ⟨w.drew, below_drew (below_refl w)⟩
instance {w : World} : Nonempty (After w) := ⟨After.start w⟩
def After.more {w : World} (x : After w) {w1 : World} (h : Below x.w.heap.size x.w w1) : After w := ⟨w1, below_then x.below x.below.size h⟩

theorem wp_region_after_lit {P : Program} {id : Nat} {Q : Exit → Act → World → Prop} {a : Act} {w : World} {l : List Oper} (hm : P.follows .mixedOrders = true) (hB : Region.lexB .any l.toArray = true)
    (h : wpQuiet P l.toArray (fun w' => ∃ x : After w, w' = x.w) (fun a' => ∀ w', (∃ x : After w, w' = x.w) → Q .normal a' w') l a) : (Code.region id l.toArray true).wp P Q a w :=
  wp_region_quiet (C := fun w' => ∃ x : After w, w' = x.w) hm hB ⟨After.start w, rfl⟩ (by simpa using h)

/-- A callee's contract, met in a world behind w. -/
theorem after_call {P : Program} {f : FuncId} {args : Array Value} {w : World} {x : After w} {v : Value} (h : Calls P f args x.w fun e w' => e = .returned v ∧ Below x.w.heap.size x.w w') :
    Calls P f args x.w fun e w'' => e = .returned v ∧ ∃ y : After w, w'' = y.w :=
  h.mono fun _ w1 ⟨he, hb⟩ => ⟨he, x.more hb, rfl⟩

end Go.Proofs.YtoflmheodiajaaaGreatDoor
