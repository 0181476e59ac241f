/- More small lemmas on worlds: boxes that are written, what is kept. -/
import Derived.Test.YtoflmheodiajaaaGreatDoorA0
namespace Go.Proofs.YtoflmheodiajaaaGreatDoor
open Go.RowKit
set_option linter.unusedVariables false
set_option linter.unusedSimpArgs false

theorem heap_setCell {w : World} {g i : Nat} {cs : Array Value} {t : TypeId} {fr : Nat × Nat} (hg : w.heap[g]? = some (.cells cs t fr)) (v : Value) :
    (w.setCell ⟨g, i, none⟩ v).heap[g]? = some (.cells (cs.setIfInBounds i v) t fr) := by
  unfold World.setCell
  simp [Array.getElem?_modify, hg]
theorem box_heap {w w1 : World} {o : Obj} (hb : Below (w.alloc o).heap.size (w.alloc o) w1) : w1.heap[w.heap.size]? = some o := by
  rw [hb.block w.heap.size (by simp)]
  exact heap_alloc_new w o
/-- Three stores into one box. -/
theorem Keeps.set3 {Bs : Nat} {T : List TypeId} {w : World} {g : Nat} {cs : Array Value} {t : TypeId} {fr : Nat × Nat} (hg : w.heap[g]? = some (.cells cs t fr)) (hB : Bs ≤ g) (ht : t ∉ T) (a b c : Value) :
    Keeps Bs T w (((w.setCell ⟨g, 0, none⟩ a).setCell ⟨g, 1, none⟩ b).setCell ⟨g, 2, none⟩ c) :=
  ((Keeps.setCell hg hB ht a).trans (Keeps.setCell (heap_setCell hg a) hB ht b)).trans (Keeps.setCell (heap_setCell (heap_setCell hg a) b) hB ht c)
theorem below_set3 {B : Nat} {w w1 : World} {g : Nat} (h : Below B w w1) (hg : B ≤ g) (a b c : Value) :
    Below B w (((w1.setCell ⟨g, 0, none⟩ a).setCell ⟨g, 1, none⟩ b).setCell ⟨g, 2, none⟩ c) :=
  ((h.setCell (p := ⟨g, 0, none⟩) hg a).setCell (p := ⟨g, 1, none⟩) hg b).setCell (p := ⟨g, 2, none⟩) hg c
end Go.Proofs.YtoflmheodiajaaaGreatDoor
