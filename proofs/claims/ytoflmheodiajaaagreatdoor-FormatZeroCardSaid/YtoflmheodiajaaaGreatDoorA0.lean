/- Words and small lemmas that the walks of this seat share: bytes of strings, lists of numbers in memory, worlds that only grew. -/
import Derived.Test.YtoflmheodiajaaaGreatDoorProg
import Derived.WalkKit
import Derived.WalkSpells
import Derived.WalkLawsBesides
import Derived.Outline
import Derived.Lib.Hide
import Derived.Laws.Rows
import Derived.Deep.QuietTactic
import Derived.BigQuiet
import Derived.Deep.RegionWith
import Derived.Deep.DeepFit
import Derived.Lib.Strings
import Derived.OpenShut
import Derived.Lib.Builder
namespace Go.Proofs.YtoflmheodiajaaaGreatDoor
open Go.RowKit

/-- Byte i of a string, 0 behind its end. -/
def bt (s : ByteArray) (i : Nat) : Int := if h : i < s.size then ((s[i]'h).toNat : Int) else 0
theorem bt_at (s : ByteArray) (i : Nat) : ∀ h : i < s.size, ((s[i]'h).toNat : Int) = bt s i := fun h => by simp [bt, h]
theorem bt_range (s : ByteArray) (i : Nat) : 0 ≤ bt s i ∧ bt s i ≤ 255 := by
  unfold bt
  split
  · rename_i h
    have := (s[i]'h).toNat_lt
    omega
  · omega
/-- Element i of a list of numbers, 0 behind its end. -/
def el (xs : List Int) (i : Nat) : Int := xs.getD i 0
theorem el_at (xs : List Int) (i : Nat) : ∀ h : i < xs.length, xs[i] = el xs i := fun h => by simp [el, h]
/-- A slice of numbers that reads as xs: its block is old (below Bs), or a row of elements of type e. -/
def Rd (Bs : Nat) (w : World) (k : IntKind) (e : TypeId) (A : Option Addr) (xs : List Int) : Prop :=
  0 < xs.length → ∃ b off cs t fr, A = some ⟨b, off, none⟩ ∧ w.heap[b]? = some (.cells cs t fr) ∧ (b < Bs ∨ t = e) ∧ ∀ j, j < xs.length → cs[off + j]? = some (.int k (el xs j))
/-- What is kept where only blocks from Bs on of other types than those of T are written. -/
def Keeps (Bs : Nat) (T : List TypeId) (w w1 : World) : Prop := ∀ (b : Nat) cs t fr, w.heap[b]? = some (.cells cs t fr) → (b < Bs ∨ t ∈ T) → w1.heap[b]? = some (.cells cs t fr)
theorem lt_of_heap {w : World} {b : Nat} {o : Obj} (h : w.heap[b]? = some o) : b < w.heap.size := (Array.getElem?_eq_some_iff.1 h).1
theorem Keeps.of_below {Bs : Nat} {T : List TypeId} {w w1 : World} (h : Below w.heap.size w w1) : Keeps Bs T w w1 := fun b cs t fr hb _ => by
  rw [h.block b (lt_of_heap hb)]; exact hb
theorem Keeps.trans {Bs : Nat} {T : List TypeId} {w w1 w2 : World} (h : Keeps Bs T w w1) (h2 : Keeps Bs T w1 w2) : Keeps Bs T w w2 := fun b cs t fr hb ht => h2 b cs t fr (h b cs t fr hb ht) ht
theorem Keeps.sub {Bs : Nat} {T T' : List TypeId} {w w1 : World} (h : Keeps Bs T w w1) (hs : ∀ t ∈ T', t ∈ T) : Keeps Bs T' w w1 := fun b cs t fr hb ht => h b cs t fr hb (ht.imp id (hs t))
/-- A store into a block of another type. -/
theorem Keeps.setCell {Bs : Nat} {T : List TypeId} {w : World} {g i : Nat} {cs : Array Value} {t : TypeId} {fr : Nat × Nat} (hg : w.heap[g]? = some (.cells cs t fr)) (hB : Bs ≤ g) (ht : t ∉ T) (v : Value) : Keeps Bs T w (w.setCell ⟨g, i, none⟩ v) := fun b c u f hb hu => by
  have hne : g ≠ b := by
    intro e
    subst e
    rw [hg] at hb
    simp only [Option.some.injEq, Obj.cells.injEq] at hb
    rcases hu with h | h
    · omega
    · exact ht (hb.2.1 ▸ h)
  unfold World.setCell
  simp [Array.getElem?_modify, hne]
  exact hb
theorem Rd.keeps {Bs : Nat} {w w1 : World} {k : IntKind} {e : TypeId} {A : Option Addr} {xs : List Int} (h : Rd Bs w k e A xs) (hk : Keeps Bs [e] w w1) : Rd Bs w1 k e A xs := fun hn => by
  obtain ⟨b, off, cs, t, fr, e1, e2, e3, e4⟩ := h hn
  exact ⟨b, off, cs, t, fr, e1, hk b cs t fr e2 (e3.imp id (fun h => by simp [h])), e3, e4⟩
theorem Rd.below {Bs : Nat} {w w1 : World} {k : IntKind} {e : TypeId} {A : Option Addr} {xs : List Int} (h : Rd Bs w k e A xs) (hb : Below w.heap.size w w1) : Rd Bs w1 k e A xs := h.keeps (Keeps.of_below hb)
theorem Rd.plain {Bs : Nat} {w : World} {k : IntKind} {e : TypeId} {A : Option Addr} {xs : List Int} (h : Rd Bs w k e A xs) (hn : 0 < xs.length) :
    ∃ b off, A = some ⟨b, off, none⟩ ∧ b < w.heap.size ∧ ∀ j, j < xs.length → w.cell? ⟨b, off + j, none⟩ = some (.int k (el xs j)) := by
  obtain ⟨b, off, cs, t, fr, e1, e2, _, e4⟩ := h hn
  exact ⟨b, off, e1, lt_of_heap e2, fun j hj => by rw [Lib.cell_of_heap e2]; exact e4 j hj⟩
/-- Behind a call that made nothing but memory of its own. -/
theorem below_then {B : Nat} {w w1 w2 : World} (h : Below B w w1) (hB : B ≤ w1.heap.size) (k : Below w1.heap.size w1 w2) : Below B w w2 :=
  h.trans ⟨k.os, k.tape, k.output, k.size, fun i hi => k.block i (Nat.lt_of_lt_of_le hi hB)⟩
theorem below_refl (w : World) : Below w.heap.size w w := Below.refl _ _
theorem below_alloc {w W : World} (h : Below w.heap.size w W) (o : Obj) : Below w.heap.size w (W.alloc o) := h.alloc h.size o
theorem below_drew {B : Nat} {w W : World} (h : Below B w W) : Below B w W.drew := ⟨h.os, h.tape, h.output, h.size, h.block⟩
theorem below_drewN {B : Nat} {w W : World} (h : Below B w W) (n : Nat) : Below B w (W.drewN n) := ⟨h.os, h.tape, h.output, h.size, h.block⟩
/-- A box that later calls leave alone. -/
theorem box_kept {w w1 : World} {cs : Array Value} {t : TypeId} (hb : Below (w.alloc (.cells cs t)).heap.size (w.alloc (.cells cs t)) w1) :
    (∀ i, w1.cell? ⟨w.heap.size, i, none⟩ = cs[i]?) ∧ (∀ i, w1.frozen? ⟨w.heap.size, i, none⟩ = false) ∧ w.heap.size < w1.heap.size := by
  have hs := hb.size
  simp at hs
  refine ⟨fun i => ?_, fun i => ?_, by omega⟩
  · rw [hb.cell (p := ⟨w.heap.size, i, none⟩) (by simp)]
    exact World.cell?_alloc_at cs t _ i rfl
  · rw [hb.frozen (p := ⟨w.heap.size, i, none⟩) (by simp)]
    exact World.frozen?_alloc_at cs t _ i rfl
theorem empty_of (s : ByteArray) (h : s.size = 0) : s.toList.isEmpty = true := by
  rw [ByteArray.toList_eq]
  have : s.data = #[] := Array.eq_empty_of_size_eq_zero h
  simp [this]
theorem empty_not (s : ByteArray) (h : 0 < s.size) : s.toList.isEmpty = false := by
  rw [ByteArray.toList_eq]
  have : 0 < s.data.size := h
  rw [Bool.eq_false_iff]
  intro hc
  simp at hc
  simp [hc] at this
def lenOf : Value → Nat
  | .slice _ n _ => n
  | .string s => s.size
  | _ => 0
end Go.Proofs.YtoflmheodiajaaaGreatDoor
