/- known: the check at the end of each law of the layer. -/
import Derived.Test.YtoflmheodiajaaaGreatDoorA17
namespace Go.Proofs.YtoflmheodiajaaaGreatDoor
open Go.RowKit
set_option linter.unusedVariables false
set_option linter.unusedSimpArgs false
variable {Bs : Nat}

def okI (s : ByteArray) : Bool := ofOk (ofNeg s) (ofTail s)
def zI (s : ByteArray) : Bool := decide (dval (ofTail s) = 0)
def domI (s : ByteArray) : Prop := s.size ≤ 536870911 ∧ ∀ i, i < s.size → bt s i ≠ 47
theorem ofSpec_int : OfSpec Bs okI zI domI := by
  intro s w hBs hd
  refine (of_int s w hBs hd.1 hd.2).mono ?_
  rintro e w' ⟨v, rfl, ⟨r, rfl, h0, h1⟩, hb⟩
  refine ⟨_, rfl, ?_, hb⟩
  cases hk : ofOk (ofNeg s) (ofTail s)
  · exact ⟨0, 0, none, by rw [h0 hk]; simp [okI, hk], fun h => by simp [okI, hk] at h⟩
  · rcases h1 hk with ⟨p, q, rfl, hp, _, hn0, _⟩ | ⟨b, nv, dv, xs, ys, rfl, _, _, _, _, _, _, _, hn0, _⟩
    · refine ⟨p, q, none, by simp [okI, hk], fun _ => ?_⟩
      by_cases hz : dval (ofTail s) = 0
      · have : p = 0 := by rw [hp, hz]; simp
        simp [isZ, zI, hz, this]
      · have : p ≠ 0 := by rw [hp, if_neg hz]; split <;> omega
        simp [isZ, zI, hz, this]
    · refine ⟨0, 0, some ⟨b, 0, none⟩, by simp [okI, hk], fun _ => ?_⟩
      have : dval (ofTail s) ≠ 0 := by omega
      simp [isZ, zI, this]

def k2 : ByteArray := ⟨#[50]⟩
def k1 : ByteArray := ⟨#[45, 49]⟩
def knownT (s : Nat) : List TermV := [⟨k2, some ⟨s, 0, none⟩, 2, [1, 1]⟩, ⟨k1, some ⟨s + 1, 0, none⟩, 2, [0, 0]⟩]
theorem knownOk (s : Nat) : polyOk okI zI 2 (knownT s) = true := by kernel_rfl
theorem knownL (s : Nat) : (⟨(polyL 2 (knownT s)).toArray⟩ : ByteArray) = ⟨#[112, 111, 108, 121, 32, 50, 32, 50, 10, 116, 101, 114, 109, 32, 50, 32, 49, 32, 49, 10, 116, 101, 114, 109, 32, 45, 49, 32, 48, 32, 48, 10]⟩ := by kernel_rfl
theorem knownDom (s : Nat) : ∀ i, i < (knownT s).length → domI (tm (knownT s) i).c := by
  intro i hi
  match i, hi with
  | 0, _ => exact (show domI k2 from ⟨by decide, by decide⟩)
  | 1, _ => exact (show domI k1 from ⟨by decide, by decide⟩)
theorem knownEx (s : Nat) : ∀ i, i < (knownT s).length → ∀ j, j < (tm (knownT s) i).xs.length → 0 ≤ el (tm (knownT s) i).xs j ∧ el (tm (knownT s) i).xs j < 100 := by
  intro i hi
  match i, hi with
  | 0, _ => exact (by decide : ∀ j : Nat, j < 2 → 0 ≤ el [1, 1] j ∧ el [1, 1] j < 100)
  | 1, _ => exact (by decide : ∀ j : Nat, j < 2 → 0 ≤ el [0, 0] j ∧ el [0, 0] j < 100)
theorem knownXs (s : Nat) : ∀ i, i < (knownT s).length → (tm (knownT s) i).xs.length ≤ 6 := by
  intro i hi
  match i, hi with
  | 0, _ => exact (by decide : 2 ≤ 6)
  | 1, _ => exact (by decide : 2 ≤ 6)

def knownW (w : World) : World := ((w.alloc (.cells #[.int .i64 1, .int .i64 1] 3)).alloc (.cells #[.int .i64 0, .int .i64 0] 3)).alloc (.cells #[.string k2, .slice (some ⟨w.heap.size, 0, none⟩) 2 2, .string k1, .slice (some ⟨w.heap.size + 1, 0, none⟩) 2 2] 28)
theorem knownRd (w : World) : RdT 0 (knownW w) (some ⟨w.heap.size + 2, 0, none⟩) (knownT w.heap.size) := by
  obtain ⟨h0, h1, h2⟩ := heap_three w (.cells #[.int .i64 1, .int .i64 1] 3) (.cells #[.int .i64 0, .int .i64 0] 3) (.cells #[.string k2, .slice (some ⟨w.heap.size, 0, none⟩) 2 2, .string k1, .slice (some ⟨w.heap.size + 1, 0, none⟩) 2 2] 28)
  refine fun _ => ⟨w.heap.size + 2, 0, _, _, _, rfl, h2, .inr rfl, fun j hj => ?_⟩
  match j, hj with
  | 0, _ =>
    refine ⟨rfl, rfl, fun _ => ⟨w.heap.size, 0, _, _, _, rfl, h0, .inr rfl, fun j hj => ?_⟩, (by decide : 2 ≤ 2), (by decide : 2 ≤ 9223372036854775807)⟩
    match j, hj with
    | 0, _ => rfl
    | 1, _ => rfl
  | 1, _ =>
    refine ⟨rfl, rfl, fun _ => ⟨w.heap.size + 1, 0, _, _, _, rfl, h1, .inr rfl, fun j hj => ?_⟩, (by decide : 2 ≤ 2), (by decide : 2 ≤ 9223372036854775807)⟩
    match j, hj with
    | 0, _ => rfl
    | 1, _ => rfl
theorem known_any (w : World) : Calls Tryz.prog 6 #[] w (Gives w fun v _ => v = .bool true) := by
  have hp := formatPoly_ok okI zI domI (ofSpec_int (Bs := 0)) (some ⟨w.heap.size + 2, 0, none⟩) 2 (knownT w.heap.size) 2 (knownW w) (Nat.zero_le _) (knownRd w) (by decide : 2 ≤ 2) (by decide : 2 < 100) (knownDom _) (by decide) (knownOk _) (knownEx _) (knownXs _) (by
    have : (polyL 2 (knownT w.heap.size)).length = 32 := by kernel_rfl
    omega)
  rw [knownL] at hp
  have HP := Lib.hid hp
  clear hp
  go_enter Tryz.func6, Tryz.ntmps6
  go_wp2_with fail
  refine HP.out.mono ?_
  rintro e w' ⟨_, rfl, rfl, hb⟩
  have HB := Lib.hid (below_then (below_alloc (below_alloc (below_alloc (below_refl w) _) _) _) (by simp; omega) hb)
  clear hb
  go_wp2
  go_ret
  exact ⟨_, rfl, rfl, HB.out⟩
end Go.Proofs.YtoflmheodiajaaaGreatDoor
