/- ParsePoly, where the text is refused ahead of its reading. -/
import Derived.Test.YtoflmheodiajaaaGreatDoorA19
import Derived.Test.YtoflmheodiajaaaGreatDoorShelf
namespace Go.Proofs.YtoflmheodiajaaaGreatDoor
open Go.RowKit
set_option linter.unusedVariables false
set_option linter.unusedSimpArgs false

def noLine (s : ByteArray) : Prop := Lib.hasSuffix s.data.toList [10] = false
theorem cut_noline (s : ByteArray) (hs : s.size ≤ 1048576) (h : noLine s) (W : World) : Calls Tryz.prog 37 #[.string s, .string ⟨#[10]⟩] W fun e w' => e = .returned (.tuple #[.string s, .bool false]) ∧ w' = W := by
  refine (Tryz.strings_CutSuffix s ⟨#[10]⟩ W (by omega)).mono ?_
  rintro e w' ⟨rfl, rfl⟩
  have h' : Lib.hasSuffix s.data.toList (⟨#[10]⟩ : ByteArray).data.toList = false := h
  have e : (⟨(Lib.trimSuffix s.data.toList (⟨#[10]⟩ : ByteArray).data.toList).toArray⟩ : ByteArray) = s := by
    unfold Lib.trimSuffix
    rw [h']
    simp
  rw [h', e]
  exact ⟨rfl, rfl⟩
theorem parsePoly_refused (s : ByteArray) (w : World) (x : Int) (hx : s.size ≤ 1048576 ∧ noLine s ∧ x = 6 ∨ 1048576 < s.size ∧ x = 2) :
    Calls Tryz.prog 9 #[.string s] w (Gives w fun v _ => v = .tuple #[.agg #[.int .i64 0, .slice none 0 0], .int .i64 x]) := by
  have hp : ∀ W f g, Calls Tryz.prog 18 #[.string s, f, g] W (Gives W fun v _ => v = .tuple #[.agg #[.int .i64 0, .slice none 0 0], .int .i64 x]) := by
    intro W f g
    rcases hx with ⟨h1, h2, rfl⟩ | ⟨h1, rfl⟩
    · exact parsedPoly_noline s W h1 f g (cut_noline s h1 h2)
    · exact parsedPoly_long s W h1 f g
  have HP := Lib.hid hp
  clear hp hx
  go_enter Tryz.func9, Tryz.ntmps9
  go_wp2_with fail
  refine (HP.out _ _ _).mono ?_
  rintro e w' ⟨_, rfl, rfl, hb⟩
  have ho := (box_heap hb)
  have HB := Lib.hid (below_then (below_alloc (below_refl w) _) (by simp) hb)
  have o0 : w'.cell? ⟨w.heap.size, 0, none⟩ = some (.int .i64 0) := by rw [Lib.cell_of_heap ho]; rfl
  have o1 : w'.cell? ⟨w.heap.size, 1, none⟩ = some (.slice none 0 0) := by rw [Lib.cell_of_heap ho]; rfl
  have oz := fun i => Lib.frozen_of_heap ho i
  clear ho hb
  go_wp2
  refine bodyPost_ret (v := .tuple #[.agg #[.int .i64 0, .slice none 0 0], .int .i64 x]) (by simp [results, Tryz.results9, go_sem, o0, o1]) rfl ⟨_, rfl, rfl, ?_⟩
  exact (HB.out.setCell (p := ⟨w.heap.size, 0, none⟩) (Nat.le_refl _) _).setCell (p := ⟨w.heap.size, 1, none⟩) (Nat.le_refl _) _
end Go.Proofs.YtoflmheodiajaaaGreatDoor
