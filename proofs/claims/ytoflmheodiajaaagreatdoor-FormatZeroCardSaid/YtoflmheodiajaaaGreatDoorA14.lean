/- format.natural, (*format.writer).line. -/
import Derived.Test.YtoflmheodiajaaaGreatDoorA13
import Derived.Test.YtoflmheodiajaaaGreatDoorShelf
import Derived.Deep.RegionWith
namespace Go.Proofs.YtoflmheodiajaaaGreatDoor
open Go.RowKit
set_option linter.unusedVariables false
set_option linter.unusedSimpArgs false

def decS (i : Nat) : ByteArray := ⟨(Lib.decDigits i).toArray⟩
theorem natural_small (i : Nat) (hi : i < 100) (w : World) :
    Calls Tryz.prog 33 #[.int .i64 i] w fun e w' => e = .returned (.string (decS i)) ∧ w' = w := by
  have hi0 : ¬ ((i : Int) < 0) := by omega
  go_enter Tryz.func33, Tryz.ntmps33
  go_wp2_with fail
  refine (Tryz.strconv_Itoa_small i hi _).mono ?_
  rintro e w' ⟨rfl, rfl⟩
  go_wp2
  go_ret
  exact ⟨rfl, rfl⟩

theorem writerT : BT 106 ([] : List Value).length := ⟨by decide, by kernel_rfl⟩
/-- A writer that holds l. -/
def IsW (B b : Nat) (l : List UInt8) (w : World) : Prop := IsB 106 [] B b (Lib.byteCells l) w
def lineOf (xs : List ByteArray) : List UInt8 := Lib.join (xs.map (·.data.toList)) [32] ++ [10]
set_option maxHeartbeats 1000000 in
theorem line_any (B b : Nat) (l : List UInt8) (xs : List ByteArray) (bk o c : Nat) (w : World) (h : IsW B b l w) (hcells : ∀ (j : Nat) x, xs[j]? = some x → w.cell? ⟨bk, o + j, none⟩ = some (.string x)) (hbk : bk < w.heap.size) (hcap : xs.length ≤ c)
    (hN : xs.length ≤ 140737488355328) (hlen : l.length + (lineOf xs).length ≤ 140737488355328) (hBw : B ≤ w.heap.size) :
    Calls Tryz.prog 32 #[.pointer (some ⟨b, 0, none⟩), .slice (some ⟨bk, o, none⟩) xs.length c] w fun e w' => e = .returned (.tuple #[]) ∧ IsW B b (l ++ lineOf xs) w' ∧ Oth B b w w' := by
  have hl1 : (lineOf xs).length = (Lib.join (xs.map (·.data.toList)) [32]).length + 1 := by simp [lineOf]
  have HJ := Lib.hid (Tryz.strings_Join bk o c xs ⟨#[32]⟩ w.drew hcells hbk hN hcap (by
    show (Lib.join (xs.map (·.data.toList)) [32]).length ≤ _
    omega))
  have HH := Lib.hid h
  clear h hcells
  go_enter Tryz.func32, Tryz.ntmps32
  go_wp2_with fail
  go_region_with (first | (go_at_call 55; refine HJ.out.mono ?_; rintro e w1 ⟨rfl, hb1⟩; have HB1 := Lib.hid hb1; clear hb1) | (go_at_call 54; refine (writeString_any writerT B b (Lib.byteCells l) _ w1 (IsB.below HH.out (below_then (below_drew (below_refl w)) (Nat.le_refl _) HB1.out)) (by rw [Lib.byteCells_length]; show l.length + (Lib.join (xs.map (·.data.toList)) [32]).toArray.size ≤ _; simp; omega) (Nat.le_trans hBw HB1.out.size)).mono ?_; rintro e w2 ⟨rfl, h2, hb2⟩; have H2 := Lib.hid h2; have HB2 := Lib.hid hb2; clear h2 hb2))
  all_goals (
    go_wp2_with fail
    refine (writeByte_any writerT B b _ 10 w2 ⟨_, .inr rfl, H2.out⟩ (by rw [List.length_append, Lib.byteCells_length, Lib.strCells_length]; show l.length + (Lib.join (xs.map (·.data.toList)) [32]).toArray.size + 1 ≤ _; simp; omega) (Nat.le_trans (Nat.le_trans hBw HB1.out.size) HB2.out.1.size)).mono ?_
    rintro e w3 ⟨rfl, h3, hb3⟩
    have H3 := Lib.hid h3
    have HB3 := Lib.hid hb3
    clear h3 hb3
    go_wp2
    go_end0
    refine ⟨rfl, ⟨_, .inr rfl, ?_⟩, ?_⟩
    · have e : Lib.byteCells (l ++ lineOf xs) = (Lib.byteCells l ++ Lib.strCells ⟨(Lib.join (xs.map (·.data.toList)) [32]).toArray⟩) ++ [.int .u8 10] := by
        simp [Lib.byteCells, Lib.strCells, lineOf]
      rw [e]
      exact H3.out
    · exact (Oth.of_below (Oth.refl B b w) hBw (below_then (below_drew (below_refl w)) (Nat.le_refl _) HB1.out)).trans (HB2.out.trans HB3.out))
end Go.Proofs.YtoflmheodiajaaaGreatDoor
