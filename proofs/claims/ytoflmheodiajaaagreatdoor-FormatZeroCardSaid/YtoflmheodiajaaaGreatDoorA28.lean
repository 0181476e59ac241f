/- sosoptlaw42.FormatZero: it returns true. -/
import Derived.Test.YtoflmheodiajaaaGreatDoorA26
import Derived.Test.YtoflmheodiajaaaGreatDoorA27
namespace Go.Proofs.YtoflmheodiajaaaGreatDoor
open Go.RowKit
set_option linter.unusedVariables false
set_option linter.unusedSimpArgs false

structure ZF (V : Nat) (s text sv sn : ByteArray) : Prop where
  ok : polyOk okI zI V [] = true
  eq : (⟨(polyL V []).toArray⟩ : ByteArray) = s
  sz : s.size ≤ 1048576
  ts : text.size ≤ 1048576
  cut : Lib.trimSuffix s.data.toList [10] = text.data.toList
  suf : Lib.hasSuffix s.data.toList [10] = true
  sp1 : Lib.splitB nlS 0 (Lib.countB text nlS) text = [text]
  sp2 : Lib.countB text nlS + 1 = 1
  wd : Words text [pS, sv, sn]
  rv : Reads sv V
  rn : Reads sn 0
def zText (d : UInt8) : ByteArray := ⟨#[112, 111, 108, 121, 32, d, 32, 48]⟩
def zS (d : UInt8) : ByteArray := ⟨#[112, 111, 108, 121, 32, d, 32, 48, 10]⟩
theorem zeroF0 : ZF 0 (zS 48) (zText 48) ⟨#[48]⟩ ⟨#[48]⟩ := ⟨by kernel_rfl, by kernel_rfl, by decide, by decide, by kernel_rfl, by kernel_rfl, by kernel_rfl, by kernel_rfl, ⟨by kernel_rfl, by kernel_rfl⟩, ⟨by kernel_rfl, by decide⟩, ⟨by kernel_rfl, by decide⟩⟩
theorem zeroF1 : ZF 1 (zS 49) (zText 49) ⟨#[49]⟩ ⟨#[48]⟩ := ⟨by kernel_rfl, by kernel_rfl, by decide, by decide, by kernel_rfl, by kernel_rfl, by kernel_rfl, by kernel_rfl, ⟨by kernel_rfl, by kernel_rfl⟩, ⟨by kernel_rfl, by decide⟩, ⟨by kernel_rfl, by decide⟩⟩
theorem zeroF2 : ZF 2 (zS 50) (zText 50) ⟨#[50]⟩ ⟨#[48]⟩ := ⟨by kernel_rfl, by kernel_rfl, by decide, by decide, by kernel_rfl, by kernel_rfl, by kernel_rfl, by kernel_rfl, ⟨by kernel_rfl, by kernel_rfl⟩, ⟨by kernel_rfl, by decide⟩, ⟨by kernel_rfl, by decide⟩⟩
theorem zeroF3 : ZF 3 (zS 51) (zText 51) ⟨#[51]⟩ ⟨#[48]⟩ := ⟨by kernel_rfl, by kernel_rfl, by decide, by decide, by kernel_rfl, by kernel_rfl, by kernel_rfl, by kernel_rfl, ⟨by kernel_rfl, by kernel_rfl⟩, ⟨by kernel_rfl, by decide⟩, ⟨by kernel_rfl, by decide⟩⟩
theorem zeroF4 : ZF 4 (zS 52) (zText 52) ⟨#[52]⟩ ⟨#[48]⟩ := ⟨by kernel_rfl, by kernel_rfl, by decide, by decide, by kernel_rfl, by kernel_rfl, by kernel_rfl, by kernel_rfl, ⟨by kernel_rfl, by kernel_rfl⟩, ⟨by kernel_rfl, by decide⟩, ⟨by kernel_rfl, by decide⟩⟩
theorem zeroF5 : ZF 5 (zS 53) (zText 53) ⟨#[53]⟩ ⟨#[48]⟩ := ⟨by kernel_rfl, by kernel_rfl, by decide, by decide, by kernel_rfl, by kernel_rfl, by kernel_rfl, by kernel_rfl, ⟨by kernel_rfl, by kernel_rfl⟩, ⟨by kernel_rfl, by decide⟩, ⟨by kernel_rfl, by decide⟩⟩
theorem zeroF6 : ZF 6 (zS 54) (zText 54) ⟨#[54]⟩ ⟨#[48]⟩ := ⟨by kernel_rfl, by kernel_rfl, by decide, by decide, by kernel_rfl, by kernel_rfl, by kernel_rfl, by kernel_rfl, ⟨by kernel_rfl, by kernel_rfl⟩, ⟨by kernel_rfl, by decide⟩, ⟨by kernel_rfl, by decide⟩⟩
theorem zeroF (V : Nat) (h : V ≤ 6) : ∃ s text sv sn, ZF V s text sv sn := by
  match V, h with
  | 0, _ => exact ⟨_, _, _, _, zeroF0⟩
  | 1, _ => exact ⟨_, _, _, _, zeroF1⟩
  | 2, _ => exact ⟨_, _, _, _, zeroF2⟩
  | 3, _ => exact ⟨_, _, _, _, zeroF3⟩
  | 4, _ => exact ⟨_, _, _, _, zeroF4⟩
  | 5, _ => exact ⟨_, _, _, _, zeroF5⟩
  | 6, _ => exact ⟨_, _, _, _, zeroF6⟩
theorem ZF.cuts {V : Nat} {s text sv sn : ByteArray} (h : ZF V s text sv sn) (W : World) : Calls Tryz.prog 37 #[.string s, .string ⟨#[10]⟩] W fun e w' => e = .returned (.tuple #[.string text, .bool true]) ∧ w' = W := by
  refine (Tryz.strings_CutSuffix s ⟨#[10]⟩ W (by have := h.sz; omega)).mono ?_
  rintro e w' ⟨rfl, rfl⟩
  have e1 : Lib.trimSuffix s.data.toList (⟨#[10]⟩ : ByteArray).data.toList = text.data.toList := h.cut
  have e2 : Lib.hasSuffix s.data.toList (⟨#[10]⟩ : ByteArray).data.toList = true := h.suf
  rw [e1, e2]
  exact ⟨rfl, rfl⟩
theorem polyOk_range (x : Int) (h : x < 0 ∨ 6 < x) : polyOk okI zI x [] = false := by
  have : decide (0 ≤ x ∧ x ≤ 6) = false := decide_eq_false (by omega)
  simp [polyOk, wfOk, this]

set_option maxHeartbeats 1000000 in
set_option maxRecDepth 100000 in
theorem formatZero_out (x : Int) (hx : x < 0 ∨ 6 < x) (w : World) : Calls Tryz.prog 4 #[.int .i64 x] w (Gives w fun v _ => v = .bool true) := by
  have HF := Lib.hid (formatPoly_bad okI zI domI (ofSpec_int (Bs := 0)) none 0 [] x w (Nat.zero_le _) (fun h => by simp at h) (Nat.le_refl _) (by decide) (fun i hi => by simp at hi) (polyOk_range x hx))
  rcases hx with h | h
  all_goals
    go_enter Tryz.func4, Tryz.ntmps4
    go_wp2_with fail
    refine HF.out.mono ?_
    rintro e w1 ⟨_, rfl, rfl, hb1⟩
    have HB1 := Lib.hid hb1
    clear hb1
    go_wp2_with fail
    refine (known_any _).mono ?_
    rintro e w2 ⟨_, rfl, rfl, hb2⟩
    have HB2 := Lib.hid (below_then HB1.out HB1.out.size hb2)
    clear hb2
    go_wp2
    go_ret
    exact ⟨_, rfl, rfl, HB2.out⟩
set_option maxHeartbeats 2000000 in
set_option maxRecDepth 100000 in
theorem formatZero_in (V : Nat) (hV : V ≤ 6) (m : Int) (w : World) (hm : w.cell? ⟨0, 0, none⟩ = some (.int .i64 m)) (h0 : 0 < w.heap.size) : Calls Tryz.prog 4 #[.int .i64 V] w (Gives w fun v _ => v = .bool true) := by
  obtain ⟨s, text, sv, sn, Z⟩ := zeroF V hV
  have hF := formatPoly_ok okI zI domI (ofSpec_int (Bs := 0)) none 0 [] V w (Nat.zero_le _) (fun h => by simp at h) (Nat.le_refl _) (by decide) (fun i hi => by simp at hi) hV Z.ok (fun i hi => by simp at hi) (fun i hi => by simp at hi) (by
    have : (polyL V []).length = s.size := by rw [← Z.eq]; rfl
    have := Z.sz
    omega)
  rw [Z.eq] at hF
  have HF := Lib.hid hF
  have HP := Lib.hid (fun W hm h0 => parsePoly_zero s text sv sn V m W hm h0 hV Z.ok Z.eq Z.sz Z.ts Z.cuts ⟨Z.sp1, Z.sp2⟩ Z.wd Z.rv Z.rn)
  have HM := Lib.hid hm
  clear hF Z hm
  have v0 : ¬ ((V : Int) < 0) := by omega
  have v6 : ¬ ((6 : Int) < V) := by omega
  go_enter Tryz.func4, Tryz.ntmps4
  go_wp2_with fail
  refine HF.out.mono ?_
  rintro e w1 ⟨_, rfl, rfl, hb1⟩
  have hz1 : 0 < w1.heap.size := by have := hb1.size; omega
  have HB1 := Lib.hid hb1
  clear hb1
  go_wp2_with fail
  refine (HP.out w1 (max_below HB1.out h0 HM.out) hz1).mono ?_
  rintro e w2 ⟨_, rfl, rfl, hb2⟩
  have HB2 := Lib.hid ((below_then HB1.out HB1.out.size hb2).alloc (below_then HB1.out HB1.out.size hb2).size (.cells #[.int .i64 V, .slice none 0 0] 24))
  have hx := heap_alloc_new w2 (.cells #[.int .i64 V, .slice none 0 0] 24)
  have p0 := fun x : After (w2.alloc (.cells #[.int .i64 V, .slice none 0 0] 24)) => (x.below.cell (p := ⟨w2.heap.size, 0, none⟩) (by simp)).trans (show _ = some (.int .i64 (V : Int)) by rw [Lib.cell_of_heap hx]; rfl)
  have p1 := fun x : After (w2.alloc (.cells #[.int .i64 V, .slice none 0 0] 24)) => (x.below.cell (p := ⟨w2.heap.size, 1, none⟩) (by simp)).trans (show _ = some (.slice none 0 0) by rw [Lib.cell_of_heap hx]; rfl)
  clear hb2 hx
  go_wp2_with fail
  (refine wp_region_after_lit (by kernel_rfl) (by kernel_rfl) ?_; (repeat (go_big_quiet_step ((first | (go_at_call 6; exact after_call ((known_any _).mono fun _ _ ⟨_, he, hv, hb⟩ => ⟨by rw [he, hv], hb⟩)) | (go_at_call 11; exact after_call (refWrite_zero _ _)) | (go_at_call 10; exact after_call (samePoly_zero _ _)))))); refine wpQuiet_nil ?_; intro _ hw'; obtain ⟨xa, hw''⟩ := hw'; subst hw'')
  go_wp2
  go_ret
  exact ⟨_, rfl, rfl, below_then HB2.out HB2.out.size xa.below⟩
theorem formatZero_any (x : Int) (m : Int) (w : World) (hm : w.cell? ⟨0, 0, none⟩ = some (.int .i64 m)) (h0 : 0 < w.heap.size) : Calls Tryz.prog 4 #[.int .i64 x] w (Gives w fun v _ => v = .bool true) := by
  by_cases h : x < 0 ∨ 6 < x
  · exact formatZero_out x h w
  · obtain ⟨V, rfl⟩ := Int.eq_ofNat_of_zero_le (show 0 ≤ x by omega)
    exact formatZero_in V (by omega) m w hm h0
end Go.Proofs.YtoflmheodiajaaaGreatDoor
