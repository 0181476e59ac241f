/- sosoptlaw42.FormatLong: it returns true. -/
import Derived.Test.YtoflmheodiajaaaGreatDoorA20
import Derived.Laws.IdiomStrings
namespace Go.Proofs.YtoflmheodiajaaaGreatDoor
open Go.RowKit
set_option linter.unusedVariables false
set_option linter.unusedSimpArgs false

theorem infoU8 : (Tryz.prog.info? 5).map (fun i => (i.zero, i.size, i.bytes)) = some (some (.int .u8 0), 1, 1) := by kernel_rfl
def longXs (n k : Nat) : List Int := List.replicate k 48 ++ List.replicate (n - k) 0
def longS (n : Nat) : ByteArray := ⟨(List.replicate n 48).toArray⟩
theorem longS_size (n : Nat) : (longS n).size = n := by simp [longS, ByteArray.size]
theorem longXs_length {n k : Nat} (h : k ≤ n) : (longXs n k).length = n := by simp [longXs]; omega
theorem longXs_step {n k : Nat} (h : k < n) : (longXs n k).set k 48 = longXs n (k + 1) := by
  unfold longXs
  rw [List.set_append_right _ _ (by simp), List.length_replicate, Nat.sub_self, show n - k = (n - (k + 1)) + 1 by omega, List.replicate_succ, List.set_cons_zero, List.replicate_succ', List.append_assoc]
  rfl
theorem longXs_end (n : Nat) : longXs n n = List.replicate n 48 := by simp [longXs]
theorem longS_noLine {n : Nat} (h : 0 < n) : noLine (longS n) := by
  obtain ⟨k, rfl⟩ : ∃ k, n = k + 1 := ⟨n - 1, by omega⟩
  unfold noLine longS
  rw [List.replicate_succ']
  simp only [Lib.hasSuffix, List.isSuffixOf, List.reverse_append, List.reverse_replicate, List.reverse_cons, List.reverse_nil, List.nil_append, List.cons_append]
  rfl
def LongRel (w : World) (n : Nat) (i : Value) (wr : World) : Prop :=
  ∃ k : Nat, k ≤ n ∧ i = .int .i64 k ∧ OwnI wr w.heap.size 5 .u8 (.slice (some ⟨w.heap.size, 0, none⟩) n n) (longXs n k) ∧ Below w.heap.size w wr ∧ w.heap.size < wr.heap.size
theorem long_conv {w wr : World} {n : Nat} (h : OwnI wr w.heap.size 5 .u8 (.slice (some ⟨w.heap.size, 0, none⟩) n n) (longXs n n)) :
    (convert 41 9 (.slice (some ⟨w.heap.size, 0, none⟩) n n)).run Tryz.prog wr = .ok (.string (longS n)) wr := by
  have := run_convert_bytes_back (P := Tryz.prog) wr 41 9 5 ⟨w.heap.size, 0, none⟩ n (List.replicate n 48) Tryz.underlying41 Tryz.underlying5 Tryz.underlying9 (fun j hj => by
    have hj' : j < n := by simpa using hj
    have hl := longXs_length (n := n) (k := n) (Nat.le_refl _)
    have hc := h.cell j (by omega)
    rw [show (⟨w.heap.size, 0, none⟩ : Addr).add j = ⟨w.heap.size, j, none⟩ by simp [Addr.add] <;> omega, hc]
    simp [el, longXs_end, hj'])
  simpa [longS] using this
set_option maxRecDepth 100000 in
theorem formatLong_any (m : Nat) (hm : m ≤ 255) (w : World) : Calls Tryz.prog 5 #[.int .u8 m] w (Gives w fun v _ => v = .bool true) := by
  obtain ⟨n, hn⟩ : ∃ n : Nat, n = 1048476 + m := ⟨_, rfl⟩
  have hn2 : (1048476 : Int) + (m : Int) = (n : Int) := by omega
  have hnb : n ≤ 1048731 := by omega
  have hn0 : 0 < n := by omega
  obtain ⟨d, hu⟩ := underClaim
  have HU := Lib.hid hu
  have HN := Lib.hid hn2
  clear hu hn hn2
  go_enter Tryz.func5, Tryz.ntmps5
  go_wp2_with (at_make; refine makeI _ rfl _ _ _ rfl w.heap.size 5 .u8 1 Tryz.underlying41 infoU8 _ _ n n rfl rfl HN.out HN.out (by omega) (by omega) (by omega) (Nat.le_refl _) ?_)
  intro w1 hO hG hS
  have hB := Lib.hid ((below_refl w).grown hG (Nat.le_refl _) (fun k hk => by simp at hk))
  have hS1 : w.heap.size < w1.heap.size := by omega
  have HO := Lib.hid hO
  clear hO hG hS
  go_wp2
  go_loopw [16] (fun i wr => LongRel w n i wr) (fun i _ => n - (intOf i).toNat)
  case atStart => exact ⟨0, by omega, rfl, by simpa [longXs] using HO.out, hB.out, hS1⟩
  case round =>
    clear HO hB hS1 w1
    obtain ⟨k, hk, rfl, hO, hB, hS⟩ := hrel
    by_cases hlt : k < n
    · have hz := hO.cell k (by rw [longXs_length hk]; exact hlt)
      have hzf := hO.frozen k
      have HO := Lib.hid hO
      have HB := Lib.hid hB
      clear hO hB
      go_wp2
      go_roundw
      case rel =>
        exact ⟨k + 1, by omega, by go_num, by
          have := HO.out.set k 48
          rwa [longXs_step hlt] at this, HB.out.setCell (p := ⟨w.heap.size, k, none⟩) (Nat.le_refl _) _, by simpa using hS⟩
      case measure => simp [intOf]; omega
    · obtain rfl : k = n := by omega
      have hcv := long_conv hO
      have HO := Lib.hid hO
      have HB := Lib.hid hB
      have HS := Lib.hid (longS_size k)
      clear hO hB hlt
      have hx : ∃ x : Int, (∀ W, Calls Tryz.prog 9 #[.string (longS k)] W (Gives W fun v _ => v = .tuple #[.agg #[.int .i64 0, .slice none 0 0], .int .i64 x])) ∧
          (∀ W, Calls Tryz.prog 12 #[.string (longS k)] W (Gives W fun v _ => v = .tuple #[.agg zClaim, .int .i64 x])) ∧ ((1048576 : Int) < (k : Int) ∧ x = 2 ∨ ¬ (1048576 : Int) < (k : Int) ∧ x = 6) := by
        by_cases h100 : 1048576 < k
        · exact ⟨2, fun W => parsePoly_refused (longS k) W 2 (.inr ⟨by rw [HS.out]; exact h100, rfl⟩), fun W => parseClaim_refused (longS k) W 2 (.inr ⟨by rw [HS.out]; exact h100, rfl⟩), .inl ⟨by omega, rfl⟩⟩
        · exact ⟨6, fun W => parsePoly_refused (longS k) W 6 (.inl ⟨by rw [HS.out]; omega, longS_noLine hn0, rfl⟩), fun W => parseClaim_refused (longS k) W 6 (.inl ⟨by rw [HS.out]; omega, longS_noLine hn0, rfl⟩), .inr ⟨by omega, rfl⟩⟩
      obtain ⟨x, hp, hc, hx⟩ := hx
      have HP := Lib.hid hp
      have HC := Lib.hid hc
      clear hp hc
      rcases hx with ⟨h100, rfl⟩ | ⟨h100, rfl⟩
      all_goals
        go_wp2_with fail
        refine (HP.out _).mono ?_
        rintro e w1 ⟨_, rfl, rfl, hb⟩
        have hcv2 := fun o => long_conv (w := w) ((HO.out.below hb).alloc o)
        have HB1 := Lib.hid (below_then HB.out (by omega) hb)
        clear hb hcv
        go_wp2_with fail
        refine (HC.out _).mono ?_
        rintro e w2 ⟨_, rfl, rfl, hb⟩
        have HB2 := Lib.hid (below_then (HB1.out.alloc HB1.out.size _) (by simpa using Nat.le_trans HB1.out.size (Nat.le_succ _)) hb)
        clear hb hcv2
        go_wp2_with (first
          | (with_reducible refine alloc_agg (o := ⟨some 7, _, _, _, _, _⟩) rfl 71 rfl zClaim (zeroClaim _) ?_)
          | ((with_reducible refine store_same (o := ⟨none, .store 71 _ _, _, _, _, _⟩) rfl 71 _ _ rfl w2.heap.size zClaim ?_ ?_ 71 ?_ infoClaim oneClaim ?_); rfl; rfl; exact heap_alloc_new _ _))
        refine (known_any _).mono ?_
        rintro e w3 ⟨_, rfl, rfl, hb⟩
        have HB3 := Lib.hid (below_then (HB2.out.alloc HB2.out.size _) (by simpa using Nat.le_trans HB2.out.size (Nat.le_succ _)) hb)
        clear hb
        go_wp2
        go_ret
        exact ⟨_, rfl, rfl, HB3.out⟩
end Go.Proofs.YtoflmheodiajaaaGreatDoor
