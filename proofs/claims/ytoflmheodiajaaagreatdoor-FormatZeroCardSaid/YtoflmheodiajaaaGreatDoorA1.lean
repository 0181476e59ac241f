/- num.plain, num.word, num.trim: what they return. -/
import Derived.Test.YtoflmheodiajaaaGreatDoorA0
namespace Go.Proofs.YtoflmheodiajaaaGreatDoor
open Go.RowKit

/-- Bytes from k on are digits. -/
def digitsFrom (s : ByteArray) (k : Nat) : Bool := decide (∀ i, i < s.size → k ≤ i → 48 ≤ bt s i ∧ bt s i ≤ 57)
/-- A natural number without leading zeros. -/
def plainS (s : ByteArray) : Bool := decide (0 < s.size) && (!(bt s 0 == 48) || decide (s.size ≤ 1)) && digitsFrom s 0

theorem digitsFrom_step {s : ByteArray} {k : Nat} (h1 : 48 ≤ bt s k) (h2 : bt s k ≤ 57) : digitsFrom s k = digitsFrom s (k + 1) := by
  unfold digitsFrom
  rw [decide_eq_decide]
  exact ⟨fun h i hi hk => h i hi (by omega), fun h i hi hk => by
    rcases Nat.lt_or_ge k i with h' | h'
    · exact h i hi h'
    · obtain rfl : i = k := by omega
      exact ⟨h1, h2⟩⟩
theorem digitsFrom_no {s : ByteArray} {k : Nat} (hk : k < s.size) (h : bt s k < 48 ∨ 57 < bt s k) : digitsFrom s k = false := by
  unfold digitsFrom
  rw [decide_eq_false_iff_not]
  intro h'
  have := h' k hk (Nat.le_refl _)
  omega
theorem digitsFrom_end (s : ByteArray) : digitsFrom s s.size = true := by
  unfold digitsFrom
  rw [decide_eq_true_iff]
  intro i hi hk
  omega

set_option maxHeartbeats 400000 in
theorem plain_any (s : ByteArray) (w : World) (hs : s.size ≤ 9223372036854775807) :
    Calls Tryz.prog 105 #[.string s] w fun e w' => e = .returned (.bool (plainS s)) ∧ w = w' := by
  by_cases h0 : s.size = 0
  · have hl := empty_of s h0
    have HP := Lib.hid (show plainS s = false by simp [plainS, h0])
    clear h0
    go_enter Tryz.func105, Tryz.ntmps105
    go_wp2
    go_ret
    exact ⟨by rw [HP.out]; rfl, rfl⟩
  have hpos : 0 < s.size := by omega
  have hl := empty_not s hpos
  have hb0 := bt_at s 0 hpos
  by_cases h1 : bt s 0 = 48 ∧ 1 < s.size
  · have HP := Lib.hid (show plainS s = false by
      have h3 : ¬ s.size ≤ 1 := by omega
      simp [plainS, h1.1, h3])
    have e48 : (bt s 0 == 48) = true := by simp [h1.1]
    obtain ⟨h11, h12⟩ := h1
    clear h11 h0
    go_enter Tryz.func105, Tryz.ntmps105
    go_wp2
    go_ret
    exact ⟨by rw [HP.out]; rfl, rfl⟩
  have HP := Lib.hid (show plainS s = digitsFrom s 0 by
    unfold plainS
    have : (!(bt s 0 == 48) || decide (s.size ≤ 1)) = true := by
      simp only [Bool.or_eq_true, Bool.not_eq_true', beq_eq_false_iff_ne, decide_eq_true_eq]
      omega
    rw [this, decide_eq_true hpos]
    simp)
  have main : Calls Tryz.prog 105 #[.string s] w fun e w' => e = .returned (.bool (digitsFrom s 0)) ∧ w = w' := by
    have hcase : (bt s 0 == 48) = false ∨ ((bt s 0 == 48) = true ∧ ¬ (1 < s.size)) := by
      rcases Nat.lt_or_ge 1 s.size with h2 | h2
      · exact .inl (beq_eq_false_iff_ne.2 (fun h => h1 ⟨h, h2⟩))
      · cases hc : bt s 0 == 48
        · exact .inl rfl
        · exact .inr ⟨rfl, by omega⟩
    clear h1 HP h0
    rcases hcase with hc | ⟨hc, hc2⟩
    all_goals
      go_enter Tryz.func105, Tryz.ntmps105
      go_wp2
      go_loop [3, 18] (fun _ i => ∃ k : Nat, k ≤ s.size ∧ digitsFrom s 0 = digitsFrom s k ∧ i = .int .i64 k) (fun _ i => s.size - (intOf i).toNat)
      case atStart => exact ⟨0, Nat.zero_le _, rfl, rfl⟩
      case round =>
        obtain ⟨k, hk, hd, rfl⟩ := hrel
        have HD := Lib.hid hd
        clear hd hb0 hc
        by_cases hlt : k < s.size
        · have hbk := bt_at s k hlt
          by_cases g1 : bt s k < 48
          · have HN := Lib.hid (digitsFrom_no hlt (.inl g1))
            go_wp2
            go_ret
            exact ⟨by rw [HD.out, HN.out]; rfl, rfl⟩
          · by_cases g2 : 57 < bt s k
            · have HN := Lib.hid (digitsFrom_no hlt (.inr g2))
              go_wp2
              go_ret
              exact ⟨by rw [HD.out, HN.out]; rfl, rfl⟩
            · have HN := Lib.hid (digitsFrom_step (s := s) (k := k) (by omega) (by omega))
              go_wp2
              go_round
              case rel => exact ⟨k + 1, by omega, by rw [HD.out, HN.out], by go_num⟩
              case measure => simp [intOf]; omega
        · obtain rfl : k = s.size := by omega
          have HN := Lib.hid (digitsFrom_end s)
          go_wp2
          go_ret
          exact ⟨by rw [HD.out, HN.out]; rfl, rfl⟩
  exact main.mono fun e w' h => ⟨by rw [HP.out]; exact h.1, h.2⟩
end Go.Proofs.YtoflmheodiajaaaGreatDoor
