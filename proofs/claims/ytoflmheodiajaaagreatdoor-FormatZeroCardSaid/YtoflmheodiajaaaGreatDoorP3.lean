/- Decimal digits: the value of the first bytes of a string. No program in it. -/
import Derived.Test.YtoflmheodiajaaaGreatDoorP2
import Derived.Test.YtoflmheodiajaaaGreatDoorA1
namespace Go.Proofs.YtoflmheodiajaaaGreatDoor
set_option linter.unusedVariables false
set_option linter.unusedSimpArgs false

/-- The value of the n bytes from k on, as decimal digits. -/
def dch (s : ByteArray) (k : Nat) : Nat → Int
  | 0 => 0
  | n + 1 => 10 * dch s k n + (bt s (k + n) - 48)
/-- The value of a string of digits. -/
def dval (s : ByteArray) : Int := dch s 0 s.size
theorem dch_add (s : ByteArray) (k n : Nat) : dch s 0 (k + n) = dch s 0 k * 10 ^ n + dch s k n := by
  induction n with
  | zero => simp [dch]
  | succ n ih =>
    rw [show k + (n + 1) = (k + n) + 1 from rfl]
    simp only [dch]
    rw [ih, Nat.zero_add, Int.pow_succ]
    have : 10 * (dch s 0 k * 10 ^ n + dch s k n) = dch s 0 k * (10 ^ n * 10) + 10 * dch s k n := by grind
    omega
def isDigits (s : ByteArray) : Prop := ∀ i, i < s.size → 48 ≤ bt s i ∧ bt s i ≤ 57
theorem isDigits_of (s : ByteArray) (h : digitsFrom s 0 = true) : isDigits s := by
  unfold digitsFrom at h
  have := of_decide_eq_true h
  exact fun i hi => this i hi (Nat.zero_le _)
theorem dch_range {s : ByteArray} (h : isDigits s) (k : Nat) : ∀ n, k + n ≤ s.size → 0 ≤ dch s k n ∧ dch s k n < 10 ^ n
  | 0, _ => by simp [dch]
  | n + 1, hn => by
    obtain ⟨h1, h2⟩ := dch_range h k n (by omega)
    obtain ⟨h3, h4⟩ := h (k + n) (by omega)
    simp only [dch]
    rw [Int.pow_succ]
    omega
theorem dch_small {s : ByteArray} (h : isDigits s) (k n : Nat) (hn : k + n ≤ s.size) (h19 : n ≤ 19) : 0 ≤ dch s k n ∧ dch s k n < 10000000000000000000 := by
  obtain ⟨h1, h2⟩ := dch_range h k n hn
  have h3 : (10 : Nat) ^ n ≤ 10 ^ 19 := Nat.pow_le_pow_right (by omega) h19
  have h4 : ((10 ^ n : Nat) : Int) = (10 : Int) ^ n := by simp
  omega
/-- One step of the inner loop of digits. -/
theorem dch_step {s : ByteArray} (h : isDigits s) (k n : Nat) (hn : k + (n + 1) ≤ s.size) (h19 : n + 1 ≤ 19) :
    (10 * dch s k n + (bt s (k + n) - 48)) = dch s k (n + 1) := rfl
end Go.Proofs.YtoflmheodiajaaaGreatDoor
