/- Products of lists of words: the steps of the schoolbook product. No program in it. -/
import Derived.Test.YtoflmheodiajaaaGreatDoorP1
namespace Go.Proofs.YtoflmheodiajaaaGreatDoor
set_option linter.unusedVariables false
set_option linter.unusedSimpArgs false

theorem vt_set (xs : List Int) (i : Nat) (y : Int) (hi : i < xs.length) : ∀ k, vt (xs.set i y) k = vt xs k + (if i < k then (y - el xs i) * pw i else 0)
  | 0 => by simp [vt]
  | k + 1 => by
    simp only [vt]
    rw [vt_set xs i y hi k, el_set xs i k y hi]
    by_cases h1 : k = i
    · subst h1
      rw [if_pos rfl, if_neg (by omega), if_pos (by omega), Int.sub_mul]
      omega
    · rw [if_neg h1]
      by_cases h2 : i < k
      · rw [if_pos h2, if_pos (by omega)]; omega
      · rw [if_neg h2, if_neg (by omega)]; omega
theorem val_set (xs : List Int) (i : Nat) (y : Int) (hi : i < xs.length) : val (xs.set i y) = val xs + (y - el xs i) * pw i := by
  unfold val
  rw [List.length_set, vt_set xs i y hi, if_pos hi]

/-- What one step of the inner loop does: lo and the new carry. -/
def mulLo (x y o c : Int) : Int := lo (lo (lo (x * y) + o) + c)
def mulHi (x y o c : Int) : Int := lo (hi (x * y) + hi (lo (x * y) + o)) + hi (lo (lo (x * y) + o) + c)

theorem prod_range {x y : Int} (hx : 0 ≤ x ∧ x < 18446744073709551616) (hy : 0 ≤ y ∧ y < 18446744073709551616) : 0 ≤ x * y ∧ x * y ≤ 18446744073709551615 * 18446744073709551615 := by
  constructor
  · exact Int.mul_nonneg hx.1 hy.1
  · exact Int.mul_le_mul (by omega) (by omega) hy.1 (by omega)
theorem mul_step {x y o c : Int} (hx : 0 ≤ x ∧ x < 18446744073709551616) (hy : 0 ≤ y ∧ y < 18446744073709551616) (ho : 0 ≤ o ∧ o < 18446744073709551616) (hc : 0 ≤ c ∧ c < 18446744073709551616) :
    mulLo x y o c + 18446744073709551616 * mulHi x y o c = x * y + o + c ∧ 0 ≤ mulHi x y o c ∧ mulHi x y o c < 18446744073709551616 := by
  have hp := prod_range hx hy
  unfold mulLo mulHi lo hi
  generalize x * y = p at *
  omega
theorem mul_bits {x y o c : Int} (hx : 0 ≤ x ∧ x < 18446744073709551616) (hy : 0 ≤ y ∧ y < 18446744073709551616) (ho : 0 ≤ o ∧ o < 18446744073709551616) (hc : 0 ≤ c ∧ c < 18446744073709551616) :
    0 ≤ lo (x * y) ∧ 0 ≤ lo (lo (x * y) + o) := ⟨(lo_range _).1, (lo_range _).1⟩

/-- The inner loop's relation goes on. -/
theorem prod_step {zs : List Int} {V x carry carry' p q y o : Int} {i k : Nat} (hk : i + k < zs.length) (ho : el zs (i + k) = o)
    (h : val zs + carry * pw (i + k) = V + x * pw i * q) (hs : p + 18446744073709551616 * carry' = x * y + o + carry) :
    val (zs.set (i + k) p) + carry' * pw (i + k + 1) = V + x * pw i * (q + y * pw k) := by
  rw [val_set zs _ _ hk, ho, pw_succ]
  have e1 : x * pw i * (q + y * pw k) = x * pw i * q + x * y * pw (i + k) := by
    rw [Int.mul_add, pw_add]
    congr 1
    grind
  rw [e1]
  have e2 : carry' * (18446744073709551616 * pw (i + k)) = 18446744073709551616 * carry' * pw (i + k) := by grind
  rw [e2]
  have e3 : (p - o) * pw (i + k) + 18446744073709551616 * carry' * pw (i + k) = (x * y + carry) * pw (i + k) := by
    rw [← Int.add_mul]
    congr 1
    omega
  have e4 : (x * y + carry) * pw (i + k) = x * y * pw (i + k) + carry * pw (i + k) := by rw [Int.add_mul]
  omega
end Go.Proofs.YtoflmheodiajaaaGreatDoor
