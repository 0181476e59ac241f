import Derived.Test.YtoflmheodiajaaaGreatDoorK38
namespace Go.Proofs.YQ.PA
open Go.RowKit Go.Proofs.YtoflmheodiajaaaGreatDoor.G Go.Proofs.YW.PrintWords Go.Proofs.YW.PrintLast Go.Proofs.YW.PrintMore
attribute [local go_sem] max2_int min2_int max_two min_two max_three min_three max_four min_four
set_option linter.unusedVariables false
set_option linter.unusedSimpArgs false
end Go.Proofs.YQ.PA
namespace Go.Proofs.YQ.PA
open Go.RowKit Go.Proofs.YtoflmheodiajaaaGreatDoor.G Go.Proofs.YtoflmheodiajaaaGreatDoor.H Go.Proofs.YW.PrintWords
set_option linter.unusedVariables false
set_option linter.unusedSimpArgs false
theorem make1_f (a : Bool) (l : List Int) : nM1.f a l = some (a && decide (0 < l.length), l) := rfl
theorem cn_ne {n : Nat} (h : n ≠ 0) : 0 < (cn n).length := by
  rcases Nat.eq_zero_or_pos (cn n).length with e | e
  · exact absurd ((cn_len0 n).1 e) h
  · exact e
theorem gcd_l0 (m : Nat) : ∀ n : Nat, Sz n → Sz m → Ev (fun k => sosoptnum_Gcd.l0 k (cn n) (cn m)) (false, cn (Nat.gcd n m)) := by
  induction m using Nat.strongRecOn with
  | _ m ih =>
    intro n hn hm
    by_cases h : m = 0
    · subst h
      refine Ev.step (f := fun _ => some (false, cn (Nat.gcd n 0))) (fun k => ?_) (Ev.now _)
      simp only [sosoptnum_Gcd.l0]
      rw [cn_zero, if_neg (by simp), make1_f, Nat.gcd_zero_right]
      rfl
    · refine Ev.step (f := fun k => sosoptnum_Gcd.l0 k (cn m) (cn (n % m))) (fun k => ?_) ?_
      · simp only [sosoptnum_Gcd.l0]
        rw [if_pos (by have := cn_ne h; omega), divMag_cn hn hm (by omega)]
        rfl
      · rw [Nat.gcd_comm n m, Nat.gcd_rec m n, Nat.gcd_comm (n % m) m]
        exact ih (n % m) (Nat.mod_lt _ (by omega)) m hm (hm.le (Nat.le_of_lt (Nat.mod_lt _ (by omega))))
theorem gcd_f (a b : Bool) {n m : Nat} (hn : Sz n) (hm : Sz m) : Ev (fun k => sosoptnum_Gcd.f k a (cn n) b (cn m)) (false, cn (Nat.gcd n m)) := gcd_l0 m n hn hm
theorem wrap_in {x : Int} (h0 : -9223372036854775808 ≤ x) (h1 : x ≤ 9223372036854775807) : wrap64 x = x := by unfold wrap64; omega
theorem bits_l0 : ∀ (j : Nat) (x n0 : Int), 0 ≤ x → x < 2 ^ j → 0 ≤ n0 → n0 + j ≤ 1152921504606846976 → ∃ r, Ev (fun k => sosoptnum_Bits.l0 k n0 x) r ∧ n0 ≤ r ∧ (x = 0 → r = n0) ∧ (x = 1 → r = n0 + 1) ∧ (2 ≤ x → n0 + 2 ≤ r)
  | 0, x, n0, h0, h1, h2, h3 => by
    have : x = 0 := by simp at h1; omega
    subst this
    refine ⟨n0, Ev.step (f := fun _ => some n0) (fun k => ?_) (Ev.now _), by omega, fun _ => rfl, by omega, by omega⟩
    simp only [sosoptnum_Bits.l0]
    rw [if_neg (by omega)]
  | j + 1, x, n0, h0, h1, h2, h3 => by
    by_cases hx : x = 0
    · subst hx
      refine ⟨n0, Ev.step (f := fun _ => some n0) (fun k => ?_) (Ev.now _), by omega, fun _ => rfl, by omega, by omega⟩
      simp only [sosoptnum_Bits.l0]
      rw [if_neg (by omega)]
    · obtain ⟨r, hr, a0, a1, a2, a3⟩ := bits_l0 j (x / 2) (n0 + 1) (by omega) (by rw [Int.pow_succ] at h1; omega) (by omega) (by omega)
      refine ⟨r, Ev.step (f := fun k => sosoptnum_Bits.l0 k (n0 + 1) (x / 2)) (fun k => ?_) hr, by omega, by omega, fun h => ?_, fun h => ?_⟩
      · simp only [sosoptnum_Bits.l0]
        rw [if_pos (by omega), wrap_in (by omega) (by omega)]
      · have := a1 (by omega); omega
      · rcases Int.lt_or_le (x / 2) 2 with h5 | h5
        · have := a2 (by omega); omega
        · have := a3 h5; omega
theorem rd_range {n : Nat} (i : Int) : 0 ≤ rd (cn n) i ∧ rd (cn n) i < 4294967296 := cn_inW n i.toNat
theorem bits_f (a : Bool) {n : Nat} (hn : Sz n) : ∃ r, Ev (fun k => sosoptnum_Bits.f k a (cn n)) r ∧ (r = 1 ↔ n = 1) ∧ (1 < r ↔ 1 < n) := by
  by_cases h : n = 0
  · subst h
    exact ⟨0, Ev.congr (f := fun _ => some 0) (fun k => by unfold sosoptnum_Bits.f; rw [cn_zero, if_pos (by simp)]) (Ev.now _), by omega, by omega⟩
  · have hl := cn_ne h
    have hz := hn
    unfold Sz at hz
    have e1 : wrap64 (((cn n).length : Int) - 1) = ((cn n).length : Int) - 1 := wrap_in (by omega) (by omega)
    have e2 : wrap64 (32 * (((cn n).length : Int) - 1)) = 32 * (((cn n).length : Int) - 1) := wrap_in (by omega) (by omega)
    obtain ⟨t0, t1⟩ := rd_range (n := n) (((cn n).length : Int) - 1)
    obtain ⟨r, hr, a0, a1, a2, a3⟩ := bits_l0 32 (rd (cn n) (((cn n).length : Int) - 1)) (32 * (((cn n).length : Int) - 1)) t0 (by simpa using t1) (by omega) (by omega)
    refine ⟨r, Ev.congr (fun k => ?_) hr, ?_⟩
    · unfold sosoptnum_Bits.f
      rw [if_neg (by omega), e1, if_pos (by omega), if_pos (by omega), e2]
    · by_cases hs : n / 4294967296 = 0
      · have e3 : cn n = [(n : Int)] := by rw [cn_pos h, hs, cn_zero]; congr 1; omega
        have e4 : rd (cn n) (((cn n).length : Int) - 1) = n := by rw [e3]; rfl
        rw [e4] at a1 a2 a3
        have e5 : ((cn n).length : Int) = 1 := by rw [e3]; rfl
        rw [e5] at a0 a1 a2 a3
        rcases Nat.lt_or_ge 1 n with h1 | h1
        · have := a3 (by omega); omega
        · have := a2 (by omega); omega
      · have : 2 ≤ (cn n).length := by
          rw [cn_pos h, List.length_cons]
          have := cn_ne hs
          omega
        omega
theorem quoRem_f (a b : Bool) {x y : Nat} (hx : Sz x) (hy : Sz y) (h0 : 0 < y) : nQR.f a (cn x) b (cn y) = some ((a != b) && decide (0 < (cn (x / y)).length), cn (x / y), a && decide (0 < (cn (x % y)).length), cn (x % y)) := by
  unfold nQR.f
  rw [divMag_cn hx hy h0]
  rfl
end Go.Proofs.YQ.PA
