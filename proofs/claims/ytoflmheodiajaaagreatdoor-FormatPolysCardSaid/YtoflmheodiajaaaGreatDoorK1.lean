import Derived.Test.YtoflmheodiajaaaGreatDoorK0
namespace Go.Proofs.YtoflmheodiajaaaGreatDoor
def pw (k : Nat) : Int := 18446744073709551616 ^ k
theorem pw_succ (k : Nat) : pw (k + 1) = 18446744073709551616 * pw k := by unfold pw; rw [Int.pow_succ, Int.mul_comm]
theorem pw_zero : pw 0 = 1 := rfl
theorem pw_pos (k : Nat) : 0 < pw k := by
  induction k with
  | zero => decide
  | succ k ih => rw [pw_succ]; omega
theorem pw_add (a b : Nat) : pw (a + b) = pw a * pw b := by unfold pw; rw [Int.pow_add]
def vt (xs : List Int) : Nat → Int
  | 0 => 0
  | k + 1 => vt xs k + el xs k * pw k
def val (xs : List Int) : Int := vt xs xs.length
def InW (xs : List Int) : Prop := ∀ i, 0 ≤ el xs i ∧ el xs i < 18446744073709551616
def Trim (xs : List Int) : Prop := xs = [] ∨ el xs (xs.length - 1) ≠ 0
def lo (n : Int) : Int := n % 18446744073709551616
def hi (n : Int) : Int := n / 18446744073709551616
theorem lo_hi (n : Int) : n = lo n + 18446744073709551616 * hi n := by unfold lo hi; omega
theorem lo_range (n : Int) : 0 ≤ lo n ∧ lo n < 18446744073709551616 := by unfold lo; omega
theorem el_ge (xs : List Int) (i : Nat) (h : xs.length ≤ i) : el xs i = 0 := by simp [el, h]
theorem el_set (xs : List Int) (i j : Nat) (y : Int) (h : i < xs.length) : el (xs.set i y) j = if j = i then y else el xs j := by
  unfold el
  rw [List.getD_eq_getElem?_getD, List.getD_eq_getElem?_getD, List.getElem?_set]
  split
  · rename_i e; subst e; simp
  · rename_i e; rw [if_neg (fun h' => e h'.symm)]
theorem el_append_lt (xs ys : List Int) (j : Nat) (h : j < xs.length) : el (xs ++ ys) j = el xs j := by
  unfold el; rw [List.getD_eq_getElem?_getD, List.getD_eq_getElem?_getD, List.getElem?_append_left h]
theorem el_append_at (xs : List Int) (y : Int) : el (xs ++ [y]) xs.length = y := by simp [el]
theorem el_replicate (n i : Nat) : el (List.replicate n 0) i = 0 := by
  unfold el; rw [List.getD_eq_getElem?_getD, List.getElem?_replicate]; split <;> rfl
theorem el_take (xs : List Int) (n j : Nat) (h : j < n) : el (xs.take n) j = el xs j := by
  unfold el; rw [List.getD_eq_getElem?_getD, List.getD_eq_getElem?_getD, List.getElem?_take_of_lt h]
theorem vt_congr {xs ys : List Int} : ∀ {k : Nat}, (∀ j, j < k → el xs j = el ys j) → vt xs k = vt ys k
  | 0, _ => rfl
  | k + 1, h => by
    simp only [vt]
    rw [vt_congr (fun j hj => h j (by omega)), h k (by omega)]
theorem vt_ge (xs : List Int) : ∀ k, xs.length ≤ k → vt xs k = val xs := by
  intro k hk
  induction k with
  | zero => have : xs.length = 0 := by omega
            unfold val; rw [this]
  | succ k ih =>
    rcases Nat.lt_or_ge k xs.length with h | h
    · have : xs.length = k + 1 := by omega
      unfold val; rw [this]
    · simp only [vt]; rw [el_ge xs k h, ih h]; simp
theorem vt_nonneg {xs : List Int} (h : InW xs) : ∀ k, 0 ≤ vt xs k ∧ vt xs k < pw k
  | 0 => by simp [vt, pw_zero]
  | k + 1 => by
    have ⟨h1, h2⟩ := vt_nonneg h k
    have ⟨h3, h4⟩ := h k
    have hp := pw_pos k
    rw [pw_succ]
    simp only [vt]
    have h5 : 0 ≤ el xs k * pw k := Int.mul_nonneg h3 (by omega)
    have h6 : el xs k * pw k ≤ 18446744073709551615 * pw k := Int.mul_le_mul_of_nonneg_right (by omega) (by omega)
    constructor <;> omega
theorem val_nonneg {xs : List Int} (h : InW xs) : 0 ≤ val xs := (vt_nonneg h _).1
theorem InW.set {xs : List Int} (h : InW xs) (i : Nat) (y : Int) (hy : 0 ≤ y ∧ y < 18446744073709551616) : InW (xs.set i y) := by
  intro j
  rcases Nat.lt_or_ge i xs.length with hi | hi
  · rw [el_set xs i j y hi]
    split
    · exact hy
    · exact h j
  · rw [List.set_eq_of_length_le hi]; exact h j
theorem InW.replicate (n : Nat) : InW (List.replicate n 0) := fun i => by rw [el_replicate]; omega
theorem InW.append {xs : List Int} (h : InW xs) (y : Int) (hy : 0 ≤ y ∧ y < 18446744073709551616) : InW (xs ++ [y]) := by
  intro j
  rcases Nat.lt_or_ge j xs.length with hj | hj
  · rw [el_append_lt _ _ _ hj]; exact h j
  · rcases Nat.eq_or_lt_of_le hj with e | hj
    · subst e; rw [el_append_at]; exact hy
    · rw [el_ge _ _ (by simp; omega)]; omega
theorem InW.take {xs : List Int} (h : InW xs) (n : Nat) : InW (xs.take n) := by
  intro j
  rcases Nat.lt_or_ge j n with hj | hj
  · rw [el_take _ _ _ hj]; exact h j
  · rw [el_ge _ _ (by rw [List.length_take]; omega)]; omega
theorem InW.nil : InW [] := fun i => by simp [el]
theorem val_nil : val [] = 0 := rfl
theorem val_append (xs : List Int) (y : Int) : val (xs ++ [y]) = val xs + y * pw xs.length := by
  have e : (xs ++ [y]).length = xs.length + 1 := by simp
  unfold val
  rw [e]
  simp only [vt]
  rw [el_append_at, vt_congr (ys := xs) (fun j hj => el_append_lt _ _ _ hj)]
theorem val_take (xs : List Int) (n : Nat) (h : n ≤ xs.length) : val (xs.take n) = vt xs n := by
  unfold val
  rw [List.length_take, Nat.min_eq_left h]
  exact vt_congr (fun j hj => el_take _ _ _ hj)
theorem val_one (y : Int) : val [y] = y := by
  have := val_append [] y
  simpa [val_nil, pw_zero] using this
def strip : Nat → List Int → Nat
  | 0, _ => 0
  | n + 1, xs => if el xs n = 0 then strip n xs else n + 1
theorem strip_le (xs : List Int) : ∀ n, strip n xs ≤ n
  | 0 => Nat.le_refl _
  | n + 1 => by
    unfold strip
    split
    · have := strip_le xs n; omega
    · omega
theorem vt_strip (xs : List Int) : ∀ n, vt xs (strip n xs) = vt xs n
  | 0 => rfl
  | n + 1 => by
    unfold strip
    split
    · rename_i h
      rw [vt_strip xs n]
      simp [vt, h]
    · rfl
theorem strip_top (xs : List Int) : ∀ n, strip n xs = 0 ∨ el xs (strip n xs - 1) ≠ 0
  | 0 => .inl rfl
  | n + 1 => by
    unfold strip
    split
    · exact strip_top xs n
    · exact .inr (by simpa using ‹_›)
def stripped (xs : List Int) : List Int := xs.take (strip xs.length xs)
theorem stripped_length (xs : List Int) : (stripped xs).length = strip xs.length xs := by
  unfold stripped; rw [List.length_take]; exact Nat.min_eq_left (strip_le _ _)
theorem val_stripped (xs : List Int) : val (stripped xs) = val xs := by
  unfold stripped
  rw [val_take _ _ (strip_le _ _), vt_strip]
  rfl
theorem trim_stripped (xs : List Int) : Trim (stripped xs) := by
  unfold Trim
  rw [stripped_length]
  rcases strip_top xs xs.length with h | h
  · left; unfold stripped; rw [h]; rfl
  · rcases Nat.eq_zero_or_pos (strip xs.length xs) with h0 | h0
    · left; unfold stripped; rw [h0]; rfl
    · right; unfold stripped; rw [el_take _ _ _ (by omega)]; exact h
theorem el_stripped (xs : List Int) (j : Nat) (h : j < (stripped xs).length) : el (stripped xs) j = el xs j := by
  rw [stripped_length] at h
  unfold stripped; exact el_take _ _ _ h
theorem sum_step {zs xs ys : List Int} {k : Nat} {c : Int} (hk : k < zs.length) (h : vt zs k + c * pw k = vt xs k + vt ys k) :
    vt (zs.set k (lo (el xs k + el ys k + c))) (k + 1) + hi (el xs k + el ys k + c) * pw (k + 1) = vt xs (k + 1) + vt ys (k + 1) := by
  have e1 : vt (zs.set k (lo (el xs k + el ys k + c))) k = vt zs k := vt_congr (fun j hj => by rw [el_set _ _ _ _ hk, if_neg (by omega)])
  have e2 : el (zs.set k (lo (el xs k + el ys k + c))) k = lo (el xs k + el ys k + c) := by rw [el_set _ _ _ _ hk, if_pos rfl]
  simp only [vt]
  rw [e1, e2, pw_succ]
  have hl := lo_hi (el xs k + el ys k + c)
  generalize lo (el xs k + el ys k + c) = l at *
  generalize hi (el xs k + el ys k + c) = m at *
  have : (el xs k + el ys k + c) * pw k = (l + 18446744073709551616 * m) * pw k := by rw [← hl]
  rw [Int.add_mul, Int.add_mul, Int.add_mul] at this
  have e3 : m * (18446744073709551616 * pw k) = 18446744073709551616 * m * pw k := by
    rw [← Int.mul_assoc, Int.mul_comm m]
  omega
theorem carry_bit {x y c : Int} (hx : 0 ≤ x ∧ x < 18446744073709551616) (hy : 0 ≤ y ∧ y < 18446744073709551616) (hc : c = 0 ∨ c = 1) : hi (x + y + c) = 0 ∨ hi (x + y + c) = 1 := by
  unfold hi; omega
theorem Trim.ge {xs : List Int} (h : Trim xs) (hw : InW xs) (hn : 0 < xs.length) : pw (xs.length - 1) ≤ val xs := by
  rcases h with h | h
  · subst h; simp at hn
  · have e : xs.length = (xs.length - 1) + 1 := by omega
    have h1 := (hw (xs.length - 1)).1
    have h2 := (vt_nonneg hw (xs.length - 1)).1
    have hp := pw_pos (xs.length - 1)
    unfold val
    rw [e]
    simp only [vt]
    rw [← e]
    have : 1 * pw (xs.length - 1) ≤ el xs (xs.length - 1) * pw (xs.length - 1) := Int.mul_le_mul_of_nonneg_right (by omega) (by omega)
    omega
theorem trim_of_ge {xs : List Int} (hw : InW xs) (h : xs.length = 0 ∨ pw (xs.length - 1) ≤ val xs) : Trim xs := by
  rcases h with h | h
  · exact .inl (List.eq_nil_of_length_eq_zero h)
  · rcases Nat.eq_zero_or_pos xs.length with h0 | h0
    · exact .inl (List.eq_nil_of_length_eq_zero h0)
    · right
      intro hz
      have e : xs.length = (xs.length - 1) + 1 := by omega
      have h2 := (vt_nonneg hw (xs.length - 1)).2
      unfold val at h
      rw [e] at h
      simp only [vt] at h
      rw [← e, hz] at h
      omega
theorem Trim.zero {xs : List Int} (h : Trim xs) (hw : InW xs) : val xs = 0 ↔ xs = [] := by
  constructor
  · intro hv
    rcases Nat.eq_zero_or_pos xs.length with h0 | h0
    · exact List.eq_nil_of_length_eq_zero h0
    · have := h.ge hw h0
      have := pw_pos (xs.length - 1)
      omega
  · intro e; rw [e]; rfl
theorem sum_trim {xs ys zs : List Int} (hx : Trim xs) (hy : Trim ys) (wx : InW xs) (wy : InW ys) (wz : InW zs) (hv : val zs = val xs + val ys) (h : zs.length = max xs.length ys.length ∨ Trim zs) : Trim zs := by
  rcases h with h | h
  · refine trim_of_ge wz ?_
    have h1 := val_nonneg wx
    have h2 := val_nonneg wy
    rcases Nat.eq_zero_or_pos zs.length with h0 | h0
    · exact .inl h0
    · right
      rcases Nat.le_total ys.length xs.length with hl | hl
      · have e : zs.length = xs.length := by omega
        have := hx.ge wx (by omega)
        rw [e]; omega
      · have e : zs.length = ys.length := by omega
        have := hy.ge wy (by omega)
        rw [e]; omega
  · exact h
end Go.Proofs.YtoflmheodiajaaaGreatDoor
