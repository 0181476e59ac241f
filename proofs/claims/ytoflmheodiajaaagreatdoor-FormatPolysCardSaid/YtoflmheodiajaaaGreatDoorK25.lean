import Derived.Test.YtoflmheodiajaaaGreatDoorK24
namespace Go.Proofs.YtoflmheodiajaaaGreatDoor
open Go.RowKit
set_option linter.unusedVariables false
set_option linter.unusedSimpArgs false
theorem expCmp_pos {f g : Nat → Int} (h : 0 < expCmp f g) : sumTo g 6 ≤ sumTo f 6 := by
  unfold expCmp at h
  split at h
  · omega
  · split at h
    · omega
    · omega
theorem el_sum {xs : List Int} (h : ExpR fun j => el xs j) {j : Nat} (hj : j < 6) : el xs j ≤ sumTo (fun j => el xs j) 6 := by
  have h0 := h 0; have h1 := h 1; have h2 := h 2; have h3 := h 3; have h4 := h 4; have h5 := h 5
  simp only [sumTo]
  simp only at h0 h1 h2 h3 h4 h5
  match j, hj with
  | 0, _ => omega
  | 1, _ => omega
  | 2, _ => omega
  | 3, _ => omega
  | 4, _ => omega
  | 5, _ => omega
theorem join_len (c : UInt8) : ∀ xs : List (List UInt8), (Lib.join xs [c]).length ≤ (xs.map (fun x => x.length + 1)).sum
  | [] => by simp [Lib.join_nil]
  | [x] => by simp [Lib.join_one]
  | x :: y :: r => by
    have ih := join_len c (y :: r)
    rw [Lib.join_cons, show Lib.joinTail [c] (y :: r) = c :: (y ++ Lib.joinTail [c] r) by simp [Lib.joinTail], ← Lib.join_cons]
    simp only [List.length_append, List.length_cons, List.map_cons, List.sum_cons] at ih ⊢
    omega
theorem lineOf_len (ws : List ByteArray) : (lineOf ws).length ≤ (ws.map (fun x => x.size + 1)).sum + 1 := by
  have h := join_len 32 (ws.map (·.data.toList))
  have e : (ws.map (·.data.toList)).map (fun x => x.length + 1) = ws.map (fun x => x.size + 1) := by
    rw [List.map_map]
    rfl
  rw [e] at h
  rw [lineOf, List.length_append, List.length_singleton]
  omega
theorem decS_all : ((List.range 100).all fun i => decide ((decS i).size ≤ 2)) = true := by kernel_rfl
theorem decS_size {i : Nat} (h : i < 100) : (decS i).size ≤ 2 := by
  have := (List.all_eq_true.1 decS_all) i (List.mem_range.2 h)
  exact of_decide_eq_true this
theorem sum_le {xs : List Int} (h : ∀ x ∈ xs, x.toNat < 100) : (xs.map (fun x => (decS x.toNat).size + 1)).sum ≤ 3 * xs.length := by
  induction xs with
  | nil => simp
  | cons a t ih =>
    have h1 := decS_size (h a (by simp))
    have h2 := ih (fun x hx => h x (by simp [hx]))
    simp only [List.map_cons, List.sum_cons, List.length_cons]
    omega
theorem termW_len {t : TermV} (hc : t.c.size ≤ 100) (hx : ∀ j, j < t.xs.length → 0 ≤ el t.xs j ∧ el t.xs j < 100) (hl : t.xs.length ≤ 6) : (lineOf (termW t)).length ≤ 125 := by
  have h := lineOf_len (termW t)
  have h2 := sum_le (xs := t.xs) (fun x hx' => by
    obtain ⟨j, hj, rfl⟩ := List.mem_iff_getElem.1 hx'
    have := hx j hj
    rw [el_at _ _ hj]
    omega)
  unfold termW at h ⊢
  simp only [List.map_cons, List.map_map, List.sum_cons] at h
  rw [show ((fun x : ByteArray => x.size + 1) ∘ fun x : Int => decS x.toNat) = fun x => (decS x.toNat).size + 1 from rfl, show termS.size = 4 from rfl] at h
  omega
theorem termsTo_len {ts : List TermV} (h : ∀ i, i < ts.length → (lineOf (termW (tm ts i))).length ≤ 125) : ∀ k, k ≤ ts.length → (termsTo ts k).length ≤ 125 * k
  | 0, _ => by simp [termsTo]
  | k + 1, hk => by
    have := termsTo_len h k (by omega)
    have := h k (by omega)
    rw [termsTo, List.length_append]
    omega
theorem fit_of_ok {V : Int} {ts : List TermV} (hl : ts.length ≤ 12) (hc : ∀ i, i < ts.length → (tm ts i).c.size ≤ 100) (hok : polyOk okF zF V ts = true) : ∃ v : Nat, V = v ∧ PolyFit v ts := by
  have hok2 := hok
  simp only [polyOk, wfOk, Bool.and_eq_true] at hok2
  obtain ⟨_, ⟨hV, hwf⟩, hfit⟩ := hok2
  have hV := of_decide_eq_true hV
  obtain ⟨v, rfl⟩ := Int.eq_ofNat_of_zero_le hV.1
  have ht : ∀ i, i < ts.length → tOk okF zF (v : Int) ts i = true := fun i hi => of_decide_eq_true hwf i hi (Nat.zero_le _)
  have hx6 : ∀ i, i < ts.length → (tm ts i).xs.length ≤ 6 ∧ ExpR (fun j => el (tm ts i).xs j) := fun i hi => by
    have := ht i hi
    simp only [tOk, Bool.and_eq_true, decide_eq_true_eq] at this
    obtain ⟨_, h2, _, h4, _⟩ := this
    exact ⟨by omega, expR_of (by omega) (by omega) h2⟩
  have hdeg : ∀ i, i < ts.length → sumTo (fun j => el (tm ts i).xs j) 6 ≤ 24 := by
    intro i
    induction i with
    | zero =>
      intro h0
      have h := of_decide_eq_true hfit
      unfold degOf at h
      rw [if_neg (by omega)] at h
      exact h
    | succ i ih =>
      intro hi
      have h1 := ih (by omega)
      have h2 := ht (i + 1) hi
      simp only [tOk, Bool.and_eq_true, Bool.or_eq_true, decide_eq_true_eq] at h2
      have h3 : 0 < expCmp (exF (tm ts i)) (exF (tm ts (i + 1))) := h2.2.2.2.2.resolve_left (by omega)
      exact Int.le_trans (expCmp_pos h3) h1
  have hex : ∀ i, i < ts.length → ∀ j, j < (tm ts i).xs.length → 0 ≤ el (tm ts i).xs j ∧ el (tm ts i).xs j < 100 := fun i hi j hj => by
    obtain ⟨h6, hR⟩ := hx6 i hi
    have h1 := el_sum hR (show j < 6 by omega)
    have h2 := hdeg i hi
    have h3 := (hR j).1
    exact ⟨h3, by omega⟩
  refine ⟨v, rfl, ⟨by omega, fun i hi => Nat.le_trans (hc i hi) (by omega), by omega, hok, hex, fun i hi => (hx6 i hi).1, ?_⟩⟩
  have h1 := termsTo_len (ts := ts) (fun i hi => termW_len (hc i hi) (hex i hi) (hx6 i hi).1) ts.length (Nat.le_refl _)
  have h2 := lineOf_len [polyS, decS v, decS ts.length]
  have h3 := decS_size (i := v) (by omega)
  have h4 := decS_size (i := ts.length) (by omega)
  simp only [List.map_cons, List.map_nil, List.sum_cons, List.sum_nil] at h2
  rw [show polyS.size = 4 from rfl] at h2
  rw [polyL, List.length_append, headL]
  omega
end Go.Proofs.YtoflmheodiajaaaGreatDoor
namespace Go.Proofs.YtoflmheodiajaaaGreatDoor.H
def pw (k : Nat) : Int := 4294967296 ^ k
theorem pw_succ (k : Nat) : pw (k + 1) = 4294967296 * pw k := by unfold pw; rw [Int.pow_succ, Int.mul_comm]
theorem pw_zero : pw 0 = 1 := rfl
theorem pw_pos (k : Nat) : 0 < pw k := by
  induction k with
  | zero => decide
  | succ k ih => rw [pw_succ]; omega
theorem pw_add (a b : Nat) : pw (a + b) = pw a * pw b := by unfold pw; rw [Int.pow_add]
def vt (xs : List Int) : Nat → Int
  | 0 => 0
  | k + 1 => vt xs k + el xs k * pw k
def val (xs : List Int) : Int := vt xs xs.length
def InW (xs : List Int) : Prop := ∀ i, 0 ≤ el xs i ∧ el xs i < 4294967296
def Trim (xs : List Int) : Prop := xs = [] ∨ el xs (xs.length - 1) ≠ 0
def lo (n : Int) : Int := n % 4294967296
def hi (n : Int) : Int := n / 4294967296
theorem lo_hi (n : Int) : n = lo n + 4294967296 * hi n := by unfold lo hi; omega
theorem lo_range (n : Int) : 0 ≤ lo n ∧ lo n < 4294967296 := by unfold lo; omega
theorem el_ge (xs : List Int) (i : Nat) (h : xs.length ≤ i) : el xs i = 0 := by simp [el, h]
theorem el_set (xs : List Int) (i j : Nat) (y : Int) (h : i < xs.length) : el (xs.set i y) j = if j = i then y else el xs j := by
  unfold el
  rw [List.getD_eq_getElem?_getD, List.getD_eq_getElem?_getD, List.getElem?_set]
  split
  · rename_i e; subst e; simp
  · rename_i e; rw [if_neg (fun h' => e h'.symm)]
theorem el_append_lt (xs ys : List Int) (j : Nat) (h : j < xs.length) : el (xs ++ ys) j = el xs j := by
  unfold el; rw [List.getD_eq_getElem?_getD, List.getD_eq_getElem?_getD, List.getElem?_append_left h]
theorem el_append_at (xs : List Int) (y : Int) : el (xs ++ [y]) xs.length = y := by simp [el]
theorem el_replicate (n i : Nat) : el (List.replicate n 0) i = 0 := by
  unfold el; rw [List.getD_eq_getElem?_getD, List.getElem?_replicate]; split <;> rfl
theorem el_take (xs : List Int) (n j : Nat) (h : j < n) : el (xs.take n) j = el xs j := by
  unfold el; rw [List.getD_eq_getElem?_getD, List.getD_eq_getElem?_getD, List.getElem?_take_of_lt h]
theorem vt_congr {xs ys : List Int} : ∀ {k : Nat}, (∀ j, j < k → el xs j = el ys j) → vt xs k = vt ys k
  | 0, _ => rfl
  | k + 1, h => by
    simp only [vt]
    rw [vt_congr (fun j hj => h j (by omega)), h k (by omega)]
theorem vt_ge (xs : List Int) : ∀ k, xs.length ≤ k → vt xs k = val xs := by
  intro k hk
  induction k with
  | zero => have : xs.length = 0 := by omega
            unfold val; rw [this]
  | succ k ih =>
    rcases Nat.lt_or_ge k xs.length with h | h
    · have : xs.length = k + 1 := by omega
      unfold val; rw [this]
    · simp only [vt]; rw [el_ge xs k h, ih h]; simp
theorem vt_nonneg {xs : List Int} (h : InW xs) : ∀ k, 0 ≤ vt xs k ∧ vt xs k < pw k
  | 0 => by simp [vt, pw_zero]
  | k + 1 => by
    have ⟨h1, h2⟩ := vt_nonneg h k
    have ⟨h3, h4⟩ := h k
    have hp := pw_pos k
    rw [pw_succ]
    simp only [vt]
    have h5 : 0 ≤ el xs k * pw k := Int.mul_nonneg h3 (by omega)
    have h6 : el xs k * pw k ≤ 4294967295 * pw k := Int.mul_le_mul_of_nonneg_right (by omega) (by omega)
    constructor <;> omega
theorem val_nonneg {xs : List Int} (h : InW xs) : 0 ≤ val xs := (vt_nonneg h _).1
theorem InW.set {xs : List Int} (h : InW xs) (i : Nat) (y : Int) (hy : 0 ≤ y ∧ y < 4294967296) : InW (xs.set i y) := by
  intro j
  rcases Nat.lt_or_ge i xs.length with hi | hi
  · rw [el_set xs i j y hi]
    split
    · exact hy
    · exact h j
  · rw [List.set_eq_of_length_le hi]; exact h j
theorem InW.replicate (n : Nat) : InW (List.replicate n 0) := fun i => by rw [el_replicate]; omega
theorem InW.append {xs : List Int} (h : InW xs) (y : Int) (hy : 0 ≤ y ∧ y < 4294967296) : InW (xs ++ [y]) := by
  intro j
  rcases Nat.lt_or_ge j xs.length with hj | hj
  · rw [el_append_lt _ _ _ hj]; exact h j
  · rcases Nat.eq_or_lt_of_le hj with e | hj
    · subst e; rw [el_append_at]; exact hy
    · rw [el_ge _ _ (by simp; omega)]; omega
theorem InW.take {xs : List Int} (h : InW xs) (n : Nat) : InW (xs.take n) := by
  intro j
  rcases Nat.lt_or_ge j n with hj | hj
  · rw [el_take _ _ _ hj]; exact h j
  · rw [el_ge _ _ (by rw [List.length_take]; omega)]; omega
theorem InW.nil : InW [] := fun i => by simp [el]
theorem val_nil : val [] = 0 := rfl
theorem val_append (xs : List Int) (y : Int) : val (xs ++ [y]) = val xs + y * pw xs.length := by
  have e : (xs ++ [y]).length = xs.length + 1 := by simp
  unfold val
  rw [e]
  simp only [vt]
  rw [el_append_at, vt_congr (ys := xs) (fun j hj => el_append_lt _ _ _ hj)]
theorem val_take (xs : List Int) (n : Nat) (h : n ≤ xs.length) : val (xs.take n) = vt xs n := by
  unfold val
  rw [List.length_take, Nat.min_eq_left h]
  exact vt_congr (fun j hj => el_take _ _ _ hj)
theorem val_one (y : Int) : val [y] = y := by
  have := val_append [] y
  simpa [val_nil, pw_zero] using this
def strip : Nat → List Int → Nat
  | 0, _ => 0
  | n + 1, xs => if el xs n = 0 then strip n xs else n + 1
theorem strip_le (xs : List Int) : ∀ n, strip n xs ≤ n
  | 0 => Nat.le_refl _
  | n + 1 => by
    unfold strip
    split
    · have := strip_le xs n; omega
    · omega
theorem vt_strip (xs : List Int) : ∀ n, vt xs (strip n xs) = vt xs n
  | 0 => rfl
  | n + 1 => by
    unfold strip
    split
    · rename_i h
      rw [vt_strip xs n]
      simp [vt, h]
    · rfl
theorem strip_top (xs : List Int) : ∀ n, strip n xs = 0 ∨ el xs (strip n xs - 1) ≠ 0
  | 0 => .inl rfl
  | n + 1 => by
    unfold strip
    split
    · exact strip_top xs n
    · exact .inr (by simpa using ‹_›)
def stripped (xs : List Int) : List Int := xs.take (strip xs.length xs)
theorem stripped_length (xs : List Int) : (stripped xs).length = strip xs.length xs := by
  unfold stripped; rw [List.length_take]; exact Nat.min_eq_left (strip_le _ _)
theorem val_stripped (xs : List Int) : val (stripped xs) = val xs := by
  unfold stripped
  rw [val_take _ _ (strip_le _ _), vt_strip]
  rfl
theorem trim_stripped (xs : List Int) : Trim (stripped xs) := by
  unfold Trim
  rw [stripped_length]
  rcases strip_top xs xs.length with h | h
  · left; unfold stripped; rw [h]; rfl
  · rcases Nat.eq_zero_or_pos (strip xs.length xs) with h0 | h0
    · left; unfold stripped; rw [h0]; rfl
    · right; unfold stripped; rw [el_take _ _ _ (by omega)]; exact h
theorem el_stripped (xs : List Int) (j : Nat) (h : j < (stripped xs).length) : el (stripped xs) j = el xs j := by
  rw [stripped_length] at h
  unfold stripped; exact el_take _ _ _ h
theorem sum_step {zs xs ys : List Int} {k : Nat} {c : Int} (hk : k < zs.length) (h : vt zs k + c * pw k = vt xs k + vt ys k) :
    vt (zs.set k (lo (el xs k + el ys k + c))) (k + 1) + hi (el xs k + el ys k + c) * pw (k + 1) = vt xs (k + 1) + vt ys (k + 1) := by
  have e1 : vt (zs.set k (lo (el xs k + el ys k + c))) k = vt zs k := vt_congr (fun j hj => by rw [el_set _ _ _ _ hk, if_neg (by omega)])
  have e2 : el (zs.set k (lo (el xs k + el ys k + c))) k = lo (el xs k + el ys k + c) := by rw [el_set _ _ _ _ hk, if_pos rfl]
  simp only [vt]
  rw [e1, e2, pw_succ]
  have hl := lo_hi (el xs k + el ys k + c)
  generalize lo (el xs k + el ys k + c) = l at *
  generalize hi (el xs k + el ys k + c) = m at *
  have : (el xs k + el ys k + c) * pw k = (l + 4294967296 * m) * pw k := by rw [← hl]
  rw [Int.add_mul, Int.add_mul, Int.add_mul] at this
  have e3 : m * (4294967296 * pw k) = 4294967296 * m * pw k := by
    rw [← Int.mul_assoc, Int.mul_comm m]
  omega
theorem carry_bit {x y c : Int} (hx : 0 ≤ x ∧ x < 4294967296) (hy : 0 ≤ y ∧ y < 4294967296) (hc : c = 0 ∨ c = 1) : hi (x + y + c) = 0 ∨ hi (x + y + c) = 1 := by
  unfold hi; omega
theorem Trim.ge {xs : List Int} (h : Trim xs) (hw : InW xs) (hn : 0 < xs.length) : pw (xs.length - 1) ≤ val xs := by
  rcases h with h | h
  · subst h; simp at hn
  · have e : xs.length = (xs.length - 1) + 1 := by omega
    have h1 := (hw (xs.length - 1)).1
    have h2 := (vt_nonneg hw (xs.length - 1)).1
    have hp := pw_pos (xs.length - 1)
    unfold val
    rw [e]
    simp only [vt]
    rw [← e]
    have : 1 * pw (xs.length - 1) ≤ el xs (xs.length - 1) * pw (xs.length - 1) := Int.mul_le_mul_of_nonneg_right (by omega) (by omega)
    omega
theorem trim_of_ge {xs : List Int} (hw : InW xs) (h : xs.length = 0 ∨ pw (xs.length - 1) ≤ val xs) : Trim xs := by
  rcases h with h | h
  · exact .inl (List.eq_nil_of_length_eq_zero h)
  · rcases Nat.eq_zero_or_pos xs.length with h0 | h0
    · exact .inl (List.eq_nil_of_length_eq_zero h0)
    · right
      intro hz
      have e : xs.length = (xs.length - 1) + 1 := by omega
      have h2 := (vt_nonneg hw (xs.length - 1)).2
      unfold val at h
      rw [e] at h
      simp only [vt] at h
      rw [← e, hz] at h
      omega
theorem Trim.zero {xs : List Int} (h : Trim xs) (hw : InW xs) : val xs = 0 ↔ xs = [] := by
  constructor
  · intro hv
    rcases Nat.eq_zero_or_pos xs.length with h0 | h0
    · exact List.eq_nil_of_length_eq_zero h0
    · have := h.ge hw h0
      have := pw_pos (xs.length - 1)
      omega
  · intro e; rw [e]; rfl
theorem sum_trim {xs ys zs : List Int} (hx : Trim xs) (hy : Trim ys) (wx : InW xs) (wy : InW ys) (wz : InW zs) (hv : val zs = val xs + val ys) (h : zs.length = max xs.length ys.length ∨ Trim zs) : Trim zs := by
  rcases h with h | h
  · refine trim_of_ge wz ?_
    have h1 := val_nonneg wx
    have h2 := val_nonneg wy
    rcases Nat.eq_zero_or_pos zs.length with h0 | h0
    · exact .inl h0
    · right
      rcases Nat.le_total ys.length xs.length with hl | hl
      · have e : zs.length = xs.length := by omega
        have := hx.ge wx (by omega)
        rw [e]; omega
      · have e : zs.length = ys.length := by omega
        have := hy.ge wy (by omega)
        rw [e]; omega
  · exact h
end Go.Proofs.YtoflmheodiajaaaGreatDoor.H
namespace Go.Proofs.YtoflmheodiajaaaGreatDoor.H
set_option linter.unusedVariables false
set_option linter.unusedSimpArgs false
theorem vt_set (xs : List Int) (i : Nat) (y : Int) (hi : i < xs.length) : ∀ k, vt (xs.set i y) k = vt xs k + (if i < k then (y - el xs i) * pw i else 0)
  | 0 => by simp [vt]
  | k + 1 => by
    simp only [vt]
    rw [vt_set xs i y hi k, el_set xs i k y hi]
    by_cases h1 : k = i
    · subst h1
      rw [if_pos rfl, if_neg (by omega), if_pos (by omega), Int.sub_mul]
      omega
    · rw [if_neg h1]
      by_cases h2 : i < k
      · rw [if_pos h2, if_pos (by omega)]; omega
      · rw [if_neg h2, if_neg (by omega)]; omega
theorem val_set (xs : List Int) (i : Nat) (y : Int) (hi : i < xs.length) : val (xs.set i y) = val xs + (y - el xs i) * pw i := by
  unfold val
  rw [List.length_set, vt_set xs i y hi, if_pos hi]
def mulLo (x y o c : Int) : Int := lo (lo (lo (x * y) + o) + c)
def mulHi (x y o c : Int) : Int := lo (hi (x * y) + hi (lo (x * y) + o)) + hi (lo (lo (x * y) + o) + c)
theorem prod_range {x y : Int} (hx : 0 ≤ x ∧ x < 4294967296) (hy : 0 ≤ y ∧ y < 4294967296) : 0 ≤ x * y ∧ x * y ≤ 4294967295 * 4294967295 := by
  constructor
  · exact Int.mul_nonneg hx.1 hy.1
  · exact Int.mul_le_mul (by omega) (by omega) hy.1 (by omega)
theorem mul_step {x y o c : Int} (hx : 0 ≤ x ∧ x < 4294967296) (hy : 0 ≤ y ∧ y < 4294967296) (ho : 0 ≤ o ∧ o < 4294967296) (hc : 0 ≤ c ∧ c < 4294967296) :
    mulLo x y o c + 4294967296 * mulHi x y o c = x * y + o + c ∧ 0 ≤ mulHi x y o c ∧ mulHi x y o c < 4294967296 := by
  have hp := prod_range hx hy
  unfold mulLo mulHi lo hi
  generalize x * y = p at *
  omega
theorem prod_step {zs : List Int} {V x carry carry' p q y o : Int} {i k : Nat} (hk : i + k < zs.length) (ho : el zs (i + k) = o)
    (h : val zs + carry * pw (i + k) = V + x * pw i * q) (hs : p + 4294967296 * carry' = x * y + o + carry) :
    val (zs.set (i + k) p) + carry' * pw (i + k + 1) = V + x * pw i * (q + y * pw k) := by
  rw [val_set zs _ _ hk, ho, pw_succ]
  have e1 : x * pw i * (q + y * pw k) = x * pw i * q + x * y * pw (i + k) := by
    rw [Int.mul_add, pw_add]
    congr 1
    grind
  rw [e1]
  have e2 : carry' * (4294967296 * pw (i + k)) = 4294967296 * carry' * pw (i + k) := by grind
  rw [e2]
  have e3 : (p - o) * pw (i + k) + 4294967296 * carry' * pw (i + k) = (x * y + carry) * pw (i + k) := by
    rw [← Int.add_mul]
    congr 1
    omega
  have e4 : (x * y + carry) * pw (i + k) = x * y * pw (i + k) + carry * pw (i + k) := by rw [Int.add_mul]
  omega
end Go.Proofs.YtoflmheodiajaaaGreatDoor.H
namespace Go.Proofs.YtoflmheodiajaaaGreatDoor.H
set_option linter.unusedVariables false
set_option linter.unusedSimpArgs false
theorem vt_lt_of_top {xs ys : List Int} (wx : InW xs) (k : Nat) (h : el xs k < el ys k) (hy : InW ys) : vt xs (k + 1) < vt ys (k + 1) := by
  have h1 := (vt_nonneg wx k).2
  have h2 := (vt_nonneg hy k).1
  have hp := pw_pos k
  simp only [vt]
  have : (el xs k + 1) * pw k ≤ el ys k * pw k := Int.mul_le_mul_of_nonneg_right (by omega) (by omega)
  rw [Int.add_mul] at this
  omega
theorem vt_up {xs ys : List Int} {k : Nat} : ∀ {n : Nat}, k ≤ n → (∀ j, k ≤ j → j < n → el xs j = el ys j) → vt xs n - vt ys n = vt xs k - vt ys k
  | n, hk, h => by
    induction n with
    | zero => have : k = 0 := by omega
              subst this; rfl
    | succ n ih =>
      rcases Nat.eq_or_lt_of_le hk with e | hlt
      · subst e; rfl
      · have := ih (by omega) (fun j hj hn => h j hj (by omega))
        simp only [vt]
        rw [h n (by omega) (by omega)]
        omega
theorem cmp_len {xs ys : List Int} (wx : InW xs) (wy : InW ys) (ty : Trim ys) (h : xs.length < ys.length) : val xs < val ys := by
  have h1 := (vt_nonneg wx xs.length).2
  have h2 := ty.ge wy (by omega)
  have : pw xs.length ≤ pw (ys.length - 1) := by
    obtain ⟨d, hd⟩ : ∃ d, ys.length - 1 = xs.length + d := ⟨ys.length - 1 - xs.length, by omega⟩
    rw [hd, pw_add]
    have := pw_pos d
    have := pw_pos xs.length
    have h3 : pw xs.length * 1 ≤ pw xs.length * pw d := Int.mul_le_mul_of_nonneg_left (by omega) (by omega)
    omega
  unfold val at *
  omega
theorem cmp_at {xs ys : List Int} (wx : InW xs) (wy : InW ys) (hl : xs.length = ys.length) {k : Nat} (hk : k < xs.length) (heq : ∀ j, k < j → j < xs.length → el xs j = el ys j) (h : el xs k < el ys k) : val xs < val ys := by
  have h1 := vt_lt_of_top wx k h wy
  have h2 := vt_up (xs := xs) (ys := ys) (k := k + 1) (n := xs.length) (by omega) (fun j hj hn => heq j (by omega) hn)
  unfold val
  rw [← hl]
  omega
theorem vcmp_eq {xs ys : List Int} (hl : xs.length = ys.length) (heq : ∀ j, j < xs.length → el xs j = el ys j) : val xs = val ys := by
  unfold val
  rw [← hl]
  exact vt_congr heq
end Go.Proofs.YtoflmheodiajaaaGreatDoor.H
