import Derived.Test.YtoflmheodiajaaaGreatDoorK22
import Derived.Lib.ItoaNum
import Derived.Lib.Split
import Derived.Lib.Join
import Derived.Lib.IndexBytes
import Derived.Lib.IndexLaws
namespace Go.Proofs.YtoflmheodiajaaaGreatDoor
open Go.RowKit
set_option linter.unusedVariables false
set_option linter.unusedSimpArgs false
def ofL (l : List UInt8) : ByteArray := ⟨l.toArray⟩
theorem ofL_size (l : List UInt8) : (ofL l).size = l.length := by simp [ofL, ByteArray.size]
theorem ofL_data (l : List UInt8) : (ofL l).data.toList = l := by simp [ofL]
theorem ofL_eq (s : ByteArray) : ofL s.data.toList = s := by simp [ofL]
theorem bt_ofL (l : List UInt8) (i : Nat) (h : i < l.length) : bt (ofL l) i = ((l[i]'h).toNat : Int) := by
  rw [bt_list (ofL l) i (by rw [ofL_data]; exact h)]
  simp [ofL]
theorem dch_congr {s t : ByteArray} : ∀ n, (∀ i, i < n → bt s i = bt t i) → dch s 0 n = dch t 0 n
  | 0, _ => rfl
  | n + 1, h => by
    simp only [dch]
    rw [dch_congr n (fun i hi => h i (by omega)), Nat.zero_add, h n (by omega)]
theorem dval_nil : dval (ofL []) = 0 := rfl
theorem dval_snoc (l : List UInt8) (c : UInt8) : dval (ofL (l ++ [c])) = 10 * dval (ofL l) + ((c.toNat : Int) - 48) := by
  unfold dval
  rw [ofL_size, ofL_size, List.length_append, List.length_singleton]
  simp only [dch]
  rw [Nat.zero_add, bt_ofL _ _ (by simp), dch_congr (t := ofL l) l.length (fun i hi => by
    rw [bt_ofL _ _ (by simp; omega), bt_ofL _ _ hi, List.getElem_append_left hi])]
  simp
structure PlainL (l : List UInt8) : Prop where
  pos : 0 < l.length
  head : l.head? ≠ some 48 ∨ l.length ≤ 1
  dig : ∀ c ∈ l, 48 ≤ c.toNat ∧ c.toNat ≤ 57
theorem digits_ofL {l : List UInt8} : digitsFrom (ofL l) 0 = true ↔ ∀ c ∈ l, 48 ≤ c.toNat ∧ c.toNat ≤ 57 := by
  unfold digitsFrom
  rw [decide_eq_true_iff, ofL_size]
  constructor
  · intro h c hc
    obtain ⟨i, hi, rfl⟩ := List.getElem_of_mem hc
    have := h i hi (Nat.zero_le _)
    rw [bt_ofL _ _ hi] at this
    omega
  · intro h i hi _
    rw [bt_ofL _ _ hi]
    have := h _ (List.getElem_mem hi)
    omega
theorem plain_ofL {l : List UInt8} : plainS (ofL l) = true ↔ PlainL l := by
  unfold plainS
  simp only [Bool.and_eq_true, Bool.or_eq_true, Bool.not_eq_true', decide_eq_true_eq, beq_eq_false_iff_ne, ofL_size]
  rw [digits_ofL]
  constructor
  · rintro ⟨⟨h1, h2⟩, h3⟩
    refine ⟨h1, ?_, h3⟩
    rcases h2 with h2 | h2
    · left
      intro e
      rw [bt_ofL _ _ h1] at h2
      cases l with
      | nil => simp at h1
      | cons a t =>
        simp only [List.head?_cons, Option.some.injEq] at e
        subst e
        exact h2 rfl
    · exact .inr h2
  · rintro ⟨h1, h2, h3⟩
    refine ⟨⟨h1, ?_⟩, h3⟩
    rcases h2 with h2 | h2
    · left
      rw [bt_ofL _ _ h1]
      intro e
      cases l with
      | nil => simp at h1
      | cons a t =>
        apply h2
        simp only [List.getElem_cons_zero] at e
        simp only [List.head?_cons, Option.some.injEq]
        exact UInt8.toNat_inj.1 (by have : (48 : UInt8).toNat = 48 := rfl; omega)
    · exact .inr h2
theorem digByte (k : Nat) (h : k < 10) : (UInt8.ofNat (48 + k)).toNat = 48 + k := by
  rw [UInt8.toNat_ofNat']
  exact Nat.mod_eq_of_lt (by omega)
theorem dval_dec (n : Nat) : dval (ofL (Lib.decDigits n)) = n := by
  induction n using Nat.strongRecOn with
  | _ n ih =>
    rw [Lib.decDigits]
    split
    · rename_i h
      have := dval_snoc [] (UInt8.ofNat (48 + n))
      rw [List.nil_append, dval_nil, digByte n h] at this
      rw [this]; omega
    · rename_i h
      rw [dval_snoc, ih (n / 10) (by omega), digByte _ (by omega)]
      omega
theorem dec_head (n : Nat) (h : 0 < n) : (Lib.decDigits n).head? ≠ some 48 := by
  induction n using Nat.strongRecOn with
  | _ n ih =>
    rw [Lib.decDigits]
    split
    · rename_i h'
      simp only [List.head?_cons, ne_eq, Option.some.injEq]
      intro e
      have := congrArg UInt8.toNat e
      rw [digByte n h'] at this
      have h48 : (48 : UInt8).toNat = 48 := rfl
      omega
    · rename_i h'
      rw [List.head?_append]
      have h1 := ih (n / 10) (by omega) (by omega)
      have h2 : 0 < (Lib.decDigits (n / 10)).length := by rw [Lib.decDigits_length]; exact Lib.nDigits_pos _
      cases hd : Lib.decDigits (n / 10) with
      | nil => rw [hd] at h2; simp at h2
      | cons a t => rw [hd] at h1; simpa using h1
theorem dec_dig (n : Nat) : ∀ c ∈ Lib.decDigits n, 48 ≤ c.toNat ∧ c.toNat ≤ 57 := by
  induction n using Nat.strongRecOn with
  | _ n ih =>
    intro c hc
    rw [Lib.decDigits] at hc
    split at hc
    · rename_i h
      simp only [List.mem_singleton] at hc
      rw [hc, digByte n h]; omega
    · rename_i h
      rcases List.mem_append.1 hc with hc | hc
      · exact ih _ (by omega) c hc
      · simp only [List.mem_singleton] at hc
        rw [hc, digByte _ (by omega)]; omega
theorem dec_plain (n : Nat) : PlainL (Lib.decDigits n) := by
  refine ⟨by rw [Lib.decDigits_length]; exact Lib.nDigits_pos _, ?_, dec_dig n⟩
  rcases Nat.eq_zero_or_pos n with h | h
  · right
    subst h
    rw [Lib.decDigits_length, Lib.nDigits_small (by omega)]
    omega
  · exact .inl (dec_head n h)
theorem dval_nn {l : List UInt8} (h : ∀ c ∈ l, 48 ≤ c.toNat ∧ c.toNat ≤ 57) : 0 ≤ dval (ofL l) := dval_nonneg (isDigits_of _ (digits_ofL.2 h))
theorem snoc_ind {α : Type} {P : List α → Prop} (h0 : P []) (h1 : ∀ l a, P l → P (l ++ [a])) (l : List α) : P l := by
  have : ∀ r : List α, P r.reverse := fun r => by
    induction r with
    | nil => exact h0
    | cons a t ih => rw [List.reverse_cons]; exact h1 _ _ ih
  have := this l.reverse
  rwa [List.reverse_reverse] at this
theorem plain_pos {l : List UInt8} (h : PlainL l) (h2 : l.head? ≠ some 48) : 1 ≤ dval (ofL l) := by
  revert h h2
  refine snoc_ind (P := fun l => PlainL l → l.head? ≠ some 48 → 1 ≤ dval (ofL l)) (fun h _ => by have := h.pos; simp at this) (fun l a ih h h2 => ?_) l
  rw [dval_snoc]
  have ha := h.dig a (by simp)
  cases l with
  | nil =>
    rw [dval_nil]
    have : a ≠ 48 := fun e => h2 (by simp [e])
    have : a.toNat ≠ 48 := fun e => this (UInt8.toNat_inj.1 (by have : (48 : UInt8).toNat = 48 := rfl; omega))
    omega
  | cons b t =>
    have h3 : (b :: t).head? ≠ some 48 := by simpa using h2
    have := ih ⟨by simp, .inl h3, fun c hc => h.dig c (List.mem_append.2 (.inl hc))⟩ h3
    omega
theorem dec_dval {l : List UInt8} (h : PlainL l) : Lib.decDigits (dval (ofL l)).toNat = l := by
  revert h
  refine snoc_ind (P := fun l => PlainL l → Lib.decDigits (dval (ofL l)).toNat = l) (fun h => by have := h.pos; simp at this) (fun l a ih h => ?_) l
  rw [dval_snoc]
  have ha := h.dig a (by simp)
  have e48 : UInt8.ofNat (48 + (a.toNat - 48)) = a := UInt8.toNat_inj.1 (by rw [digByte _ (by omega)]; omega)
  cases l with
  | nil =>
    rw [dval_nil, show (10 * 0 + ((a.toNat : Int) - 48)).toNat = a.toNat - 48 by omega, Lib.decDigits, dif_pos (by omega), e48]
    rfl
  | cons b t =>
    have h3 : (b :: t).head? ≠ some 48 := by
      rcases h.head with h | h
      · simpa using h
      · simp at h
    have hp : PlainL (b :: t) := ⟨by simp, .inl h3, fun c hc => h.dig c (List.mem_append.2 (.inl hc))⟩
    have h1 := plain_pos hp h3
    have h2 := ih hp
    have e1 : (10 * dval (ofL (b :: t)) + ((a.toNat : Int) - 48)).toNat = 10 * (dval (ofL (b :: t))).toNat + (a.toNat - 48) := by omega
    rw [e1, Lib.decDigits, dif_neg (by omega)]
    have e2 : (10 * (dval (ofL (b :: t))).toNat + (a.toNat - 48)) / 10 = (dval (ofL (b :: t))).toNat := by omega
    have e3 : (10 * (dval (ofL (b :: t))).toNat + (a.toNat - 48)) % 10 = a.toNat - 48 := by omega
    rw [e2, e3, h2, e48]
def textF (neg : Bool) (n d : Nat) : List UInt8 := (if neg then [45] else []) ++ (Lib.decDigits n ++ if d = 1 then [] else 47 :: Lib.decDigits d)
theorem extract_ofL (l : List UInt8) (a b : Nat) : (ofL l).extract a b = ofL ((l.drop a).take (b - a)) := by
  rw [← ofL_eq ((ofL l).extract a b), Lib.extract_data, ofL_data]
theorem neg_ofL (l : List UInt8) : ofNeg (ofL l) = (l.head? == some 45) := by
  unfold ofNeg
  cases l with
  | nil => rfl
  | cons a t =>
    rw [bt_ofL _ _ (by simp), ofL_size]
    simp only [List.length_cons, List.head?_cons, List.getElem_cons_zero]
    rw [Bool.eq_iff_iff]
    simp only [Bool.and_eq_true, decide_eq_true_eq, beq_iff_eq, Option.some.injEq]
    constructor
    · rintro ⟨_, h⟩; exact UInt8.toNat_inj.1 (by have : (45 : UInt8).toNat = 45 := rfl; omega)
    · rintro rfl; exact ⟨by omega, rfl⟩
theorem tail_ofL (l : List UInt8) : ofTail (ofL l) = ofL (if l.head? == some 45 then l.tail else l) := by
  unfold ofTail
  rw [neg_ofL]
  split
  · rw [extract_ofL, ofL_size]
    congr 1
    rw [List.take_of_length_le (by simp)]
    simp
  · rfl
theorem slash_ofL (l : List UInt8) : slashP (ofL l) = l.findIdx (· == 47) := by unfold slashP; rw [ofL_data]
theorem no_slash {l : List UInt8} (h : ∀ c ∈ l, 48 ≤ c.toNat ∧ c.toNat ≤ 57) : l.findIdx (· == 47) = l.length := by
  rw [List.findIdx_eq_length]
  intro c hc
  have := h c hc
  simp only [beq_eq_false_iff_ne, ne_eq]
  intro e
  subst e
  have : (47 : UInt8).toNat = 47 := rfl
  omega
theorem slash_mid {l m : List UInt8} (h : ∀ c ∈ l, 48 ≤ c.toNat ∧ c.toNat ≤ 57) : (l ++ 47 :: m).findIdx (· == 47) = l.length := by
  rw [List.findIdx_append, no_slash h]
  simp [List.findIdx_cons]
theorem zero_ofL (l : List UInt8) : isZero (ofL l) = (l == [48]) := by unfold isZero; rw [toList_eq, ofL_data]
theorem one_ofL (l : List UInt8) : isOneS (ofL l) = (l == [49]) := by unfold isOneS; rw [toList_eq, ofL_data]
theorem dec_zero : Lib.decDigits 0 = [48] := by rw [Lib.decDigits, dif_pos (by omega)]; rfl
theorem dec_one : Lib.decDigits 1 = [49] := by rw [Lib.decDigits, dif_pos (by omega)]; rfl
theorem dec_inj {a b : Nat} (h : Lib.decDigits a = Lib.decDigits b) : a = b := by
  have h1 := dval_dec a
  have h2 := dval_dec b
  rw [h] at h1
  omega
theorem dec_is0 (n : Nat) : (Lib.decDigits n == [48]) = decide (n = 0) := by
  rw [← dec_zero, Bool.eq_iff_iff, beq_iff_eq, decide_eq_true_iff]
  exact ⟨fun h => dec_inj h, fun h => by rw [h]⟩
theorem dec_is1 (n : Nat) : (Lib.decDigits n == [49]) = decide (n = 1) := by
  rw [← dec_one, Bool.eq_iff_iff, beq_iff_eq, decide_eq_true_iff]
  exact ⟨fun h => dec_inj h, fun h => by rw [h]⟩
theorem dec_not45 (n : Nat) (m : List UInt8) : ((Lib.decDigits n ++ m).head? == some 45) = false := by
  cases h : Lib.decDigits n with
  | nil => have := (dec_plain n).pos; rw [h] at this; simp at this
  | cons a t =>
    have := dec_dig n a (by rw [h]; simp)
    simp only [List.cons_append, List.head?_cons, beq_eq_false_iff_ne, ne_eq, Option.some.injEq]
    intro e
    subst e
    have : (45 : UInt8).toNat = 45 := rfl
    omega
structure Low (neg : Bool) (n d : Nat) : Prop where
  pos : 1 ≤ d
  cop : Nat.gcd n d = 1
  neg0 : n = 0 → neg = false
theorem textF_tail (neg : Bool) (n d : Nat) : (if (textF neg n d).head? == some 45 then (textF neg n d).tail else textF neg n d) = Lib.decDigits n ++ (if d = 1 then [] else 47 :: Lib.decDigits d) ∧ ((textF neg n d).head? == some 45) = neg := by
  cases neg
  · have : textF false n d = Lib.decDigits n ++ (if d = 1 then [] else 47 :: Lib.decDigits d) := rfl
    rw [this, dec_not45]
    exact ⟨rfl, rfl⟩
  · exact ⟨rfl, rfl⟩
theorem read_textF {neg : Bool} {n d : Nat} (h : Low neg n d) : okF (ofL (textF neg n d)) = true ∧ ofNeg (ofL (textF neg n d)) = neg ∧ nF (ofL (textF neg n d)) = n ∧ dF (ofL (textF neg n d)) = d ∧ negF (ofL (textF neg n d)) = neg := by
  obtain ⟨h1, h2⟩ := textF_tail neg n d
  have e1 : ofNeg (ofL (textF neg n d)) = neg := by rw [neg_ofL, h2]
  have e2 : ofTail (ofL (textF neg n d)) = ofL (Lib.decDigits n ++ (if d = 1 then [] else 47 :: Lib.decDigits d)) := by rw [tail_ofL, h1]
  have key : okF (ofL (textF neg n d)) = true ∧ nF (ofL (textF neg n d)) = n ∧ dF (ofL (textF neg n d)) = d := by
    unfold okF nF dF
    rw [e1, e2]
    by_cases hd : d = 1
    · rw [if_pos hd, List.append_nil, slash_ofL, no_slash (dec_dig n), ofL_size]
      simp only [Nat.lt_irrefl, if_false]
      refine ⟨?_, dval_dec n, by omega⟩
      unfold ofOk
      rw [plain_ofL.2 (dec_plain n), zero_ofL, dec_is0]
      by_cases hn : n = 0
      · rw [h.neg0 hn]; rfl
      · simp [hn]
    · rw [if_neg hd]
      have hs : slashP (ofL (Lib.decDigits n ++ 47 :: Lib.decDigits d)) = (Lib.decDigits n).length := by rw [slash_ofL, slash_mid (dec_dig n)]
      have et : topF (ofL (Lib.decDigits n ++ 47 :: Lib.decDigits d)) = ofL (Lib.decDigits n) := by
        unfold topF
        rw [hs, extract_ofL]
        simp
      have eb : botF (ofL (Lib.decDigits n ++ 47 :: Lib.decDigits d)) = ofL (Lib.decDigits d) := by
        unfold botF
        rw [hs, extract_ofL, ofL_size]
        congr 1
        rw [List.take_of_length_le (by simp; omega)]
        rw [show (Lib.decDigits n).length + 1 = (Lib.decDigits n ++ [47]).length by simp, show Lib.decDigits n ++ 47 :: Lib.decDigits d = (Lib.decDigits n ++ [47]) ++ Lib.decDigits d by simp, List.drop_left]
      rw [hs, et, eb, ofL_size, if_pos (by simp), if_pos (by simp), if_pos (by simp)]
      refine ⟨?_, dval_dec n, dval_dec d⟩
      have hn : n ≠ 0 := fun e => by
        have := h.cop
        rw [e, Nat.gcd_zero_left] at this
        exact hd this
      have hd0 : d ≠ 0 := by have := h.pos; omega
      unfold frOk
      rw [plain_ofL.2 (dec_plain n), plain_ofL.2 (dec_plain d), zero_ofL, zero_ofL, one_ofL, dec_is0, dec_is0, dec_is1, dval_dec, dval_dec]
      have hg : gI (n : Int) (d : Int) = 1 := by
        show ((Nat.gcd (n : Int).toNat (d : Int).toNat : Nat) : Int) = 1
        rw [Int.toNat_natCast, Int.toNat_natCast, h.cop]
        rfl
      simp [hn, hd, hd0, hg]
  refine ⟨key.1, e1, key.2.1, key.2.2, ?_⟩
  unfold negF zF
  rw [key.2.1, e1]
  by_cases hn : n = 0
  · rw [h.neg0 hn]; simp
  · simp [hn]
theorem gI_nat (x y : Int) : gI x y = (Nat.gcd x.toNat y.toNat : Nat) := rfl
theorem low_of {neg : Bool} {l m : List UInt8} (h : frOk neg (ofL l) (ofL m) = true) : PlainL l ∧ PlainL m ∧ l = Lib.decDigits (dval (ofL l)).toNat ∧ m = Lib.decDigits (dval (ofL m)).toNat ∧ (dval (ofL m)).toNat ≠ 1 ∧ 1 ≤ dval (ofL m) ∧ Low neg (dval (ofL l)).toNat (dval (ofL m)).toNat := by
  unfold frOk at h
  simp only [Bool.and_eq_true, Bool.not_eq_true', Bool.or_eq_false_iff, decide_eq_true_eq, Bool.and_eq_false_iff] at h
  obtain ⟨⟨⟨⟨h1, h2⟩, h3⟩, h4, h5⟩, h6⟩ := h
  have p1 := plain_ofL.1 h1
  have p2 := plain_ofL.1 h2
  have e1 := dec_dval p1
  have e2 := dec_dval p2
  have z2 : (dval (ofL m)).toNat ≠ 0 := fun e => by
    rw [e, dec_zero] at e2
    rw [zero_ofL, ← e2] at h4
    simp at h4
  have o2 : (dval (ofL m)).toNat ≠ 1 := fun e => by
    rw [e, dec_one] at e2
    rw [one_ofL, ← e2] at h5
    simp at h5
  rw [gI_nat] at h6
  refine ⟨p1, p2, e1.symm, e2.symm, o2, by omega, by omega, by omega, fun e => ?_⟩
  rw [e, Nat.gcd_zero_left] at h6
  omega
theorem text_of_ok {s : ByteArray} (h : okF s = true) : s.data.toList = textF (ofNeg s) (nF s).toNat (dF s).toNat ∧ Low (ofNeg s) (nF s).toNat (dF s).toNat ∧ 0 ≤ nF s ∧ 1 ≤ dF s ∧ negF s = ofNeg s := by
  obtain ⟨l, rfl⟩ : ∃ l, s = ofL l := ⟨_, (ofL_eq s).symm⟩
  have hl : l = (if ofNeg (ofL l) then [45] else []) ++ (if l.head? == some 45 then l.tail else l) := by
    rw [neg_ofL]
    cases l with
    | nil => rfl
    | cons a t =>
      by_cases ha : a = 45
      · subst ha; simp
      · simp [ha]
  obtain ⟨T, hT⟩ : ∃ T, (if l.head? == some 45 then l.tail else l) = T := ⟨_, rfl⟩
  have eT : ofTail (ofL l) = ofL T := by rw [tail_ofL, hT]
  rw [hT] at hl
  rw [ofL_data]
  have key : 0 ≤ nF (ofL l) ∧ 1 ≤ dF (ofL l) ∧ T = Lib.decDigits (nF (ofL l)).toNat ++ (if (dF (ofL l)).toNat = 1 then [] else 47 :: Lib.decDigits (dF (ofL l)).toNat) ∧ Low (ofNeg (ofL l)) (nF (ofL l)).toNat (dF (ofL l)).toNat := by
    unfold okF at h
    unfold nF dF
    rw [eT] at h ⊢
    rw [slash_ofL, ofL_size] at h ⊢
    by_cases hs : T.findIdx (· == 47) < T.length
    · rw [if_pos hs] at h
      simp only [if_pos hs]
      have et : topF (ofL T) = ofL (T.take (T.findIdx (· == 47))) := by
        unfold topF
        rw [slash_ofL, extract_ofL]
        simp
      have eb : botF (ofL T) = ofL (T.drop (T.findIdx (· == 47) + 1)) := by
        unfold botF
        rw [slash_ofL, extract_ofL, ofL_size]
        congr 1
        rw [List.take_of_length_le (by simp)]
      rw [et, eb] at h ⊢
      obtain ⟨p1, p2, e1, e2, o2, d1, hlow⟩ := low_of h
      refine ⟨dval_nn p1.dig, d1, ?_, hlow⟩
      rw [if_neg o2, ← e1, ← e2]
      have hx : T[T.findIdx (· == 47)] = 47 := by
        have := List.findIdx_getElem (p := fun b : UInt8 => b == 47) (w := hs)
        exact eq_of_beq this
      have := List.getElem_cons_drop (h := hs)
      rw [hx] at this
      rw [this, List.take_append_drop]
    · rw [if_neg hs] at h
      simp only [if_neg hs]
      unfold ofOk at h
      simp only [Bool.and_eq_true, Bool.not_eq_true', Bool.and_eq_false_iff] at h
      obtain ⟨h1, h2⟩ := h
      have p1 := plain_ofL.1 h1
      have e1 := dec_dval p1
      refine ⟨dval_nn p1.dig, by omega, by rw [if_pos (show Int.toNat 1 = 1 from rfl), List.append_nil, e1], by omega, Nat.gcd_one_right _, fun e => ?_⟩
      rw [e, dec_zero] at e1
      rw [zero_ofL, ← e1] at h2
      simpa using h2
  obtain ⟨k1, k2, k3, k4⟩ := key
  refine ⟨?_, k4, k1, k2, ?_⟩
  · rw [k3] at hl
    exact hl
  · unfold negF zF
    by_cases hn : nF (ofL l) = 0
    · rw [k4.neg0 (by omega)]; simp
    · simp [hn]
end Go.Proofs.YtoflmheodiajaaaGreatDoor
namespace Go.Proofs.YtoflmheodiajaaaGreatDoor
open Go.RowKit
set_option linter.unusedVariables false
set_option linter.unusedSimpArgs false
def splitL (c : UInt8) : List UInt8 → List (List UInt8)
  | [] => [[]]
  | a :: t => if a = c then [] :: splitL c t else (a :: (splitL c t).headD []) :: (splitL c t).tail
theorem splitL_mid {c : UInt8} : ∀ {a : List UInt8} (b : List UInt8), c ∉ a → splitL c (a ++ c :: b) = a :: splitL c b
  | [], b, _ => by simp [splitL]
  | x :: a, b, h => by
    have hx : x ≠ c := fun e => h (by simp [e])
    have ha : c ∉ a := fun e => h (by simp [e])
    rw [List.cons_append, splitL, if_neg hx, splitL_mid b ha]
    rfl
theorem splitL_none {c : UInt8} : ∀ {a : List UInt8}, c ∉ a → splitL c a = [a]
  | [], _ => rfl
  | x :: a, h => by
    have hx : x ≠ c := fun e => h (by simp [e])
    have ha : c ∉ a := fun e => h (by simp [e])
    rw [splitL, if_neg hx, splitL_none ha]
    rfl
theorem split_hit {s : List UInt8} {c : UInt8} {i : Nat} (h : Lib.index s [c] = i) : s = s.take i ++ c :: s.drop (i + 1) ∧ c ∉ s.take i ∧ i < s.length := by
  rw [Lib.index_one] at h
  obtain ⟨h1, h2⟩ := Lib.indexByte_some h
  have hl : i < s.length := (List.getElem?_eq_some_iff.1 h1).1
  refine ⟨?_, ?_, hl⟩
  · have := List.getElem_cons_drop (h := hl)
    rw [(List.getElem?_eq_some_iff.1 h1).2] at this
    rw [this, List.take_append_drop]
  · intro hm
    obtain ⟨j, hj, e⟩ := List.getElem_of_mem hm
    rw [List.length_take] at hj
    rw [List.getElem_take] at e
    exact h2 j (by omega) (by rw [List.getElem?_eq_getElem (by omega), e])
theorem split_miss {s : List UInt8} {c : UInt8} (h : Lib.index s [c] = -1) : c ∉ s := by
  rw [Lib.index_one] at h
  intro hm
  obtain ⟨j, hj, e⟩ := List.getElem_of_mem hm
  exact Lib.indexByte_none h j (by rw [List.getElem?_eq_getElem hj, e])
theorem splitK_eq (c : UInt8) : ∀ (n : Nat) (s : List UInt8), s.length ≤ n → Lib.splitK [c] 0 (Lib.count s [c]) s = splitL c s ∧ Lib.count s [c] + 1 = (splitL c s).length
  | n, s, hn => by
    have hge := Lib.index_ge s [c]
    by_cases hm : Lib.index s [c] = -1
    · rw [Lib.count_miss hm, splitL_none (split_miss hm)]
      exact ⟨rfl, rfl⟩
    · obtain ⟨i, hi⟩ : ∃ i : Nat, Lib.index s [c] = i := ⟨(Lib.index s [c]).toNat, by omega⟩
      obtain ⟨h1, h2, h3⟩ := split_hit hi
      cases n with
      | zero => omega
      | succ n =>
        obtain ⟨e1, e2⟩ := splitK_eq c n (s.drop (i + 1)) (by rw [List.length_drop]; omega)
        have hc := Lib.count_hit (sub := [c]) (by simp) hi
        simp only [List.length_singleton] at hc
        have hs : splitL c s = s.take i :: splitL c (s.drop (i + 1)) := by
          rw [← splitL_mid (s.drop (i + 1)) h2, ← h1]
        rw [hc, Nat.add_comm 1, hs, List.length_cons]
        refine ⟨?_, by omega⟩
        unfold Lib.splitK
        have hb : (Lib.index s [c] == -1) = false := by simpa using hm
        rw [hb]
        simp only [Bool.false_eq_true, if_false, List.length_singleton]
        rw [hi, Int.toNat_natCast, Nat.add_zero, e1]
theorem map_ofL {l : List ByteArray} {m : List (List UInt8)} (h : l.map (·.data.toList) = m) : l = m.map ofL := by
  subst h
  rw [List.map_map]
  have : (ofL ∘ fun x : ByteArray => x.data.toList) = id := funext fun x => ofL_eq x
  rw [this, List.map_id]
theorem splitB_eq (c : UInt8) (s : ByteArray) : Lib.splitB ⟨#[c]⟩ 0 (Lib.countB s ⟨#[c]⟩) s = (splitL c s.data.toList).map ofL ∧ Lib.countB s ⟨#[c]⟩ + 1 = (splitL c s.data.toList).length := by
  obtain ⟨h1, h2⟩ := splitK_eq c _ s.data.toList (Nat.le_refl _)
  refine ⟨?_, h2⟩
  apply map_ofL
  rw [Lib.splitB_data]
  exact h1
theorem splitL_join {c : UInt8} : ∀ {xs : List (List UInt8)}, xs ≠ [] → (∀ x ∈ xs, c ∉ x) → splitL c (Lib.join xs [c]) = xs
  | [], h, _ => absurd rfl h
  | [x], _, h => by rw [Lib.join_one, splitL_none (h x (by simp))]
  | x :: y :: r, _, h => by
    rw [Lib.join_cons, show Lib.joinTail [c] (y :: r) = c :: (y ++ Lib.joinTail [c] r) by simp [Lib.joinTail], ← Lib.join_cons, splitL_mid _ (h x (by simp)), splitL_join (by simp) (fun z hz => h z (by simp [hz]))]
end Go.Proofs.YtoflmheodiajaaaGreatDoor
