import Derived.Test.YtoflmheodiajaaaGreatDoorK45
namespace Go.Proofs.YQ.PR
open Go.RowKit Go.Proofs.YtoflmheodiajaaaGreatDoor.G Go.Proofs.YtoflmheodiajaaaGreatDoor.H Go.Proofs.YW.PrintWords
open Go.Proofs.YtoflmheodiajaaaGreatDoor (dch dval dch_add digitsFrom digitsFrom_step digitsFrom_no digitsFrom_end ofL ofL_size)
set_option linter.unusedVariables false
set_option linter.unusedSimpArgs false
theorem btI (s : ByteArray) (i : Int) : bt s i = Go.Proofs.YtoflmheodiajaaaGreatDoor.bt s i.toNat := rfl
theorem wrap_in {x : Int} (h0 : -9223372036854775808 ≤ x) (h1 : x ≤ 9223372036854775807) : wrap64 x = x := by unfold wrap64; omega
theorem cn_one {x : Nat} (h0 : x ≠ 0) (h : x < 4294967296) : cn x = [(x : Int)] := by
  rw [cn_pos h0, show x / 4294967296 = 0 by omega, cn_zero]
  congr 1
  omega
theorem trim_one {x : Nat} (h : x < 4294967296) : Ev (fun k => sosoptnum_trim.f k [(x : Int)]) (cn x) := by
  have e0 : wrap64 (([(x : Int)].length : Int) - 1) = 0 := wrap_in (by simp) (by simp)
  by_cases h0 : x = 0
  · subst h0
    refine Ev.step (f := fun k => sosoptnum_trim.l0 k []) (fun k => ?_) (Ev.step (f := fun _ => some (cn 0)) (fun k => ?_) (Ev.now _))
    · show sosoptnum_trim.l0 (k + 1) [((0 : Nat) : Int)] = _
      simp only [sosoptnum_trim.l0]
      rw [e0]
      rfl
    · simp only [sosoptnum_trim.l0]
      rw [cn_zero]
      rfl
  · refine Ev.step (f := fun _ => some (cn x)) (fun k => ?_) (Ev.now _)
    show sosoptnum_trim.l0 (k + 1) [(x : Int)] = _
    simp only [sosoptnum_trim.l0]
    rw [e0, cn_one h0 h, if_pos (by simp), if_pos (by omega), if_pos (by simp), if_neg (by show ¬ (x : Int) = 0; omega)]
def Pre (s : ByteArray) (n : Nat) : Prop := ∀ i, i < n → 48 ≤ Go.Proofs.YtoflmheodiajaaaGreatDoor.bt s i ∧ Go.Proofs.YtoflmheodiajaaaGreatDoor.bt s i ≤ 57
theorem dch_pre {s : ByteArray} {n : Nat} (h : Pre s n) (k : Nat) : ∀ m, k + m ≤ n → 0 ≤ dch s k m ∧ dch s k m < 10 ^ m
  | 0, _ => by simp [dch]
  | m + 1, hm => by
    obtain ⟨h1, h2⟩ := dch_pre h k m (by omega)
    obtain ⟨h3, h4⟩ := h (k + m) (by omega)
    simp only [dch]
    rw [Int.pow_succ]
    omega
theorem pow10_le {c : Nat} (h : c ≤ 9) : (10 : Int) ^ c ≤ 1000000000 := by
  have h1 : (10 : Nat) ^ c ≤ 10 ^ 9 := Nat.pow_le_pow_right (by omega) h
  have h2 : ((10 ^ c : Nat) : Int) = (10 : Int) ^ c := by simp
  omega
theorem pow10_pos (c : Nat) : (0 : Int) < (10 : Int) ^ c := by
  have h1 : 0 < (10 : Nat) ^ c := Nat.pow_pos (by omega)
  have h2 : ((10 ^ c : Nat) : Int) = (10 : Int) ^ c := by simp
  omega
theorem sz_dch {s : ByteArray} {n : Nat} (h : Pre s n) (hn : n ≤ 1000000) : Sz (dch s 0 n).toNat := by
  obtain ⟨h1, h2⟩ := dch_pre h 0 n (by omega)
  refine sz_lt (k := n) ?_ (by omega)
  have h3 : ((10 ^ n : Nat) : Int) = (10 : Int) ^ n := by simp
  have h4 : (10 : Nat) ^ n ≤ 4294967296 ^ n := Nat.pow_le_pow_left (by omega) n
  omega
def fdR (s : ByteArray) (ok : Bool) : Bool × List Int × Bool := if ok then (false, cn (dval s).toNat, !s.toList.isEmpty) else (false, [], false)
theorem fd_inner (s : ByteArray) (hs : s.size ≤ 1000000) (i : Nat) (hi : i < s.size)
    (next : ∀ n, i < n → n ≤ s.size → Pre s n → Ev (fun k => nFD.l0 k s (cn (dch s 0 n).toNat) (n : Int)) (fdR s (digitsFrom s n))) :
    ∀ (r c : Nat), c + r = 9 → i + c ≤ s.size → Pre s (i + c) → Ev (fun k => nFD.l1 k s (cn (dch s 0 i).toNat) ((i + c : Nat) : Int) (dch s i c) ((10 : Int) ^ c) (c : Int)) (fdR s (digitsFrom s (i + c)))
  | r, c, hc, hle, hp => by
    have hd := dch_pre hp i c (by omega)
    have hpw := pow10_le (c := c) (by omega)
    have hpp := pow10_pos c
    by_cases hend : c < 9 ∧ i + c < s.size
    · obtain ⟨h9, hlt⟩ := hend
      have e1 : (if (c : Int) < 9 then nFD.j2 = nFD.j2 else False) := by rw [if_pos (by omega)]
      have hb := Go.Proofs.YtoflmheodiajaaaGreatDoor.bt_range s (i + c)
      refine Ev.step (f := fun k => nFD.j2 k s (cn (dch s 0 i).toNat) ((i + c : Nat) : Int) (dch s i c) ((10 : Int) ^ c) (c : Int) true) (fun k => ?_) ?_
      · simp only [nFD.l1]
        rw [if_pos (by omega), decide_eq_true (by omega)]
      by_cases g1 : Go.Proofs.YtoflmheodiajaaaGreatDoor.bt s (i + c) < 48
      · refine Ev.step (f := fun _ => some (fdR s (digitsFrom s (i + c)))) (fun k => ?_) (Ev.now _)
        simp only [nFD.j2]
        rw [if_pos trivial, if_pos (by omega), if_pos (by omega), btI, Int.toNat_natCast, if_pos g1, digitsFrom_no hlt (.inl g1)]
        rfl
      · by_cases g2 : 57 < Go.Proofs.YtoflmheodiajaaaGreatDoor.bt s (i + c)
        · refine Ev.step (f := fun _ => some (fdR s (digitsFrom s (i + c)))) (fun k => ?_) (Ev.now _)
          simp only [nFD.j2]
          rw [if_pos trivial, if_pos (by omega), if_pos (by omega), btI, Int.toNat_natCast, if_neg g1, if_pos g2, digitsFrom_no hlt (.inr g2)]
          rfl
        · have hp2 : Pre s (i + (c + 1)) := fun j hj => by
            rcases Nat.lt_or_ge j (i + c) with h | h
            · exact hp j h
            · obtain rfl : j = i + c := by omega
              omega
          cases r with
          | zero => omega
          | succ r =>
            have ih := fd_inner s hs i hi next r (c + 1) (by omega) (by omega) hp2
            rw [digitsFrom_step (s := s) (k := i + c) (by omega) (by omega)]
            refine Ev.step (f := fun k => nFD.l1 k s (cn (dch s 0 i).toNat) ((i + (c + 1) : Nat) : Int) (dch s i (c + 1)) ((10 : Int) ^ (c + 1)) ((c + 1 : Nat) : Int)) (fun k => ?_) ih
            have hpw8 : (10 : Int) ^ c ≤ 100000000 := by
              have h1 : (10 : Nat) ^ c ≤ 10 ^ 8 := Nat.pow_le_pow_right (by omega) (by omega)
              have h2 : ((10 ^ c : Nat) : Int) = (10 : Int) ^ c := by simp
              omega
            simp only [nFD.j2]
            rw [if_pos trivial, if_pos (by omega), if_pos (by omega), btI, Int.toNat_natCast, if_neg g1, if_neg g2, wrap_in (by omega) (by omega), wrap_in (by omega) (by omega)]
            have a1 : (((dch s i c) * 10 % 4294967296) + ((Go.Proofs.YtoflmheodiajaaaGreatDoor.bt s (i + c) - 48) % 256)) % 4294967296 = dch s i (c + 1) := by
              simp only [dch]
              omega
            have a2 : (10 : Int) ^ c * 10 % 4294967296 = (10 : Int) ^ (c + 1) := by
              rw [Int.pow_succ]
              omega
            rw [a1, a2]
            congr 1 <;> omega
    · have hcb : ∀ k, nFD.l1 (k + 1) s (cn (dch s 0 i).toNat) ((i + c : Nat) : Int) (dch s i c) ((10 : Int) ^ c) (c : Int) = nFD.j2 k s (cn (dch s 0 i).toNat) ((i + c : Nat) : Int) (dch s i c) ((10 : Int) ^ c) (c : Int) false := fun k => by
        simp only [nFD.l1]
        by_cases h9 : c < 9
        · rw [if_pos (by omega), decide_eq_false (by omega)]
        · rw [if_neg (by omega)]
      have hc0 : 0 < c := by omega
      have hp0 : Pre s i := fun j hj => hp j (by omega)
      have hd0 := dch_pre hp0 0 i (by omega)
      have nx := next (i + c) (by omega) hle hp
      obtain ⟨v, hv⟩ : ∃ v : Nat, dch s i c = v := ⟨(dch s i c).toNat, by omega⟩
      obtain ⟨p, hp'⟩ : ∃ p : Nat, (10 : Int) ^ c = p := ⟨10 ^ c, by simp⟩
      have hadd := dch_add s i c
      rw [hv] at hd
      rw [hp'] at hpw hpp
      have ez : (dch s 0 i).toNat * p + v = (dch s 0 (i + c)).toNat := by
        rw [hadd, hp', hv]
        have : ((dch s 0 i).toNat : Int) = dch s 0 i := by omega
        have h2 : (((dch s 0 i).toNat * p : Nat) : Int) = dch s 0 i * p := by rw [Int.natCast_mul, this]
        omega
      have sz := sz_dch hp (by omega)
      have hz1 : Sz ((dch s 0 i).toNat * p) := sz.le (by omega)
      refine Ev.step hcb (Ev.step (f := fun k => (sosoptnum_trim.f k [(v : Int)]).bind fun t => (sosoptnum_addMag.f (cn ((dch s 0 i).toNat * p)) t).bind fun t143 => nFD.l0 k s t143 ((i + c : Nat) : Int)) (fun k => ?_) ?_)
      · simp only [nFD.j2]
        rw [if_neg (show ¬ (false = true) by decide), hv, hp', ← cn_one (x := p) (by omega) (by omega), mulMag_cn (sz_dch hp0 (by omega)) (sz_lt (k := 1) (by omega) (by omega))]
        rfl
      · refine Ev.bind (trim_one (by omega)) ?_
        refine Ev.congr (f := fun k => nFD.l0 k s (cn (dch s 0 (i + c)).toNat) ((i + c : Nat) : Int)) (fun k => ?_) nx
        rw [addMag_cn hz1 (sz_lt (k := 1) (by omega) (by omega)), ez]
        rfl
theorem fd_l0 (s : ByteArray) (hs : s.size ≤ 1000000) : ∀ (r i : Nat), i + r = s.size → Pre s i → Ev (fun k => nFD.l0 k s (cn (dch s 0 i).toNat) (i : Int)) (fdR s (digitsFrom s i))
  | 0, i, hi, hp => by
    obtain rfl : i = s.size := by omega
    refine Ev.step (f := fun _ => some (fdR s (digitsFrom s s.size))) (fun k => ?_) (Ev.now _)
    simp only [nFD.l0]
    rw [if_neg (by omega), digitsFrom_end]
    rfl
  | r + 1, i, hi, hp => by
    have := fd_inner s hs i (by omega) (fun n h1 h2 h3 => fd_l0 s hs (s.size - n) n (by omega) h3) 9 0 (by omega) (by omega) hp
    refine Ev.step (fun k => ?_) this
    simp only [nFD.l0]
    rw [if_pos (by omega)]
    rfl
  termination_by r => r
theorem fromDigits_f (s : ByteArray) (hs : s.size ≤ 1000000) : Ev (fun k => nFD.f k s) (fdR s (digitsFrom s 0)) := by
  have := fd_l0 s hs s.size 0 (by omega) (fun j hj => by omega)
  refine Ev.congr (fun k => ?_) this
  unfold nFD.f
  simp only [dch, Int.toNat_zero, cn_zero]
  rfl
end Go.Proofs.YQ.PR
namespace Go.Proofs.YQ.PR
open Go.RowKit Go.Proofs.YtoflmheodiajaaaGreatDoor.G Go.Proofs.YtoflmheodiajaaaGreatDoor.H Go.Proofs.YW.PrintWords
open Go.Proofs.YtoflmheodiajaaaGreatDoor (ofL textF digByte ofL_size)
set_option linter.unusedVariables false
set_option linter.unusedSimpArgs false
def decI (n : Nat) : List Int := if n = 0 then [] else (Lib.decDigits n).map fun b => (b.toNat : Int)
theorem decI_zero : decI 0 = [] := rfl
theorem decI_step (x c : Nat) (hc : c < 10) (h : 10 * x + c ≠ 0) : decI (10 * x + c) = decI x ++ [48 + (c : Int)] := by
  unfold decI
  rw [if_neg h]
  by_cases hx : x = 0
  · subst hx
    rw [if_pos rfl, Lib.decDigits, dif_pos (by omega)]
    simp only [List.map_cons, List.map_nil, List.nil_append]
    rw [digByte _ (by omega)]
    congr 1
    omega
  · rw [if_neg hx, Lib.decDigits, dif_neg (by omega), show (10 * x + c) / 10 = x by omega, show (10 * x + c) % 10 = c by omega, List.map_append]
    congr 1
    simp only [List.map_cons, List.map_nil]
    rw [digByte _ hc]
    congr 1
theorem decI_len (x : Nat) : (decI x).length = if x = 0 then 0 else Lib.nDigits x := by
  unfold decI
  split
  · rfl
  · rw [List.length_map, Lib.decDigits_length]
theorem decI_pos {x : Nat} (h : x ≠ 0) : 0 < (decI x).length := by rw [decI_len, if_neg h]; exact Lib.nDigits_pos x
theorem nDigits_le : ∀ (k x : Nat), x < 10 ^ k → x ≠ 0 → Lib.nDigits x ≤ k
  | 0, x, h, h0 => by simp at h; omega
  | k + 1, x, h, h0 => by
    by_cases h1 : x < 10
    · rw [Lib.nDigits_small h1]; omega
    · rw [Lib.nDigits_big h1]
      have := nDigits_le k (x / 10) (by rw [Nat.pow_succ] at h; omega) (by omega)
      omega
theorem decI_le {x k : Nat} (h : x < 10 ^ k) : (decI x).length ≤ k := by
  rw [decI_len]
  split
  · omega
  · exact nDigits_le k x h ‹_›
theorem strOf_decI {x : Nat} (h : x ≠ 0) : strOfNums (decI x) = ofL (Lib.decDigits x) := by
  unfold decI
  rw [if_neg h]
  unfold strOfNums ofL
  congr 2
  rw [List.map_map]
  have : ((fun n : Int => n.toNat.toUInt8) ∘ fun b : UInt8 => (b.toNat : Int)) = id := funext fun b => by simp
  first | (rw [this, List.map_id]) | (simp)
def parts (V : Nat) (L : Nat) : List Int := (List.range L).map fun i => ((V / 1000000000 ^ i % 1000000000 : Nat) : Int)
theorem parts_len (V L : Nat) : (parts V L).length = L := by simp [parts]
theorem parts_rd (V L i : Nat) (h : i < L) : rd (parts V L) (i : Int) = ((V / 1000000000 ^ i % 1000000000 : Nat) : Int) := by
  unfold rd parts
  rw [Int.toNat_natCast, List.getD_eq_getElem?_getD, List.getElem?_eq_getElem (by simp [h])]
  simp
theorem parts_succ (V L : Nat) : parts V L ++ [((V / 1000000000 ^ L % 1000000000 : Nat) : Int)] = parts V (L + 1) := by simp [parts, List.range_succ]
theorem pow9 (i : Nat) : 1000000000 ^ i = 10 ^ (9 * i) := by rw [Nat.pow_mul]
theorem part_digit (V i e : Nat) (he : e ≤ 8) : V / 1000000000 ^ i % 1000000000 / 10 ^ e % 10 = V / 10 ^ (9 * i + e) % 10 := by
  rw [pow9, Nat.pow_add, ← Nat.div_div_eq_div_mul]
  generalize V / 10 ^ (9 * i) = W
  have h9 : 1000000000 = 10 ^ e * (10 * 10 ^ (8 - e)) := by
    rw [← Nat.mul_assoc, ← Nat.pow_succ, ← Nat.pow_add, show e + 1 + (8 - e) = 9 by omega]
  rw [h9, Nat.mod_mul_right_div_self, Nat.mod_mul_right_mod]
theorem high_step (V n : Nat) : V / 10 ^ n = 10 * (V / 10 ^ (n + 1)) + V / 10 ^ n % 10 := by
  rw [Nat.pow_succ, ← Nat.div_div_eq_div_mul]
  omega
def dW : Nat → Int
  | 0 => 0
  | e + 1 => ((10 ^ e : Nat) : Int)
theorem dW_next : ∀ e : Nat, e ≤ 8 → (Int.tdiv ((10 ^ e : Nat) : Int) 10) % 4294967296 = dW e
  | 0, _ => rfl
  | e + 1, h => by
    have hp1 : 10 ^ (e + 1) ≤ 10 ^ 8 := Nat.pow_le_pow_right (by omega) h
    have hp0 : 0 < 10 ^ e := Nat.pow_pos (by omega)
    show (Int.tdiv ((10 ^ (e + 1) : Nat) : Int) 10) % 4294967296 = ((10 ^ e : Nat) : Int)
    rw [Nat.pow_succ] at hp1 ⊢
    generalize 10 ^ e = p at *
    rw [Int.tdiv_eq_ediv_of_nonneg (by omega)]
    omega
theorem dig_at (V L i e : Nat) (hi : i < L) (he : e ≤ 8) : ((Int.tdiv (rd (parts V L) (i : Int)) ((10 ^ e : Nat) : Int)) % 4294967296) % 10 = ((V / 10 ^ (9 * i + e) % 10 : Nat) : Int) := by
  rw [parts_rd V L i hi, ← part_digit V i e he]
  have hP : V / 1000000000 ^ i % 1000000000 < 1000000000 := Nat.mod_lt _ (by omega)
  generalize V / 1000000000 ^ i % 1000000000 = P at *
  rw [Int.tdiv_eq_ediv_of_nonneg (by omega), ← Int.natCast_ediv]
  have : P / 10 ^ e ≤ P := Nat.div_le_self _ _
  generalize P / 10 ^ e = q at *
  omega
theorem dig_l2 {r : ByteArray} (V L i : Nat) (K : Nat) (hV : V < 10 ^ K) (hK : K ≤ 1000000000) (hi : i < L) (hL : L ≤ 1000000000) (next : Ev (fun k => nDg.l1 k (parts V L) (decI (V / 10 ^ (9 * i))) ((i : Int) - 1)) r) :
    ∀ e : Nat, e ≤ 9 → Ev (fun k => nDg.l2 k (parts V L) (decI (V / 10 ^ (9 * i + e))) (i : Int) (dW e)) r
  | 0, _ => by
    refine Ev.step (fun k => ?_) next
    simp only [nDg.l2, dW]
    rw [if_neg (by omega), wrap_in (by omega) (by omega), Nat.add_zero]
  | e + 1, he => by
    have ih := dig_l2 V L i K hV hK hi hL next e (by omega)
    have hp0 : 0 < 10 ^ e := Nat.pow_pos (by omega)
    have hnext := dW_next e (by omega)
    have hdig := dig_at V L i e hi (by omega)
    have hst := high_step V (9 * i + e)
    have hx : V / 10 ^ (9 * i + (e + 1)) < 10 ^ K := Nat.lt_of_le_of_lt (Nat.div_le_self _ _) hV
    have hlen := decI_le hx
    rw [show 9 * i + e + 1 = 9 * i + (e + 1) by omega] at hst
    have hc : V / 10 ^ (9 * i + e) % 10 < 10 := Nat.mod_lt _ (by omega)
    generalize V / 10 ^ (9 * i + (e + 1)) = X at *
    generalize V / 10 ^ (9 * i + e) % 10 = c at *
    rw [hst] at ih
    refine Ev.step (fun k => ?_) ih
    simp only [nDg.l2]
    rw [show dW (e + 1) = ((10 ^ e : Nat) : Int) from rfl, hdig, hnext, if_pos (by omega), if_pos (by omega), if_pos (by rw [parts_len]; omega), if_neg (by omega)]
    by_cases hX : X = 0
    · subst hX
      rw [decI_zero, if_neg (by simp)]
      by_cases h0 : c = 0
      · subst h0
        rw [if_pos (by omega)]
        rfl
      · rw [if_neg (by omega), if_pos (by simp), decI_step 0 c hc (by omega)]
        rfl
    · have hpos := decI_pos hX
      rw [if_pos (by omega), if_pos (by omega), decI_step X c hc (by omega)]
theorem dig_l1 (V L K : Nat) (hV : V < 10 ^ K) (hK : K ≤ 1000000000) (hL : L ≤ 1000000000) : ∀ i : Nat, i ≤ L → Ev (fun k => nDg.l1 k (parts V L) (decI (V / 10 ^ (9 * i))) ((i : Int) - 1)) (strOfNums (decI V))
  | 0, _ => by
    refine Ev.step (f := fun _ => some (strOfNums (decI V))) (fun k => ?_) (Ev.now _)
    simp only [nDg.l1]
    rw [if_neg (by omega), Nat.mul_zero, Nat.pow_zero, Nat.div_one]
  | i + 1, hi => by
    have := dig_l2 V L i K hV hK (by omega) hL (dig_l1 V L K hV hK hL i (by omega)) 9 (Nat.le_refl _)
    refine Ev.step (fun k => ?_) this
    simp only [nDg.l1]
    rw [if_pos (by omega), show ((i + 1 : Nat) : Int) - 1 = (i : Int) by omega, show 9 * (i + 1) = 9 * i + 9 by omega]
    rfl
theorem dig_l0 (V K : Nat) (hV : V < 10 ^ K) (hK : K ≤ 1000000000) (hz : Sz V) (h0 : V ≠ 0) : ∀ (r L : Nat), L + r = K + 1 → (L = 0 ∨ V / 1000000000 ^ (L - 1) ≠ 0) → Ev (fun k => nDg.l0 k (parts V L) (cn (V / 1000000000 ^ L))) (strOfNums (decI V))
  | r, L, hr, hm => by
    have hLK : L ≤ K := by
      rcases hm with h | h
      · omega
      · rcases Nat.lt_or_ge K (L - 1) with h1 | h1
        · exfalso
          apply h
          apply Nat.div_eq_of_lt
          refine Nat.lt_of_lt_of_le hV ?_
          rw [pow9]
          exact Nat.pow_le_pow_right (by omega) (by omega)
        · rcases Nat.eq_zero_or_pos K with hk | hk
          · subst hk; simp at hV; omega
          · rcases Nat.lt_or_ge K L with h2 | h2
            · exfalso
              apply h
              apply Nat.div_eq_of_lt
              refine Nat.lt_of_lt_of_le hV ?_
              rw [pow9]
              exact Nat.pow_le_pow_right (by omega) (by omega)
            · exact h2
    by_cases hz0 : V / 1000000000 ^ L = 0
    · have := dig_l1 V L K hV hK (by omega) L (Nat.le_refl _)
      refine Ev.step (fun k => ?_) this
      simp only [nDg.l0]
      rw [hz0, cn_zero, if_neg (by simp), parts_len, wrap_in (by omega) (by omega), ← pow9, hz0, decI_zero]
    · cases r with
      | zero => omega
      | succ r =>
        have ih := dig_l0 V K hV hK hz h0 r (L + 1) (by omega) (.inr (by rw [Nat.add_sub_cancel]; exact hz0))
        refine Ev.step (fun k => ?_) ih
        simp only [nDg.l0]
        have hsd := smallDiv_cn (a := V / 1000000000 ^ L) (d := 1000000000) (hz.le (Nat.div_le_self _ _)) (by omega) (by omega)
        rw [if_pos (by have := cn_len0 (V / 1000000000 ^ L); omega), show (1000000000 : Int) = ((1000000000 : Nat) : Int) from rfl, hsd]
        simp only [Option.bind_some]
        rw [parts_len, if_pos (by omega), parts_succ, Nat.div_div_eq_div_mul, ← Nat.pow_succ]
theorem digits_f (a : Bool) (V K : Nat) (hV : V < 10 ^ K) (hK : K ≤ 1000000000) (hz : Sz V) : Ev (fun k => nDg.f k a (cn V)) (ofL (Lib.decDigits V)) := by
  by_cases h0 : V = 0
  · subst h0
    refine Ev.congr (f := fun _ => some (ofL (Lib.decDigits 0))) (fun k => ?_) (Ev.now _)
    unfold nDg.f
    rw [cn_zero, if_pos (by simp), Go.Proofs.YtoflmheodiajaaaGreatDoor.dec_zero]
    rfl
  · have := dig_l0 V K hV hK hz h0 (K + 1) 0 (by omega) (.inl rfl)
    rw [strOf_decI h0] at this
    refine Ev.congr (fun k => ?_) this
    unfold nDg.f
    rw [if_neg (by have := cn_len0 V; omega), Nat.pow_zero, Nat.div_one]
    rfl
theorem dec_size {V K : Nat} (hV : V < 10 ^ K) (hK : K ≤ 1000000000) : (ofL (Lib.decDigits V)).size ≤ 1000000001 := by
  rw [ofL_size, Lib.decDigits_length]
  by_cases h0 : V = 0
  · subst h0; rw [Lib.nDigits_small (by omega)]; omega
  · have := nDigits_le K V hV h0; omega
theorem ofL_app (a b : List UInt8) : ofL a ++ ofL b = ofL (a ++ b) := by
  apply ByteArray.ext
  simp [ofL]
theorem text_f (a b : Bool) (n d K : Nat) (hn : n < 10 ^ K) (hd : d < 10 ^ K) (hK : K ≤ 1000000000) (zn : Sz n) (zd : Sz d) (d0 : d ≠ 0) : Ev (fun k => nTx.f k a (cn n) b (if d = 1 then [] else cn d)) (ofL (textF a n d)) := by
  have h1 := digits_f a n K hn hK zn
  have h2 := digits_f b d K hd hK zd
  have s1 := dec_size hn hK
  have s2 := dec_size hd hK
  have e45 : (⟨#[45]⟩ : ByteArray) = ofL [45] := rfl
  have e47 : (⟨#[47]⟩ : ByteArray) = ofL [47] := rfl
  have z45 : (ofL [45]).size = 1 := rfl
  have z47 : (ofL [47]).size = 1 := rfl
  unfold textF
  refine Ev.bind h1 ?_
  by_cases hd1 : d = 1
  · subst hd1
    refine Ev.congr (f := fun _ => some _) (fun k => ?_) (Ev.now _)
    cases a
    · rw [if_neg (by decide), if_pos rfl, if_neg (by simp)]
      simp
    · rw [if_pos rfl, if_pos (by omega), if_pos rfl, if_neg (by simp), e45, ofL_app]
      simp
  · have hl : 0 < (cn d).length := by have := cn_len0 d; omega
    simp only [if_neg hd1]
    cases a
    · refine Ev.congr (f := fun k => (nDg.f k b (cn d)).bind fun t119 => (if 1 + t119.size ≤ 9223372036854775807 then (if (ofL (Lib.decDigits n)).size + ((⟨#[47]⟩ : ByteArray) ++ t119).size ≤ 9223372036854775807 then (some ((ofL (Lib.decDigits n)) ++ ((⟨#[47]⟩ : ByteArray) ++ t119))) else (none)) else (none))) (fun k => ?_) (Ev.bind h2 (Ev.congr (f := fun _ => some _) (fun k => ?_) (Ev.now _)))
      · rw [if_neg (by decide), if_pos (by omega)]
      · rw [if_pos (by omega), e47, ofL_app, if_pos (by rw [ofL_size, ofL_size, List.length_append]; rw [ofL_size] at s1 s2; simp only [List.length_singleton]; omega), ofL_app]
        simp
    · refine Ev.congr (f := fun k => (nDg.f k b (cn d)).bind fun t118 => (if 1 + t118.size ≤ 9223372036854775807 then (if ((⟨#[45]⟩ : ByteArray) ++ (ofL (Lib.decDigits n))).size + ((⟨#[47]⟩ : ByteArray) ++ t118).size ≤ 9223372036854775807 then (some (((⟨#[45]⟩ : ByteArray) ++ (ofL (Lib.decDigits n))) ++ ((⟨#[47]⟩ : ByteArray) ++ t118))) else (none)) else (none))) (fun k => ?_) (Ev.bind h2 (Ev.congr (f := fun _ => some _) (fun k => ?_) (Ev.now _)))
      · rw [if_pos rfl, if_pos (by omega), if_pos (by omega)]
      · rw [if_pos (by omega), e47, e45, ofL_app, ofL_app, if_pos (by rw [ofL_size, ofL_size, List.length_append, List.length_append]; rw [ofL_size] at s1 s2; simp only [List.length_singleton]; omega), ofL_app]
        simp
end Go.Proofs.YQ.PR
