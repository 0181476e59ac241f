import Derived.Test.YtoflmheodiajaaaGreatDoorK46
namespace Go.Proofs.YQ.PR
open Go.RowKit Go.Proofs.YtoflmheodiajaaaGreatDoor.G Go.Proofs.YtoflmheodiajaaaGreatDoor.H Go.Proofs.YW.PrintWords
open Go.Proofs.YtoflmheodiajaaaGreatDoor (ofL textF ofL_size ofL_eq ofL_data dval digitsFrom okF nF dF negF ofNeg ofTail slashP slashP_le slashP_before slashP_at topF botF frOk ofOk plainS Low text_of_ok read_textF toList_eq)
set_option linter.unusedVariables false
set_option linter.unusedSimpArgs false
theorem eqS (l : List UInt8) (s : ByteArray) : ((ofL l).toList == s.toList) = decide (s = ofL l) := by
  rw [toList_eq, toList_eq, ofL_data, Bool.eq_iff_iff, beq_iff_eq, decide_eq_true_iff]
  exact ⟨fun h => by rw [h, ofL_eq], fun h => by rw [h, ofL_data]⟩
theorem digits_num {t : ByteArray} (h : digitsFrom t 0 = true) (ht : t.size ≤ 1000000) : ∃ n : Nat, dval t = n ∧ n < 10 ^ t.size ∧ Sz n := by
  have hp : Pre t t.size := fun i hi => by
    unfold digitsFrom at h
    exact of_decide_eq_true h i hi (Nat.zero_le _)
  obtain ⟨h1, h2⟩ := dch_pre hp 0 t.size (by omega)
  refine ⟨(dval t).toNat, by unfold dval; omega, ?_, sz_dch hp ht⟩
  have h3 : ((10 ^ t.size : Nat) : Int) = (10 : Int) ^ t.size := by simp
  unfold dval
  omega
theorem empty_iff (s : ByteArray) : s.toList.isEmpty = decide (s.size = 0) := by
  rcases Nat.eq_zero_or_pos s.size with h | h
  · rw [Go.Proofs.YtoflmheodiajaaaGreatDoor.empty_of s h, decide_eq_true h]
  · rw [Go.Proofs.YtoflmheodiajaaaGreatDoor.empty_not s h, decide_eq_false (by omega)]
def rdNo : Bool × List Int × Bool × List Int × Bool := (false, [], false, [], false)
def RdGood (s : ByteArray) (r : Bool × List Int × Bool × List Int × Bool) : Prop := r.2.2.2.2 = okF s ∧ (okF s = true → r = (negF s, cn (nF s).toNat, false, if (dF s).toNat = 1 then [] else cn (dF s).toNat, true))
theorem good_no {s : ByteArray} (h : okF s = false) : RdGood s rdNo := ⟨h.symm, fun e => by rw [h] at e; cases e⟩
theorem good_of {s : ByteArray} {neg : Bool} {n d : Nat} (hl : Low neg n d) (hs : okF s = true → neg = ofNeg s ∧ (n : Int) = nF s ∧ (d : Int) = dF s) :
    RdGood s (neg, cn n, false, if d = 1 then [] else cn d, (ofL (textF neg n d)).toList == s.toList) := by
  have key : ((ofL (textF neg n d)).toList == s.toList) = okF s := by
    rw [eqS, Bool.eq_iff_iff, decide_eq_true_iff]
    constructor
    · rintro rfl; exact (read_textF hl).1
    · intro h
      obtain ⟨h1, h2, h3⟩ := hs h
      obtain ⟨h4, _⟩ := text_of_ok h
      rw [← h1, ← h2, ← h3, Int.toNat_natCast, Int.toNat_natCast] at h4
      rw [← h4, ofL_eq]
  refine ⟨key, fun h => ?_⟩
  obtain ⟨h1, h2, h3⟩ := hs h
  obtain ⟨_, _, _, _, h5⟩ := text_of_ok h
  rw [key, h, h5, ← h1, ← h2, ← h3, Int.toNat_natCast, Int.toNat_natCast]
theorem plain_dig {t : ByteArray} (h : plainS t = true) : digitsFrom t 0 = true ∧ 0 < t.size := by
  unfold plainS at h
  simp only [Bool.and_eq_true, decide_eq_true_eq] at h
  exact ⟨h.2, h.1.1⟩
theorem sign_neg (neg : Bool) (n : Nat) : (neg && decide (0 < (cn n).length)) = (neg && decide (0 < n)) := by
  congr 1
  rw [decide_eq_decide]
  have := cn_len0 n
  omega
theorem read_j3 (s T : ByteArray) (neg : Bool) (hT : ofTail s = T) (hn : ofNeg s = neg) (hs : T.size ≤ 1000000) : ∃ r, RdGood s r ∧ Ev (fun k => nRd.j3 k s T neg (slashP T : Int)) r := by
  have hle := slashP_le T
  have e0 : T.extract 0 (slashP T) = topF T := rfl
  have t1 : (topF T).size ≤ 1000000 := by unfold topF; simp; omega
  have t2 : (botF T).size ≤ 1000000 := by unfold botF; simp; omega
  have f1 := fromDigits_f (topF T) t1
  have f2 := fromDigits_f (botF T) t2
  have hok : okF s = if slashP T < T.size then frOk neg (topF T) (botF T) else ofOk neg T := by unfold okF; rw [hT, hn]
  have hnF : nF s = if slashP T < T.size then dval (topF T) else dval T := by unfold nF; rw [hT]
  have hdF : dF s = if slashP T < T.size then dval (botF T) else 1 := by unfold dF; rw [hT]
  have etop : slashP T = T.size → topF T = T := fun h => by unfold topF; rw [h]; exact ByteArray.extract_zero_size
  by_cases htop : digitsFrom (topF T) 0 = true ∧ 0 < (topF T).size
  case neg =>
    refine ⟨rdNo, good_no ?_, ?_⟩
    · cases hk : okF s
      · rfl
      · exfalso
        rw [hok] at hk
        by_cases hsl : slashP T < T.size
        · rw [if_pos hsl] at hk
          unfold frOk at hk
          simp only [Bool.and_eq_true] at hk
          exact htop (plain_dig hk.1.1.1.1)
        · rw [if_neg hsl] at hk
          unfold ofOk at hk
          simp only [Bool.and_eq_true] at hk
          rw [etop (by omega)] at htop
          exact htop (plain_dig hk.1)
    · have hf : (fdR (topF T) (digitsFrom (topF T) 0)).2.2 = false := by
        unfold fdR
        cases hd : digitsFrom (topF T) 0
        · rfl
        · have : (topF T).size = 0 := by
            rcases Nat.eq_zero_or_pos (topF T).size with h | h
            · exact h
            · exact absurd ⟨hd, h⟩ htop
          simp [empty_iff, this]
      obtain ⟨K, hK⟩ := f1
      dsimp only at hK
      refine ⟨K + 1, fun k hk => ?_⟩
      obtain ⟨m, rfl⟩ : ∃ m, k = m + 1 := ⟨k - 1, by omega⟩
      simp only [nRd.j3]
      rw [if_pos (by omega), if_pos (by omega), Int.toNat_natCast, e0, hK m (by omega)]
      simp only [Option.bind_some, hf]
      rfl
  obtain ⟨hd1, hp1⟩ := htop
  obtain ⟨n, en, ln, zn⟩ := digits_num hd1 t1
  have hR1 : fdR (topF T) (digitsFrom (topF T) 0) = (false, cn n, true) := by
    unfold fdR
    rw [hd1, en, Int.toNat_natCast, empty_iff, decide_eq_false (by omega)]
    rfl
  rw [hR1] at f1
  by_cases hsl : slashP T < T.size
  · rw [if_pos hsl] at hok hnF hdF
    have e1 : T.extract (slashP T + 1) T.size = botF T := rfl
    by_cases hbot : digitsFrom (botF T) 0 = true ∧ 0 < (botF T).size ∧ dval (botF T) ≠ 0
    case neg =>
      refine ⟨rdNo, good_no ?_, ?_⟩
      · cases hk : okF s
        · rfl
        · exfalso
          obtain ⟨_, _, _, h1, _⟩ := text_of_ok hk
          rw [hok] at hk
          unfold frOk at hk
          simp only [Bool.and_eq_true] at hk
          obtain ⟨g1, g2⟩ := plain_dig hk.1.1.1.2
          exact hbot ⟨g1, g2, by rw [← hdF]; omega⟩
      · obtain ⟨K1, hK1⟩ := f1
        obtain ⟨K2, hK2⟩ := f2
        dsimp only at hK1 hK2
        refine ⟨K1 + K2 + 2, fun k hk => ?_⟩
        obtain ⟨m, rfl⟩ : ∃ m, k = m + 2 := ⟨k - 2, by omega⟩
        rw [show m + 2 = (m + 1) + 1 from rfl]
        simp only [nRd.j3]
        rw [if_pos (by omega), if_pos (by omega), Int.toNat_natCast, e0, hK1 (m + 1) (by omega)]
        simp only [Option.bind_some]
        rw [if_pos trivial]
        simp only [nM1.f, Option.bind_some]
        rw [wrap_in (by omega) (by omega), if_pos (by omega), if_pos (by omega), if_pos (by omega), show ((slashP T : Int) + 1).toNat = slashP T + 1 by omega, e1, hK2 (m + 1) (by omega)]
        simp only [Option.bind_some]
        by_cases hd2 : (fdR (botF T) (digitsFrom (botF T) 0)).2.2 = true
        · rw [if_pos hd2]
          have hd3 : digitsFrom (botF T) 0 = true ∧ 0 < (botF T).size := by
            unfold fdR at hd2
            cases hd4 : digitsFrom (botF T) 0
            · rw [hd4] at hd2; simp at hd2
            · rw [hd4, if_pos rfl, empty_iff] at hd2
              have hd5 := of_decide_eq_false ((Bool.not_eq_true' _).mp hd2)
              exact ⟨rfl, by omega⟩
          have hv : dval (botF T) = 0 := by
            by_cases h : dval (botF T) = 0
            · exact h
            · exact absurd ⟨hd3.1, hd3.2, h⟩ hbot
          have e2 : fdR (botF T) (digitsFrom (botF T) 0) = (false, [], true) := by
            unfold fdR
            rw [hd3.1, hv, empty_iff, decide_eq_false (by omega)]
            rw [Int.toNat_zero, cn_zero]
            rfl
          rw [e2]
          simp only [sosoptnum_Sign.f]
          rfl
        · rw [if_neg hd2]
          rfl
    obtain ⟨hd2, hp2, hv2⟩ := hbot
    obtain ⟨d, ed, ld, zd⟩ := digits_num hd2 t2
    have hR2 : fdR (botF T) (digitsFrom (botF T) 0) = (false, cn d, true) := by
      unfold fdR
      rw [hd2, ed, Int.toNat_natCast, empty_iff, decide_eq_false (by omega)]
      rfl
    rw [hR2] at f2
    have d0 : 0 < d := by omega
    have gp : 0 < Nat.gcd n d := Nat.gcd_pos_of_pos_right _ d0
    have hfr := frac_cn (a := neg && decide (0 < n)) (n := n) (d := d) zn zd d0 (by simp)
    have hd0 : d / Nat.gcd n d ≠ 0 := by have := Nat.div_pos (Nat.le_of_dvd d0 (Nat.gcd_dvd_right n d)) gp; omega
    have hlow : Low (neg && decide (0 < n)) (n / Nat.gcd n d) (d / Nat.gcd n d) := ⟨Nat.pos_of_ne_zero hd0, Nat.coprime_div_gcd_div_gcd gp, fun e => by
      have : n = 0 := by
        rcases Nat.eq_zero_or_pos n with h | h
        · exact h
        · have := Nat.div_pos (Nat.le_of_dvd h (Nat.gcd_dvd_left n d)) gp; omega
      simp [this]⟩
    have hmx : n < 10 ^ ((topF T).size + (botF T).size) ∧ d < 10 ^ ((topF T).size + (botF T).size) :=
      ⟨Nat.lt_of_lt_of_le ln (Nat.pow_le_pow_right (by omega) (by omega)), Nat.lt_of_lt_of_le ld (Nat.pow_le_pow_right (by omega) (by omega))⟩
    have htx := text_f (neg && decide (0 < n)) false (n / Nat.gcd n d) (d / Nat.gcd n d) ((topF T).size + (botF T).size) (Nat.lt_of_le_of_lt (Nat.div_le_self _ _) hmx.1) (Nat.lt_of_le_of_lt (Nat.div_le_self _ _) hmx.2) (by omega) (zn.le (Nat.div_le_self _ _)) (zd.le (Nat.div_le_self _ _)) hd0
    refine ⟨_, good_of hlow (fun h => ?_), ?_⟩
    · obtain ⟨_, hlow, _⟩ := text_of_ok h
      have hc := hlow.cop
      rw [hnF, hdF, en, ed, Int.toNat_natCast, Int.toNat_natCast] at hc
      rw [hc, Nat.div_one, Nat.div_one, hnF, hdF, en, ed, hn]
      refine ⟨?_, rfl, rfl⟩
      rcases Nat.eq_zero_or_pos n with h0 | h0
      · have := hlow.neg0 (by rw [hnF, en, h0]; rfl)
        rw [hn] at this
        simp [this]
      · simp [h0]
    · obtain ⟨K1, hK1⟩ := f1
      obtain ⟨K2, hK2⟩ := f2
      obtain ⟨K3, hK3⟩ := htx
      dsimp only at hK1 hK2 hK3
      refine ⟨K1 + K2 + K3 + 2, fun k hk => ?_⟩
      obtain ⟨m, rfl⟩ : ∃ m, k = m + 2 := ⟨k - 2, by omega⟩
      rw [show m + 2 = (m + 1) + 1 from rfl]
      simp only [nRd.j3]
      rw [if_pos (by omega), if_pos (by omega), Int.toNat_natCast, e0, hK1 (m + 1) (by omega)]
      simp only [Option.bind_some]
      rw [if_pos trivial]
      simp only [nM1.f, Option.bind_some]
      rw [wrap_in (by omega) (by omega), if_pos (by omega), if_pos (by omega), if_pos (by omega), show ((slashP T : Int) + 1).toNat = slashP T + 1 by omega, e1, hK2 (m + 1) (by omega)]
      have hl : ((cn d).length : Int) ≠ 0 := by have := cn_len0 d; omega
      simp only [Option.bind_some, sosoptnum_Sign.f, nRd.j4, sign_neg]
      rw [if_pos trivial, if_neg (by simp), if_neg hl]
      simp only [Option.bind_some]
      rw [if_neg (by decide), hfr]
      simp only [Option.bind_some]
      rw [hK3 m (by omega)]
      rfl
  · rw [if_neg hsl] at hok hnF hdF
    have htx := text_f (neg && decide (0 < n)) false n 1 ((topF T).size + 1) (by have := Nat.pow_le_pow_right (n := 10) (by omega) (show (topF T).size ≤ (topF T).size + 1 by omega); omega) (by rw [Nat.pow_succ]; have : 0 < 10 ^ (topF T).size := Nat.pow_pos (by omega); omega) (by omega) zn (sz_lt (k := 1) (by omega) (by omega)) (by omega)
    refine ⟨_, good_of (neg := neg && decide (0 < n)) (n := n) (d := 1) ⟨by omega, Nat.gcd_one_right _, fun e => by simp [e]⟩ (fun h => ?_), ?_⟩
    · obtain ⟨_, hlow, _⟩ := text_of_ok h
      rw [etop (by omega)] at en
      refine ⟨?_, by rw [hnF, en], by rw [hdF]; rfl⟩
      rw [hn]
      rcases Nat.eq_zero_or_pos n with h0 | h0
      · have := hlow.neg0 (by rw [hnF, en, h0]; rfl)
        rw [hn] at this
        simp [this]
      · simp [h0]
    · refine Ev.step (f := fun k => (nFD.f k (topF T)).bind fun bt148 => if bt148.2.2 = true then ((nM1.f neg bt148.2.1).bind fun bt154 => ((nTx.f k bt154.1 bt154.2 false ([] : List Int)).bind fun t175 => (some (bt154.1, bt154.2, false, ([] : List Int), (t175.toList == s.toList))))) else some rdNo) (fun k => ?_) (Ev.bind f1 ?_)
      · simp only [nRd.j3]
        rw [if_pos (by omega), if_pos (by omega), Int.toNat_natCast, e0]
        simp only [if_neg (show ¬ ((slashP T : Int) < (T.size : Int)) by omega)]
        rfl
      · refine Ev.congr (f := fun k => (nTx.f k (neg && decide (0 < n)) (cn n) false ([] : List Int)).bind fun t175 => (some ((neg && decide (0 < n)), cn n, false, ([] : List Int), (t175.toList == s.toList)))) (fun k => ?_) (Ev.bind htx (Ev.now _))
        rw [if_pos rfl]
        show ((nM1.f neg (cn n)).bind _) = _
        unfold nM1.f
        simp only [Option.bind_some, sign_neg]
theorem read_l0 (s T : ByteArray) (neg : Bool) {r} (h : Ev (fun k => nRd.j3 k s T neg (slashP T : Int)) r) (hs : T.size ≤ 1000000) :
    ∀ (m i : Nat), i + m = slashP T → Ev (fun k => nRd.l0 k s T neg (T.size : Int) (i : Int)) r
  | 0, i, hi => by
    obtain rfl : i = slashP T := by omega
    have hle := slashP_le T
    refine Ev.step (fun k => ?_) h
    simp only [nRd.l0]
    by_cases hsl : slashP T < T.size
    · rw [if_pos (by omega), if_pos (by omega), btI, Int.toNat_natCast, slashP_at T hsl, if_pos rfl]
    · rw [if_neg (by omega), show (T.size : Int) = (slashP T : Int) by omega]
  | m + 1, i, hi => by
    have hle := slashP_le T
    refine Ev.step (fun k => ?_) (read_l0 s T neg h hs m (i + 1) (by omega))
    simp only [nRd.l0]
    rw [if_pos (by omega), if_pos (by omega), btI, Int.toNat_natCast, if_neg (slashP_before T i (by omega)), wrap_in (by omega) (by omega)]
    rfl
theorem read_f (s : ByteArray) (hs : s.size ≤ 1000000) : ∃ r, RdGood s r ∧ Ev (fun k => nRd.f k s) r := by
  have hts : (ofTail s).size ≤ 1000000 := by
    unfold ofTail
    split
    · simp; omega
    · exact hs
  obtain ⟨r, hr, hev⟩ := read_j3 s (ofTail s) (ofNeg s) rfl rfl hts
  have h1 := read_l0 s (ofTail s) (ofNeg s) hev hts (slashP (ofTail s)) 0 (by omega)
  refine ⟨r, hr, ?_⟩
  have hj1 : Ev (fun k => nRd.j1 k s (ofTail s) (ofNeg s)) r := Ev.step (fun k => by simp only [nRd.j1]; rfl) h1
  have hj0 : Ev (fun k => nRd.j0 k s s (ofNeg s)) r := by
    refine Ev.step (fun k => ?_) hj1
    simp only [nRd.j0]
    cases hn : ofNeg s
    · rw [if_neg (by decide)]
      unfold ofTail
      rw [hn]
      rfl
    · have h0 : 0 < s.size := by
        unfold ofNeg at hn
        simp only [Bool.and_eq_true, decide_eq_true_eq] at hn
        exact hn.1
      rw [if_pos rfl, if_pos (by omega)]
      unfold ofTail
      rw [hn]
      rfl
  refine Ev.congr (fun k => ?_) hj0
  unfold nRd.f
  by_cases h0 : 0 < s.size
  · rw [if_pos (by omega), if_pos (by omega)]
    congr 1
    unfold ofNeg
    rw [decide_eq_true h0]
    rfl
  · rw [if_neg (by omega)]
    congr 1
    unfold ofNeg
    rw [decide_eq_false h0]
    rfl
end Go.Proofs.YQ.PR
namespace Go.Proofs.YtoflmheodiajaaaGreatDoor
open Go.RowKit
set_option linter.unusedVariables false
set_option linter.unusedSimpArgs false
def sgnR (b : Bool) (n : Nat) : Int := if b then -1 else if n = 0 then 0 else 1
theorem readRef_any (s : ByteArray) (w : World) (hs : s.size ≤ 1000000) :
    Calls Tryz.prog 114 #[.string s] w (Gives w fun v _ => ∃ b1 A1 n1 c1 b2 A2 n2 c2, v = .tuple #[.agg #[.bool b1, .slice A1 n1 c1, .bool b2, .slice A2 n2 c2], .bool (okF s)] ∧ (okF s = true → ((sgnR b1 n1 == 0) = zF s))) := by
  obtain ⟨⟨r1, r2, r3, r4, r5⟩, hg, hev⟩ := Go.Proofs.YQ.PR.read_f s hs
  obtain ⟨k, hk⟩ := Go.Proofs.YW.PrintWords.Ev.rounds hev
  refine (Go.Proofs.YQ.PR.nRd.calls k s r1 r2 r3 r4 r5 w hk).mono ?_
  rintro e w' ⟨v1, v3, rfl, hv1, hv3, hb⟩
  obtain ⟨A1, c1, rfl⟩ := Go.Proofs.YW.PrintWords.Kd.V_slice hv1
  obtain ⟨A2, c2, rfl⟩ := Go.Proofs.YW.PrintWords.Kd.V_slice hv3
  obtain ⟨g1, g2⟩ := hg
  refine ⟨_, rfl, ⟨r1, A1, _, c1, r3, A2, _, c2, by rw [show r5 = okF s from g1], fun h => ?_⟩, hb⟩
  have g3 := g2 h
  simp only [Prod.mk.injEq] at g3
  obtain ⟨rfl, rfl, _⟩ := g3
  obtain ⟨_, _, h0, _⟩ := text_of_ok h
  have hl := H.cn_len0 (nF s).toNat
  unfold sgnR negF zF
  by_cases hz : nF s = 0
  · rw [hz, Int.toNat_zero, H.cn_zero]
    simp
  · have : (H.cn (nF s).toNat).length ≠ 0 := fun e => by have := hl.1 e; omega
    simp only [hz, decide_false, Bool.not_false, Bool.true_and]
    cases ofNeg s <;> simp [this]
theorem sign_raw (b : Bool) (A : Option Addr) (n c : Nat) (w : World) :
    Calls Tryz.prog 139 #[.agg #[.bool b, .slice A n c]] w fun e w' => e = .returned (.int .i64 (sgnR b n)) ∧ Below w.heap.size w w' := by
  have hcase : b = true ∧ sgnR b n = -1 ∨ b = false ∧ ((n : Int) == 0) = true ∧ sgnR b n = 0 ∨ b = false ∧ ((n : Int) == 0) = false ∧ sgnR b n = 1 := by
    cases b
    · by_cases hx : n = 0
      · exact .inr (.inl ⟨rfl, by simp [hx], by simp [sgnR, hx]⟩)
      · exact .inr (.inr ⟨rfl, beq_eq_false_iff_ne.2 (by omega), by simp [sgnR, hx]⟩)
    · exact .inl ⟨rfl, by simp [sgnR]⟩
  rcases hcase with ⟨rfl, hs⟩ | ⟨rfl, hz, hs⟩ | ⟨rfl, hz, hs⟩
  all_goals
    have HS := Lib.hid hs
    clear hs
    go_enter Tryz.func139, Tryz.ntmps139
    go_wp2
    go_ret
    exact ⟨by rw [HS.out]; rfl, below_alloc (below_refl _) _⟩
theorem rsign_any (b1 : Bool) (A1 : Option Addr) (n1 c1 : Nat) (b2 : Bool) (A2 : Option Addr) (n2 c2 : Nat) (w : World) :
    Calls Tryz.prog 115 #[.agg #[.bool b1, .slice A1 n1 c1, .bool b2, .slice A2 n2 c2]] w fun e w' => e = .returned (.int .i64 (sgnR b1 n1)) ∧ Below w.heap.size w w' := by
  have HS := Lib.hid (fun W => sign_raw b1 A1 n1 c1 W)
  go_enter Tryz.func115, Tryz.ntmps115
  go_wp2_with fail
  refine (HS.out _).mono ?_
  rintro e w1 ⟨rfl, hb⟩
  have HB := Lib.hid (below_then (below_alloc (below_refl w) _) (by simp) hb)
  clear hb
  go_wp2
  go_ret
  exact ⟨rfl, HB.out⟩
end Go.Proofs.YtoflmheodiajaaaGreatDoor
