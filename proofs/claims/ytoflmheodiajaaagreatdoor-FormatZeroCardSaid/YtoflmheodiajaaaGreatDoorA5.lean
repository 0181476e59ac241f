/- num.digits: what it returns. -/
import Derived.Test.YtoflmheodiajaaaGreatDoorA4
import Derived.Test.YtoflmheodiajaaaGreatDoorP3
namespace Go.Proofs.YtoflmheodiajaaaGreatDoor
open Go.RowKit
set_option linter.unusedVariables false
set_option linter.unusedSimpArgs false
variable {Bs : Nat}

theorem bt_extract (s : ByteArray) (k i : Nat) (h : k + i < s.size) : bt (s.extract k s.size) i = bt s (k + i) := by
  have h1 : i < (s.extract k s.size).size := by simp; omega
  unfold bt
  rw [dif_pos h1, dif_pos h]
  congr 2
  simp [ByteArray.getElem_extract]

/-- What is left of a string behind k bytes. -/
def tailOf (s : ByteArray) (k : Nat) : ByteArray := s.extract k s.size
theorem tail_zero (s : ByteArray) : tailOf s 0 = s := by unfold tailOf; exact ByteArray.extract_zero_size
theorem tail_size (s : ByteArray) (k : Nat) : (tailOf s k).size = s.size - k := by unfold tailOf; simp
theorem tail_tail (s : ByteArray) (k n : Nat) (h : k + n ≤ s.size) : (tailOf s k).extract n (tailOf s k).size = tailOf s (k + n) := by
  unfold tailOf
  rw [ByteArray.extract_extract]
  simp
  congr 1
  omega
theorem bt_tail (s : ByteArray) (k i : Nat) (h : k + i < s.size) : bt (tailOf s k) i = bt s (k + i) := bt_extract s k i h
/-- The chunk that digits takes off a string of n bytes. -/
def chunkOf (n : Nat) : Nat := if n % 19 = 0 then 19 else n % 19
theorem chunk_facts (n : Nat) (h : 0 < n) : 1 ≤ chunkOf n ∧ chunkOf n ≤ 19 ∧ chunkOf n ≤ n ∧ (n - chunkOf n) % 19 = 0 := by
  unfold chunkOf
  split <;> omega

/-- Behind n rounds of the inner loop. -/
def DigIn (S : ByteArray) (C : Nat) (wv i : Value) : Prop := ∃ n : Nat, n ≤ C ∧ i = .int .i64 n ∧ wv = .int .u64 (dch S 0 n)
theorem dig_step {S : ByteArray} {C n : Nat} (hd : isDigits S) (hlt : n < C) (hC : C ≤ 19) (hS : C ≤ S.size) :
    DigIn S C (.int .u64 (IntKind.u64.wrap (IntKind.u64.wrap (10 * dch S 0 n) + (bt S n - 48)))) (.int .i64 ((n : Int) + 1)) := by
  refine ⟨n + 1, hlt, by go_num, ?_⟩
  have h1 := dch_small hd 0 n (by omega) (by omega)
  have h2 := dch_small hd 0 (n + 1) (by omega) (by omega)
  have h3 := hd n (by omega)
  simp only [dch, Nat.zero_add] at h2 ⊢
  congr 1
  rw [IntKind.wrap_u64, IntKind.wrap_u64]
  omega
theorem nat64_one_new (w : World) (y : Int) (hy : 0 ≤ y ∧ y < 18446744073709551616) : Nat64 Bs (w.alloc (.cells #[.int .u64 y] 191)) (.slice (some ⟨w.heap.size, 0, none⟩) 1 1) [y] := by
  refine ⟨⟨_, 1, rfl, by simp, by omega, fun _ => ⟨_, _, _, _, _, rfl, heap_alloc_new w _, .inr rfl, fun j hj => ?_⟩⟩, fun i => ?_⟩
  · have : j = 0 := by simpa using hj
    subst this
    rfl
  · match i with
    | 0 => exact hy
    | i + 1 => simp [el]
/-- Behind some rounds of digits: k bytes were read. -/
def DigRel (Bs : Nat) (w : World) (s : ByteArray) (sv av : Value) (wr : World) : Prop :=
  ∃ (k : Nat) (xs : List Int), sv = .string (tailOf s k) ∧ k ≤ s.size ∧ Nat64 Bs wr av xs ∧ Below w.heap.size w wr ∧ Trim xs ∧ xs.length ≤ 2 * k ∧ val xs = dch s 0 k ∧ (k = 0 ∨ (s.size - k) % 19 = 0)

theorem pow10_19 : (10 : Int) ^ 19 = 10000000000000000000 := by rfl
theorem dch_tail {s : ByteArray} {k : Nat} : ∀ n, k + n ≤ s.size → dch (tailOf s k) 0 n = dch s k n
  | 0, _ => rfl
  | n + 1, h => by
    simp only [dch, Nat.zero_add]
    rw [dch_tail n (by omega), bt_tail s k n (by omega)]
theorem trim_wordOf (u : Int) : Trim (wordOf u) := by
  unfold wordOf
  split
  · exact .inl rfl
  · rename_i h; exact .inr (by simpa [el] using h)
theorem dig_round {w wr w2 w3 w4 : World} {av pv qv rv : Value} {s S : ByteArray} {k C : Nat} {xs ps rs : List Int} {cv : Int} (hS : S = tailOf s k) (hsz : S.size = s.size - k) (hk : k ≤ s.size) (hCk : S.size % 19 = 0 → C = 19) (hC1 : 1 ≤ C) (hC : C ≤ S.size) (hm : (S.size - C) % 19 = 0)
    (hK : k = 0 ∨ (s.size - k) % 19 = 0) (hN : Nat64 Bs wr av xs) (ht : Trim xs) (hv : val xs = dch s 0 k) (hB : Below w.heap.size w wr) (hl : xs.length ≤ 2 * k) (hcv : cv = dch S 0 C) (hcr : 0 ≤ cv ∧ cv < 10000000000000000000)
    (hps : Nat64 Bs w2 pv ps) (hpv : val ps = val xs * val [10000000000000000000]) (hpt : Trim ps) (hpl : ps.length ≤ xs.length + [(10000000000000000000 : Int)].length)
    (hB2 : Below (wr.alloc (.cells #[.int .u64 10000000000000000000] 191)).heap.size (wr.alloc (.cells #[.int .u64 10000000000000000000] 191)) w2) (hq : Nat64 Bs w3 qv (wordOf cv)) (hB3 : Below w2.heap.size w2 w3)
    (hrs : Nat64 Bs w4 rv rs) (hrv : val rs = val ps + val (wordOf cv)) (hr4 : rs.length = max ps.length (wordOf cv).length ∨ Trim rs) (hr3 : rs.length ≤ max ps.length (wordOf cv).length + 1) (hB4 : Below w3.heap.size w3 w4) :
    DigRel Bs w s (.string (S.extract C S.size)) rv w4 := by
  subst hS
  have h19 : C ≤ 19 ∨ 19 < C := by omega
  refine ⟨k + C, rs, by rw [tail_tail s k C (by omega)], by omega, hrs, ?_, sum_trim hpt (trim_wordOf cv) hps.inw hq.inw hrs.inw hrv hr4, ?_, ?_, ?_⟩
  · have s1 := hB.size
    have s2 := hB2.size
    have s3 := hB3.size
    simp at s2
    exact below_then (below_then (below_then (below_alloc hB _) (by simp; omega) hB2) (by omega) hB3) (by omega) hB4
  · have : (wordOf cv).length ≤ 1 := by unfold wordOf; split <;> simp
    simp at hpl
    omega
  · rw [hrv, hpv, val_one, val_wordOf, hcv, dch_tail C (by omega), dch_add, hv]
    rcases hK with rfl | hK
    · simp [dch]
    · rw [hCk (by omega), pow10_19]
  · right
    rw [show s.size - (k + C) = (tailOf s k).size - C by omega]
    exact hm

theorem digits_any (s : ByteArray) (w : World) (hs : s.size ≤ 536870912) (hd : isDigits s) :
    Calls Tryz.prog 106 #[.string s] w (Gives w fun v w' => ∃ xs, Nat64 Bs w' v xs ∧ val xs = dval s ∧ Trim xs ∧ xs.length ≤ 2 * s.size) := by
  go_enter Tryz.func106, Tryz.ntmps106
  go_wp2
  go_loopw [0, 3] (fun sv av wr => DigRel Bs w s sv av wr) (fun sv _ _ => lenOf sv)
  case atStart => exact ⟨0, [], by rw [tail_zero], by omega, nat64_nil _, below_refl _, .inl rfl, by simp, rfl, .inl rfl⟩
  case round =>
    obtain ⟨k, xs, rfl, hk, hN, hB, ht, hl, hv, hm⟩ := hrel
    have HN := Lib.hid hN
    have HB := Lib.hid hB
    have HT := Lib.hid ht
    have HV := Lib.hid hv
    have HM := Lib.hid hm
    have hsz := tail_size s k
    obtain ⟨S, hS⟩ : ∃ S, S = tailOf s k := ⟨_, rfl⟩
    rw [← hS] at hsz ⊢
    have HS := Lib.hid hS
    have HSZ := Lib.hid hsz
    have hS1 : S.size ≤ 536870912 := by omega
    clear hN hB ht hv hm hS hsz
    by_cases hpos : 0 < S.size
    · obtain ⟨c1, c2, c3, c4⟩ := chunk_facts S.size hpos
      have hdS : isDigits S := fun i hi => by
        rw [HS.out, bt_tail s k i (by rw [HSZ.out] at hi; omega)]
        exact hd (k + i) (by rw [HSZ.out] at hi; omega)
      have HDS := Lib.hid hdS
      clear hdS
      have key : ∀ C : Nat, C = chunkOf S.size → ((S.size % 19 = 0 ∧ C = 19) ∨ (S.size % 19 ≠ 0 ∧ C = S.size % 19)) := fun C hC => by
        rw [hC]; unfold chunkOf; split
        · exact .inl ⟨‹_›, rfl⟩
        · exact .inr ⟨‹_›, rfl⟩
      obtain ⟨C, hC⟩ : ∃ C, C = chunkOf S.size := ⟨_, rfl⟩
      have hk2 := key C hC
      rw [← hC] at c1 c2 c3 c4
      have HC4 := Lib.hid c4
      clear key hC c4
      rcases hk2 with ⟨hc, rfl⟩ | ⟨hc, hC⟩
      · have hcb : ((S.size : Int) % 19 == 0) = true := beq_iff_eq.2 (by omega)
        clear hc
        go_wp2_with fail
        go_loop [5, 16] (fun wv i => DigIn S 19 wv i) (fun _ i => 19 - (intOf i).toNat)
        case atStart => exact ⟨0, by omega, rfl, rfl⟩
        case round =>
          obtain ⟨n, hn, rfl, rfl⟩ := hrel
          by_cases hlt : n < 19
          · have hbt := bt_at S n (by omega)
            obtain ⟨d1, d2⟩ := HDS.out n (by omega)
            go_wp2_with fail
            go_round
            case rel => exact dig_step HDS.out hlt (by omega) (by omega)
            case measure => simp [intOf]; omega
          · obtain rfl : n = 19 := by omega
            have hwv := dch_small HDS.out 0 19 (by omega) (by omega)
            have HWV := Lib.hid hwv
            clear hwv
            obtain ⟨cv, hcv⟩ : ∃ cv, cv = dch S 0 19 := ⟨_, rfl⟩
            rw [← hcv] at HWV ⊢
            have HCV := Lib.hid hcv
            clear hcv
            go_wp2_with fail
            refine (product_any _ _ xs [10000000000000000000] _ (HN.out.below (below_alloc (below_refl _) _)) (nat64_one_new _ _ (by omega)) (by omega) (by simp)).mono ?_
            rintro e w2 ⟨pv, rfl, ⟨ps, hps, hpv, hpl, hpt⟩, hB2⟩
            have HPS := Lib.hid hps
            have HPV := Lib.hid hpv
            have HPT := Lib.hid hpt
            have HB2 := Lib.hid hB2
            clear hps hpv hpt hB2
            go_wp2_with fail
            refine (word_any (Bs := Bs) _ _ ?_).mono ?_
            · have := HWV.out; omega
            rintro e w3 ⟨qv, rfl, hq, hB3⟩
            have HQ := Lib.hid hq
            have HB3 := Lib.hid hB3
            clear hq hB3
            go_wp2_with fail
            refine (sum_any _ _ ps (wordOf cv) _ (HPS.out.below HB3.out) HQ.out ?_ ?_).mono ?_
            · simp at hpl; omega
            · unfold wordOf; split <;> simp
            rintro e w4 ⟨rv, rfl, ⟨rs, hrs, hrv, hr1, hr2, hr3, hr4⟩, hB4⟩
            have HRS := Lib.hid hrs
            have HRV := Lib.hid hrv
            have HR4 := Lib.hid hr4
            have HB4 := Lib.hid hB4
            clear hrs hrv hr4 hB4
            go_wp2_with fail
            go_roundw
            case rel => exact dig_round HS.out HSZ.out hk (fun _ => rfl) (by omega) c3 HC4.out HM.out HN.out HT.out HV.out HB.out hl HCV.out HWV.out HPS.out HPV.out HPT.out hpl HB2.out HQ.out HB3.out HRS.out HRV.out HR4.out hr3 HB4.out
            case measure => simp [lenOf]; omega
      · have hcb : ((C : Int) == 0) = false := beq_eq_false_iff_ne.2 (by omega)
        have HCN := Lib.hid hc
        have hrem : ((S.size : Int) % 19) = (C : Int) := by omega
        clear hc hC
        go_wp2_with fail
        go_loop [5, 16] (fun wv i => DigIn S C wv i) (fun _ i => C - (intOf i).toNat)
        case atStart => exact ⟨0, by omega, rfl, rfl⟩
        case round =>
          obtain ⟨n, hn, rfl, rfl⟩ := hrel
          by_cases hlt : n < C
          · have hbt := bt_at S n (by omega)
            obtain ⟨d1, d2⟩ := HDS.out n (by omega)
            go_wp2_with fail
            go_round
            case rel => exact dig_step HDS.out hlt (by omega) (by omega)
            case measure => simp [intOf]; omega
          · obtain rfl : C = n := by omega
            have hwv := dch_small HDS.out 0 C (by omega) (by omega)
            have HWV := Lib.hid hwv
            clear hwv
            obtain ⟨cv, hcv⟩ : ∃ cv, cv = dch S 0 C := ⟨_, rfl⟩
            rw [← hcv] at HWV ⊢
            have HCV := Lib.hid hcv
            clear hcv
            go_wp2_with fail
            refine (product_any _ _ xs [10000000000000000000] _ (HN.out.below (below_alloc (below_refl _) _)) (nat64_one_new _ _ (by omega)) (by omega) (by simp)).mono ?_
            rintro e w2 ⟨pv, rfl, ⟨ps, hps, hpv, hpl, hpt⟩, hB2⟩
            have HPS := Lib.hid hps
            have HPV := Lib.hid hpv
            have HPT := Lib.hid hpt
            have HB2 := Lib.hid hB2
            clear hps hpv hpt hB2
            go_wp2_with fail
            refine (word_any (Bs := Bs) _ _ ?_).mono ?_
            · have := HWV.out; omega
            rintro e w3 ⟨qv, rfl, hq, hB3⟩
            have HQ := Lib.hid hq
            have HB3 := Lib.hid hB3
            clear hq hB3
            go_wp2_with fail
            refine (sum_any _ _ ps (wordOf cv) _ (HPS.out.below HB3.out) HQ.out ?_ ?_).mono ?_
            · simp at hpl; omega
            · unfold wordOf; split <;> simp
            rintro e w4 ⟨rv, rfl, ⟨rs, hrs, hrv, hr1, hr2, hr3, hr4⟩, hB4⟩
            have HRS := Lib.hid hrs
            have HRV := Lib.hid hrv
            have HR4 := Lib.hid hr4
            have HB4 := Lib.hid hB4
            clear hrs hrv hr4 hB4
            go_wp2_with fail
            go_roundw
            case rel => exact dig_round HS.out HSZ.out hk (fun h => absurd h HCN.out) (by omega) c3 HC4.out HM.out HN.out HT.out HV.out HB.out hl HCV.out HWV.out HPS.out HPV.out HPT.out hpl HB2.out HQ.out HB3.out HRS.out HRV.out HR4.out hr3 HB4.out
            case measure => simp [lenOf]; omega
    · have hk' := tail_size s k
      rw [← HS.out] at hk'
      obtain rfl : k = s.size := by omega
      go_wp2
      go_ret
      exact ⟨_, rfl, ⟨xs, HN.out, HV.out, HT.out, hl⟩, HB.out⟩
end Go.Proofs.YtoflmheodiajaaaGreatDoor
