import Derived.Test.YtoflmheodiajaaaGreatDoorK21
namespace Go.Proofs.YtoflmheodiajaaaGreatDoor
open Go.RowKit
set_option linter.unusedVariables false
set_option linter.unusedSimpArgs false
variable {Bs : Nat}
set_option maxRecDepth 100000 in
set_option maxHeartbeats 1000000 in
theorem of_fneg (s T top bot : ByteArray) (p : Nat) (w : World) (hBs : Bs ≤ w.heap.size) (hs : T.size ≤ 536870911) (hp : p < T.size) (h47 : bt T p = 47) (hnos : ∀ i, i < p → bt T i ≠ 47) (h45 : (bt s 0 == 45) = true) (hp0 : 0 < s.size) (hss : s.size ≤ 536870911) (hTe : s.extract 1 s.size = T) (htop : T.extract 0 p = top) (hbot : T.extract (p + 1) T.size = bot) :
    Calls Tryz.prog 80 #[.string s] w (Gives w fun v w' => FrPost Bs true top bot v w') := by
    have HNS := Lib.hid hnos
    have h47b : (bt T p == 47) = true := beq_iff_eq.2 h47
    have htz : top.size ≤ 536870911 := by rw [← htop]; simp; omega
    have hbz : bot.size ≤ 536870911 := by rw [← hbot]; simp; omega
    have HT47 := Lib.hid h47
    clear hnos h47
    have hb := bt_at s 0 hp0
    have hT2 : T.size ≤ 9223372036854775807 := by omega
    go_enter Tryz.func80, Tryz.ntmps80
    go_wp2_with fail
    go_loop [6, 7, 8, 9, 26] (fun a b c _ i => FrRel T p a b c i) (fun _ _ _ _ i => T.size - (intOf i).toNat)
    case atStart => exact ⟨rfl, rfl, rfl, 0, Nat.zero_le _, rfl⟩
    case round =>
      obtain ⟨rfl, rfl, rfl, k, hk, rfl⟩ := hrel
      have hlt : k < T.size := by omega
      have hbk := bt_at T k hlt
      by_cases hkp : k < p
      · have h47 : (bt T k == 47) = false := beq_eq_false_iff_ne.2 (HNS.out k hkp)
        go_wp2_with fail
        go_round
        case rel => exact ⟨rfl, rfl, rfl, k + 1, by omega, by go_num⟩
        case measure => simp [intOf]; omega
      · obtain rfl : k = p := by omega
        go_wp2_with fail
        go_region
        go_wp2_with fail
        cases hP : plainS top with
        | false =>
          have HP := Lib.hid hP
          have HOK := Lib.hid (show frOk true top bot = false by simp [frOk, hP])
          clear hP
          refine (plain_any top _ (by omega)).mono ?_
          rw [HP.out]
          rintro e w' ⟨rfl, rfl⟩
          go_wp2_with fail
          refine bodyPost_ret (v := .tuple #[.agg #[.int .i64 0, .int .i64 0, .pointer none], .bool false]) (by simp [results, Tryz.results80, go_sem]) rfl ⟨_, rfl, frPost_no HOK.out, below_drew (below_alloc (below_refl _) _)⟩
        | true =>
        have HP := Lib.hid hP
        clear hP
        refine (plain_any top _ (by omega)).mono ?_
        rw [HP.out]
        rintro e w' ⟨rfl, rfl⟩
        go_wp2_with fail
        cases hQ : plainS bot with
        | false =>
          have HQ := Lib.hid hQ
          have HOK := Lib.hid (show frOk true top bot = false by simp [frOk, hQ])
          clear hQ
          refine (plain_any bot _ (by omega)).mono ?_
          rw [HQ.out]
          rintro e w' ⟨rfl, rfl⟩
          go_wp2_with fail
          refine bodyPost_ret (v := .tuple #[.agg #[.int .i64 0, .int .i64 0, .pointer none], .bool false]) (by simp [results, Tryz.results80, go_sem]) rfl ⟨_, rfl, frPost_no HOK.out, below_drew (below_alloc (below_refl _) _)⟩
        | true =>
        have HQ := Lib.hid hQ
        clear hQ
        refine (plain_any bot _ (by omega)).mono ?_
        rw [HQ.out]
        rintro e w' ⟨rfl, rfl⟩
        cases hzt : (top.toList == [48]) with
        | true =>
          have HOK := Lib.hid (show frOk true top bot = false by simp only [frOk, isZero, hzt]; simp)
          go_wp2_with fail
          refine bodyPost_ret (v := .tuple #[.agg #[.int .i64 0, .int .i64 0, .pointer none], .bool false]) (by simp [results, Tryz.results80, go_sem]) rfl ⟨_, rfl, frPost_no HOK.out, below_drew (below_alloc (below_refl _) _)⟩
        | false =>
        have HZT := Lib.hid hzt
        cases hz : (bot.toList == [48]) with
        | true =>
          have HOK := Lib.hid (show frOk true top bot = false by simp only [frOk, isZero, hz]; simp)
          go_wp2_with fail
          refine bodyPost_ret (v := .tuple #[.agg #[.int .i64 0, .int .i64 0, .pointer none], .bool false]) (by simp [results, Tryz.results80, go_sem]) rfl ⟨_, rfl, frPost_no HOK.out, below_drew (below_alloc (below_refl _) _)⟩
        | false =>
        cases hz1 : (bot.toList == [49]) with
        | true =>
          have HOK := Lib.hid (show frOk true top bot = false by simp only [frOk, isOneS, hz1]; simp)
          go_wp2_with fail
          refine bodyPost_ret (v := .tuple #[.agg #[.int .i64 0, .int .i64 0, .pointer none], .bool false]) (by simp [results, Tryz.results80, go_sem]) rfl ⟨_, rfl, frPost_no HOK.out, below_drew (below_alloc (below_refl _) _)⟩
        | false =>
        have HZ := Lib.hid (And.intro hz hz1)
        go_wp2_with fail
        clear hz hz1 hzt
        refine (digits_any (Bs := Bs) top _ (by omega) (plain_digits HP.out)).mono ?_
        rintro e w2 ⟨v1, rfl, ⟨xs, hx1, hx2, hx3, hx4⟩, hB2⟩
        have H1 := Lib.hid hx1
        have H2 := Lib.hid hx2
        have H3 := Lib.hid hx3
        have HB2 := Lib.hid hB2
        clear hx1 hx2 hx3 hB2
        go_wp2_with fail
        refine (digits_any (Bs := Bs) bot _ (by omega) (plain_digits HQ.out)).mono ?_
        rintro e w3 ⟨v2, rfl, ⟨ys, hy1, hy2, hy3, hy4⟩, hB3⟩
        have K1 := Lib.hid hy1
        have K2 := Lib.hid hy2
        have K3 := Lib.hid hy3
        have HB3 := Lib.hid hB3
        clear hy1 hy2 hy3 hB3
        go_wp2_with fail
        refine (divisor_any (Bs := Bs) _ _ xs ys _ (by omega) (by omega) (H1.out.below HB3.out) K1.out H3.out K3.out).mono ?_
        rintro e w4 ⟨v3, rfl, ⟨zs, hg1, hg2, hg3⟩, hB4⟩
        have G2 := Lib.hid hg2
        have HGZ := Lib.hid hg1
        have HTZ := Lib.hid hg3
        obtain ⟨⟨ZA, zc, rfl, _, _, hzr⟩, hzw⟩ := hg1
        have HZR := Lib.hid hzr
        have HZW := Lib.hid hzw
        have HB4 := Lib.hid hB4
        clear hg2 hg3 hB4 hzr hzw
        go_wp2_with fail
        have hzl : zs.length ≤ 1099511627776 := by
          have h2 := dval_two HQ.out HZ.out.1 HZ.out.2
          have h3 := trim_len (k := ys.length) HTZ.out HZW.out (by
            have h4 := val_lt ys K1.out.inw
            have h5 : gI (val xs) (val ys) ≤ val ys := gI_le (by rw [K2.out]; omega)
            rw [← G2.out] at h5
            omega)
          omega
        refine (compare_any (Bs := Bs) ZA (some ⟨w4.heap.size, 0, none⟩) zc 1 zs [1] _ hzl (by simp) (HZR.out.below (below_alloc (below_refl _) _)) (fun _ => ⟨w4.heap.size, 0, #[.int .u64 1], 191, _, rfl, heap_alloc_new _ _, .inr rfl, one_cells⟩) HZW.out (by intro i; rcases i with _ | i <;> simp [el]) HTZ.out (.inr (by simp [el]))).mono ?_
        rintro e w5 ⟨rfl, q5, rfl⟩
        have hb2 := below_then (below_drew (below_refl _)) (Nat.le_refl _) HB2.out
        have hb3 := below_then hb2 hb2.size HB3.out
        have hb4 := below_then hb3 hb3.size HB4.out
        have hbl := below_then hb4 hb4.size (below_drewN (below_alloc (below_refl w4) (.cells #[.int .u64 1] 191)) q5)
        have hH1 := (H1.out.below HB3.out).below HB4.out
        have hK1 := K1.out.below HB4.out
        have L1 := Lib.hid (hH1.below (below_drewN (below_alloc (below_refl w4) (.cells #[.int .u64 1] 191)) q5))
        have L2 := Lib.hid (hK1.below (below_drewN (below_alloc (below_refl w4) (.cells #[.int .u64 1] 191)) q5))
        clear hb2 hb3 hb4 hH1 hK1
        obtain ⟨hc, hf, hsz⟩ := box_kept hbl
        have HB := Lib.hid hbl
        have hone : val [(1 : Int)] = 1 := val_one 1
        rw [hone]
        clear hone
        by_cases hg1 : val zs = 1
        · have hcm : cmpI (val zs) 1 = 0 := by rw [hg1]; rfl
          rw [hcm]
          have hgd := G2.out
          rw [hg1, H2.out, K2.out] at hgd
          have HOK := Lib.hid (show frOk true top bot = true by simp only [frOk, HP.out, HQ.out, isZero, isOneS, HZ.out.1, HZ.out.2, HZT.out, ← hgd]; simp)
          clear hg1 hcm hgd hbl hc hf hsz
          go_wp2_with fail
          refine (lowest_any _ _ _ xs ys _ L1.out L2.out H3.out K3.out (by have h2 := dval_two HQ.out HZ.out.1 HZ.out.2; rw [K2.out]; omega) (by omega)).mono ?_
          rintro e w6 ⟨r, rfl, hr, hB6⟩
          obtain ⟨pp, qq, aa, rfl⟩ := hr.shape
          have HR := Lib.hid hr
          have hbl := below_then HB.out HB.out.size hB6
          obtain ⟨hc, hf, hsz⟩ := box_kept hbl
          have c0 := hc 0
          have c1 := hc 1
          have c2 := hc 2
          have f0 := hf 0
          have f1 := hf 1
          have f2 := hf 2
          have HB6 := Lib.hid hbl
          clear hr hB6 hbl hc hf
          go_wp2
          refine bodyPost_ret (v := .tuple #[.agg #[.int .i64 pp, .int .i64 qq, .pointer aa], .bool true]) (by simp [results, Tryz.results80, go_sem, c0, c1, c2, hsz]) rfl ⟨_, rfl, fr_end HOK.out H2.out K2.out H3.out H1.out.inw ?_, below_set3 (below_then (below_alloc (below_refl _) _) (by simp) HB6.out) (Nat.le_refl _) _ _ _⟩
          exact (HR.out).keeps (T := [191, 230]) (Keeps.set3 (box_heap HB6.out) hBs (by decide) _ _ _) (by simp) (by simp)
        · have hcm : (cmpI (val zs) 1 == 0) = false := by unfold cmpI; split <;> (try split) <;> simp <;> omega
          have HOK := Lib.hid (show frOk true top bot = false by
            have : gI (dval top) (dval bot) ≠ 1 := by rw [← H2.out, ← K2.out, ← G2.out]; exact hg1
            simp [frOk, this])
          have c0 := hc 0
          have c1 := hc 1
          have c2 := hc 2
          have f0 := hf 0
          have f1 := hf 1
          have f2 := hf 2
          generalize cmpI (val zs) 1 = cm at hcm
          clear hg1 hbl hc hf
          go_wp2
          refine bodyPost_ret (v := .tuple #[.agg #[.int .i64 0, .int .i64 0, .pointer none], .bool false]) (by simp [results, Tryz.results80, go_sem, c0, c1, c2, hsz]) rfl ⟨_, rfl, frPost_no HOK.out, below_set3 (below_then (below_alloc (below_refl _) _) (by simp) HB.out) (Nat.le_refl _) _ _ _⟩
end Go.Proofs.YtoflmheodiajaaaGreatDoor
namespace Go.Proofs.YtoflmheodiajaaaGreatDoor
open Go.RowKit
set_option linter.unusedVariables false
set_option linter.unusedSimpArgs false
variable {Bs : Nat}
def slashP (T : ByteArray) : Nat := T.data.toList.findIdx (· == 47)
theorem bt_list (T : ByteArray) (i : Nat) (h : i < T.data.toList.length) : bt T i = ((T.data.toList[i]'h).toNat : Int) := by
  have h' : i < T.size := by rw [Array.length_toList] at h; exact h
  unfold bt
  rw [dif_pos h']
  simp only [Array.getElem_toList]
  rfl
theorem len_list (T : ByteArray) : T.data.toList.length = T.size := by rw [Array.length_toList]; rfl
theorem slashP_le (T : ByteArray) : slashP T ≤ T.size := by
  rw [← len_list]; exact List.findIdx_le_length
theorem slashP_before (T : ByteArray) (i : Nat) (h : i < slashP T) : bt T i ≠ 47 := by
  have hl : i < T.data.toList.length := by have := slashP_le T; rw [len_list]; omega
  rw [bt_list T i hl]
  have := List.not_of_lt_findIdx (p := fun b : UInt8 => b == 47) h
  simp only [beq_eq_false_iff_ne, ne_eq] at this
  intro e
  exact this (UInt8.toNat_inj.1 (by have : (47 : UInt8).toNat = 47 := rfl; omega))
theorem slashP_at (T : ByteArray) (h : slashP T < T.size) : bt T (slashP T) = 47 := by
  have hl : slashP T < T.data.toList.length := by rw [len_list]; exact h
  rw [bt_list T _ hl]
  have := List.findIdx_getElem (p := fun b : UInt8 => b == 47) (w := hl)
  have e : (T.data.toList[slashP T]'hl) = 47 := eq_of_beq this
  rw [e]; rfl
def topF (T : ByteArray) : ByteArray := T.extract 0 (slashP T)
def botF (T : ByteArray) : ByteArray := T.extract (slashP T + 1) T.size
def okF (s : ByteArray) : Bool := if slashP (ofTail s) < (ofTail s).size then frOk (ofNeg s) (topF (ofTail s)) (botF (ofTail s)) else ofOk (ofNeg s) (ofTail s)
def nF (s : ByteArray) : Int := if slashP (ofTail s) < (ofTail s).size then dval (topF (ofTail s)) else dval (ofTail s)
def dF (s : ByteArray) : Int := if slashP (ofTail s) < (ofTail s).size then dval (botF (ofTail s)) else 1
def zF (s : ByteArray) : Bool := decide (nF s = 0)
def negF (s : ByteArray) : Bool := !zF s && ofNeg s
def domF (s : ByteArray) : Prop := s.size ≤ 536870911
def NumPost (Bs : Nat) (s : ByteArray) (v : Value) (w' : World) : Prop :=
  ∃ r, v = .tuple #[r, .bool (okF s)] ∧ (okF s = false → r = .agg #[.int .i64 0, .int .i64 0, .pointer none]) ∧ (okF s = true → RatAt Bs w' r (negF s) (nF s) (dF s))
theorem of_all (s : ByteArray) (w : World) (hBs : Bs ≤ w.heap.size) (hs : s.size ≤ 536870911) :
    Calls Tryz.prog 80 #[.string s] w (Gives w fun v w' => NumPost Bs s v w') := by
  have hts : (ofTail s).size ≤ 536870911 := by
    unfold ofTail
    split
    · simp; omega
    · exact hs
  by_cases hsl : slashP (ofTail s) < (ofTail s).size
  · have h47 := slashP_at (ofTail s) hsl
    have hno := slashP_before (ofTail s)
    have e1 : okF s = frOk (ofNeg s) (topF (ofTail s)) (botF (ofTail s)) := by unfold okF; rw [if_pos hsl]
    have e2 : nF s = dval (topF (ofTail s)) := by unfold nF; rw [if_pos hsl]
    have e3 : dF s = dval (botF (ofTail s)) := by unfold dF; rw [if_pos hsl]
    have hfin : ∀ (v : Value) (w' : World), FrPost Bs (ofNeg s) (topF (ofTail s)) (botF (ofTail s)) v w' → NumPost Bs s v w' := by
      rintro v w' ⟨r, rfl, h0, h1⟩
      refine ⟨r, by rw [e1], by rw [e1]; exact h0, fun h => ?_⟩
      obtain ⟨k1, k2, k3⟩ := h1 (by rw [← e1]; exact h)
      have : negF s = ofNeg s := by
        have hz : zF s = false := by unfold zF; rw [e2]; simp; omega
        simp [negF, hz]
      rw [this, e2, e3]
      exact k1
    cases hn : ofNeg s with
    | false =>
      have eT : ofTail s = s := by unfold ofTail; rw [hn]; rfl
      rw [hn, eT] at hfin
      rw [eT] at hsl h47 hno
      have h45 : (bt s 0 == 45) = false := by
        have h0 : 0 < s.size := by omega
        simpa [ofNeg, h0] using hn
      refine (of_fnat s (topF s) (botF s) (slashP s) w hBs hs hsl h47 hno h45 rfl rfl).mono ?_
      rintro e w' ⟨v, rfl, h, hb⟩
      exact ⟨v, rfl, hfin v w' h, hb⟩
    | true =>
      have eT : ofTail s = s.extract 1 s.size := by unfold ofTail; rw [hn]; rfl
      rw [hn] at hfin
      have h45 : 0 < s.size ∧ (bt s 0 == 45) = true := by simpa [ofNeg] using hn
      refine (of_fneg s (ofTail s) (topF (ofTail s)) (botF (ofTail s)) (slashP (ofTail s)) w hBs hts hsl h47 hno h45.2 h45.1 hs eT.symm rfl rfl).mono ?_
      rintro e w' ⟨v, rfl, h, hb⟩
      exact ⟨v, rfl, hfin v w' h, hb⟩
  · have hle := slashP_le (ofTail s)
    have hno := slashP_before (ofTail s)
    have hnos : ∀ i, i < s.size → bt s i ≠ 47 := by
      intro i hi
      cases hn : ofNeg s with
      | false =>
        have eT : ofTail s = s := by unfold ofTail; rw [hn]; rfl
        rw [eT] at hsl hno
        exact hno i (by omega)
      | true =>
        have eT : ofTail s = s.extract 1 s.size := by unfold ofTail; rw [hn]; rfl
        have h45 : 0 < s.size ∧ (bt s 0 == 45) = true := by simpa [ofNeg] using hn
        rcases i with _ | i
        · have := beq_iff_eq.1 h45.2; omega
        · have hsz : (ofTail s).size = s.size - 1 := by rw [eT]; simp
          have := hno i (by omega)
          rw [eT, bt_extract s 1 i (by omega), Nat.add_comm] at this
          exact this
    refine (of_int s w hBs hs hnos).mono ?_
    have e1 : okF s = ofOk (ofNeg s) (ofTail s) := by unfold okF; rw [if_neg hsl]
    have e2 : nF s = dval (ofTail s) := by unfold nF; rw [if_neg hsl]
    have e3 : dF s = 1 := by unfold dF; rw [if_neg hsl]
    rintro e w' ⟨v, rfl, ⟨r, rfl, h0, h1⟩, hb⟩
    refine ⟨_, rfl, ⟨r, by rw [e1], by rw [e1]; exact h0, fun h => ?_⟩, hb⟩
    have := h1 (by rw [← e1]; exact h)
    have en : negF s = if dval (ofTail s) = 0 then false else ofNeg s := by
      unfold negF zF
      rw [e2]
      split <;> simp [*]
    rw [en, e2, e3]
    exact this
theorem ofSpec_all : OfSpec Bs okF zF domF := by
  intro s w hBs hd
  refine (of_all s w hBs hd).mono ?_
  rintro e w' ⟨v, rfl, ⟨r, rfl, h0, h1⟩, hb⟩
  refine ⟨_, rfl, ?_, hb⟩
  cases hk : okF s
  · exact ⟨0, 0, none, by rw [h0 hk], fun h => by simp at h⟩
  · rcases h1 hk with ⟨p, q, rfl, hp, _, hn0, _⟩ | ⟨b, nv, dv, xs, ys, rfl, _, _, _, _, _, _, _, hn0, _⟩
    · refine ⟨p, q, none, rfl, fun _ => ?_⟩
      by_cases hz : nF s = 0
      · have : p = 0 := by rw [hp, hz]; simp
        simp [isZ, zF, hz, this]
      · have : p ≠ 0 := by rw [hp]; split <;> omega
        simp [isZ, zF, hz, this]
    · refine ⟨0, 0, some ⟨b, 0, none⟩, rfl, fun _ => ?_⟩
      have : nF s ≠ 0 := by omega
      simp [isZ, zF, this]
end Go.Proofs.YtoflmheodiajaaaGreatDoor
