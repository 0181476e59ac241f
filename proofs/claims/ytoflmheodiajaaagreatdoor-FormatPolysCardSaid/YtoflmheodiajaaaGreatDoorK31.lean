import Derived.Test.YtoflmheodiajaaaGreatDoorK30
namespace Go.Proofs.YtoflmheodiajaaaGreatDoor.H
open Go.RowKit
set_option linter.unusedVariables false
set_option linter.unusedSimpArgs false
variable {Bs : Nat}
theorem PbIn.drewN {w wr : World} {base ub cu j n i : Nat} {cv : Int} {us ys zs : List Int} (h : PbIn w base ub cu j n us ys i cv zs wr) (q : Nat) : PbIn w base ub cu j n us ys i cv zs (wr.drewN q) :=
  ⟨h.ile, h.hl, h.own.drewN q, h.oth.drewN q, h.inw, h.c01, h.same, h.eq⟩
theorem NegAt.back {n j : Nat} {V G : Int} {us us2 us4 : List Int} {over : Bool} (h : NegAt n j V us us2 (G - 1)) (hV : 0 < V) (g1 : G ≤ trueQ us V j + 1) (wz : InW us4) (up : ∀ p, j + n + 1 ≤ p → el us4 p = 0)
    (he : val us4 = val us2 + V * pw j - (if over then 1 else 0) * pw (j + n + 1)) : val us4 = val us - (G - 1) * V * pw j := by
  have h2 := h.eq
  rw [Int.sub_add_cancel] at h2
  have e3 : (G - 1) * V * pw j = G * V * pw j - V * pw j := by rw [Int.sub_mul, Int.sub_mul, Int.one_mul]
  cases over with
  | true => simp at he; omega
  | false =>
    exfalso
    simp at he
    have hlt := (val_lt_of_top wz up).1
    have := trueQ_lt (us := us) (d := G - 1) (j := j) hV (by omega)
    omega
theorem and_low (x : Int) (h0 : 0 ≤ x) (h1 : x < 18446744073709551616) : bits .and .u64 x 4294967295 = lo x := by
  obtain ⟨a, rfl⟩ := Int.eq_ofNat_of_zero_le h0
  have h := u64_and_nat a 4294967295 (by omega) (by omega)
  have e : a &&& 4294967295 = a % 4294967296 := by
    have := Nat.and_two_pow_sub_one_eq_mod a 32
    simpa using this
  rw [e] at h
  unfold lo
  have h2 : ((4294967295 : Nat) : Int) = 4294967295 := rfl
  rw [h2] at h
  rw [h]
  omega
theorem norm_top {n : Nat} {V : Int} {zs : List Int} (f : DvFix n V zs) (h : 2147483648 * pw (n - 1) ≤ V) : 2147483648 ≤ el zs (n - 1) := by
  have hl := vt_nonneg f.yw (n - 1)
  have e := f.yv
  have hn := f.n2
  unfold val at e
  rw [f.yl, show n = (n - 1) + 1 by omega] at e
  simp only [vt] at e
  have h1 : 2147483648 * pw (n - 1) < (el zs (n - 1) + 1) * pw (n - 1) := by rw [Int.add_mul]; omega
  have := Int.lt_of_mul_lt_mul_right h1 (Int.le_of_lt (pw_pos _))
  omega
set_option maxHeartbeats 12000000 in
set_option maxRecDepth 100000 in
theorem divMag_long (A B : Option Addr) (ca cb n m : Nat) (xs ys : List Int) (w : World) (hlx : xs.length ≤ 1099511627775) (hxn : xs.length = n + m) (hyn : ys.length = n) (h2 : 2 ≤ n) (ha : Nat32 Bs w (.slice A xs.length ca) xs) (hb : Nat32 Bs w (.slice B ys.length cb) ys) (tx : Trim xs) (ty : Trim ys) (hge : val ys ≤ val xs) :
    Calls Tryz.prog 179 #[.slice A (n + m) ca, .slice B n cb] w (Gives w fun v w' => Quot Bs w.heap.size (val xs) (val ys) v w') := by
  have hc0 := compare_any A B ca cb xs ys w (by omega) (by omega) (nat32_rd ha) (nat32_rd hb) ha.inw hb.inw tx ty
  have hcv : 0 ≤ cmpI (val xs) (val ys) := by unfold cmpI; split <;> (try split) <;> omega
  obtain ⟨bb, bo, rfl, hbb, hcB⟩ := nat32_plain hb (by omega)
  have hY := hcB (n - 1) (by omega)
  have htop : 0 < el ys (n - 1) := by
    have h0 := (hb.inw (n - 1)).1
    rcases ty with h | h
    · rw [h] at hyn; simp at hyn; omega
    · rw [hyn] at h; omega
  have hyB := (hb.inw (n - 1)).2
  have ha' := ha
  have hb' := hb
  rw [hxn] at ha'
  rw [hyn] at hb'
  have HGE := Lib.hid hge
  have HA := Lib.hid ha'
  have HB := Lib.hid hb'
  rw [hxn, hyn] at hc0
  have HC := Lib.hid hc0
  generalize cmpI (val xs) (val ys) = cv at hcv HC
  have hn1 : ((n : Int) == 1) = false := by simp; omega
  have hnn : (n : Int) - 1 = ((n - 1 : Nat) : Int) := by omega
  have HN := Lib.hid (And.intro hxn hyn)
  have HF := Lib.hid (fun (s : Nat) (hlo : 2147483648 ≤ el ys (n - 1) * 2 ^ s) (hhi : el ys (n - 1) * 2 ^ s < 4294967296) zs wz tz hv => dv_fix (zs := zs) hyn h2 hb.inw wz tz hv hlo hhi)
  have hnb : n + m ≤ 1099511627775 := by omega
  have hn0 : n - 1 < n := by omega
  have HTOP := Lib.hid (And.intro htop hyB)
  clear ha' hb' ha hb tx ty hge hcB hc0 htop hxn hyn hyB
  go_enter Tryz.func179, Tryz.ntmps179
  go_wp2_with fail
  refine HC.out.mono ?_
  rintro e w1 ⟨rfl, q, rfl⟩
  go_wp2_with fail
  go_loop [8] (fun v => ∃ s : Nat, v = .int .u64 s ∧ s ≤ 31 ∧ el ys (n - 1) * 2 ^ s < 4294967296) (fun v => 32 - (intOf v).toNat)
  case atStart => exact ⟨0, rfl, by omega, by have := HTOP.out.2; simpa using this⟩
  case round =>
    obtain ⟨s, rfl, hs, hsB⟩ := hrel
    have h0 := two_pos s
    have hnn0 : 0 ≤ el ys (n - 1) * 2 ^ s := Int.mul_nonneg (by have := HTOP.out.1; omega) (by omega)
    have ew : IntKind.u32.wrap (el ys (n - 1) * 2 ^ s) = el ys (n - 1) * 2 ^ s := by rw [IntKind.wrap_u32]; omega
    by_cases hlt : el ys (n - 1) * 2 ^ s < 2147483648
    · have hnx : el ys (n - 1) * 2 ^ (s + 1) < 4294967296 := by rw [Int.pow_succ, ← Int.mul_assoc]; omega
      have hs1 : s + 1 ≤ 31 := by
        rcases Nat.lt_or_ge s 31 with h | h
        · omega
        · have hs31 : s = 31 := by omega
          subst hs31
          have : 1 * 2 ^ 31 ≤ el ys (n - 1) * 2 ^ 31 := Int.mul_le_mul_of_nonneg_right (by have := HTOP.out.1; omega) (by decide)
          have e31 : (2 : Int) ^ 31 = 2147483648 := by decide
          omega
      have HNX := Lib.hid hnx
      have ew2 : IntKind.u64.wrap ((s : Int) + 1) = (s : Int) + 1 := by rw [IntKind.wrap_u64]; omega
      clear hnx h0 hnn0
      go_wp2
      go_round
      case rel => exact ⟨s + 1, by go_num, hs1, HNX.out⟩
      case measure => simp [intOf]; omega
    · have hsl : s < 32 := by omega
      have HFS := Lib.hid (HF.out s (by omega) hsB)
      have HSB := Lib.hid (And.intro hsB hlt)
      clear hsB h0 hnn0 hs HF
      go_wp2_with fail
      refine (shiftLeft_any (Bs := Bs) _ ys s _ (HB.out.below (below_drewN (below_refl w) q)) (by rw [HN.out.2]; omega) hsl).mono ?_
      rintro e w1 ⟨v1, rfl, ⟨zs0, rfl, hz0l, hz0o, hz0w, hz0v⟩, hb1⟩
      have HZ0 := Lib.hid (nat32_of_own (Bs := Bs) hz0o hz0w)
      have HZV := Lib.hid hz0v
      have HB1 := Lib.hid (below_then (below_drewN (below_refl w) q) (Nat.le_refl _) hb1)
      have HLZ := Lib.hid hz0l
      clear hz0o hz0w hz0v hb1 hz0l
      have hsz1 : w.heap.size ≤ w1.heap.size := HB1.out.size
      go_wp2_with fail
      refine (trim_any (Bs := Bs) _ zs0 _ HZ0.out).mono ?_
      rintro e w2 ⟨lv, rfl, hz, rfl⟩
      obtain ⟨hfx, hgeV⟩ := HFS.out _ hz.inw (trim_stripped _) (by rw [val_stripped]; exact HZV.out)
      generalize stripped zs0 = zs at hz hfx
      obtain ⟨⟨LA, lc, rfl, hlc1, hlc2, hlr⟩, hzw⟩ := hz
      have hzl := hfx.yl
      rw [hzl]
      rw [hzl] at hlc1
      obtain ⟨vb, vo, rfl, hvb, hvc⟩ := hlr.plain (by omega)
      rw [hzl] at hvc
      have HFX := Lib.hid (And.intro hfx (And.intro hgeV (norm_top hfx hgeV)))
      have HVC := Lib.hid hvc
      clear hfx hgeV hlr hzw hzl hvc
      go_wp2_with fail
      refine (shiftLeft_any (Bs := Bs) _ xs s _ (HA.out.below HB1.out) (by rw [HN.out.1]; omega) hsl).mono ?_
      rintro e w3 ⟨v3, rfl, ⟨us0, rfl, hu0l, hu0o, hu0w, hu0v⟩, hb3⟩
      rw [HN.out.1] at hu0o hu0l ⊢
      have HO3 := Lib.hid (hu0o.mono hsz1)
      have HST := Lib.hid (dv_start (zs := zs) (s := s) HN.out.1 h2 hsl HA.out.inw hu0v hu0w hu0l HFX.out.2.1)
      have HB3 := Lib.hid (below_then HB1.out HB1.out.size hb3)
      have hs3 : w1.heap.size < w3.heap.size := (hu0o.lies _ rfl).2
      have HV3 := Lib.hid (fun i (hi : i < n) => (hb3.cell (p := ⟨vb, vo + i, none⟩) hvb).trans (HVC.out i hi))
      clear hu0o hu0w hu0v hb3
      have em : (n : Int) + (m : Int) + 1 - (n : Int) - 1 = (m : Int) := by omega
      go_wp2_with (at_make; refine makeI _ rfl _ _ _ rfl w.heap.size 143 .u32 4 Tryz.underlying92 infoU32 _ _ (m + 1) (m + 1) rfl rfl (by omega) (by omega) (by omega) (by omega) (by omega) (by omega) ?_)
      intro w6 hO hG hS
      have hb56 := (below_refl w3).grown hG (Nat.le_refl _) (fun k hk => by simp at hk)
      have HQ6 := Lib.hid hO
      have HO6 := Lib.hid (HO3.out.below hb56)
      have HB6 := Lib.hid (below_then HB3.out HB3.out.size hb56)
      have HV6 := Lib.hid (fun i hi => (hb56.cell (p := ⟨vb, vo + i, none⟩) (by show vb < _; omega)).trans (HV3.out i hi))
      have hgq : w1.heap.size ≠ w3.heap.size := by omega
      have hvb6 : vb < w6.heap.size := by omega
      have hvg : vb ≠ w1.heap.size := by omega
      have hvq : vb ≠ w3.heap.size := by omega
      have hww : w.heap.size ≤ w1.heap.size ∧ w.heap.size ≤ w3.heap.size := by omega
      clear hO hG hS hb56
      go_wp2_with fail
      generalize w1.heap.size = g at *
      generalize w3.heap.size = gq at *
      clear HA HB HC HVC HO3 HV3 HB1 HB3 HTOP HZ0 HZV HLZ HFS hcv hY ew em
      go_loopw [14] (fun j wr => DlRel w g gq vb vo n m (val xs * 2 ^ s) (val ys * 2 ^ s) zs j wr) (fun j _ => (intOf j + 1).toNat)
      case atStart => exact ⟨m + 1, us0, _, rfl, HST.out, HO6.out, HQ6.out, HV6.out, hvb6, HB6.out⟩
      case round =>
        obtain ⟨k, us, qs, rfl, hin⟩ := hrel
        have HI := Lib.hid hin
        cases k with
        | zero =>
          simp only [down]
          have hlt := hin.dv.lt
          rw [pw_zero, Int.mul_one] at hlt
          have hVB := HFX.out.1.VB
          have hup := vt_top hin.dv.uw (k := n) (by omega)
          have hvu := (val_lt_of_top hin.dv.uw hup).2
          have hul := hin.dv.ul
          have htl : (us.take n).length = n := by rw [List.length_take]; omega
          have hown := own_take (own_take hin.ou (L := n) (by omega) hul) (L := strip n (us.take n)) (strip_le _ _) htl
          have hrd := (own_take hin.ou (L := n) (by omega) hul)
          have hvt : val (us.take n) = val us := by rw [val_take _ _ (by omega)]; exact hvu.symm
          have hvs := val_stripped (us.take n)
          have htr := trim_stripped (us.take n)
          have hwr := (hin.dv.uw.take n).take (strip n (us.take n))
          unfold stripped at hvs htr
          rw [htl] at hvs htr
          have hLn := strip_le (us.take n) n
          have hRD : Rd Bs wr .u32 143 (some ⟨g, 0, none⟩) (us.take n) := by
            obtain ⟨A', c', e, _, _, h3⟩ := hrd.rd Bs
            simp only [Value.slice.injEq] at e
            obtain ⟨rfl, _, _⟩ := e
            exact h3
          have htm := trim_raw (Bs := Bs) (some ⟨g, 0, none⟩) (n + m + 1) (us.take n) wr (by omega) (by omega) hRD
          rw [htl] at htm
          have HTM := Lib.hid htm
          have hrl : ((us.take n).take (strip n (us.take n))).length = strip n (us.take n) := by rw [List.length_take]; omega
          generalize (us.take n).take (strip n (us.take n)) = rs at hown hvs htr hwr hrl
          generalize strip n (us.take n) = L at *
          have HRV := Lib.hid (And.intro (hvs.trans hvt) htr)
          have HRW := Lib.hid hwr
          have HRS := Lib.hid (show RsIn w.heap.size wr g (n + m + 1) rs s 0 rs wr from ⟨by omega, rfl, by rw [hrl]; exact hown, Besides.refl _ _, hwr, fun j hj => by omega, fun j _ => rfl⟩)
          subst hrl
          clear hlt hVB hup hvu hown hrd hvt hvs htr hwr hRD htm hin htl
          go_wp2_with fail
          refine HTM.out.mono ?_
          rintro e w7 ⟨rfl, rfl⟩
          go_wp2_with fail
          go_loopw [26] (fun c W => ∃ (i : Nat) (zs1 : List Int), c = .int .i64 i ∧ RsIn w.heap.size wr g (n + m + 1) rs s i zs1 W) (fun c _ => rs.length - (intOf c).toNat)
          case atStart => exact ⟨0, rs, rfl, HRS.out⟩
          case round =>
            obtain ⟨i, zs1, rfl, hin⟩ := hrel
            have HR1 := Lib.hid hin
            have hil := hin.ile
            by_cases hi1 : i < rs.length
            · have hc := hin.own.cell i (by rw [hin.hl]; omega)
              rw [hin.same i (Nat.le_refl _)] at hc
              have hz := hin.own.frozen i
              by_cases hi2 : i + 1 < rs.length
              · have hc2 := hin.own.cell (i + 1) (by rw [hin.hl]; omega)
                rw [hin.same (i + 1) (by omega)] at hc2
                have hg := rg_or0 HRW.out s i hsl
                have y1 := HRW.out (i + 1)
                have hsh : 0 ≤ el rs (i + 1) * 2 ^ (32 - s) ∧ el rs (i + 1) * 2 ^ (32 - s) < 18446744073709551616 := by
                  have := shl_hi (el rs (i + 1)) (32 - s) (by omega) y1.1 y1.2
                  exact ⟨this.1, this.2.2.2⟩
                have HNX := Lib.hid (hin.next hi1 HRW.out hsl (el rs i / 2 ^ s))
                have e1 : IntKind.u64.wrap (el rs (i + 1)) = el rs (i + 1) := by rw [IntKind.wrap_u64]; omega
                have e2 : IntKind.u64.wrap (32 - (s : Int)) = ((32 - s : Nat) : Int) := by rw [IntKind.wrap_u64]; omega
                have e3 : IntKind.u64.wrap (el rs (i + 1) * 2 ^ (32 - s)) = el rs (i + 1) * 2 ^ (32 - s) := by rw [IntKind.wrap_u64]; omega
                have e4 : IntKind.u32.wrap (el rs (i + 1) * 2 ^ (32 - s)) = lo (el rs (i + 1) * 2 ^ (32 - s)) := by rw [IntKind.wrap_u32]; rfl
                have f1 := World.cell?_setCell_same wr ⟨g, i, none⟩ (.int .u32 (el rs i / 2 ^ s)) hc
                have f2 : (wr.setCell ⟨g, i, none⟩ (.int .u32 (el rs i / 2 ^ s))).cell? ⟨g, i + 1, none⟩ = some (.int .u32 (el rs (i + 1))) := by
                  rw [World.cell?_setCell_other _ _ _ _ (by intro e; simp at e)]; exact hc2
                have f3 : (wr.setCell ⟨g, i, none⟩ (.int .u32 (el rs i / 2 ^ s))).frozen? ⟨g, i, none⟩ = false := by rw [World.frozen?_setCell]; exact hz
                clear hin y1 hsh
                go_wp2
                clear hc hc2 hz
                go_region
                all_goals
                  go_wp2
                  go_roundw
                  case rel => exact ⟨i + 1, _, by go_num, HNX.out.drew⟩
                  case measure => simp [intOf]; omega
              · have HNX := Lib.hid (hin.last hi1 HRW.out hsl (by unfold rgWord; rw [el_ge rs (i + 1) (by omega)]; simp))
                have hi3 : ¬ ((i : Int) + 1 < (rs.length : Int)) := by omega
                clear hin
                go_wp2
                go_roundw
                case rel => exact ⟨i + 1, _, by go_num, HNX.out⟩
                case measure => simp [intOf]; omega
            · obtain rfl : i = rs.length := by omega
              have HQ := Lib.hid (nat32_of_own (Bs := Bs) (HI.out.oq.besides hin.oth (fun e => hgq e.symm)) HI.out.dv.qw)
              have HU := Lib.hid (nat32_of_own (Bs := Bs) hin.own hin.inw)
              have hvz := rg_val HRW.out s (by omega) hin.hl hin.done
              have HVZ := Lib.hid hvz
              have HNW := Lib.hid (And.intro (newV_own (HI.out.oq.besides hin.oth (fun e => hgq e.symm)) (Nat.le_refl _)) (newV_own hin.own (Nat.le_refl _)))
              clear hin hvz
              go_wp2_with fail
              refine (trim_anyN (Bs := Bs) _ qs _ HQ.out).mono ?_
              rintro e w8 ⟨vq, rfl, hq', rfl⟩
              have HQ' := Lib.hid hq'
              clear hq'
              go_wp2_with fail
              refine (trim_anyN (Bs := Bs) _ zs1 _ HU.out).mono ?_
              rintro e w8 ⟨vu, rfl, hu', rfl⟩
              have HU' := Lib.hid hu'
              clear hu'
              go_wp2
              go_ret2
              have hvp : 0 < val ys := by
                have h1 := HFX.out.1.V0
                have h2 := two_pos s
                rcases Int.lt_or_le 0 (val ys) with h | h
                · exact h
                · have : val ys * 2 ^ s ≤ 0 * 2 ^ s := Int.mul_le_mul_of_nonneg_right h (by omega)
                  omega
              have hdn := HI.out.dv.done rfl hvp (by have := HGE.out; omega)
              exact ⟨_, rfl, ⟨_, _, _, _, rfl, HQ'.out.1, HU'.out.1, by rw [val_stripped]; exact hdn.1, by rw [val_stripped, HVZ.out, HRV.out.1]; exact hdn.2, trim_stripped _, trim_stripped _, HQ'.out.2 _ HNW.out.1, HU'.out.2 _ HNW.out.2⟩, HI.out.below.trans (HR1.out.oth.below hww.1 HI.out.below.size)⟩
        | succ j =>
          simp only [down]
          have hjm : j ≤ m := by have := hin.dv.hk; omega
          have hul := hin.dv.ul
          have hzl := HFX.out.1.yl
          have u0 := hin.ou.cell (j + n) (by omega)
          have u1 := hin.ou.cell (j + n - 1) (by omega)
          have u2 := hin.ou.cell (j + n - 2) (by omega)
          have v1 := hin.v (n - 1) (by omega)
          have v2 := hin.v (n - 2) (by omega)
          have HSTP := Lib.hid (dv_guess HFX.out.1 HFX.out.2.2 hin.dv)
          have ht := HSTP.out.top
          have y1 := HFX.out.1.yw (n - 1)
          have y2 := HFX.out.1.yw (n - 2)
          have x0 := hin.dv.uw (j + n)
          have x1 := hin.dv.uw (j + n - 1)
          have x2 := hin.dv.uw (j + n - 2)
          have HRO := Lib.hid (roundsH (u2 := el us (j + n)) (u1 := el us (j + n - 1)) (u0 := el us (j + n - 2)) HFX.out.2.2 y1.2 y2.1 y2.2 x2.1 x2.2 ht)
          have HTR := Lib.hid (trH_start (u2 := el us (j + n)) (u1 := el us (j + n - 1)) (u0 := el us (j + n - 2)) HFX.out.2.2 y1.2 y2.1 y2.2 x0.1 x1.1 x2.1 x2.2 ht)
          generalize guessH (el us (j + n)) (el us (j + n - 1)) (el us (j + n - 2)) (el zs (n - 1)) (el zs (n - 2)) = G at HSTP HRO
          have w10 : IntKind.u64.wrap (el zs (n - 2)) = el zs (n - 2) := by rw [IntKind.wrap_u64]; omega
          have w11 : IntKind.u64.wrap (el us (j + n - 2)) = el us (j + n - 2) := by rw [IntKind.wrap_u64]; omega
          have w0 : IntKind.u64.wrap (el us (j + n)) = el us (j + n) := by rw [IntKind.wrap_u64]; omega
          have w1 : IntKind.u64.wrap (el us (j + n) * 4294967296) = el us (j + n) * 4294967296 := by rw [IntKind.wrap_u64]; omega
          have w2 : IntKind.u64.wrap (el us (j + n - 1)) = el us (j + n - 1) := by rw [IntKind.wrap_u64]; omega
          have w3 : bits .or .u64 (el us (j + n) * 4294967296) (el us (j + n - 1)) = el us (j + n) * 4294967296 + el us (j + n - 1) := or_high _ _ x0.1 x0.2 x1.1 x1.2
          have w4 : IntKind.u64.wrap (el zs (n - 1)) = el zs (n - 1) := by rw [IntKind.wrap_u64]; omega
          have w5 : (el us (j + n) * 4294967296 + el us (j + n - 1)).tdiv (el zs (n - 1)) = (el us (j + n) * 4294967296 + el us (j + n - 1)) / el zs (n - 1) := Int.tdiv_eq_ediv_of_nonneg (by omega)
          have w6 : IntKind.u64.wrap ((el us (j + n) * 4294967296 + el us (j + n - 1)) / el zs (n - 1)) = (el us (j + n) * 4294967296 + el us (j + n - 1)) / el zs (n - 1) := by
            have a1 : 0 ≤ (el us (j + n) * 4294967296 + el us (j + n - 1)) / el zs (n - 1) := Int.ediv_nonneg (by omega) (by omega)
            have a2 : (el us (j + n) * 4294967296 + el us (j + n - 1)) / el zs (n - 1) ≤ el us (j + n) * 4294967296 + el us (j + n - 1) := Int.ediv_le_self _ (by omega)
            rw [IntKind.wrap_u64]; omega
          have w7 : (el us (j + n) * 4294967296 + el us (j + n - 1)).tmod (el zs (n - 1)) = (el us (j + n) * 4294967296 + el us (j + n - 1)) % el zs (n - 1) := Int.tmod_eq_emod_of_nonneg (by omega)
          have w8 : IntKind.u64.wrap ((el us (j + n) * 4294967296 + el us (j + n - 1)) % el zs (n - 1)) = (el us (j + n) * 4294967296 + el us (j + n - 1)) % el zs (n - 1) := by
            have a1 := Int.emod_nonneg (el us (j + n) * 4294967296 + el us (j + n - 1)) (show el zs (n - 1) ≠ 0 by have := HFX.out.2.2; omega)
            have a2 := Int.emod_lt_of_pos (el us (j + n) * 4294967296 + el us (j + n - 1)) (show 0 < el zs (n - 1) by have := HFX.out.2.2; omega)
            rw [IntKind.wrap_u64]; omega
          have w9 : ¬ el zs (n - 1) = 0 := by have := HFX.out.2.2; omega
          have w9b : (el zs (n - 1) == 0) = false := by simp; exact w9
          generalize (el us (j + n) * 4294967296 + el us (j + n - 1)) / el zs (n - 1) = H0 at w5 w6 HTR
          generalize (el us (j + n) * 4294967296 + el us (j + n - 1)) % el zs (n - 1) = R0 at w7 w8 HTR
          generalize hTOP : el us (j + n) * 4294967296 + el us (j + n - 1) = TP at w3 w5 w7 HTR HRO
          have HTP := Lib.hid hTOP
          have hjn : j + n < n + m + 1 := by omega
          have hjn1 : j + n - 1 < n + m + 1 := by omega
          have hjn2 : j + n - 2 < n + m + 1 := by omega
          have hn2 : n - 2 < n := by omega
          have a1 : IntKind.i64.wrap ((j : Int) + (n : Int)) = ((j + n : Nat) : Int) := by rw [IntWalk.i64_in _ (by omega)]; omega
          have a2 : IntKind.i64.wrap (((j + n : Nat) : Int) - 1) = ((j + n - 1 : Nat) : Int) := by rw [IntWalk.i64_in _ (by omega)]; omega
          have a3 : IntKind.i64.wrap (((j + n : Nat) : Int) - 2) = ((j + n - 2 : Nat) : Int) := by rw [IntWalk.i64_in _ (by omega)]; omega
          have a6 : IntKind.i64.wrap ((j : Int) + (n : Int) - 2) = ((j + n - 2 : Nat) : Int) := by rw [IntWalk.i64_in _ (by omega)]; omega
          have a7 : ((j + n - 2 : Nat) : Int) < (n : Int) + (m : Int) + 1 := by omega
          have a4 : IntKind.i64.wrap ((n : Int) - 1) = ((n - 1 : Nat) : Int) := by rw [IntWalk.i64_in _ (by omega)]; omega
          have a5 : IntKind.i64.wrap ((n : Int) - 2) = ((n - 2 : Nat) : Int) := by rw [IntWalk.i64_in _ (by omega)]; omega
          clear hin hul hzl ht y1 y2 x0 x1 x2 hTOP
          go_wp2
          go_quiet (fail)
          clear a2
          go_upto_block 4 with (fail)
          clear w0 w1 w2 w3 w5 w6 w7 w8 w9 w9b u0 u1
          go_cut [16] from 115 to 150 (fun s16 W => s16 = .int .u64 G ∧ ∃ q, W = wr.drewN q)
          case first =>
            go_wp2_with fail
            go_loopw [16, 17] (fun a b W => (∃ q, W = wr.drewN q) ∧ ∃ h r, a = .int .u64 h ∧ b = .int .u64 r ∧ TrH TP (el zs (n - 1)) (el zs (n - 2)) (el us (j + n - 2)) h r) (fun a _ _ => (intOf a).toNat)
            case atStart => exact ⟨⟨_, rfl⟩, _, _, rfl, rfl, HTR.out⟩
            case round =>
              obtain ⟨⟨q1, rfl⟩, h, r, rfl, rfl, t⟩ := hrel
              have T := Lib.hid t
              clear t
              by_cases c1 : 4294967296 ≤ h
              · obtain ⟨e0, e1, e2, e3, e4⟩ := HRO.out.step h r T.out (.inl c1)
                have E3 := Lib.hid e3
                have E4 := Lib.hid e4
                clear e3 e4
                by_cases c2 : 4294967296 ≤ r + el zs (n - 1)
                · go_wp2
                  go_quiet (fail)
                  go_wp2
                  go_meet
                  exact ⟨by rw [E4.out c2], by first | exact ⟨_, rfl⟩ | (simp only [World.drewN_drewN]; exact ⟨_, rfl⟩)⟩
                · go_wp2
                  go_quiet (fail)
                  go_wp2
                  go_roundw
                  case rel => exact ⟨by first | exact ⟨_, rfl⟩ | (simp only [World.drewN_drewN]; exact ⟨_, rfl⟩), _, _, rfl, rfl, E3.out (by omega)⟩
                  case measure => simp [intOf]; omega
              · obtain ⟨p1, p2, p3⟩ := HRO.out.prod h r T.out c1
                by_cases c3 : r * 4294967296 + el us (j + n - 2) < h * el zs (n - 2)
                · obtain ⟨e0, e1, e2, e3, e4⟩ := HRO.out.step h r T.out (.inr c3)
                  have E3 := Lib.hid e3
                  have E4 := Lib.hid e4
                  clear e3 e4
                  by_cases c2 : 4294967296 ≤ r + el zs (n - 1)
                  · go_wp2
                    go_quiet (fail)
                    go_wp2
                    go_meet
                    exact ⟨by rw [E4.out c2], by first | exact ⟨_, rfl⟩ | (simp only [World.drewN_drewN]; exact ⟨_, rfl⟩)⟩
                  · go_wp2
                    go_quiet (fail)
                    go_wp2
                    go_roundw
                    case rel => exact ⟨by first | exact ⟨_, rfl⟩ | (simp only [World.drewN_drewN]; exact ⟨_, rfl⟩), _, _, rfl, rfl, E3.out (by omega)⟩
                    case measure => simp [intOf]; omega
                · have HG := Lib.hid (HRO.out.done h r T.out c1 c3)
                  go_wp2
                  go_quiet (fail)
                  go_wp2
                  go_meet
                  exact ⟨by rw [HG.out], by first | exact ⟨_, rfl⟩ | (simp only [World.drewN_drewN]; exact ⟨_, rfl⟩)⟩
          case rest =>
            obtain ⟨rfl, q2, hwc⟩ := hcut
            subst wc
            have HIS := Lib.hid (HSTP.out)
            have hG0 : 0 ≤ G := by have := HSTP.out.q0; have := HSTP.out.le; omega
            have hGB := HSTP.out.gB
            have hOU := HI.out.ou.drewN q2
            have hul2 := HI.out.dv.ul
            have HTS := Lib.hid (show TkIn (wr.drewN q2) w.heap.size g (n + m + 1) j n G us zs 0 0 0 us (wr.drewN q2) from ⟨by omega, rfl, by rw [hul2]; exact hOU, Besides.refl _ _, HI.out.dv.uw, by omega, by omega, .inl rfl, fun p _ => rfl, by simp [vt]⟩)
            clear hOU HRO HTR HTP a1 a3 a4 a5 a6 a7 v1 v2 u2 w4 w10 w11 hjn1 hjn2 hn2
            go_wp2_with fail
            go_loopw [18, 19, 20] (fun c b k W => ∃ (i : Nat) (cv bw : Int) (us1 : List Int), c = .int .u64 cv ∧ b = .int .u64 bw ∧ k = .int .i64 i ∧ TkIn (wr.drewN q2) w.heap.size g (n + m + 1) j n G us zs i cv bw us1 W) (fun _ _ k _ => n - (intOf k).toNat)
            case atStart => exact ⟨0, 0, 0, us, rfl, rfl, rfl, HTS.out⟩
            case round =>
              obtain ⟨i, cv1, bw, us1, rfl, rfl, rfl, hin⟩ := hrel
              have HT := Lib.hid hin
              have hcr : 0 ≤ cv1 ∧ cv1 < 4294967296 := ⟨hin.c0, hin.c1⟩
              have hbr := hin.b01
              have hile := hin.ile
              by_cases hi' : i < n
              · have hY := (hin.oth.cell (o := vo + i) (by have := HI.out.hvb; simpa using this) hvg).trans ((World.cell?_drewN _ _ _).trans (HI.out.v i hi'))
                have hc := hin.own.cell (j + i) (by rw [hin.hl, hul2]; omega)
                rw [hin.same (j + i) (by omega)] at hc
                have hz := hin.own.frozen (j + i)
                have hij : (i : Int) + (j : Int) = ((j + i : Nat) : Int) := by omega
                have hnx := Lib.hid (hin.next hi' (by omega) ⟨hG0, hGB⟩ HI.out.dv.uw HFX.out.1.yw)
                have y1 := HFX.out.1.yw i
                have x1 := HI.out.dv.uw (j + i)
                have hp := prod_range ⟨hG0, hGB⟩ y1
                have e1 : IntKind.u64.wrap (el zs i) = el zs i := by rw [IntKind.wrap_u64]; omega
                have e2 : IntKind.u64.wrap (G * el zs i) = G * el zs i := by rw [IntKind.wrap_u64]; omega
                have e3 : IntKind.u64.wrap (G * el zs i + cv1) = G * el zs i + cv1 := by rw [IntKind.wrap_u64]; omega
                have e4 : (G * el zs i + cv1) / 4294967296 = hi (G * el zs i + cv1) := rfl
                have e5 : IntKind.u64.wrap (el us (j + i)) = el us (j + i) := by rw [IntKind.wrap_u64]; omega
                have e6 : bits .and .u64 (G * el zs i + cv1) 4294967295 = lo (G * el zs i + cv1) := and_low _ (by omega) (by omega)
                obtain ⟨s1, s2, s3⟩ := sb_words x1 (lo_range (G * el zs i + cv1)) hbr
                generalize hD1 : IntKind.u64.wrap (el us (j + i) - lo (G * el zs i + cv1)) = D1 at s1 s2 s3
                generalize hD2 : IntKind.u64.wrap (D1 - bw) = D2 at s1 s2 s3
                clear hin y1 x1 hp s3
                go_wp2_with fail
                go_roundw
                case rel => exact ⟨i + 1, _, _, _, rfl, rfl, by go_num, hnx.out⟩
                case measure => simp [intOf]; omega
              · obtain rfl : n = i := by omega
                have hd := hin.done (by omega) HFX.out.1.yl HI.out.dv.uw
                have hc := hin.own.cell (j + n) (by rw [hin.hl, hul2]; omega)
                rw [hin.same (j + n) (by omega)] at hc
                have hz := hin.own.frozen (j + n)
                have x1 := HI.out.dv.uw (j + n)
                have e5 : IntKind.u64.wrap (el us (j + n)) = el us (j + n) := by rw [IntKind.wrap_u64]; omega
                obtain ⟨s1, s2, s3⟩ := sb_words x1 hcr hbr
                have eG : IntKind.u32.wrap G = G := by rw [IntKind.wrap_u32]; omega
                generalize hD1 : IntKind.u64.wrap (el us (j + n) - cv1) = D1 at s1 s2 s3
                generalize hD2 : IntKind.u64.wrap (D1 - bw) = D2 at s1 s2 s3
                have hbit := sb_bit (el us (j + n)) cv1 bw
                generalize sbB (el us (j + n)) cv1 bw = bit at hd s3 hbit
                generalize sbD (el us (j + n)) cv1 bw = dg at hd s1
                have HOW := Lib.hid (show OwnI _ w.heap.size 143 .u32 (.slice (some ⟨g, 0, none⟩) (n + m + 1) (n + m + 1)) _ from by have := hd.own; rw [hul2] at this; exact this)
                have HBS := Lib.hid (((Besides.refl g _).drewN q2).trans hd.oth)
                have HTK := Lib.hid (And.intro hd.hl (And.intro hd.inw (And.intro hd.same hd.eq)))
                clear hin hd x1 s2
                rcases hbit with rfl | rfl
                · obtain ⟨hc2, hz2, hD⟩ := HI.out.store (d := G) HFX.out.1.V0 HBS.out HOW.out HTK.out.1 HTK.out.2.1 (by have := HTK.out.2.2.2; rw [HFX.out.1.yv] at this; simpa using this) HIS.out.le ⟨hG0, hGB⟩ hgq hvg hvq hww.1 hww.2
                  have HD := Lib.hid hD
                  have hs3 : (D2 / 9223372036854775808 == 1) = false := by rw [s3]; rfl
                  clear hD hcr hbr
                  go_wp2
                  go_roundw
                  case rel => exact ⟨j, _, _, by rw [down_prev], HD.out⟩
                  case measure => simp [intOf]
                · have hV := HFX.out.1.V0
                  have hng : NegAt n j (val ys * 2 ^ s) us (us1.set (j + n) dg) (G - 1) := ⟨HTK.out.1, HTK.out.2.1, fun p hp => by rw [HTK.out.2.2.1 p (.inr hp)]; exact HIS.out.up p hp, by have := HTK.out.2.2.2; rw [HFX.out.1.yv] at this; rw [Int.sub_add_cancel]; simpa using this⟩
                  have hg1 : 1 ≤ G := by have := hng.ge hV; have := HIS.out.q0; omega
                  have hwr : IntKind.u64.wrap (G - 1) = G - 1 := by rw [IntKind.wrap_u64]; omega
                  have HNG := Lib.hid hng
                  have hs3 : (D2 / 9223372036854775808 == 1) = true := by rw [s3]; rfl
                  clear hng hV hcr hbr
                  have hl2 : (us1.set (j + n) dg).length = n + m + 1 := HTK.out.1.trans hul2
                  have hw2 := HTK.out.2.1
                  generalize us1.set (j + n) dg = us2 at HOW HTK HNG hl2 hw2
                  go_wp2_with fail
                  clear e5 eG hD1 hD2 s1 s3 hc hz
                  generalize hW2 : wr.setCell ⟨g, j + n, none⟩ (.int .u32 dg) = W2 at HOW HBS ⊢
                  have HPS := Lib.hid (show PbIn W2 w.heap.size g (n + m + 1) j n us2 zs 0 0 us2 W2 from ⟨by omega, rfl, by rw [hl2]; exact HOW.out, Besides.refl _ _, hw2, .inl rfl, fun p _ => rfl, by simp [vt]⟩)
                  clear hW2
                  go_loopw [18, 24] (fun c k W => ∃ (i : Nat) (cv2 : Int) (us3 : List Int), c = .int .u64 cv2 ∧ k = .int .i64 i ∧ PbIn W2 w.heap.size g (n + m + 1) j n us2 zs i cv2 us3 W) (fun _ k _ => n - (intOf k).toNat)
                  case atStart => exact ⟨0, 0, us2, rfl, rfl, HPS.out⟩
                  case round =>
                    obtain ⟨i, cv2, us3, rfl, rfl, hin⟩ := hrel
                    have hile2 := hin.ile
                    have hcb := hin.c01
                    by_cases hi2 : i < n
                    · have hY := (hin.oth.cell (o := vo + i) (by have := HI.out.hvb; have := HBS.out.size; omega) hvg).trans ((HBS.out.cell (o := vo + i) HI.out.hvb hvg).trans (HI.out.v i hi2))
                      have hc := hin.own.cell (j + i) (by rw [hin.hl, hl2]; omega)
                      rw [hin.same (j + i) (by omega)] at hc
                      have hz := hin.own.frozen (j + i)
                      have hij : (i : Int) + (j : Int) = ((j + i : Nat) : Int) := by omega
                      have hnx := Lib.hid (fun qq => (hin.drewN qq).next hi2 (by omega) hw2 HFX.out.1.yw)
                      have y1 := HFX.out.1.yw i
                      have x1 := hw2 (j + i)
                      have e1 : IntKind.u64.wrap (el zs i) = el zs i := by rw [IntKind.wrap_u64]; omega
                      have e2 : IntKind.u64.wrap (el us2 (j + i)) = el us2 (j + i) := by rw [IntKind.wrap_u64]; omega
                      have e3 : IntKind.u64.wrap (el us2 (j + i) + el zs i) = el us2 (j + i) + el zs i := by rw [IntKind.wrap_u64]; omega
                      have e4 : IntKind.u64.wrap (cv2 + (el us2 (j + i) + el zs i)) = el us2 (j + i) + el zs i + cv2 := by rw [IntKind.wrap_u64]; omega
                      have e5 : (el us2 (j + i) + el zs i + cv2) / 4294967296 = hi (el us2 (j + i) + el zs i + cv2) := rfl
                      have e6 : IntKind.u32.wrap (el us2 (j + i) + el zs i + cv2) = lo (el us2 (j + i) + el zs i + cv2) := by rw [IntKind.wrap_u32]; rfl
                      have HPI := Lib.hid hin
                      clear hin y1 x1
                      go_wp2
                      go_quiet (fail)
                      go_wp2
                      go_roundw
                      case rel => exact ⟨i + 1, _, _, rfl, by go_num, hnx.out _⟩
                      case measure => simp [intOf]; omega
                    · obtain rfl : n = i := by omega
                      have hd := hin.done (by omega) HFX.out.1.yl hw2
                      have hc := hin.own.cell (j + n) (by rw [hin.hl, hl2]; omega)
                      rw [hin.same (j + n) (by omega)] at hc
                      have hz := hin.own.frozen (j + n)
                      have x1 := hw2 (j + n)
                      have e1 : IntKind.u32.wrap cv2 = cv2 := by rw [IntKind.wrap_u32]; omega
                      have e2 : IntKind.u32.wrap (el us2 (j + n) + cv2) = lo (el us2 (j + n) + 0 + cv2) := by rw [IntKind.wrap_u32, Int.add_zero]; rfl
                      have eG : IntKind.u32.wrap (G - 1) = G - 1 := by rw [IntKind.wrap_u32]; omega
                      generalize lo (el us2 (j + n) + 0 + cv2) = dg2 at hd e2
                      have HOW4 := Lib.hid (show OwnI _ w.heap.size 143 .u32 (.slice (some ⟨g, 0, none⟩) (n + m + 1) (n + m + 1)) _ from by have := hd.own; rw [hl2] at this; exact this)
                      have HBS4 := Lib.hid (HBS.out.trans hd.oth)
                      have hV := HFX.out.1.V0
                      have hval : val (us3.set (j + n) dg2) = val us - (G - 1) * (val ys * 2 ^ s) * pw j := by
                        have h1 := hd.eq
                        rw [HFX.out.1.yv] at h1
                        exact HNG.out.back hV HIS.out.g1 hd.inw (fun p hp => by rw [hd.same p (.inr hp)]; exact HNG.out.up p hp) h1
                      obtain ⟨hc2, hz2, hD⟩ := HI.out.store (d := G - 1) hV HBS4.out HOW4.out (hd.hl.trans HNG.out.zl) hd.inw hval (HNG.out.ge hV) ⟨by omega, by omega⟩ hgq hvg hvq hww.1 hww.2
                      have HD := Lib.hid hD
                      clear hin hd hD hval hV x1 hcb
                      go_wp2
                      go_roundw
                      case rel => exact ⟨j, _, _, by rw [down_prev], HD.out⟩
                      case measure => simp [intOf]
end Go.Proofs.YtoflmheodiajaaaGreatDoor.H
