import Derived.Test.YtoflmheodiajaaaGreatDoorK20
namespace Go.Proofs.YtoflmheodiajaaaGreatDoor
open Go.RowKit
set_option linter.unusedVariables false
set_option linter.unusedSimpArgs false
variable {Bs : Nat}
theorem trim_len {xs : List Int} {k : Nat} (h : Trim xs) (hw : InW xs) (hv : val xs < pw k) : xs.length ≤ k := by
  rcases Nat.lt_or_ge k xs.length with hl | hl
  · have h1 := h.ge hw (by omega)
    have h2 := pw_mono (show k ≤ xs.length - 1 by omega)
    omega
  · exact hl
theorem val_lt (xs : List Int) (hw : InW xs) : val xs < pw xs.length := (vt_nonneg hw xs.length).2
theorem divide_any (a b : Value) (xs ys : List Int) (w : World) (hlx : xs.length ≤ 1099511627775) (hly : ys.length ≤ 1099511627775) (ha : Nat64 Bs w a xs) (hb : Nat64 Bs w b ys) (tx : Trim xs) (ty : Trim ys) (hy0 : 0 < val ys) :
    Calls Tryz.prog 131 #[a, b] w (Gives w fun v w' => Quot Bs (val xs) (val ys) v w') := by
  have ha' := ha
  have hb' := hb
  obtain ⟨⟨A, ca, rfl, _, _, _⟩, _⟩ := ha'
  obtain ⟨⟨B, cb, rfl, _, _, _⟩, _⟩ := hb'
  rcases Int.lt_or_le (val xs) (val ys) with h | h
  · exact divide_less A B ca cb xs ys w (by omega) (by omega) ha hb tx ty h
  have hyn : 0 < ys.length := by
    rcases Nat.eq_zero_or_pos ys.length with h' | h'
    · rw [List.eq_nil_of_length_eq_zero h', val_nil] at hy0; omega
    · exact h'
  rcases Nat.lt_or_ge 1 ys.length with h1 | h1
  · have hle : ys.length ≤ xs.length := trim_len ty hb.inw (by have := val_lt xs ha.inw; omega)
    obtain ⟨m, hm⟩ : ∃ m, xs.length = ys.length + m := ⟨xs.length - ys.length, by omega⟩
    have := divide_long A B ca cb ys.length m xs ys w hlx hm rfl (by omega) ha hb tx ty h
    rw [← hm] at this
    exact this
  · exact divide_word A B ca cb xs ys w (by omega) (by omega) ha hb tx ty h hy0
def gI (x y : Int) : Int := (Nat.gcd x.toNat y.toNat : Nat)
theorem gI_zero {x : Int} (h : 0 ≤ x) : gI x 0 = x := by simp [gI]; omega
theorem gI_step {x y : Int} (hx : 0 ≤ x) (hy : 0 ≤ y) : gI x y = gI y (x % y) := by
  obtain ⟨x, rfl⟩ := Int.eq_ofNat_of_zero_le hx
  obtain ⟨y, rfl⟩ := Int.eq_ofNat_of_zero_le hy
  have e : ((x : Int) % (y : Int)).toNat = x % y := by omega
  simp only [gI, e, Int.toNat_natCast]
  rw [Nat.gcd_comm x y, Nat.gcd_rec y x, Nat.gcd_comm]
noncomputable def natAt (Bs : Nat) (w : World) (v : Value) : Nat := by
  classical exact if h : ∃ ys, Nat64 Bs w v ys then (val h.choose).toNat else 0
theorem natAt_eq {w : World} {v : Value} {ys : List Int} (h : Nat64 Bs w v ys) : natAt Bs w v = (val ys).toNat := by
  unfold natAt
  have hex : ∃ ys, Nat64 Bs w v ys := ⟨ys, h⟩
  rw [dif_pos hex]
  have hc := hex.choose_spec
  generalize hex.choose = zs at hc
  have h' := h
  have hc' := hc
  obtain ⟨⟨A, c, rfl, _, _, _⟩, _⟩ := h'
  obtain ⟨⟨A', c', e, _, _, _⟩, _⟩ := hc'
  simp only [Value.slice.injEq] at e
  obtain ⟨rfl, hl, rfl⟩ := e
  have e2 : zs = ys := by
    rcases Nat.eq_zero_or_pos ys.length with h0 | h0
    · rw [List.eq_nil_of_length_eq_zero h0, List.eq_nil_of_length_eq_zero (hl.symm.trans h0)]
    · obtain ⟨b, off, e1, _, r1⟩ := nat64_plain h h0
      rw [hl] at hc
      obtain ⟨b2, off2, e2, _, r2⟩ := nat64_plain hc (by omega)
      rw [e1] at e2
      simp only [Option.some.injEq, Addr.mk.injEq, and_true] at e2
      obtain ⟨rfl, rfl⟩ := e2
      apply List.ext_getElem hl.symm
      intro i h1 h2
      have a1 := r1 i (by omega)
      rw [r2 i (by omega)] at a1
      simp only [Option.some.injEq, Value.int.injEq, true_and] at a1
      simpa [el, h1, h2] using a1
  rw [e2]
structure GcIn (Bs : Nat) (w : World) (G : Int) (a b : Value) (wr : World) (xs ys : List Int) : Prop where
  a : Nat64 Bs wr a xs
  b : Nat64 Bs wr b ys
  ta : Trim xs
  tb : Trim ys
  la : xs.length ≤ 1099511627775
  lb : ys.length ≤ 1099511627775
  g : gI (val xs) (val ys) = G
  below : Below w.heap.size w wr
def GcRel (Bs : Nat) (w : World) (G : Int) (a b : Value) (wr : World) : Prop := ∃ xs ys, GcIn Bs w G a b wr xs ys
theorem GcIn.next {w wr w1 : World} {G : Int} {a b r : Value} {xs ys rs : List Int} (h : GcIn Bs w G a b wr xs ys) (h0 : 0 < val ys) (hb : Below wr.heap.size wr w1) (hr : Nat64 Bs w1 r rs) (tr : Trim rs) (hv : val rs = val xs % val ys) : GcIn Bs w G b r w1 ys rs := by
  have hm := Int.emod_lt_of_pos (val xs) h0
  refine ⟨h.b.below hb, hr, h.tb, tr, h.lb, Nat.le_trans (trim_len tr hr.inw (k := ys.length) (by have := val_lt ys h.b.inw; omega)) h.lb, ?_, below_then h.below h.below.size hb⟩
  rw [hv, ← gI_step (val_nonneg h.a.inw) (by omega)]
  exact h.g
set_option maxHeartbeats 1000000 in
set_option maxRecDepth 100000 in
theorem divisor_any (a b : Value) (xs ys : List Int) (w : World) (hlx : xs.length ≤ 1099511627775) (hly : ys.length ≤ 1099511627775) (ha : Nat64 Bs w a xs) (hb : Nat64 Bs w b ys) (tx : Trim xs) (ty : Trim ys) :
    Calls Tryz.prog 108 #[a, b] w (Gives w fun v w' => ∃ zs, Nat64 Bs w' v zs ∧ val zs = gI (val xs) (val ys) ∧ Trim zs) := by
  have hst : GcIn Bs w (gI (val xs) (val ys)) a b w xs ys := ⟨ha, hb, tx, ty, hlx, hly, rfl, below_refl w⟩
  have HST := Lib.hid hst
  generalize gI (val xs) (val ys) = G at HST
  clear hst ha hb tx ty hlx hly
  go_enter Tryz.func108, Tryz.ntmps108
  go_wp2
  go_loopw [0, 1] (fun a b wr => GcRel Bs w G a b wr) (fun a b wr => natAt Bs wr b)
  case atStart => exact ⟨xs, ys, HST.out⟩
  case round =>
    obtain ⟨xs, ys, hin⟩ := hrel
    have ha := hin.a
    have hb := hin.b
    obtain ⟨⟨A, ca, rfl, _, _, _⟩, _⟩ := ha
    obtain ⟨⟨B, cb, rfl, _, _, _⟩, _⟩ := hb
    have HI := Lib.hid hin
    rcases Nat.eq_zero_or_pos ys.length with hyl | hyl
    · have e : ys = [] := List.eq_nil_of_length_eq_zero hyl
      subst e
      have hg := hin.g
      rw [val_nil, gI_zero (val_nonneg hin.a.inw)] at hg
      have HG := Lib.hid hg
      clear hin hg
      go_wp2
      go_ret
      exact ⟨_, rfl, ⟨xs, HI.out.a, HG.out, HI.out.ta⟩, HI.out.below⟩
    · have hnp := nat64_plain hin.b hyl
      obtain ⟨bb, bo, rfl, hbb, hcB⟩ := hnp
      have h0 : 0 < val ys := by
        have := val_nonneg hin.b.inw
        rcases Int.lt_or_le 0 (val ys) with h | h
        · exact h
        · have := (hin.tb.zero hin.b.inw).1 (by omega)
          rw [this] at hyl
          simp at hyl
      by_cases hs : xs.length ≤ 1 ∧ ys.length ≤ 1
      · obtain ⟨hs1, hs2⟩ := hs
        have hY := hcB 0 (by omega)
        rw [Nat.add_zero] at hY
        have ey := (val_len1 (show ys.length = 1 by omega)).2
        have wy := hin.b.inw 0
        have hg := hin.g
        rw [ey] at hg h0
        have HY := Lib.hid (And.intro wy h0)
        have HGe := Lib.hid hg
        obtain ⟨xv, hxv, hx⟩ : ∃ xv, 0 ≤ xv ∧ xv < 18446744073709551616 ∧ gI xv (el ys 0) = G ∧ (xs.length = 0 ∧ xv = 0 ∨ xs.length = 1 ∧ ∃ ab ao, A = some ⟨ab, ao, none⟩ ∧ wr.cell? ⟨ab, ao, none⟩ = some (.int .u64 xv)) := by
          rcases Nat.eq_zero_or_pos xs.length with hxl | hxl
          · refine ⟨0, by omega, by omega, ?_, .inl ⟨hxl, rfl⟩⟩
            rw [← hg, List.eq_nil_of_length_eq_zero hxl]; rfl
          · obtain ⟨ab, ao, e, _, hcA⟩ := nat64_plain hin.a hxl
            refine ⟨el xs 0, (hin.a.inw 0).1, (hin.a.inw 0).2, ?_, .inr ⟨by omega, ab, ao, e, by have := hcA 0 hxl; rw [Nat.add_zero] at this; exact this⟩⟩
            rw [← hg, (val_len1 (show xs.length = 1 by omega)).2]
        obtain ⟨hxB, hxg, hx⟩ := hx
        have HXV := Lib.hid (And.intro hxv (And.intro hxB hxg))
        have hyz : ys.length = 1 := by omega
        clear hin hcB ey wy hg h0 hxv hxB hxg hs2 hyl
        have hfin : True := trivial
        rcases hx with ⟨hxl, rfl⟩ | ⟨hxl, ab, ao, rfl, hX⟩
        all_goals
          rw [hxl, hyz]
          go_wp2_with fail
          go_region
          go_wp2
          go_loopw [5, 6] (fun x y W => ∃ xv yv : Int, x = .int .u64 xv ∧ y = .int .u64 yv ∧ 0 ≤ xv ∧ xv < 18446744073709551616 ∧ 0 ≤ yv ∧ yv < 18446744073709551616 ∧ gI xv yv = G ∧ Below w.heap.size w W) (fun _ y _ => (intOf y).toNat)
          case atStart => exact ⟨_, _, rfl, rfl, HXV.out.1, HXV.out.2.1, HY.out.1.1, HY.out.1.2, HXV.out.2.2, by first | exact HI.out.below | exact below_drewN HI.out.below _⟩
          case round =>
            obtain ⟨xv, yv, rfl, rfl, h1, h2, h3, h4, h5, h6⟩ := hrel
            have H5 := Lib.hid h5
            have H6 := Lib.hid h6
            have HX1 := Lib.hid (And.intro h1 h2)
            clear h5 h6
            by_cases hy0 : yv = 0
            · subst hy0
              have hw := Lib.hid (fun W => word_any (Bs := Bs) xv W ⟨h1, h2⟩)
              have hG := H5.out
              rw [gI_zero h1] at hG
              have HG := Lib.hid hG
              clear hG h1 h2 h3 h4
              go_wp2_with fail
              refine (hw.out _).mono ?_
              rintro e w2 ⟨rv, rfl, hr, hb⟩
              have HR := Lib.hid (And.intro hr hb)
              clear hr hb
              go_wp2
              go_ret
              exact ⟨_, rfl, ⟨_, HR.out.1, by rw [val_wordOf]; exact HG.out, trim_wordOf _⟩, below_then H6.out H6.out.size HR.out.2⟩
            · have hyb : (yv == 0) = false := by simp [hy0]
              have hmod : xv.tmod yv = xv % yv := Int.tmod_eq_emod_of_nonneg h1
              have hr0 := Int.emod_nonneg xv hy0
              have hr1 := Int.emod_lt_of_pos xv (show 0 < yv by omega)
              have hwr : IntKind.u64.wrap (xv % yv) = xv % yv := by rw [IntKind.wrap_u64]; omega
              go_wp2
              go_region
              go_wp2
              go_roundw
              case rel => exact ⟨yv, xv % yv, rfl, rfl, h3, h4, hr0, by omega, by rw [← gI_step h1 h3]; exact H5.out, by first | exact H6.out | exact below_drewN H6.out _ | exact below_drew H6.out⟩
              case measure => simp [intOf]; omega
      · have hD := Lib.hid (fun W (hb : Below wr.heap.size wr W) => divide_any (Bs := Bs) _ _ xs ys W HI.out.la HI.out.lb (HI.out.a.below hb) (HI.out.b.below hb) HI.out.ta HI.out.tb h0)
        have H0 := Lib.hid h0
        clear hin hcB h0
        go_wp2_with fail
        all_goals
          refine (hD.out wr (below_refl _)).mono ?_
          rintro e w1 ⟨v, rfl, ⟨qv, rv, qs, rs, rfl, hq, hr, hqv, hrv, tq, tr⟩, hb⟩
          have HN := Lib.hid (And.intro hr (HI.out.next H0.out hb hr tr hrv))
          have HV := Lib.hid hrv
          clear hq hr hqv hrv tq tr hb
          go_wp2
          go_roundw
          case rel => exact ⟨_, _, HN.out.2⟩
          case measure =>
            rw [natAt_eq HN.out.1, natAt_eq HI.out.b, HV.out]
            have := Int.emod_lt_of_pos (val xs) H0.out
            have := H0.out
            omega
end Go.Proofs.YtoflmheodiajaaaGreatDoor
namespace Go.Proofs.YtoflmheodiajaaaGreatDoor
open Go.RowKit
set_option linter.unusedVariables false
set_option linter.unusedSimpArgs false
variable {Bs : Nat}
def isOneS (t : ByteArray) : Bool := t.toList == [49]
theorem toList_eq (t : ByteArray) : t.toList = t.data.toList := Lib.toList_data t
theorem single_of {t : ByteArray} (h : t.size = 1) {c : UInt8} (hb : bt t 0 = (c.toNat : Int)) : t.toList = [c] := by
  rw [toList_eq]
  have hl : t.data.toList.length = 1 := by rw [Array.length_toList]; exact h
  match hm : t.data.toList, hl with
  | [x], _ =>
    have e : bt t 0 = (x.toNat : Int) := by
      unfold bt
      rw [dif_pos (by omega)]
      have : t[0]'(by omega) = t.data.toList[0]'(by omega) := rfl
      rw [this]
      simp [hm]
    rw [e] at hb
    congr 1
    exact UInt8.toNat_inj.1 (by omega)
theorem dval_two {t : ByteArray} (h : plainS t = true) (h0 : isZero t = false) (h1 : isOneS t = false) : 2 ≤ dval t := by
  have hd := plain_digits h
  unfold plainS at h
  simp only [Bool.and_eq_true, Bool.or_eq_true, Bool.not_eq_true', decide_eq_true_eq, beq_eq_false_iff_ne] at h
  obtain ⟨⟨hs, hz⟩, _⟩ := h
  rcases Nat.lt_or_ge 1 t.size with hl | hl
  · have h48 : bt t 0 ≠ 48 := by
      rcases hz with h | h
      · exact h
      · omega
    have hb := hd 0 hs
    have e : dval t = dch t 0 1 * 10 ^ (t.size - 1) + dch t 1 (t.size - 1) := by
      unfold dval
      have := dch_add t 1 (t.size - 1)
      rwa [show 1 + (t.size - 1) = t.size by omega] at this
    have e1 : dch t 0 1 = bt t 0 - 48 := by simp [dch]
    have hr := (dch_range hd 1 (t.size - 1) (by omega)).1
    have hp : (10 : Int) ≤ 10 ^ (t.size - 1) := by
      obtain ⟨k, hk⟩ : ∃ k, t.size - 1 = k + 1 := ⟨t.size - 2, by omega⟩
      rw [hk, Int.pow_succ]
      have : (1 : Int) ≤ 10 ^ k := by
        have : 0 < (10 : Nat) ^ k := Nat.pow_pos (by omega)
        have h4 : ((10 ^ k : Nat) : Int) = (10 : Int) ^ k := by simp
        omega
      omega
    have : 1 * 10 ^ (t.size - 1) ≤ dch t 0 1 * 10 ^ (t.size - 1) := Int.mul_le_mul_of_nonneg_right (by omega) (by omega)
    omega
  · have hs1 : t.size = 1 := by omega
    have hb := hd 0 hs
    have e : dval t = bt t 0 - 48 := by unfold dval; rw [hs1]; simp [dch]
    rcases Int.lt_or_le (dval t) 2 with hlt | hge
    · exfalso
      rcases show bt t 0 = 48 ∨ bt t 0 = 49 by omega with h | h
      · have := single_of hs1 (c := 48) (by rw [h]; rfl)
        simp [isZero, this] at h0
      · have := single_of hs1 (c := 49) (by rw [h]; rfl)
        simp [isOneS, this] at h1
    · exact hge
theorem one_cells (j : Nat) (hj : j < [(1 : Int)].length) : (#[Value.int .u64 1] : Array Value)[0 + j]? = some (.int .u64 (el [1] j)) := by
  obtain rfl : j = 0 := by simpa using hj
  rfl
theorem gI_le {x y : Int} (hy : 0 < y) : gI x y ≤ y := by
  have := Nat.gcd_le_right (m := x.toNat) (n := y.toNat) (by omega)
  unfold gI
  omega
def frOk (neg : Bool) (top bot : ByteArray) : Bool := plainS top && plainS bot && !(neg && isZero top) && !(isZero bot || isOneS bot) && decide (gI (dval top) (dval bot) = 1)
def FrPost (Bs : Nat) (neg : Bool) (top bot : ByteArray) (v : Value) (w' : World) : Prop :=
  ∃ r, v = .tuple #[r, .bool (frOk neg top bot)] ∧ (frOk neg top bot = false → r = .agg #[.int .i64 0, .int .i64 0, .pointer none]) ∧
    (frOk neg top bot = true → RatAt Bs w' r neg (dval top) (dval bot) ∧ 0 < dval top ∧ 2 ≤ dval bot)
theorem frPost_no {neg : Bool} {top bot : ByteArray} {w' : World} (h : frOk neg top bot = false) : FrPost Bs neg top bot (.tuple #[.agg #[.int .i64 0, .int .i64 0, .pointer none], .bool false]) w' :=
  ⟨_, by rw [h], fun _ => rfl, fun h' => by rw [h] at h'; cases h'⟩
theorem fr_end {w' : World} {r : Value} {neg : Bool} {top bot : ByteArray} {xs ys : List Int} (hok : frOk neg top bot = true) (hv : val xs = dval top) (hy : val ys = dval bot) (ht : Trim xs) (hw : InW xs)
    (h : RatAt Bs w' r (if xs = [] then false else neg) (val xs) (if xs = [] then 1 else val ys)) : FrPost Bs neg top bot (.tuple #[r, .bool true]) w' := by
  have hk := hok
  simp only [frOk, Bool.and_eq_true, Bool.not_eq_true', Bool.or_eq_false_iff, decide_eq_true_eq] at hk
  obtain ⟨⟨⟨⟨p1, p2⟩, p3⟩, p4, p5⟩, p6⟩ := hk
  have h2 := dval_two p2 p4 p5
  have h0 := dval_nonneg (plain_digits p1)
  have hpos : 0 < dval top := by
    rcases Int.lt_or_le 0 (dval top) with h' | h'
    · exact h'
    · have e : dval top = 0 := by omega
      rw [e] at p6
      simp [gI] at p6
      omega
  have hx : xs ≠ [] := fun e => by rw [e, val_nil] at hv; omega
  rw [if_neg hx, if_neg hx, hv, hy] at h
  exact ⟨r, by rw [hok], (fun h => by rw [hok] at h; cases h), fun _ => ⟨h, hpos, h2⟩⟩
def FrRel (T : ByteArray) (p : Nat) (a b c i : Value) : Prop := a = .string T ∧ b = .string one1 ∧ c = .bool false ∧ ∃ k : Nat, k ≤ p ∧ i = .int .i64 k
set_option maxRecDepth 100000 in
set_option maxHeartbeats 1000000 in
theorem of_fnat (T top bot : ByteArray) (p : Nat) (w : World) (hBs : Bs ≤ w.heap.size) (hs : T.size ≤ 536870911) (hp : p < T.size) (h47 : bt T p = 47) (hnos : ∀ i, i < p → bt T i ≠ 47) (h45 : (bt T 0 == 45) = false) (htop : T.extract 0 p = top) (hbot : T.extract (p + 1) T.size = bot) :
    Calls Tryz.prog 80 #[.string T] w (Gives w fun v w' => FrPost Bs false top bot v w') := by
    have HNS := Lib.hid hnos
    have h47b : (bt T p == 47) = true := beq_iff_eq.2 h47
    have htz : top.size ≤ 536870911 := by rw [← htop]; simp; omega
    have hbz : bot.size ≤ 536870911 := by rw [← hbot]; simp; omega
    have HT47 := Lib.hid h47
    clear hnos h47
    have hp0 : 0 < T.size := by omega
    have hb := bt_at T 0 hp0
    have hT2 : T.size ≤ 9223372036854775807 := by omega
    go_enter Tryz.func80, Tryz.ntmps80
    go_wp2_with fail
    go_loop [6, 7, 8, 9, 26] (fun a b c _ i => FrRel T p a b c i) (fun _ _ _ _ i => T.size - (intOf i).toNat)
    case atStart => exact ⟨rfl, rfl, rfl, 0, Nat.zero_le _, rfl⟩
    case round =>
      obtain ⟨rfl, rfl, rfl, k, hk, rfl⟩ := hrel
      have hlt : k < T.size := by omega
      have hbk := bt_at T k hlt
      by_cases hkp : k < p
      · have h47 : (bt T k == 47) = false := beq_eq_false_iff_ne.2 (HNS.out k hkp)
        go_wp2_with fail
        go_round
        case rel => exact ⟨rfl, rfl, rfl, k + 1, by omega, by go_num⟩
        case measure => simp [intOf]; omega
      · obtain rfl : k = p := by omega
        go_wp2_with fail
        go_region
        go_wp2_with fail
        cases hP : plainS top with
        | false =>
          have HP := Lib.hid hP
          have HOK := Lib.hid (show frOk false top bot = false by simp [frOk, hP])
          clear hP
          refine (plain_any top _ (by omega)).mono ?_
          rw [HP.out]
          rintro e w' ⟨rfl, rfl⟩
          go_wp2_with fail
          refine bodyPost_ret (v := .tuple #[.agg #[.int .i64 0, .int .i64 0, .pointer none], .bool false]) (by simp [results, Tryz.results80, go_sem]) rfl ⟨_, rfl, frPost_no HOK.out, below_drew (below_alloc (below_refl _) _)⟩
        | true =>
        have HP := Lib.hid hP
        clear hP
        refine (plain_any top _ (by omega)).mono ?_
        rw [HP.out]
        rintro e w' ⟨rfl, rfl⟩
        go_wp2_with fail
        cases hQ : plainS bot with
        | false =>
          have HQ := Lib.hid hQ
          have HOK := Lib.hid (show frOk false top bot = false by simp [frOk, hQ])
          clear hQ
          refine (plain_any bot _ (by omega)).mono ?_
          rw [HQ.out]
          rintro e w' ⟨rfl, rfl⟩
          go_wp2_with fail
          refine bodyPost_ret (v := .tuple #[.agg #[.int .i64 0, .int .i64 0, .pointer none], .bool false]) (by simp [results, Tryz.results80, go_sem]) rfl ⟨_, rfl, frPost_no HOK.out, below_drew (below_alloc (below_refl _) _)⟩
        | true =>
        have HQ := Lib.hid hQ
        clear hQ
        refine (plain_any bot _ (by omega)).mono ?_
        rw [HQ.out]
        rintro e w' ⟨rfl, rfl⟩
        cases hz : (bot.toList == [48]) with
        | true =>
          have HOK := Lib.hid (show frOk false top bot = false by simp only [frOk, isZero, hz]; simp)
          go_wp2_with fail
          refine bodyPost_ret (v := .tuple #[.agg #[.int .i64 0, .int .i64 0, .pointer none], .bool false]) (by simp [results, Tryz.results80, go_sem]) rfl ⟨_, rfl, frPost_no HOK.out, below_drew (below_alloc (below_refl _) _)⟩
        | false =>
        cases hz1 : (bot.toList == [49]) with
        | true =>
          have HOK := Lib.hid (show frOk false top bot = false by simp only [frOk, isOneS, hz1]; simp)
          go_wp2_with fail
          refine bodyPost_ret (v := .tuple #[.agg #[.int .i64 0, .int .i64 0, .pointer none], .bool false]) (by simp [results, Tryz.results80, go_sem]) rfl ⟨_, rfl, frPost_no HOK.out, below_drew (below_alloc (below_refl _) _)⟩
        | false =>
        have HZ := Lib.hid (And.intro hz hz1)
        go_wp2_with fail
        clear hz hz1
        refine (digits_any (Bs := Bs) top _ (by omega) (plain_digits HP.out)).mono ?_
        rintro e w2 ⟨v1, rfl, ⟨xs, hx1, hx2, hx3, hx4⟩, hB2⟩
        have H1 := Lib.hid hx1
        have H2 := Lib.hid hx2
        have H3 := Lib.hid hx3
        have HB2 := Lib.hid hB2
        clear hx1 hx2 hx3 hB2
        go_wp2_with fail
        refine (digits_any (Bs := Bs) bot _ (by omega) (plain_digits HQ.out)).mono ?_
        rintro e w3 ⟨v2, rfl, ⟨ys, hy1, hy2, hy3, hy4⟩, hB3⟩
        have K1 := Lib.hid hy1
        have K2 := Lib.hid hy2
        have K3 := Lib.hid hy3
        have HB3 := Lib.hid hB3
        clear hy1 hy2 hy3 hB3
        go_wp2_with fail
        refine (divisor_any (Bs := Bs) _ _ xs ys _ (by omega) (by omega) (H1.out.below HB3.out) K1.out H3.out K3.out).mono ?_
        rintro e w4 ⟨v3, rfl, ⟨zs, hg1, hg2, hg3⟩, hB4⟩
        have G2 := Lib.hid hg2
        have HGZ := Lib.hid hg1
        have HTZ := Lib.hid hg3
        obtain ⟨⟨ZA, zc, rfl, _, _, hzr⟩, hzw⟩ := hg1
        have HZR := Lib.hid hzr
        have HZW := Lib.hid hzw
        have HB4 := Lib.hid hB4
        clear hg2 hg3 hB4 hzr hzw
        go_wp2_with fail
        have hzl : zs.length ≤ 1099511627776 := by
          have h2 := dval_two HQ.out HZ.out.1 HZ.out.2
          have h3 := trim_len (k := ys.length) HTZ.out HZW.out (by
            have h4 := val_lt ys K1.out.inw
            have h5 : gI (val xs) (val ys) ≤ val ys := gI_le (by rw [K2.out]; omega)
            rw [← G2.out] at h5
            omega)
          omega
        refine (compare_any (Bs := Bs) ZA (some ⟨w4.heap.size, 0, none⟩) zc 1 zs [1] _ hzl (by simp) (HZR.out.below (below_alloc (below_refl _) _)) (fun _ => ⟨w4.heap.size, 0, #[.int .u64 1], 191, _, rfl, heap_alloc_new _ _, .inr rfl, one_cells⟩) HZW.out (by intro i; rcases i with _ | i <;> simp [el]) HTZ.out (.inr (by simp [el]))).mono ?_
        rintro e w5 ⟨rfl, q5, rfl⟩
        have hb2 := below_then (below_drew (below_refl _)) (Nat.le_refl _) HB2.out
        have hb3 := below_then hb2 hb2.size HB3.out
        have hb4 := below_then hb3 hb3.size HB4.out
        have hbl := below_then hb4 hb4.size (below_drewN (below_alloc (below_refl w4) (.cells #[.int .u64 1] 191)) q5)
        have hH1 := (H1.out.below HB3.out).below HB4.out
        have hK1 := K1.out.below HB4.out
        have L1 := Lib.hid (hH1.below (below_drewN (below_alloc (below_refl w4) (.cells #[.int .u64 1] 191)) q5))
        have L2 := Lib.hid (hK1.below (below_drewN (below_alloc (below_refl w4) (.cells #[.int .u64 1] 191)) q5))
        clear hb2 hb3 hb4 hH1 hK1
        obtain ⟨hc, hf, hsz⟩ := box_kept hbl
        have HB := Lib.hid hbl
        have hone : val [(1 : Int)] = 1 := val_one 1
        rw [hone]
        clear hone
        by_cases hg1 : val zs = 1
        · have hcm : cmpI (val zs) 1 = 0 := by rw [hg1]; rfl
          rw [hcm]
          have hgd := G2.out
          rw [hg1, H2.out, K2.out] at hgd
          have HOK := Lib.hid (show frOk false top bot = true by simp only [frOk, HP.out, HQ.out, isZero, isOneS, HZ.out.1, HZ.out.2, ← hgd]; simp)
          clear hg1 hcm hgd hbl hc hf hsz
          go_wp2_with fail
          refine (lowest_any _ _ _ xs ys _ L1.out L2.out H3.out K3.out (by have h2 := dval_two HQ.out HZ.out.1 HZ.out.2; rw [K2.out]; omega) (by omega)).mono ?_
          rintro e w6 ⟨r, rfl, hr, hB6⟩
          obtain ⟨pp, qq, aa, rfl⟩ := hr.shape
          have HR := Lib.hid hr
          have hbl := below_then HB.out HB.out.size hB6
          obtain ⟨hc, hf, hsz⟩ := box_kept hbl
          have c0 := hc 0
          have c1 := hc 1
          have c2 := hc 2
          have f0 := hf 0
          have f1 := hf 1
          have f2 := hf 2
          have HB6 := Lib.hid hbl
          clear hr hB6 hbl hc hf
          go_wp2
          refine bodyPost_ret (v := .tuple #[.agg #[.int .i64 pp, .int .i64 qq, .pointer aa], .bool true]) (by simp [results, Tryz.results80, go_sem, c0, c1, c2, hsz]) rfl ⟨_, rfl, fr_end HOK.out H2.out K2.out H3.out H1.out.inw ?_, below_set3 (below_then (below_alloc (below_refl _) _) (by simp) HB6.out) (Nat.le_refl _) _ _ _⟩
          exact (HR.out).keeps (T := [191, 230]) (Keeps.set3 (box_heap HB6.out) hBs (by decide) _ _ _) (by simp) (by simp)
        · have hcm : (cmpI (val zs) 1 == 0) = false := by unfold cmpI; split <;> (try split) <;> simp <;> omega
          have HOK := Lib.hid (show frOk false top bot = false by
            have : gI (dval top) (dval bot) ≠ 1 := by rw [← H2.out, ← K2.out, ← G2.out]; exact hg1
            simp [frOk, this])
          have c0 := hc 0
          have c1 := hc 1
          have c2 := hc 2
          have f0 := hf 0
          have f1 := hf 1
          have f2 := hf 2
          generalize cmpI (val zs) 1 = cm at hcm
          clear hg1 hbl hc hf
          go_wp2
          refine bodyPost_ret (v := .tuple #[.agg #[.int .i64 0, .int .i64 0, .pointer none], .bool false]) (by simp [results, Tryz.results80, go_sem, c0, c1, c2, hsz]) rfl ⟨_, rfl, frPost_no HOK.out, below_set3 (below_then (below_alloc (below_refl _) _) (by simp) HB.out) (Nat.le_refl _) _ _ _⟩
end Go.Proofs.YtoflmheodiajaaaGreatDoor
