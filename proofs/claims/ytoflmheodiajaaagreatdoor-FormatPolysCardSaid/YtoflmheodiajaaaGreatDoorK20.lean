import Derived.Test.YtoflmheodiajaaaGreatDoorK19
namespace Go.Proofs.YtoflmheodiajaaaGreatDoor
open Go.RowKit
set_option linter.unusedVariables false
set_option linter.unusedSimpArgs false
variable {Bs : Nat}
theorem dv_fix {ys zs : List Int} {n s : Nat} (hn : ys.length = n) (h2 : 2 ≤ n) (wy : InW ys) (wz : InW zs) (tz : Trim zs) (hv : val zs = val ys * 2 ^ s) (hlo : 9223372036854775808 ≤ el ys (n - 1) * 2 ^ s) (hhi : el ys (n - 1) * 2 ^ s < 18446744073709551616) :
    DvFix n (val ys * 2 ^ s) zs ∧ 9223372036854775808 * pw (n - 1) ≤ val ys * 2 ^ s := by
  have hk := two_pos s
  have hp := pw_pos (n - 1)
  have ev : val ys = vt ys (n - 1) + el ys (n - 1) * pw (n - 1) := by
    unfold val
    rw [hn, show n = (n - 1) + 1 by omega]
    rfl
  have hl := vt_nonneg wy (n - 1)
  have e2 : val ys * 2 ^ s = vt ys (n - 1) * 2 ^ s + (el ys (n - 1) * 2 ^ s) * pw (n - 1) := by rw [ev]; grind
  have h3 : 0 ≤ vt ys (n - 1) * 2 ^ s := Int.mul_nonneg hl.1 (by omega)
  have h4 : 9223372036854775808 * pw (n - 1) ≤ (el ys (n - 1) * 2 ^ s) * pw (n - 1) := Int.mul_le_mul_of_nonneg_right hlo (by omega)
  have hge : 9223372036854775808 * pw (n - 1) ≤ val ys * 2 ^ s := by omega
  have hltV : val ys * 2 ^ s < pw n := by
    have h5 : vt ys (n - 1) + el ys (n - 1) * pw (n - 1) < (el ys (n - 1) + 1) * pw (n - 1) := by rw [Int.add_mul]; omega
    have h6 : val ys * 2 ^ s < ((el ys (n - 1) + 1) * pw (n - 1)) * 2 ^ s := by rw [ev]; exact Int.mul_lt_mul_of_pos_right h5 hk
    have h7 : (el ys (n - 1) + 1) * 2 ^ s ≤ 18446744073709551616 := by
      rcases Nat.lt_or_ge s 64 with h | h
      ·
        have hsp := two_split s (by omega)
        have h8 : el ys (n - 1) < 2 ^ (64 - s) := by
          rw [← hsp, Int.mul_comm (2 ^ s)] at hhi
          exact Int.lt_of_mul_lt_mul_right hhi (by omega)
        have h9 : (el ys (n - 1) + 1) * 2 ^ s ≤ 2 ^ (64 - s) * 2 ^ s := Int.mul_le_mul_of_nonneg_right (by omega) (by omega)
        rw [Int.mul_comm (2 ^ (64 - s)), hsp] at h9
        exact h9
      · have : (2 : Int) ^ 64 ≤ 2 ^ s := by
          obtain ⟨d, rfl⟩ : ∃ d, s = 64 + d := ⟨s - 64, by omega⟩
          rw [Int.pow_add]
          have := two_pos d
          have : (2 : Int) ^ 64 * 1 ≤ 2 ^ 64 * 2 ^ d := Int.mul_le_mul_of_nonneg_left (by omega) (by decide)
          omega
        have h0 := (wy (n - 1)).1
        rcases Int.lt_or_le 0 (el ys (n - 1)) with h' | h'
        · have : 1 * 2 ^ s ≤ el ys (n - 1) * 2 ^ s := Int.mul_le_mul_of_nonneg_right (by omega) (by omega)
          omega
        · have : el ys (n - 1) = 0 := by omega
          rw [this] at hlo
          simp at hlo
    have h8 : ((el ys (n - 1) + 1) * 2 ^ s) * pw (n - 1) ≤ 18446744073709551616 * pw (n - 1) := Int.mul_le_mul_of_nonneg_right h7 (by omega)
    have h9 : pw n = 18446744073709551616 * pw (n - 1) := by rw [show n = (n - 1) + 1 by omega, pw_succ]; simp
    have h10 : ((el ys (n - 1) + 1) * pw (n - 1)) * 2 ^ s = ((el ys (n - 1) + 1) * 2 ^ s) * pw (n - 1) := by grind
    omega
  have hzl : zs.length = n := by
    have a1 : ¬ zs.length < n := by
      intro h
      have := (vt_nonneg wz zs.length).2
      have := pw_mono (show zs.length ≤ n - 1 by omega)
      unfold val at hv
      unfold val at hge
      omega
    have a2 : ¬ n < zs.length := by
      intro h
      have := tz.ge wz (by omega)
      have := pw_mono (show n ≤ zs.length - 1 by omega)
      omega
    omega
  refine ⟨⟨h2, hzl, wz, hv, ?_⟩, hge⟩
  have h0 := (wz (n - 1)).1
  rcases tz with h | h
  · rw [h] at hzl; simp at hzl; omega
  · rw [hzl] at h; omega
theorem val_pad (xs : List Int) : ∀ r, val (xs ++ List.replicate r 0) = val xs
  | 0 => by simp
  | r + 1 => by
    rw [List.replicate_succ', ← List.append_assoc, val_append, val_pad xs r]
    simp
theorem inw_pad {xs : List Int} (h : InW xs) (r : Nat) : InW (xs ++ List.replicate r 0) := by
  induction r with
  | zero => simpa using h
  | succ r ih =>
    rw [List.replicate_succ', ← List.append_assoc]
    exact ih.append 0 (by decide)
theorem dv_start {xs ys zs us : List Int} {n m s : Nat} (hx : xs.length = n + m) (h2 : 2 ≤ n) (hs : s < 64) (wx : InW xs) (hu : val us = val xs * 2 ^ s) (wu : InW us) (hul : us.length = n + m + 1) (hV : 9223372036854775808 * pw (n - 1) ≤ val ys * 2 ^ s) :
    DvIn n m (val xs * 2 ^ s) (val ys * 2 ^ s) zs us (List.replicate (m + 1) 0) (m + 1) := by
  have hk := two_pos s
  have h1 := (vt_nonneg wx (n + m)).2
  have e : val xs = vt xs (n + m) := by unfold val; rw [hx]
  have hp := pw_pos (n + m)
  have hs2 : (2 : Int) ^ s ≤ 9223372036854775808 := by
    obtain ⟨d, hd⟩ : ∃ d, 63 = s + d := ⟨63 - s, by omega⟩
    have : (2 : Int) ^ 63 = 2 ^ s * 2 ^ d := by rw [hd, Int.pow_add]
    have := two_pos d
    have h3 : (2 : Int) ^ s * 1 ≤ 2 ^ s * 2 ^ d := Int.mul_le_mul_of_nonneg_left (by omega) (by omega)
    have h4 : (2 : Int) ^ 63 = 9223372036854775808 := by decide
    omega
  refine ⟨Nat.le_refl _, hul, by simp, wu, InW.replicate _, fun p _ => el_replicate _ _, ?_, ?_⟩
  · have a1 : val xs * 2 ^ s < pw (n + m) * 2 ^ s := Int.mul_lt_mul_of_pos_right (by omega) hk
    have a2 : pw (n + m) * 2 ^ s ≤ pw (n + m) * 9223372036854775808 := Int.mul_le_mul_of_nonneg_left hs2 (by omega)
    have a3 : 9223372036854775808 * pw (n - 1) * pw (m + 1) ≤ val ys * 2 ^ s * pw (m + 1) := Int.mul_le_mul_of_nonneg_right hV (Int.le_of_lt (pw_pos _))
    have a4 : 9223372036854775808 * pw (n - 1) * pw (m + 1) = pw (n + m) * 9223372036854775808 := by
      rw [Int.mul_assoc, ← pw_add, show n - 1 + (m + 1) = n + m by omega, Int.mul_comm]
    rw [hu]
    omega
  · rw [val_zeros, hu]; omega
theorem sizeU64 : (Tryz.prog.info? 191).map (·.size) = some 1 := by kernel_rfl
structure DlIn (w : World) (g gq vb vo n m : Nat) (N V : Int) (zs us qs : List Int) (k : Nat) (wr : World) : Prop where
  dv : DvIn n m N V zs us qs k
  ou : OwnI wr w.heap.size 191 .u64 (.slice (some ⟨g, 0, none⟩) (n + m + 1) (n + m + 1)) us
  oq : OwnI wr w.heap.size 191 .u64 (.slice (some ⟨gq, 0, none⟩) (m + 1) (m + 1)) qs
  v : ∀ i, i < n → wr.cell? ⟨vb, vo + i, none⟩ = some (.int .u64 (el zs i))
  hvb : vb < wr.heap.size
  below : Below w.heap.size w wr
theorem OwnI.besides {w w1 : World} {base e g gq n c : Nat} {k : IntKind} {xs : List Int} (h : OwnI w base e k (.slice (some ⟨gq, 0, none⟩) n c) xs) (hb : Besides g w w1) (hne : gq ≠ g) : OwnI w1 base e k (.slice (some ⟨gq, 0, none⟩) n c) xs := by
  refine ⟨h.1, ?_⟩
  rcases h.2 with h' | ⟨g', cap, cur, e', hbg, hh, r⟩
  · exact .inl h'
  · have e2 := e'
    simp only [Value.slice.injEq, Option.some.injEq, Addr.mk.injEq, and_true] at e2
    obtain ⟨rfl, _, _⟩ := e2
    exact .inr ⟨_, cap, cur, e', hbg, by rw [hb.block _ (lt_of_heap hh) hne]; exact hh, r⟩
theorem OwnI.setOther {w : World} {base e g gq n c i : Nat} {k : IntKind} {xs : List Int} (h : OwnI w base e k (.slice (some ⟨gq, 0, none⟩) n c) xs) (hne : gq ≠ g) (u : Value) : OwnI (w.setCell ⟨g, i, none⟩ u) base e k (.slice (some ⟨gq, 0, none⟩) n c) xs :=
  h.besides ((Besides.refl g w).set (b := g) (p := ⟨g, i, none⟩) (.inr rfl) u) hne
theorem DlIn.next {w wr wr1 : World} {g gq vb vo n m j : Nat} {N V d : Int} {zs us qs us1 : List Int} (h : DlIn w g gq vb vo n m N V zs us qs (j + 1) wr) (hb : Besides g wr wr1) (ho : OwnI wr1 w.heap.size 191 .u64 (.slice (some ⟨g, 0, none⟩) (n + m + 1) (n + m + 1)) us1)
    (dv : DvIn n m N V zs us1 (qs.set j d) j) (hgq : g ≠ gq) (hvg : vb ≠ g) (hvq : vb ≠ gq) (hg : w.heap.size ≤ g) (hq : w.heap.size ≤ gq) :
    DlIn w g gq vb vo n m N V zs us1 (qs.set j d) j (wr1.setCell ⟨gq, j, none⟩ (.int .u64 d)) :=
  ⟨dv, ho.setOther hgq _, (h.oq.besides hb (fun e => hgq e.symm)).set j d, fun i hi => by
    rw [World.cell?_setCell_other _ _ _ _ (by intro e; simp at e <;> omega)]
    exact (hb.cell h.hvb hvg).trans (h.v i hi), by simpa using Nat.lt_of_lt_of_le h.hvb hb.size,
    (h.below.trans (hb.below hg h.below.size)).setCell (p := ⟨gq, j, none⟩) hq _⟩
theorem DlIn.store {w wr W : World} {g gq vb vo n m j : Nat} {N V d : Int} {zs us qs us1 : List Int} (h : DlIn w g gq vb vo n m N V zs us qs (j + 1) wr) (hV : 0 < V) (hb : Besides g wr W) (ho : OwnI W w.heap.size 191 .u64 (.slice (some ⟨g, 0, none⟩) (n + m + 1) (n + m + 1)) us1)
    (hl : us1.length = us.length) (hz : InW us1) (he : val us1 = val us - d * V * pw j) (hq : trueQ us V j ≤ d) (hd : 0 ≤ d ∧ d < 18446744073709551616) (hgq : g ≠ gq) (hvg : vb ≠ g) (hvq : vb ≠ gq) (hgw : w.heap.size ≤ g) (hqw : w.heap.size ≤ gq) :
    W.cell? ⟨gq, j, none⟩ = some (.int .u64 (el qs j)) ∧ W.frozen? ⟨gq, j, none⟩ = false ∧ DlIn w g gq vb vo n m N V zs us1 (qs.set j d) j (W.setCell ⟨gq, j, none⟩ (.int .u64 d)) := by
  have o := h.oq.besides hb (fun e => hgq e.symm)
  have hk := h.dv.hk
  have hql := h.dv.ql
  exact ⟨o.cell j (by omega), o.frozen j, h.next hb ho (h.dv.next hV hl hz he hq hd) hgq hvg hvq hgw hqw⟩
theorem NegAt.less {n j : Nat} {V d : Int} {us us3 us4 : List Int} (h : NegAt n j V us us3 d) (hl : us4.length = us.length) (hz : InW us4) (hs : ∀ p, (p < j ∨ j + n + 1 ≤ p) → el us4 p = el us3 p) (he : val us4 = val us3 + V * pw j - (if false = true then 1 else 0) * pw (j + n + 1)) : NegAt n j V us us4 (d - 1) := by
  refine ⟨hl, hz, fun p hp => by rw [hs p (.inr hp)]; exact h.up p hp, ?_⟩
  have h2 := h.eq
  simp at he
  rw [he, h2, Int.sub_add_cancel, Int.add_mul, Int.add_mul, Int.one_mul]
  omega
theorem NegAt.stop {n j : Nat} {V d : Int} {us us3 us4 : List Int} (h : NegAt n j V us us3 d) (he : val us4 = val us3 + V * pw j - (if true = true then 1 else 0) * pw (j + n + 1)) : val us4 = val us - d * V * pw j := by
  have h2 := h.eq
  simp at he
  rw [he, h2, Int.add_mul, Int.add_mul, Int.one_mul]
  omega
def NbRel (w wr : World) (g n m j : Nat) (V : Int) (us : List Int) (d : Value) (w1 : World) : Prop :=
  ∃ (dv : Int) (us1 : List Int), d = .int .u64 dv ∧ dv < 18446744073709551616 ∧ NegAt n j V us us1 dv ∧ OwnI w1 w.heap.size 191 .u64 (.slice (some ⟨g, 0, none⟩) (n + m + 1) (n + m + 1)) us1 ∧ Besides g wr w1
def DlRel (w : World) (g gq vb vo n m : Nat) (N V : Int) (zs : List Int) (j : Value) (wr : World) : Prop := ∃ k us qs, j = .int .i64 (down k) ∧ DlIn w g gq vb vo n m N V zs us qs k wr
set_option maxHeartbeats 2000000 in
set_option maxRecDepth 100000 in
theorem divide_long (A B : Option Addr) (ca cb n m : Nat) (xs ys : List Int) (w : World) (hlx : xs.length ≤ 1099511627775) (hxn : xs.length = n + m) (hyn : ys.length = n) (h2 : 2 ≤ n) (ha : Nat64 Bs w (.slice A xs.length ca) xs) (hb : Nat64 Bs w (.slice B ys.length cb) ys) (tx : Trim xs) (ty : Trim ys) (hge : val ys ≤ val xs) :
    Calls Tryz.prog 131 #[.slice A (n + m) ca, .slice B n cb] w (Gives w fun v w' => Quot Bs (val xs) (val ys) v w') := by
  have hrx : Rd Bs w .u64 191 A xs := by obtain ⟨⟨A', c', e, h1, h2, h3⟩, _⟩ := ha; simp only [Value.slice.injEq] at e; obtain ⟨rfl, _, rfl⟩ := e; exact h3
  have hry : Rd Bs w .u64 191 B ys := by obtain ⟨⟨A', c', e, h1, h2, h3⟩, _⟩ := hb; simp only [Value.slice.injEq] at e; obtain ⟨rfl, _, rfl⟩ := e; exact h3
  have hc0 := compare_any A B ca cb xs ys w (by omega) (by omega) hrx hry ha.inw hb.inw tx ty
  have hcv : 0 ≤ cmpI (val xs) (val ys) := by unfold cmpI; split <;> (try split) <;> omega
  obtain ⟨bb, bo, rfl, hbb, hcB⟩ := nat64_plain hb (by omega)
  have hY := hcB (n - 1) (by omega)
  have htop : 0 < el ys (n - 1) := by
    have h0 := (hb.inw (n - 1)).1
    rcases ty with h | h
    · rw [h] at hyn; simp at hyn; omega
    · rw [hyn] at h; omega
  obtain ⟨s, hs, es, hlo, hhi⟩ := lz_spec (el ys (n - 1)) htop (hb.inw _).2
  have HLZ := Lib.hid (fun W => (Tryz.bits_LeadingZeros64 (el ys (n - 1)) W (by omega) (by have := (hb.inw (n - 1)).2; omega)).mono (R' := fun e w' => e = .returned (.int .i64 s) ∧ W = w') fun e w' h => by rw [es] at h; exact ⟨h.1, h.2.symm⟩)
  have ha' := ha
  have hb' := hb
  rw [hxn] at ha'
  rw [hyn] at hb'
  have HGE := Lib.hid hge
  have HA := Lib.hid ha'
  have HB := Lib.hid hb'
  rw [hxn, hyn] at hc0
  have HC := Lib.hid hc0
  generalize cmpI (val xs) (val ys) = cv at hcv HC
  have hn1 : ((n : Int) == 1) = false := by simp; omega
  have hnm : (n : Int) + (m : Int) - (n : Int) = (m : Int) := by omega
  have hnn : (n : Int) - 1 = ((n - 1 : Nat) : Int) := by omega
  have HN := Lib.hid (And.intro hxn hyn)
  have HF := Lib.hid (fun zs wz tz hv => dv_fix (zs := zs) hyn h2 hb.inw wz tz hv hlo hhi)
  have hnb : n + m ≤ 1099511627775 := by omega
  have hn0 : n - 1 < n := by omega
  clear ha' hb' ha hb tx ty hge hrx hry hcB hc0 htop es hlo hhi hxn hyn
  go_enter Tryz.func131, Tryz.ntmps131
  go_wp2_with fail
  refine HC.out.mono ?_
  rintro e w1 ⟨rfl, q, rfl⟩
  go_wp2_with fail
  refine (HLZ.out _).mono ?_
  rintro e w1 ⟨rfl, rfl⟩
  go_wp2_with fail
  refine (left_any (Bs := Bs) _ ys s _ (HB.out.below (below_drewN (below_refl w) q)) (by rw [HN.out.2]; omega) hs).mono ?_
  rintro e w2 ⟨lv, rfl, ⟨zs, hz, hzv, _, hzt⟩, hb2⟩
  obtain ⟨hfx, hgeV⟩ := HF.out zs hz.inw hzt hzv
  obtain ⟨⟨LA, lc, rfl, hlc1, hlc2, hlr⟩, hzw⟩ := hz
  have hzl := hfx.yl
  rw [hzl]
  rw [hzl] at hlc1
  obtain ⟨vb, vo, rfl, hvb, hvc⟩ := hlr.plain (by omega)
  rw [hzl] at hvc
  have HFX := Lib.hid (And.intro hfx hgeV)
  have HVC := Lib.hid hvc
  have HB2 := Lib.hid (below_then (below_drewN (below_refl w) q) (Nat.le_refl _) hb2)
  have hs2 := HB2.out.size
  clear hfx hgeV hzv hzt hb2 hlr hzw hzl hvc
  go_wp2_with (at_make; refine makeI _ rfl _ _ _ rfl w.heap.size 191 .u64 8 Tryz.underlying200 infoU64 _ _ (n + m + 1) (n + m + 1) rfl rfl (by omega) (by omega) (by omega) (by omega) (by omega) (by omega) ?_)
  intro w3 hO hG hS
  have hB3 := HB2.out.grown hG (by omega) (fun k hk => by simp at hk)
  have HO3 := Lib.hid hO
  have HB3 := Lib.hid hB3
  have hb23 := Lib.hid ((below_refl w2).grown hG (Nat.le_refl _) (fun k hk => by simp at hk))
  have hs3 : w2.heap.size < w3.heap.size := by omega
  clear hO hG hS hB3
  go_wp2_with fail
  refine (left_any (Bs := Bs) _ xs s _ (HA.out.below HB3.out) (by omega) hs).mono ?_
  rintro e w4 ⟨lv2, rfl, ⟨us0, hu, huv, hul0, _⟩, hb4⟩
  obtain ⟨⟨LA2, lc2, rfl, hmc1, hmc2, hmr⟩, huw⟩ := hu
  have hul1 : us0.length ≤ n + m + 1 := by rw [HN.out.1] at hul0; exact hul0
  have hu0 : 0 < us0.length := by
    rcases Nat.eq_zero_or_pos us0.length with h | h
    · rw [List.eq_nil_of_length_eq_zero h, val_nil] at huv
      have hk := two_pos s
      have h1 := HFX.out.2
      have h2 := pw_pos (n - 1)
      have h3 := HGE.out
      have h4 : val ys * 2 ^ s ≤ val xs * 2 ^ s := Int.mul_le_mul_of_nonneg_right h3 (by omega)
      omega
    · exact h
  obtain ⟨sb, so, rfl, hsb, hsc⟩ := hmr.plain hu0
  have HSC := Lib.hid hsc
  have HUV := Lib.hid (And.intro huv huw)
  have HO4 := Lib.hid (HO3.out.below hb4)
  have HB4 := Lib.hid (below_then HB3.out HB3.out.size hb4)
  have hb24 := Lib.hid (below_then hb23.out hb23.out.size hb4)
  have hs4 := Nat.lt_of_lt_of_le hs3 hb4.size
  clear huv huw hsc hb4 hmr hul0 hmc2
  go_wp2_with (refine copyI (o := ⟨some 60, _, _, _, _, _⟩) w.heap.size rfl _ _ 200 200 191 .u64 rfl Tryz.underlying200 sizeU64 w2.heap.size (n + m + 1) (List.replicate (n + m + 1) 0) (n + m + 1) rfl HO4.out sb so us0.length lc2 us0 rfl rfl hul1 HSC.out ?_)
  intro w5 hO5 hb5
  have hul : (us0 ++ List.replicate (n + m + 1 - us0.length) 0).length = n + m + 1 := by rw [List.length_append, List.length_replicate]; omega
  have hST := Lib.hid (dv_start (zs := zs) HN.out.1 h2 hs HA.out.inw (by rw [val_pad]; exact HUV.out.1) (inw_pad HUV.out.2 _) hul HFX.out.2)
  generalize us0 ++ List.replicate (n + m + 1 - us0.length) 0 = us1 at hO5 hST hul
  have HO5 := Lib.hid hO5
  have hv5 : ∀ i, i < n → w5.cell? ⟨vb, vo + i, none⟩ = some (.int .u64 (el zs i)) := fun i hi => ((hb5.cell (by omega) (by omega)).trans (hb24.out.cell (p := ⟨vb, vo + i, none⟩) hvb)).trans (HVC.out i hi)
  have HV5 := Lib.hid hv5
  have HB5 := Lib.hid (HB4.out.trans (hb5.below (B := w.heap.size) (by omega) HB4.out.size))
  have hs5 := Nat.lt_of_lt_of_le hs4 hb5.size
  clear hO5 hb5 hv5 hul
  go_wp2_with (at_make; refine makeI _ rfl _ _ _ rfl w.heap.size 191 .u64 8 Tryz.underlying200 infoU64 _ _ (m + 1) (m + 1) rfl rfl (by omega) (by omega) (by omega) (by omega) (by omega) (by omega) ?_)
  intro w6 hO hG hS
  have hb56 := (below_refl w5).grown hG (Nat.le_refl _) (fun k hk => by simp at hk)
  have HQ6 := Lib.hid hO
  have HO6 := Lib.hid (HO5.out.below hb56)
  have HB6 := Lib.hid (below_then HB5.out HB5.out.size hb56)
  have HV6 := Lib.hid (fun i hi => (hb56.cell (p := ⟨vb, vo + i, none⟩) (by show vb < _; omega)).trans (HV5.out i hi))
  have hgq : w2.heap.size ≠ w5.heap.size := by omega
  have hvb6 : vb < w6.heap.size := by omega
  have hvg : vb ≠ w2.heap.size := by omega
  have hvq : vb ≠ w5.heap.size := by omega
  have hww : w.heap.size ≤ w2.heap.size ∧ w.heap.size ≤ w5.heap.size := by omega
  clear hO hG hS hb56 hs5 hs4 hs3
  go_wp2_with fail
  generalize w2.heap.size = g at *
  generalize w5.heap.size = gq at *
  clear HLZ HA HB HC HF HVC HO3 HO4 HO5 HV5 hb23 hb24 HB3 HB4 HB5 HB2 HUV HSC hY hcv
  go_loopw [14] (fun j wr => DlRel w g gq vb vo n m (val xs * 2 ^ s) (val ys * 2 ^ s) zs j wr) (fun j _ => (intOf j + 1).toNat)
  case atStart => exact ⟨m + 1, us1, _, rfl, hST.out, HO6.out, HQ6.out, HV6.out, hvb6, HB6.out⟩
  case round =>
    obtain ⟨k, us, qs, rfl, hin⟩ := hrel
    have HI := Lib.hid hin
    cases k with
    | zero =>
      simp only [down]
      have hql := hin.dv.ql
      have hul := hin.dv.ul
      have HTQ := Lib.hid (fun W (h : Nat64 Bs W (.slice (some ⟨gq, 0, none⟩) (m + 1) (m + 1)) qs) => trim_any (Bs := Bs) (.slice (some ⟨gq, 0, none⟩) (m + 1) (m + 1)) qs W h)
      have HTU := Lib.hid (fun W (h : Nat64 Bs W (.slice (some ⟨g, 0, none⟩) (n + m + 1) (n + m + 1)) us) => trim_any (Bs := Bs) (.slice (some ⟨g, 0, none⟩) (n + m + 1) (n + m + 1)) us W h)
      have HQ := Lib.hid (nat64_of_own (Bs := Bs) hin.oq hin.dv.qw)
      have HU := Lib.hid (nat64_of_own (Bs := Bs) hin.ou hin.dv.uw)
      have HL := Lib.hid (And.intro hql hul)
      clear hin hql hul
      go_wp2_with fail
      refine (HTQ.out _ HQ.out).mono ?_
      rintro e w7 ⟨vq, rfl, hq', rfl⟩
      have HQ' := Lib.hid hq'
      clear hq'
      go_wp2_with fail
      refine (HTU.out _ HU.out).mono ?_
      rintro e w7 ⟨vu, rfl, hu', rfl⟩
      have HU' := Lib.hid hu'
      clear hu'
      go_wp2_with fail
      refine (right_any (Bs := Bs) vu (stripped us) s _ HU'.out (by rw [stripped_length]; have := strip_le us us.length; have := HL.out.2; omega) hs).mono ?_
      rintro e w8 ⟨rv, rfl, ⟨rs, hr, hrv, _, hrt⟩, hb8⟩
      have HR := Lib.hid (And.intro hr (And.intro hrv hrt))
      have HB8 := Lib.hid hb8
      clear hr hrv hrt hb8
      go_wp2
      go_ret2
      have hsy : val ys * 2 ^ s = val ys * 2 ^ s := rfl
      have hvp : 0 < val ys := by
        have h1 := HFX.out.1.V0
        have h2 := two_pos s
        rcases Int.lt_or_le 0 (val ys) with h | h
        · exact h
        · have : val ys * 2 ^ s ≤ 0 * 2 ^ s := Int.mul_le_mul_of_nonneg_right h (by omega)
          omega
      have hdn := HI.out.dv.done rfl hvp (by have := HGE.out; omega)
      exact ⟨_, rfl, ⟨_, _, _, rs, rfl, HQ'.out.below HB8.out, HR.out.1, by rw [val_stripped]; exact hdn.1, by rw [HR.out.2.1, val_stripped]; exact hdn.2, trim_stripped _, HR.out.2.2⟩, below_then HI.out.below HI.out.below.size HB8.out⟩
    | succ j =>
      simp only [down]
      have hjm : j ≤ m := by have := hin.dv.hk; omega
      have hul := hin.dv.ul
      have hzl := HFX.out.1.yl
      have u0 := hin.ou.cell (j + n) (by omega)
      have u1 := hin.ou.cell (j + n - 1) (by omega)
      have u2 := hin.ou.cell (j + n - 2) (by omega)
      have v1 := hin.v (n - 1) (by omega)
      have v2 := hin.v (n - 2) (by omega)
      have HST := Lib.hid (dv_guess HFX.out.1 hin.dv)
      have HG := Lib.hid (fun W => guess_any (el us (j + n)) (el us (j + n - 1)) (el us (j + n - 2)) (el zs (n - 1)) (el zs (n - 2)) W (hin.dv.uw _).1 (hin.dv.uw _).1 (hin.dv.uw _).2 (hin.dv.uw _).1 (hin.dv.uw _).2 HFX.out.1.top (HFX.out.1.yw _).2 (HFX.out.1.yw _).1 (HFX.out.1.yw _).2)
      have HGO := Lib.hid (guess_ok (u2 := el us (j + n)) (u1 := el us (j + n - 1)) (u0 := el us (j + n - 2)) (v1 := el zs (n - 1)) (v0 := el zs (n - 2)) (hin.dv.uw _).1 (hin.dv.uw _).1 (hin.dv.uw _).2 (hin.dv.uw _).1 (hin.dv.uw _).2 HFX.out.1.top (HFX.out.1.yw _).2 (HFX.out.1.yw _).1)
      generalize guessV (el us (j + n)) (el us (j + n - 1)) (el us (j + n - 2)) (el zs (n - 1)) (el zs (n - 2)) = G at HST HG HGO
      have hjn : j + n < n + m + 1 := by omega
      have hjn1 : j + n - 1 < n + m + 1 := by omega
      have hjn2 : j + n - 2 < n + m + 1 := by omega
      have hn2 : n - 2 < n := by omega
      have a1 : IntKind.i64.wrap ((j : Int) + (n : Int)) = ((j + n : Nat) : Int) := by rw [IntWalk.i64_in _ (by omega)]; omega
      have a2 : IntKind.i64.wrap (((j + n : Nat) : Int) - 1) = ((j + n - 1 : Nat) : Int) := by rw [IntWalk.i64_in _ (by omega)]; omega
      have a3 : IntKind.i64.wrap (((j + n : Nat) : Int) - 2) = ((j + n - 2 : Nat) : Int) := by rw [IntWalk.i64_in _ (by omega)]; omega
      have a4 : IntKind.i64.wrap ((n : Int) - 1) = ((n - 1 : Nat) : Int) := by rw [IntWalk.i64_in _ (by omega)]; omega
      have a5 : IntKind.i64.wrap ((n : Int) - 2) = ((n - 2 : Nat) : Int) := by rw [IntWalk.i64_in _ (by omega)]; omega
      clear hin hul hzl
      go_wp2_with fail
      go_quiet ((go_at_call 156; exact Calls.quiet_of (HG.out _)))
      clear a1 a2 a3 a4 a5 u0 u1 u2 v1 v2 hjn hjn1 hjn2 hn2
      go_wp2_with fail
      rw [show j + n + 1 - j = n + 1 by omega]
      have hou := HI.out.ou
      rw [← HI.out.dv.ul] at hou
      refine (takeAway_any w.heap.size g (n + m + 1) (n + m + 1 - j) j n vb vo lc G us zs (wr.drewN nq) (by rw [HI.out.dv.ul]; exact HI.out.ou.drewN nq) (by rw [HI.out.dv.ul]; omega) HFX.out.1.yl (by rw [HI.out.dv.ul]; omega) (by omega) HI.out.hvb hvg HI.out.v hlc1 ⟨HGO.out.1, HGO.out.2.1⟩ HI.out.dv.uw HFX.out.1.yw).mono ?_
      rintro e w7 ⟨neg, us2, rfl, hTk⟩
      have hul2 := HI.out.dv.ul
      have hown : OwnI w7 w.heap.size 191 .u64 (.slice (some ⟨g, 0, none⟩) (n + m + 1) (n + m + 1)) us2 := by
        have := hTk.own
        rw [hul2] at this
        exact this
      have HOW := Lib.hid hown
      have hbs := (((Besides.refl g wr).drewN nq).trans hTk.oth : Besides g wr w7)
      have HBS := Lib.hid hbs
      have HTK := Lib.hid (And.intro hTk.hl (And.intro hTk.inw (And.intro hTk.same hTk.eq)))
      clear hTk hou hown hbs
      have hgs := HST.out
      cases neg with
      | false =>
        obtain ⟨hc, hz, hD⟩ := HI.out.store (d := G) HFX.out.1.V0 HBS.out HOW.out HTK.out.1 HTK.out.2.1 (by have := HTK.out.2.2.2; rw [HFX.out.1.yv] at this; simpa using this) hgs.le ⟨HGO.out.1, HGO.out.2.1⟩ hgq hvg hvq hww.1 hww.2
        have HD := Lib.hid hD
        clear hD hgs
        go_wp2
        go_roundw
        case rel => exact ⟨j, _, _, by rw [down_prev], HD.out⟩
        case measure => simp [intOf]
      | true =>
        have hV := HFX.out.1.V0
        have hng : NegAt n j (val ys * 2 ^ s) us us2 (G - 1) := ⟨HTK.out.1, HTK.out.2.1, fun p hp => by rw [HTK.out.2.2.1 p (.inr hp)]; exact hgs.up p hp, by have := HTK.out.2.2.2; rw [HFX.out.1.yv] at this; rw [Int.sub_add_cancel]; simpa using this⟩
        have hg1 : 1 ≤ G := by have := hng.ge hV; have := hgs.q0; omega
        have hwr : IntKind.u64.wrap (G - 1) = G - 1 := by rw [IntKind.wrap_u64]; have := HGO.out.2.1; omega
        have HNG := Lib.hid hng
        have hGB := Lib.hid HGO.out.2.1
        clear hng hgs hV
        go_wp2_with fail
        go_loopw [15] (fun d W => NbRel w wr g n m j (val ys * 2 ^ s) us d W) (fun d _ => (intOf d).toNat)
        case atStart => exact ⟨G - 1, us2, rfl, by have := hGB.out; omega, HNG.out, HOW.out, HBS.out⟩
        case round =>
          obtain ⟨d, us3, rfl, hdB, hnd, ho3, hb3⟩ := hrel
          have HNB := Lib.hid hnd
          have HO3 := Lib.hid ho3
          have HB3 := Lib.hid hb3
          have hsz := hb3.size
          clear hnd ho3 hb3
          have hl3 : us3.length = n + m + 1 := HNB.out.zl.trans HI.out.dv.ul
          go_wp2_with fail
          rw [show j + n + 1 - j = n + 1 by omega]
          refine (putBack_any w.heap.size g (n + m + 1) (n + m + 1 - j) j n vb vo lc us3 zs _ (by rw [hl3]; exact HO3.out) (by omega) HFX.out.1.yl (by omega) (by omega) (by have := HI.out.hvb; omega) hvg (fun i hi => (HB3.out.cell HI.out.hvb hvg).trans (HI.out.v i hi)) hlc1 HNB.out.zw HFX.out.1.yw).mono ?_
          rintro e w8 ⟨over, us4, rfl, hPb⟩
          have hown : OwnI w8 w.heap.size 191 .u64 (.slice (some ⟨g, 0, none⟩) (n + m + 1) (n + m + 1)) us4 := by
            have := hPb.own
            rw [hl3] at this
            exact this
          have HOW4 := Lib.hid hown
          have HBS4 := Lib.hid (HB3.out.trans hPb.oth)
          have HPB := Lib.hid (And.intro (hPb.hl.trans HNB.out.zl) (And.intro hPb.inw (And.intro hPb.same hPb.eq)))
          clear hPb hown
          have hV := HFX.out.1.V0
          cases over with
          | false =>
            have hng : NegAt n j (val ys * 2 ^ s) us us4 (d - 1) := HNB.out.less HPB.out.1 HPB.out.2.1 HPB.out.2.2.1 (by have h1 := HPB.out.2.2.2; rw [HFX.out.1.yv] at h1; exact h1)
            have hd1 : 1 ≤ d := by have := hng.ge hV; have := HST.out.q0; omega
            have hwr1 : IntKind.u64.wrap (d - 1) = d - 1 := by rw [IntKind.wrap_u64]; omega
            have HNG4 := Lib.hid hng
            clear hng hV
            go_wp2
            go_roundw
            case rel => exact ⟨d - 1, us4, rfl, by omega, HNG4.out, HOW4.out, HBS4.out⟩
            case measure => simp [intOf]; omega
          | true =>
            have hq := HNB.out.ge hV
            obtain ⟨hc, hz, hD⟩ := HI.out.store (d := d) hV HBS4.out HOW4.out HPB.out.1 HPB.out.2.1 (HNB.out.stop (by have h1 := HPB.out.2.2.2; rw [HFX.out.1.yv] at h1; exact h1)) hq ⟨by have := HST.out.q0; omega, hdB⟩ hgq hvg hvq hww.1 hww.2
            have HD := Lib.hid hD
            clear hD hV hq
            go_wp2
            go_roundw
            case rel => exact ⟨j, _, _, by rw [down_prev], HD.out⟩
            case measure => simp [intOf]
end Go.Proofs.YtoflmheodiajaaaGreatDoor
