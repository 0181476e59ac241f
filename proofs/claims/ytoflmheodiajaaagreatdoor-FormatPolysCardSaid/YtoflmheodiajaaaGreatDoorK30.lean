import Derived.Test.YtoflmheodiajaaaGreatDoorK29
namespace Go.Proofs.YtoflmheodiajaaaGreatDoor.H
open Go.RowKit
set_option linter.unusedVariables false
set_option linter.unusedSimpArgs false
variable {Bs : Nat}
def rgWord (xs : List Int) (s j : Nat) : Int := el xs j / 2 ^ s + (el xs (j + 1) * 2 ^ (32 - s)) % 4294967296
theorem rg_low (x : Int) (s : Nat) (hs : s ≤ 32) : (x * 2 ^ (32 - s)) % 4294967296 = x % 2 ^ s * 2 ^ (32 - s) := by
  have := shl_low x (32 - s) (by omega)
  rw [show 32 - (32 - s) = s by omega] at this
  exact this
theorem rg_or {xs : List Int} (wx : InW xs) (s j : Nat) (hs : s < 32) (h0 : 0 < s) : bits .or .u32 (el xs j / 2 ^ s) ((el xs (j + 1) * 2 ^ (32 - s)) % 4294967296) = rgWord xs s j ∧ 0 ≤ rgWord xs s j ∧ rgWord xs s j < 4294967296 := by
  have hx := wx j
  have hy := wx (j + 1)
  have hk := two_pos s
  have h1 : 0 ≤ el xs j / 2 ^ s := Int.ediv_nonneg hx.1 (by omega)
  have h2 : el xs j / 2 ^ s < 2 ^ (32 - s) := by
    rw [Int.ediv_lt_iff_lt_mul hk, Int.mul_comm, two_split s (by omega)]; exact hx.2
  have := or_shl (el xs j / 2 ^ s) (el xs (j + 1)) (32 - s) (by omega) h1 h2 hy.1
  have hm := Int.emod_nonneg (el xs (j + 1) * 2 ^ (32 - s)) (show (4294967296 : Int) ≠ 0 by decide)
  unfold rgWord
  exact ⟨this.1, by omega, this.2⟩
theorem rg_zero (xs : List Int) (wx : InW xs) (j : Nat) : rgWord xs 0 j = el xs j := by
  unfold rgWord
  rw [rg_low _ 0 (by decide), Int.pow_zero, Int.ediv_one, Int.emod_one]
  omega
theorem rg_sum {xs zs : List Int} (s : Nat) (hs : s ≤ 32) : ∀ k, (∀ j, j < k → el zs j = rgWord xs s j) → 2 ^ s * vt zs k + el xs 0 % 2 ^ s = vt xs k + el xs k % 2 ^ s * pw k
  | 0, _ => by simp [vt, pw_zero]
  | k + 1, h => by
    have ih := rg_sum (xs := xs) (zs := zs) s hs k (fun j hj => h j (by omega))
    have hw := h k (by omega)
    unfold rgWord at hw
    rw [rg_low _ s hs] at hw
    have hd := Int.mul_ediv_add_emod (el xs k) (2 ^ s)
    have hsp := two_split s hs
    simp only [vt]
    rw [hw, pw_succ]
    generalize el xs k / 2 ^ s = q at *
    generalize el xs k % 2 ^ s = r at *
    generalize el xs (k + 1) % 2 ^ s = t at *
    generalize el xs 0 % 2 ^ s = r0 at *
    generalize (2 : Int) ^ (32 - s) = K' at *
    generalize (2 : Int) ^ s = K at *
    have e1 : K * (vt zs k + (q + t * K') * pw k) = K * vt zs k + K * q * pw k + t * (K * K') * pw k := by grind
    have e2 : el xs k * pw k = (K * q + r) * pw k := by rw [hd]
    rw [e1, hsp]
    grind
theorem rg_val {xs zs : List Int} (wx : InW xs) (s : Nat) (hs : s ≤ 32) (hl : zs.length = xs.length) (h : ∀ j, j < xs.length → el zs j = rgWord xs s j) : val zs = val xs / 2 ^ s := by
  have e := rg_sum (xs := xs) (zs := zs) s hs xs.length h
  rw [el_ge xs xs.length (Nat.le_refl _), Int.zero_emod, Int.zero_mul, Int.add_zero] at e
  have hk := two_pos s
  have h0 := Int.emod_nonneg (el xs 0) (show (2 : Int) ^ s ≠ 0 by omega)
  have h1 := Int.emod_lt_of_pos (el xs 0) hk
  have := (Int.ediv_emod_unique (a := val xs) (b := 2 ^ s) (r := el xs 0 % 2 ^ s) (q := vt zs xs.length) hk).2 ⟨by unfold val; omega, h0, h1⟩
  unfold val at *
  rw [hl]
  exact this.1.symm
theorem dv_fix {ys zs : List Int} {n s : Nat} (hn : ys.length = n) (h2 : 2 ≤ n) (wy : InW ys) (wz : InW zs) (tz : Trim zs) (hv : val zs = val ys * 2 ^ s) (hlo : 2147483648 ≤ el ys (n - 1) * 2 ^ s) (hhi : el ys (n - 1) * 2 ^ s < 4294967296) :
    DvFix n (val ys * 2 ^ s) zs ∧ 2147483648 * pw (n - 1) ≤ val ys * 2 ^ s := by
  have hk := two_pos s
  have hp := pw_pos (n - 1)
  have ev : val ys = vt ys (n - 1) + el ys (n - 1) * pw (n - 1) := by
    unfold val
    rw [hn, show n = (n - 1) + 1 by omega]
    rfl
  have hl := vt_nonneg wy (n - 1)
  have e2 : val ys * 2 ^ s = vt ys (n - 1) * 2 ^ s + (el ys (n - 1) * 2 ^ s) * pw (n - 1) := by rw [ev]; grind
  have h3 : 0 ≤ vt ys (n - 1) * 2 ^ s := Int.mul_nonneg hl.1 (by omega)
  have h4 : 2147483648 * pw (n - 1) ≤ (el ys (n - 1) * 2 ^ s) * pw (n - 1) := Int.mul_le_mul_of_nonneg_right hlo (by omega)
  have hge : 2147483648 * pw (n - 1) ≤ val ys * 2 ^ s := by omega
  have hltV : val ys * 2 ^ s < pw n := by
    have h5 : vt ys (n - 1) + el ys (n - 1) * pw (n - 1) < (el ys (n - 1) + 1) * pw (n - 1) := by rw [Int.add_mul]; omega
    have h6 : val ys * 2 ^ s < ((el ys (n - 1) + 1) * pw (n - 1)) * 2 ^ s := by rw [ev]; exact Int.mul_lt_mul_of_pos_right h5 hk
    have h7 : (el ys (n - 1) + 1) * 2 ^ s ≤ 4294967296 := by
      rcases Nat.lt_or_ge s 32 with h | h
      ·
        have hsp := two_split s (by omega)
        have h8 : el ys (n - 1) < 2 ^ (32 - s) := by
          rw [← hsp, Int.mul_comm (2 ^ s)] at hhi
          exact Int.lt_of_mul_lt_mul_right hhi (by omega)
        have h9 : (el ys (n - 1) + 1) * 2 ^ s ≤ 2 ^ (32 - s) * 2 ^ s := Int.mul_le_mul_of_nonneg_right (by omega) (by omega)
        rw [Int.mul_comm (2 ^ (32 - s)), hsp] at h9
        exact h9
      · have : (2 : Int) ^ 32 ≤ 2 ^ s := by
          obtain ⟨d, rfl⟩ : ∃ d, s = 32 + d := ⟨s - 32, by omega⟩
          rw [Int.pow_add]
          have := two_pos d
          have : (2 : Int) ^ 32 * 1 ≤ 2 ^ 32 * 2 ^ d := Int.mul_le_mul_of_nonneg_left (by omega) (by decide)
          omega
        have h0 := (wy (n - 1)).1
        rcases Int.lt_or_le 0 (el ys (n - 1)) with h' | h'
        · have : 1 * 2 ^ s ≤ el ys (n - 1) * 2 ^ s := Int.mul_le_mul_of_nonneg_right (by omega) (by omega)
          omega
        · have : el ys (n - 1) = 0 := by omega
          rw [this] at hlo
          simp at hlo
    have h8 : ((el ys (n - 1) + 1) * 2 ^ s) * pw (n - 1) ≤ 4294967296 * pw (n - 1) := Int.mul_le_mul_of_nonneg_right h7 (by omega)
    have h9 : pw n = 4294967296 * pw (n - 1) := by rw [show n = (n - 1) + 1 by omega, pw_succ]; simp
    have h10 : ((el ys (n - 1) + 1) * pw (n - 1)) * 2 ^ s = ((el ys (n - 1) + 1) * 2 ^ s) * pw (n - 1) := by grind
    omega
  have hzl : zs.length = n := by
    have a1 : ¬ zs.length < n := by
      intro h
      have := (vt_nonneg wz zs.length).2
      have := pw_mono (show zs.length ≤ n - 1 by omega)
      unfold val at hv
      unfold val at hge
      omega
    have a2 : ¬ n < zs.length := by
      intro h
      have := tz.ge wz (by omega)
      have := pw_mono (show n ≤ zs.length - 1 by omega)
      omega
    omega
  refine ⟨⟨h2, hzl, wz, hv, ?_⟩, hge⟩
  have h0 := (wz (n - 1)).1
  rcases tz with h | h
  · rw [h] at hzl; simp at hzl; omega
  · rw [hzl] at h; omega
theorem dv_start {xs ys zs us : List Int} {n m s : Nat} (hx : xs.length = n + m) (h2 : 2 ≤ n) (hs : s < 32) (wx : InW xs) (hu : val us = val xs * 2 ^ s) (wu : InW us) (hul : us.length = n + m + 1) (hV : 2147483648 * pw (n - 1) ≤ val ys * 2 ^ s) :
    DvIn n m (val xs * 2 ^ s) (val ys * 2 ^ s) zs us (List.replicate (m + 1) 0) (m + 1) := by
  have hk := two_pos s
  have h1 := (vt_nonneg wx (n + m)).2
  have e : val xs = vt xs (n + m) := by unfold val; rw [hx]
  have hp := pw_pos (n + m)
  have hs2 : (2 : Int) ^ s ≤ 2147483648 := by
    obtain ⟨d, hd⟩ : ∃ d, 31 = s + d := ⟨31 - s, by omega⟩
    have : (2 : Int) ^ 31 = 2 ^ s * 2 ^ d := by rw [hd, Int.pow_add]
    have := two_pos d
    have h3 : (2 : Int) ^ s * 1 ≤ 2 ^ s * 2 ^ d := Int.mul_le_mul_of_nonneg_left (by omega) (by omega)
    have h4 : (2 : Int) ^ 31 = 2147483648 := by decide
    omega
  refine ⟨Nat.le_refl _, hul, by simp, wu, InW.replicate _, fun p _ => el_replicate _ _, ?_, ?_⟩
  · have a1 : val xs * 2 ^ s < pw (n + m) * 2 ^ s := Int.mul_lt_mul_of_pos_right (by omega) hk
    have a2 : pw (n + m) * 2 ^ s ≤ pw (n + m) * 2147483648 := Int.mul_le_mul_of_nonneg_left hs2 (by omega)
    have a3 : 2147483648 * pw (n - 1) * pw (m + 1) ≤ val ys * 2 ^ s * pw (m + 1) := Int.mul_le_mul_of_nonneg_right hV (Int.le_of_lt (pw_pos _))
    have a4 : 2147483648 * pw (n - 1) * pw (m + 1) = pw (n + m) * 2147483648 := by
      rw [Int.mul_assoc, ← pw_add, show n - 1 + (m + 1) = n + m by omega, Int.mul_comm]
    rw [hu]
    omega
  · rw [val_zeros, hu]; omega
structure DlIn (w : World) (g gq vb vo n m : Nat) (N V : Int) (zs us qs : List Int) (k : Nat) (wr : World) : Prop where
  dv : DvIn n m N V zs us qs k
  ou : OwnI wr w.heap.size 143 .u32 (.slice (some ⟨g, 0, none⟩) (n + m + 1) (n + m + 1)) us
  oq : OwnI wr w.heap.size 143 .u32 (.slice (some ⟨gq, 0, none⟩) (m + 1) (m + 1)) qs
  v : ∀ i, i < n → wr.cell? ⟨vb, vo + i, none⟩ = some (.int .u32 (el zs i))
  hvb : vb < wr.heap.size
  below : Below w.heap.size w wr
theorem DlIn.next {w wr wr1 : World} {g gq vb vo n m j : Nat} {N V d : Int} {zs us qs us1 : List Int} (h : DlIn w g gq vb vo n m N V zs us qs (j + 1) wr) (hb : Besides g wr wr1) (ho : OwnI wr1 w.heap.size 143 .u32 (.slice (some ⟨g, 0, none⟩) (n + m + 1) (n + m + 1)) us1)
    (dv : DvIn n m N V zs us1 (qs.set j d) j) (hgq : g ≠ gq) (hvg : vb ≠ g) (hvq : vb ≠ gq) (hg : w.heap.size ≤ g) (hq : w.heap.size ≤ gq) :
    DlIn w g gq vb vo n m N V zs us1 (qs.set j d) j (wr1.setCell ⟨gq, j, none⟩ (.int .u32 d)) :=
  ⟨dv, ho.setOther hgq _, (h.oq.besides hb (fun e => hgq e.symm)).set j d, fun i hi => by
    rw [World.cell?_setCell_other _ _ _ _ (by intro e; simp at e <;> omega)]
    exact (hb.cell h.hvb hvg).trans (h.v i hi), by simpa using Nat.lt_of_lt_of_le h.hvb hb.size,
    (h.below.trans (hb.below hg h.below.size)).setCell (p := ⟨gq, j, none⟩) hq _⟩
theorem DlIn.store {w wr W : World} {g gq vb vo n m j : Nat} {N V d : Int} {zs us qs us1 : List Int} (h : DlIn w g gq vb vo n m N V zs us qs (j + 1) wr) (hV : 0 < V) (hb : Besides g wr W) (ho : OwnI W w.heap.size 143 .u32 (.slice (some ⟨g, 0, none⟩) (n + m + 1) (n + m + 1)) us1)
    (hl : us1.length = us.length) (hz : InW us1) (he : val us1 = val us - d * V * pw j) (hq : trueQ us V j ≤ d) (hd : 0 ≤ d ∧ d < 4294967296) (hgq : g ≠ gq) (hvg : vb ≠ g) (hvq : vb ≠ gq) (hgw : w.heap.size ≤ g) (hqw : w.heap.size ≤ gq) :
    W.cell? ⟨gq, j, none⟩ = some (.int .u32 (el qs j)) ∧ W.frozen? ⟨gq, j, none⟩ = false ∧ DlIn w g gq vb vo n m N V zs us1 (qs.set j d) j (W.setCell ⟨gq, j, none⟩ (.int .u32 d)) := by
  have o := h.oq.besides hb (fun e => hgq e.symm)
  have hk := h.dv.hk
  have hql := h.dv.ql
  exact ⟨o.cell j (by omega), o.frozen j, h.next hb ho (h.dv.next hV hl hz he hq hd) hgq hvg hvq hgw hqw⟩
def DlRel (w : World) (g gq vb vo n m : Nat) (N V : Int) (zs : List Int) (j : Value) (wr : World) : Prop := ∃ k us qs, j = .int .i64 (down k) ∧ DlIn w g gq vb vo n m N V zs us qs k wr
theorem own_take {w : World} {base e g n c L : Nat} {k : IntKind} {xs : List Int} (h : OwnI w base e k (.slice (some ⟨g, 0, none⟩) n c) xs) (hL : L ≤ n) (hn : xs.length = n) : OwnI w base e k (.slice (some ⟨g, 0, none⟩) L c) (xs.take L) := by
  subst hn
  obtain ⟨h1, h2⟩ := h
  have hl : (xs.take L).length = L := by rw [List.length_take]; omega
  rcases h2 with ⟨h', _⟩ | ⟨g', cap, cur, e', hbg, hh, h3, h4, h5, h6⟩
  · simp at h'
  · simp only [Value.slice.injEq, Option.some.injEq, Addr.mk.injEq, and_true] at e'
    obtain ⟨rfl, _, rfl⟩ := e'
    refine ⟨by simp, .inr ⟨g, c, cur, by rw [hl], hbg, hh, by rw [hl]; omega, h4, h5, ?_⟩⟩
    rw [hl, Nat.mul_one]
    rw [Nat.mul_one] at h6
    rw [List.map_take, ← h6, List.take_take, Nat.min_eq_left hL]
structure RsIn (base : Nat) (W0 : World) (g cap : Nat) (rs : List Int) (s i : Nat) (zs : List Int) (wr : World) : Prop where
  ile : i ≤ rs.length
  hl : zs.length = rs.length
  own : OwnI wr base 143 .u32 (.slice (some ⟨g, 0, none⟩) rs.length cap) zs
  oth : Besides g W0 wr
  inw : InW zs
  done : ∀ j, j < i → el zs j = rgWord rs s j
  same : ∀ j, i ≤ j → el zs j = el rs j
theorem RsIn.drew {base : Nat} {W0 wr : World} {g cap : Nat} {rs zs : List Int} {s i : Nat} (h : RsIn base W0 g cap rs s i zs wr) : RsIn base W0 g cap rs s i zs wr.drew := ⟨h.ile, h.hl, h.own.drew, by have := h.oth.drewN 1; exact this, h.inw, h.done, h.same⟩
theorem RsIn.next {base : Nat} {W0 wr : World} {g cap : Nat} {rs zs : List Int} {s i : Nat} (h : RsIn base W0 g cap rs s i zs wr) (hi' : i < rs.length) (wx : InW rs) (hs : s < 32) (x : Int) :
    RsIn base W0 g cap rs s (i + 1) ((zs.set i x).set i (rgWord rs s i)) ((wr.setCell ⟨g, i, none⟩ (.int .u32 x)).setCell ⟨g, i, none⟩ (.int .u32 (rgWord rs s i))) := by
  have hl := h.hl
  have hr : 0 ≤ rgWord rs s i ∧ rgWord rs s i < 4294967296 := by
    rcases Nat.eq_zero_or_pos s with h0 | h0
    · subst h0; rw [rg_zero _ wx]; exact wx i
    · exact (rg_or wx s i hs h0).2
  have e1 : (zs.set i x).set i (rgWord rs s i) = zs.set i (rgWord rs s i) := by rw [List.set_set]
  refine ⟨by omega, by simp [hl], (h.own.set _ _).set _ _, (h.oth.set (b := g) (p := ⟨g, i, none⟩) (.inr rfl) _).set (b := g) (p := ⟨g, i, none⟩) (.inr rfl) _, ?_, fun j hj => ?_, fun j hj => ?_⟩
  · rw [e1]; exact h.inw.set _ _ hr
  · rw [e1, el_set _ _ _ _ (by omega)]
    split
    · rename_i e; rw [e]
    · exact h.done j (by omega)
  · rw [e1, el_set _ _ _ _ (by omega), if_neg (by omega)]
    exact h.same j (by omega)
theorem RsIn.last {base : Nat} {W0 wr : World} {g cap : Nat} {rs zs : List Int} {s i : Nat} (h : RsIn base W0 g cap rs s i zs wr) (hi' : i < rs.length) (wx : InW rs) (hs : s < 32) (he : el rs i / 2 ^ s = rgWord rs s i) :
    RsIn base W0 g cap rs s (i + 1) (zs.set i (el rs i / 2 ^ s)) (wr.setCell ⟨g, i, none⟩ (.int .u32 (el rs i / 2 ^ s))) := by
  have hl := h.hl
  have hr : 0 ≤ rgWord rs s i ∧ rgWord rs s i < 4294967296 := by
    rcases Nat.eq_zero_or_pos s with h0 | h0
    · subst h0; rw [rg_zero _ wx]; exact wx i
    · exact (rg_or wx s i hs h0).2
  rw [he]
  refine ⟨by omega, by simp [hl], h.own.set _ _, h.oth.set (b := g) (p := ⟨g, i, none⟩) (.inr rfl) _, h.inw.set _ _ hr, fun j hj => ?_, fun j hj => ?_⟩
  · rw [el_set _ _ _ _ (by omega)]
    split
    · rename_i e; rw [e]
    · exact h.done j (by omega)
  · rw [el_set _ _ _ _ (by omega), if_neg (by omega)]
    exact h.same j (by omega)
theorem rg_or0 {rs : List Int} (wx : InW rs) (s j : Nat) (hs : s < 32) : bits .or .u32 (el rs j / 2 ^ s) (lo (el rs (j + 1) * 2 ^ (32 - s))) = rgWord rs s j := by
  rcases Nat.eq_zero_or_pos s with h0 | h0
  · subst h0
    rw [rg_zero _ wx]
    have hx := wx j
    have e : lo (el rs (j + 1) * 2 ^ (32 - 0)) = 0 := by
      have : (2 : Int) ^ (32 - 0) = 4294967296 := by decide
      rw [this]; unfold lo; omega
    rw [e, Int.pow_zero, Int.ediv_one, u32_or _ 0 hx.1 hx.2 (by omega) (by omega)]
    simp
    omega
  · exact (rg_or wx s j hs h0).1
end Go.Proofs.YtoflmheodiajaaaGreatDoor.H
