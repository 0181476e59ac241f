import Derived.Test.YtoflmheodiajaaaGreatDoorK25
namespace Go.Proofs.YtoflmheodiajaaaGreatDoor.H
set_option linter.unusedVariables false
set_option linter.unusedSimpArgs false
theorem vt_top {xs : List Int} (wx : InW xs) {k : Nat} (h : val xs < pw k) : ∀ p, k ≤ p → el xs p = 0 := by
  intro p hp
  rcases Nat.lt_or_ge p xs.length with hl | hl
  · have h1 := vt_nonneg wx p
    have h2 := (wx p).1
    have h3 : vt xs (p + 1) ≤ val xs := by
      have : ∀ d, vt xs (p + 1) ≤ vt xs (p + 1 + d) := by
        intro d
        induction d with
        | zero => exact Int.le_refl _
        | succ d ih =>
          have := (wx (p + 1 + d)).1
          have h5 : 0 ≤ el xs (p + 1 + d) * pw (p + 1 + d) := Int.mul_nonneg this (Int.le_of_lt (pw_pos _))
          rw [show p + 1 + (d + 1) = (p + 1 + d) + 1 by omega]
          simp only [vt] at *
          omega
      have := this (xs.length - (p + 1))
      rw [show p + 1 + (xs.length - (p + 1)) = xs.length by omega] at this
      exact this
    have h4 : pw k ≤ pw p := by
      obtain ⟨d, rfl⟩ : ∃ d, p = k + d := ⟨p - k, by omega⟩
      rw [pw_add]
      have := pw_pos d
      have := pw_pos k
      have : pw k * 1 ≤ pw k * pw d := Int.mul_le_mul_of_nonneg_left (by omega) (by omega)
      omega
    simp only [vt] at h3
    rcases Int.lt_or_le 0 (el xs p) with h5 | h5
    · have : 1 * pw p ≤ el xs p * pw p := Int.mul_le_mul_of_nonneg_right (by omega) (Int.le_of_lt (pw_pos _))
      omega
    · omega
  · exact el_ge xs p hl
theorem val_lt_of_top {xs : List Int} (wx : InW xs) {k : Nat} (h : ∀ p, k ≤ p → el xs p = 0) : val xs < pw k ∧ val xs = vt xs k := by
  have h1 := (vt_nonneg wx k).2
  have : val xs = vt xs k := by
    rcases Nat.le_total xs.length k with hl | hl
    · exact (vt_ge xs k hl).symm
    · have := vt_up (xs := xs) (ys := List.replicate xs.length 0) (k := k) (n := xs.length) hl (fun j hj _ => by rw [h j hj, el_replicate])
      have hz : ∀ m, vt (List.replicate xs.length 0) m = 0 := by
        intro m
        induction m with
        | zero => rfl
        | succ m ih => simp [vt, ih, el_replicate]
      rw [hz, hz] at this
      unfold val
      omega
  exact ⟨by omega, this⟩
theorem pw_mono {a b : Nat} (h : a ≤ b) : pw a ≤ pw b := by
  obtain ⟨d, rfl⟩ : ∃ d, b = a + d := ⟨b - a, by omega⟩
  rw [pw_add]
  have := pw_pos d
  have := pw_pos a
  have : pw a * 1 ≤ pw a * pw d := Int.mul_le_mul_of_nonneg_left (by omega) (by omega)
  omega
structure DvIn (n m : Nat) (N V : Int) (ys us qs : List Int) (k : Nat) : Prop where
  hk : k ≤ m + 1
  ul : us.length = n + m + 1
  ql : qs.length = m + 1
  uw : InW us
  qw : InW qs
  low : ∀ p, p < k → el qs p = 0
  lt : val us < V * pw k
  eq : N = val us + V * val qs
structure DvFix (n : Nat) (V : Int) (ys : List Int) : Prop where
  n2 : 2 ≤ n
  yl : ys.length = n
  yw : InW ys
  yv : val ys = V
  top : 0 < el ys (n - 1)
theorem DvFix.V0 {n : Nat} {V : Int} {ys : List Int} (f : DvFix n V ys) : 0 < V := by
  have := (Trim.ge (.inr (by rw [f.yl]; have := f.top; omega)) f.yw (by rw [f.yl]; have := f.n2; omega) : pw (ys.length - 1) ≤ val ys)
  have := pw_pos (ys.length - 1)
  have := f.yv
  omega
theorem DvFix.VB {n : Nat} {V : Int} {ys : List Int} (f : DvFix n V ys) : V < pw n := by
  have := (vt_nonneg f.yw n).2
  have h := f.yv
  unfold val at h
  rw [f.yl] at h
  omega
def trueQ (us : List Int) (V : Int) (j : Nat) : Int := val us / (V * pw j)
def guessH (u2 u1 u0 v1 v0 : Int) : Int := if ((u2 * 4294967296 + u1) * 4294967296 + u0) / (v1 * 4294967296 + v0) < 4294967296 then ((u2 * 4294967296 + u1) * 4294967296 + u0) / (v1 * 4294967296 + v0) else 4294967295
structure DvStep (n m : Nat) (V : Int) (ys us : List Int) (j : Nat) (g : Int) : Prop where
  q0 : 0 ≤ trueQ us V j
  qB : trueQ us V j < 4294967296
  le : trueQ us V j ≤ g
  g1 : g ≤ trueQ us V j + 1
  gB : g < 4294967296
  top : el us (j + n) * 4294967296 + el us (j + n - 1) ≤ el ys (n - 1) * 4294967296 + el ys (n - 2)
  up : ∀ p, j + n + 1 ≤ p → el us p = 0
theorem dv_guess {n m : Nat} {N V : Int} {ys us qs : List Int} {j : Nat} (f : DvFix n V ys) (hnorm : 2147483648 ≤ el ys (n - 1)) (h : DvIn n m N V ys us qs (j + 1)) :
    DvStep n m V ys us j (guessH (el us (j + n)) (el us (j + n - 1)) (el us (j + n - 2)) (el ys (n - 1)) (el ys (n - 2))) := by
  have hV := f.V0
  have hn := f.n2
  have hpj := pw_pos j
  have hVj : 0 < V * pw j := Int.mul_pos hV hpj
  have hus0 := val_nonneg h.uw
  have q0 : 0 ≤ trueQ us V j := Int.ediv_nonneg hus0 (by omega)
  have qB : trueQ us V j < 4294967296 := by
    unfold trueQ
    rw [Int.ediv_lt_iff_lt_mul hVj]
    have := h.lt
    rw [pw_succ] at this
    have e : 4294967296 * (V * pw j) = V * (4294967296 * pw j) := by grind
    omega
  have hVB := f.VB
  have up : ∀ p, j + n + 1 ≤ p → el us p = 0 := by
    refine vt_top h.uw ?_
    have h1 := h.lt
    have h2 : V * pw (j + 1) < pw n * pw (j + 1) := Int.mul_lt_mul_of_pos_right hVB (pw_pos _)
    rw [← pw_add, show n + (j + 1) = j + n + 1 by omega] at h2
    omega
  suffices hs : _ ∧ _ ∧ _ ∧ _ from ⟨q0, qB, hs.1, hs.2.1, hs.2.2.1, hs.2.2.2, up⟩
  have eu := (val_lt_of_top h.uw up).2
  rw [show j + n + 1 = (j + n - 2) + 1 + 1 + 1 by omega] at eu
  simp only [vt] at eu
  rw [show j + n - 2 + 1 + 1 = j + n by omega, show j + n - 2 + 1 = j + n - 1 by omega] at eu
  have ev := f.yv
  unfold val at ev
  rw [f.yl, show n = (n - 2) + 1 + 1 by omega] at ev
  simp only [vt] at ev
  rw [show n - 2 + 1 = n - 1 by omega] at ev
  have hul := vt_nonneg h.uw (j + n - 2)
  have hvl := vt_nonneg f.yw (n - 2)
  have p1 : pw (j + n) = 4294967296 * (4294967296 * pw (j + n - 2)) := by rw [show j + n = (j + n - 2) + 1 + 1 by omega, pw_succ, pw_succ]; simp
  have p2 : pw (j + n - 1) = 4294967296 * pw (j + n - 2) := by rw [show j + n - 1 = (j + n - 2) + 1 by omega, pw_succ]
  have p3 : pw (n - 1) = 4294967296 * pw (n - 2) := by rw [show n - 1 = (n - 2) + 1 by omega, pw_succ]
  have p4 : pw (j + n - 2) = pw (n - 2) * pw j := by rw [← pw_add]; congr 1; omega
  rw [p1, p2] at eu
  rw [p3] at ev
  have hq : trueQ us V j * (V * pw j) ≤ val us := by
    unfold trueQ
    have := Int.mul_ediv_add_emod (val us) (V * pw j)
    have := Int.emod_nonneg (val us) (show V * pw j ≠ 0 by omega)
    have e : val us / (V * pw j) * (V * pw j) = V * pw j * (val us / (V * pw j)) := Int.mul_comm _ _
    omega
  have h15 := h.lt
  rw [pw_succ] at h15
  have hu00 := h.uw (j + n - 2)
  have hv00 := f.yw (n - 2)
  have hqd : trueQ us V j = val us / (V * pw j) := rfl
  generalize trueQ us V j = q at *
  generalize el us (j + n) = u2 at *
  generalize el us (j + n - 1) = u1 at *
  generalize el us (j + n - 2) = u0 at *
  generalize el ys (n - 1) = v1 at *
  generalize el ys (n - 2) = v0 at *
  generalize vt us (j + n - 2) = ul at *
  generalize vt ys (n - 2) = vl at *
  rw [p4] at eu hul
  have hpn := pw_pos (n - 2)
  generalize pw (n - 2) = P at *
  generalize pw j = J at *
  have hPJ : 0 < P * J := Int.mul_pos hpn hpj
  have hyv1 := f.yw (n - 1)
  have e1 : q * (v1 * 4294967296 + v0) * (P * J) ≤ q * (V * J) := by
    have : q * (V * J) = q * (v1 * 4294967296 + v0) * (P * J) + q * vl * J := by rw [← ev]; grind
    have h0 : 0 ≤ q * vl * J := Int.mul_nonneg (Int.mul_nonneg q0 hvl.1) (by omega)
    omega
  have e2 : val us < ((u2 * 4294967296 + u1) * 4294967296 + u0 + 1) * (P * J) := by
    have : ((u2 * 4294967296 + u1) * 4294967296 + u0 + 1) * (P * J) = u0 * (P * J) + u1 * (4294967296 * (P * J)) + u2 * (4294967296 * (4294967296 * (P * J))) + P * J := by grind
    omega
  have e20 : ((u2 * 4294967296 + u1) * 4294967296 + u0) * (P * J) ≤ val us := by
    have : ((u2 * 4294967296 + u1) * 4294967296 + u0) * (P * J) = u0 * (P * J) + u1 * (4294967296 * (P * J)) + u2 * (4294967296 * (4294967296 * (P * J))) := by grind
    omega
  have e3 : q * (v1 * 4294967296 + v0) * (P * J) < ((u2 * 4294967296 + u1) * 4294967296 + u0 + 1) * (P * J) := by omega
  have e4 := Int.lt_of_mul_lt_mul_right e3 (by omega)
  have hV2 : 0 < v1 * 4294967296 + v0 := by omega
  have hqle : q ≤ ((u2 * 4294967296 + u1) * 4294967296 + u0) / (v1 * 4294967296 + v0) := by
    rw [Int.le_ediv_iff_mul_le hV2]; omega
  have hgle : guessH u2 u1 u0 v1 v0 * (v1 * 4294967296 + v0) ≤ (u2 * 4294967296 + u1) * 4294967296 + u0 ∧ guessH u2 u1 u0 v1 v0 < 4294967296 ∧ q ≤ guessH u2 u1 u0 v1 v0 := by
    have h5 := Int.mul_ediv_add_emod ((u2 * 4294967296 + u1) * 4294967296 + u0) (v1 * 4294967296 + v0)
    have h6 := Int.emod_nonneg ((u2 * 4294967296 + u1) * 4294967296 + u0) (show v1 * 4294967296 + v0 ≠ 0 by omega)
    unfold guessH
    split
    · rename_i hlt
      refine ⟨?_, hlt, hqle⟩
      rw [Int.mul_comm]
      omega
    · rename_i hge
      refine ⟨?_, by omega, by omega⟩
      have h7 : 4294967296 * (v1 * 4294967296 + v0) ≤ ((u2 * 4294967296 + u1) * 4294967296 + u0) / (v1 * 4294967296 + v0) * (v1 * 4294967296 + v0) := Int.mul_le_mul_of_nonneg_right (by omega) (by omega)
      rw [Int.mul_comm (_ / _)] at h7
      omega
  obtain ⟨g1, g2, g3⟩ := hgle
  generalize guessH u2 u1 u0 v1 v0 = G at *
  refine ⟨g3, ?_, g2, ?_⟩
  ·
    have h8 : (G - 1) * (V * J) ≤ val us := by
      have h9 : V < (v1 * 4294967296 + v0 + 1) * P := by
        have : (v1 * 4294967296 + v0 + 1) * P = v0 * P + v1 * (4294967296 * P) + P := by grind
        omega
      have h10 : V * J < (v1 * 4294967296 + v0 + 1) * P * J := Int.mul_lt_mul_of_pos_right h9 hpj
      rcases Int.lt_or_le G 1 with hG | hG
      · have : (G - 1) * (V * J) ≤ 0 := Int.mul_nonpos_of_nonpos_of_nonneg (by omega) (by omega)
        omega
      · have h11 : (G - 1) * (V * J) ≤ (G - 1) * ((v1 * 4294967296 + v0 + 1) * P * J) := Int.mul_le_mul_of_nonneg_left (by omega) (by omega)
        have h12 : (G - 1) * ((v1 * 4294967296 + v0 + 1) * P * J) = (G * (v1 * 4294967296 + v0) + (G - 1 - (v1 * 4294967296 + v0))) * (P * J) := by grind
        have h13 : (G * (v1 * 4294967296 + v0) + (G - 1 - (v1 * 4294967296 + v0))) * (P * J) ≤ ((u2 * 4294967296 + u1) * 4294967296 + u0) * (P * J) := Int.mul_le_mul_of_nonneg_right (by omega) (by omega)
        omega
    have h14 : G - 1 ≤ val us / (V * J) := by rw [Int.le_ediv_iff_mul_le hVj]; exact h8
    have : q = val us / (V * J) := hqd
    omega
  ·
    have h16 : V < (v1 * 4294967296 + v0 + 1) * P := by
      have : (v1 * 4294967296 + v0 + 1) * P = v0 * P + v1 * (4294967296 * P) + P := by grind
      omega
    have h17 : V * J * 4294967296 < (v1 * 4294967296 + v0 + 1) * P * J * 4294967296 := Int.mul_lt_mul_of_pos_right (Int.mul_lt_mul_of_pos_right h16 hpj) (by decide)
    have h18 : (u2 * 4294967296 + u1) * (P * J * 4294967296) ≤ val us := by
      have h19 : (u2 * 4294967296 + u1) * (P * J * 4294967296) + u0 * (P * J) = ((u2 * 4294967296 + u1) * 4294967296 + u0) * (P * J) := by grind
      have h20 : 0 ≤ u0 * (P * J) := Int.mul_nonneg hu00.1 (by omega)
      omega
    have h21 : (u2 * 4294967296 + u1) * (P * J * 4294967296) < (v1 * 4294967296 + v0 + 1) * (P * J * 4294967296) := by
      have h22 : (v1 * 4294967296 + v0 + 1) * P * J * 4294967296 = (v1 * 4294967296 + v0 + 1) * (P * J * 4294967296) := by grind
      have h23 : V * (4294967296 * J) = V * J * 4294967296 := by grind
      omega
    have := Int.lt_of_mul_lt_mul_right h21 (by omega)
    omega
structure NegAt (n j : Nat) (V : Int) (us zs : List Int) (d : Int) : Prop where
  zl : zs.length = us.length
  zw : InW zs
  up : ∀ p, j + n + 1 ≤ p → el zs p = 0
  eq : val zs = val us - (d + 1) * V * pw j + pw (j + n + 1)
theorem trueQ_lt {us : List Int} {V d : Int} {j : Nat} (hV : 0 < V) (h : val us < d * V * pw j) : trueQ us V j < d := by
  have hpj := pw_pos j
  unfold trueQ
  rw [Int.ediv_lt_iff_lt_mul (Int.mul_pos hV hpj), ← Int.mul_assoc]
  exact h
theorem trueQ_ge {us : List Int} {V d : Int} {j : Nat} (hV : 0 < V) (h : d * V * pw j ≤ val us) : d ≤ trueQ us V j := by
  have hpj := pw_pos j
  unfold trueQ
  rw [Int.le_ediv_iff_mul_le (Int.mul_pos hV hpj), ← Int.mul_assoc]
  exact h
theorem NegAt.ge {n j : Nat} {V d : Int} {us zs : List Int} (h : NegAt n j V us zs d) (hV : 0 < V) : trueQ us V j ≤ d := by
  have := (val_lt_of_top h.zw h.up).1
  have := trueQ_lt (us := us) (d := d + 1) (j := j) hV (by have := h.eq; omega)
  omega
theorem digit_done {us zs : List Int} {V d : Int} {j : Nat} (hV : 0 < V) (hz : InW zs) (he : val zs = val us - d * V * pw j) (hq : trueQ us V j ≤ d) : d = trueQ us V j ∧ val zs < V * pw j := by
  have h0 := val_nonneg hz
  have h1 := trueQ_ge (us := us) (d := d) (j := j) hV (by omega)
  have e : d = trueQ us V j := by omega
  refine ⟨e, ?_⟩
  have hpj := pw_pos j
  have hVj := Int.mul_pos hV hpj
  have h2 : val us < (trueQ us V j + 1) * (V * pw j) := by
    unfold trueQ
    have := Int.mul_ediv_add_emod (val us) (V * pw j)
    have := Int.emod_lt_of_pos (val us) hVj
    rw [Int.add_mul, Int.mul_comm (val us / (V * pw j))]
    omega
  rw [← e, Int.add_mul, ← Int.mul_assoc] at h2
  omega
theorem DvIn.next {n m : Nat} {N V d : Int} {ys us qs zs : List Int} {j : Nat} (h : DvIn n m N V ys us qs (j + 1)) (hV : 0 < V) (hzl : zs.length = us.length) (hz : InW zs) (he : val zs = val us - d * V * pw j) (hq : trueQ us V j ≤ d) (hd : 0 ≤ d ∧ d < 4294967296) :
    DvIn n m N V ys zs (qs.set j d) j := by
  obtain ⟨e, hlt⟩ := digit_done hV hz he hq
  have hk := h.hk
  have hql := h.ql
  refine ⟨by omega, by rw [hzl]; exact h.ul, by rw [List.length_set]; exact hql, hz, h.qw.set _ _ hd, fun p hp => ?_, hlt, ?_⟩
  · rw [el_set _ _ _ _ (by omega), if_neg (by omega)]
    exact h.low p (by omega)
  · rw [val_set _ _ _ (by omega), h.low j (by omega), he, h.eq]
    grind
theorem DvIn.done {n m : Nat} {A D V : Int} {ys us qs : List Int} {s : Nat} (h : DvIn n m (A * 2 ^ s) V ys us qs 0) (hV : V = D * 2 ^ s) (hD : 0 < D) (hA : 0 ≤ A) : val qs = A / D ∧ val us / 2 ^ s = A % D := by
  have hk := two_pos s
  have e := h.eq
  have hlt := h.lt
  have h0 := val_nonneg h.uw
  rw [pw_zero, Int.mul_one] at hlt
  have e2 : val us = (A - D * val qs) * 2 ^ s := by rw [Int.sub_mul]; rw [hV] at e; grind
  have e3 : val us / 2 ^ s = A - D * val qs := by rw [e2]; exact Int.mul_ediv_cancel _ (by omega)
  have r0 : 0 ≤ A - D * val qs := by rw [← e3]; exact Int.ediv_nonneg h0 (by omega)
  have r1 : A - D * val qs < D := by rw [← e3, Int.ediv_lt_iff_lt_mul hk, ← hV]; exact hlt
  have := (Int.ediv_emod_unique (a := A) (b := D) (r := A - D * val qs) (q := val qs) hD).2 ⟨by omega, r0, r1⟩
  exact ⟨this.1.symm, by rw [e3]; exact this.2.symm⟩
end Go.Proofs.YtoflmheodiajaaaGreatDoor.H
namespace Go.Proofs.YtoflmheodiajaaaGreatDoor.H
open Go.RowKit
set_option linter.unusedVariables false
set_option linter.unusedSimpArgs false
variable {Bs : Nat}
theorem infoU32 : (Tryz.prog.info? 143).map (fun i => (i.zero, i.size, i.bytes)) = some (some (.int .u32 0), 1, 4) := by kernel_rfl
structure Nat32 (Bs : Nat) (w : World) (v : Value) (xs : List Int) : Prop where
  out : ∃ A c, v = .slice A xs.length c ∧ xs.length ≤ c ∧ xs.length ≤ 9223372036854775807 ∧ Rd Bs w .u32 143 A xs
  inw : InW xs
theorem Nat32.below {w w1 : World} {v : Value} {xs : List Int} (h : Nat32 Bs w v xs) (hb : Below w.heap.size w w1) : Nat32 Bs w1 v xs := by
  obtain ⟨⟨A, c, e, h1, h2, h3⟩, h4⟩ := h
  exact ⟨⟨A, c, e, h1, h2, h3.below hb⟩, h4⟩
theorem trim_raw (A : Option Addr) (c : Nat) (xs : List Int) (w : World) (hm : xs.length ≤ 9223372036854775807) (hc : xs.length ≤ c) (hr : Rd Bs w .u32 143 A xs) :
    Calls Tryz.prog 96 #[.slice A xs.length c] w fun e w' => e = .returned (.slice A (strip xs.length xs) c) ∧ w = w' := by
  go_enter Tryz.func96, Tryz.ntmps96
  go_wp2
  go_loop [0] (fun v => ∃ k : Nat, k ≤ xs.length ∧ strip xs.length xs = strip k xs ∧ v = .slice A k c) (fun v => lenOf v)
  case atStart => exact ⟨xs.length, Nat.le_refl _, rfl, rfl⟩
  case round =>
    obtain ⟨k, hk, hs, rfl⟩ := hrel
    have HS := Lib.hid hs
    clear hs
    cases k with
    | zero =>
      go_wp2
      go_ret
      exact ⟨by rw [HS.out]; rfl, rfl⟩
    | succ k =>
      obtain ⟨ab, ao, rfl, hab, hcell⟩ := hr.plain (by omega)
      have h1 := hcell k (by omega)
      have HR := Lib.hid hr
      clear hcell hr
      by_cases hz : el xs k = 0
      · have hzb : (el xs k == 0) = true := by simp [hz]
        have HZ := Lib.hid hz
        clear hz
        go_wp2
        go_round
        case rel => exact ⟨k, by omega, by rw [HS.out]; simp [strip, HZ.out], rfl⟩
        case measure => simp [lenOf]
      · have hzb : (el xs k == 0) = false := by simp [hz]
        have HZ := Lib.hid hz
        clear hz
        go_wp2
        go_ret
        exact ⟨by rw [HS.out]; simp [strip, HZ.out], rfl⟩
theorem trim_any (v : Value) (xs : List Int) (w : World) (h : Nat32 Bs w v xs) :
    Calls Tryz.prog 96 #[v] w fun e w' => ∃ v', e = .returned v' ∧ Nat32 Bs w v' (stripped xs) ∧ w = w' := by
  obtain ⟨⟨A, c, rfl, h1, h2, h3⟩, h4⟩ := h
  refine (trim_raw A c xs w (by omega) h1 h3).mono ?_
  rintro e w' ⟨rfl, rfl⟩
  have hl := stripped_length xs
  have hle := strip_le xs xs.length
  refine ⟨_, rfl, ⟨⟨A, c, by rw [hl], by omega, by omega, fun hp => ?_⟩, h4.take _⟩, rfl⟩
  obtain ⟨b, off, cs, t, fr, e1, e2, e3, e4⟩ := h3 (by omega)
  exact ⟨b, off, cs, t, fr, e1, e2, e3, fun j hj => by rw [el_stripped xs j hj]; exact e4 j (by omega)⟩
theorem nat32_of_own {w : World} {b : Nat} {v : Value} {xs : List Int} (h : OwnI w b 143 .u32 v xs) (hw : InW xs) : Nat32 Bs w v xs := by
  obtain ⟨A, c, e, h1, h2, h3⟩ := h.rd Bs
  exact ⟨⟨A, c, e, h1, by omega, h3⟩, hw⟩
def NewV (B : Nat) (v : Value) : Prop := ∀ A n c, v = .slice A n c → ∀ a, A = some a → B ≤ a.block
theorem newV_own {w : World} {b B : Nat} {v : Value} {xs : List Int} (h : OwnI w b 143 .u32 v xs) (hB : B ≤ b) : NewV B v := by
  rintro A n c rfl a rfl
  rcases h.2 with ⟨h', _⟩ | ⟨g, cap, cur, h', hbg, _⟩
  · simp at h'
  · simp only [Value.slice.injEq, Option.some.injEq] at h'
    rw [h'.1]
    exact Nat.le_trans hB hbg
theorem newV_nil (B : Nat) : NewV B (.slice none 0 0) := by
  rintro A n c e a rfl
  simp at e
theorem newV_slice {B : Nat} {A : Option Addr} {n c n' c' : Nat} (h : NewV B (.slice A n c)) : NewV B (.slice A n' c') := by
  rintro A' m k e a rfl
  simp only [Value.slice.injEq] at e
  exact h _ _ _ rfl a e.1
theorem trim_anyN (v : Value) (xs : List Int) (w : World) (h : Nat32 Bs w v xs) :
    Calls Tryz.prog 96 #[v] w fun e w' => ∃ v', e = .returned v' ∧ (Nat32 Bs w v' (stripped xs) ∧ ∀ B, NewV B v → NewV B v') ∧ w = w' := by
  obtain ⟨⟨A, c, rfl, h1, h2, h3⟩, h4⟩ := h
  refine (trim_raw A c xs w (by omega) h1 h3).mono ?_
  rintro e w' ⟨rfl, rfl⟩
  have hl := stripped_length xs
  have hle := strip_le xs xs.length
  refine ⟨_, rfl, ⟨⟨⟨A, c, by rw [hl], by omega, by omega, fun hp => ?_⟩, h4.take _⟩, fun B hB => newV_slice hB⟩, rfl⟩
  obtain ⟨b, off, cs, t, fr, e1, e2, e3, e4⟩ := h3 (by omega)
  exact ⟨b, off, cs, t, fr, e1, e2, e3, fun j hj => by rw [el_stripped xs j hj]; exact e4 j (by omega)⟩
set_option maxHeartbeats 1000000 in
theorem compare_any (A B : Option Addr) (ca cb : Nat) (xs ys : List Int) (w : World) (hlx : xs.length ≤ 1099511627776) (hly : ys.length ≤ 1099511627776) (hx : Rd Bs w .u32 143 A xs) (hy : Rd Bs w .u32 143 B ys) (wx : InW xs) (wy : InW ys) (tx : Trim xs) (ty : Trim ys) :
    Calls Tryz.prog 180 #[.slice A xs.length ca, .slice B ys.length cb] w fun e w' => e = .returned (.int .i64 (cmpI (val xs) (val ys))) ∧ ∃ q, w' = w.drewN q := by
  have WX := Lib.hid wx
  have WY := Lib.hid wy
  have TX := Lib.hid tx
  have TY := Lib.hid ty
  have HX := Lib.hid hx
  have HY := Lib.hid hy
  clear wx wy tx ty hx hy
  by_cases hl : xs.length = ys.length
  · have HL := Lib.hid hl
    have hne : ((xs.length : Int) != (ys.length : Int)) = false := by simp [hl]
    have hne2 : ((xs.length : Int) == (ys.length : Int)) = true := by simp [hl]
    clear hl
    go_enter Tryz.func180, Tryz.ntmps180
    go_wp2
    go_loopw [5] (fun i wr => NcRel w xs ys i wr) (fun i _ => (intOf i + 1).toNat)
    case atStart =>
      refine ⟨⟨0, rfl⟩, ?_⟩
      rcases Nat.eq_zero_or_pos xs.length with h0 | h0
      · exact .inl ⟨by rw [h0]; rfl, fun j hj => by omega⟩
      · exact .inr ⟨xs.length - 1, by omega, by congr 1; omega, fun j h1 h2 => by omega⟩
    case round =>
      obtain ⟨⟨q, rfl⟩, ⟨rfl, heq⟩ | ⟨k, hk, rfl, heq⟩⟩ := hrel
      · have HV := Lib.hid (cmpI_eq (vcmp_eq HL.out heq))
        clear heq
        go_wp2
        go_ret
        exact ⟨by rw [HV.out]; rfl, _, rfl⟩
      · obtain ⟨ab, ao, rfl, hab, hcA⟩ := HX.out.plain (by omega)
        obtain ⟨bb, bo, rfl, hbb, hcB⟩ := HY.out.plain (by rw [← HL.out]; omega)
        have hA := hcA k hk
        have hB := hcB k (by rw [← HL.out]; exact hk)
        have hki : (k : Int) < (xs.length : Int) := by omega
        have hki2 : (k : Int) < (ys.length : Int) := by rw [← HL.out]; omega
        have HEQ := Lib.hid heq
        have HK := Lib.hid hk
        clear hcA hcB heq hk hab hbb
        rcases Int.lt_trichotomy (el xs k) (el ys k) with h | h | h
        · have HV := Lib.hid (cmpI_lt (cmp_at WX.out WY.out HL.out HK.out HEQ.out h))
          have e1 : (el xs k != el ys k) = true := by simp; omega
          have e2 : (el xs k == el ys k) = false := by simp; omega
          go_wp2
          go_quiet (fail)
          go_wp2
          go_quiet (fail)
          go_wp2
          go_ret
          exact ⟨by rw [HV.out]; rfl, by simp only [World.drewN_drewN]; exact ⟨_, rfl⟩⟩
        · have HK1 := Lib.hid h
          have e1 : (el xs k != el ys k) = false := by simp; omega
          have e2 : (el xs k == el ys k) = true := by simp; omega
          clear h
          go_wp2
          go_quiet (fail)
          go_wp2
          go_roundw
          case rel =>
            refine ⟨⟨_, rfl⟩, ?_⟩
            rcases Nat.eq_zero_or_pos k with h0 | h0
            · subst h0
              exact .inl ⟨rfl, fun j hj => by
                rcases Nat.eq_zero_or_pos j with h1 | h1
                · rw [h1]; exact HK1.out
                · exact HEQ.out j h1 hj⟩
            · exact .inr ⟨k - 1, by have := HK.out; omega, by congr 1; omega, fun j h1 h2 => by
                rcases Nat.eq_or_lt_of_le (show k ≤ j by omega) with e | h3
                · subst e; exact HK1.out
                · exact HEQ.out j h3 h2⟩
          case measure => simp [intOf]
        · have HV := Lib.hid (cmpI_gt (cmp_at WY.out WX.out HL.out.symm (by rw [← HL.out]; exact HK.out) (fun j h1 h2 => (HEQ.out j h1 (by rw [HL.out]; exact h2)).symm) h))
          have e1 : (el xs k != el ys k) = true := by simp; omega
          have e2 : (el xs k == el ys k) = false := by simp; omega
          have e3 : ¬ el xs k < el ys k := by omega
          clear h
          go_wp2
          go_quiet (fail)
          go_wp2
          go_quiet (fail)
          go_wp2
          go_ret
          exact ⟨by rw [HV.out]; rfl, by simp only [World.drewN_drewN]; exact ⟨_, rfl⟩⟩
  · have HV : cmpI (val xs) (val ys) = -1 ∧ (xs.length : Int) < (ys.length : Int) ∨ cmpI (val xs) (val ys) = 1 ∧ ¬ (xs.length : Int) < (ys.length : Int) := by
      rcases Nat.lt_or_ge xs.length ys.length with h | h
      · exact .inl ⟨cmpI_lt (cmp_len WX.out WY.out TY.out h), by omega⟩
      · exact .inr ⟨cmpI_gt (cmp_len WY.out WX.out TX.out (by omega)), by omega⟩
    have hne : ((xs.length : Int) != (ys.length : Int)) = true := by simp; omega
    have hne2 : ((xs.length : Int) == (ys.length : Int)) = false := by simp; omega
    clear hl
    rcases HV with ⟨hv, hlt⟩ | ⟨hv, hlt⟩
    all_goals
      have HV := Lib.hid hv
      clear hv
      go_enter Tryz.func180, Tryz.ntmps180
      go_wp2
      go_ret
      exact ⟨by rw [HV.out]; rfl, 0, rfl⟩
end Go.Proofs.YtoflmheodiajaaaGreatDoor.H
