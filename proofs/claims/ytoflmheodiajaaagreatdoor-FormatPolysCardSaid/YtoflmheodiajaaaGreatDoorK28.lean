import Derived.Test.YtoflmheodiajaaaGreatDoorK27
namespace Go.Proofs.YtoflmheodiajaaaGreatDoor.H
open Go.RowKit
set_option linter.unusedVariables false
set_option linter.unusedSimpArgs false
variable {Bs : Nat}
theorem or_high (r x : Int) (hr : 0 ≤ r) (hr1 : r < 4294967296) (hx : 0 ≤ x) (hx1 : x < 4294967296) : bits .or .u64 (r * 4294967296) x = r * 4294967296 + x := by
  have h := or_shl x r 32 (by omega) hx (by simpa using hx1) hr
  have e : (r * 2 ^ 32) % 18446744073709551616 = r * 4294967296 := by
    have : (2 : Int) ^ 32 = 4294967296 := by decide
    rw [this]; omega
  rw [e] at h
  rw [u64_or_comm _ _ (by omega) (by omega) hx (by omega), h.1]
  omega
theorem down_len (n : Nat) : down n = (n : Int) - 1 := down_prev n
structure BwIn (w : World) (xs : List Int) (d : Int) (k : Nat) (r : Int) (zs : List Int) (wr : World) : Prop where
  hk : k ≤ xs.length
  hl : zs.length = xs.length
  own : OwnI wr w.heap.size 143 .u32 (.slice (some ⟨w.heap.size, 0, none⟩) xs.length xs.length) zs
  below : Below w.heap.size w wr
  r0 : 0 ≤ r
  r1 : r < d
  inw : InW zs
  low : ∀ j, j < k → el zs j = 0
  eq : val xs = vt xs k + val zs * d + r * pw k
def BwRel (w : World) (xs : List Int) (d : Int) (i rest : Value) (wr : World) : Prop := ∃ k r zs, i = .int .i64 (down k) ∧ rest = .int .u64 r ∧ BwIn w xs d k r zs wr
theorem BwIn.next {w wr : World} {xs zs : List Int} {d r : Int} {j : Nat} (h : BwIn w xs d (j + 1) r zs wr) (wx : InW xs) (hd : 0 < d) (hd1 : d < 4294967296) :
    BwIn w xs d j ((r * 4294967296 + el xs j) % d) (zs.set j ((r * 4294967296 + el xs j) / d)) (wr.setCell ⟨w.heap.size, j, none⟩ (.int .u32 ((r * 4294967296 + el xs j) / d))) := by
  have hx := wx j
  have hr0 := h.r0
  have hr1 := h.r1
  have hk := h.hk
  have hN0 : 0 ≤ r * 4294967296 + el xs j := by omega
  have hq0 : 0 ≤ (r * 4294967296 + el xs j) / d := Int.ediv_nonneg hN0 (by omega)
  have hq1 : (r * 4294967296 + el xs j) / d < 4294967296 := trial_small (by decide) hd hr1 hx.2
  refine ⟨by omega, by rw [List.length_set]; exact h.hl, h.own.set j _, h.below.setCell (p := ⟨w.heap.size, j, none⟩) (Nat.le_refl _) _, Int.emod_nonneg _ (by omega), Int.emod_lt_of_pos _ hd, h.inw.set j _ ⟨hq0, hq1⟩, fun i hi => ?_, ?_⟩
  · rw [el_set _ _ _ _ (by rw [h.hl]; omega), if_neg (by omega)]
    exact h.low i (by omega)
  · have e := h.eq
    rw [val_set _ _ _ (by rw [h.hl]; omega), h.low j (by omega)]
    simp only [vt] at e
    rw [pw_succ] at e
    have hdm := Int.mul_ediv_add_emod (r * 4294967296 + el xs j) d
    generalize (r * 4294967296 + el xs j) / d = q' at *
    generalize (r * 4294967296 + el xs j) % d = r' at *
    have e2 : (d * q' + r') * pw j = (r * 4294967296 + el xs j) * pw j := by rw [hdm]
    rw [e]
    grind
theorem BwIn.done {w wr : World} {xs zs : List Int} {d r : Int} (h : BwIn w xs d 0 r zs wr) (hd : 0 < d) : r = val xs % d ∧ val zs = val xs / d := by
  have e := h.eq
  simp only [vt, pw_zero] at e
  have := (Int.ediv_emod_unique (a := val xs) (b := d) (r := r) (q := val zs) hd).2 ⟨by rw [e, Int.mul_comm d]; omega, h.r0, h.r1⟩
  exact ⟨this.2.symm, this.1.symm⟩
set_option maxHeartbeats 1000000 in
theorem smallDiv_core (A : Option Addr) (ca : Nat) (xs : List Int) (d : Int) (w : World) (hlen : xs.length ≤ 1099511627776) (hca : xs.length ≤ ca) (hx : Rd Bs w .u32 143 A xs) (wx : InW xs) (hd : 0 < d) (hd1 : d < 4294967296) :
    Calls Tryz.prog 63 #[.slice A xs.length ca, .int .u32 d] w (Gives w fun v w' => ∃ zs qv, v = .tuple #[qv, .int .u32 (val xs % d)] ∧ Nat32 Bs w' qv zs ∧ val zs = val xs / d ∧ zs.length ≤ xs.length ∧ Trim zs ∧ NewV w.heap.size qv) := by
  have HX := Lib.hid hx
  have WX := Lib.hid wx
  have HD := Lib.hid (And.intro hd hd1)
  clear hx wx hd hd1
  go_enter Tryz.func63, Tryz.ntmps63
  go_wp2_with (at_make; refine makeI _ rfl _ _ _ rfl w.heap.size 143 .u32 4 Tryz.underlying92 infoU32 _ _ xs.length xs.length rfl rfl rfl rfl (by omega) (by omega) (by omega) (Nat.le_refl _) ?_)
  intro w1 hO hG hS
  have hB := Lib.hid ((below_refl w).grown hG (Nat.le_refl _) (fun k hk => by simp at hk))
  have hS1 : w.heap.size ≤ w1.heap.size := by omega
  have HO := Lib.hid hO
  clear hO hG hS
  go_wp2
  go_loopw [8, 7] (fun i rest wr => BwRel w xs d i rest wr) (fun i _ _ => (intOf i + 1).toNat)
  case atStart =>
    refine ⟨xs.length, 0, List.replicate xs.length 0, by rw [down_len], rfl, Nat.le_refl _, by simp, HO.out, hB.out, by omega, HD.out.1, InW.replicate _, fun j _ => el_replicate _ _, ?_⟩
    rw [val_zeros]; simp [val]
  case round =>
    obtain ⟨k, r, zs, rfl, rfl, hin⟩ := hrel
    have HI := Lib.hid hin
    cases k with
    | zero =>
      simp only [down]
      have HN := Lib.hid (nat32_of_own (Bs := Bs) hin.own hin.inw)
      have e9 : IntKind.u32.wrap r = r := by rw [IntKind.wrap_u32]; have := hin.r0; have := hin.r1; have := HD.out.2; omega
      clear hin
      go_wp2_with (go_at_call 96; refine (trim_anyN _ _ _ HN.out).mono ?_; rintro e w' ⟨v', rfl, hv', rfl⟩; have HV' := Lib.hid hv'; clear hv')
      go_ret2
      obtain ⟨er, ez⟩ := HI.out.done HD.out.1
      subst er
      exact ⟨_, rfl, ⟨_, _, rfl, HV'.out.1, by rw [val_stripped]; exact ez, by rw [stripped_length]; have := strip_le zs zs.length; have := HI.out.hl; omega, trim_stripped _, HV'.out.2 _ (newV_own HI.out.own (Nat.le_refl _))⟩, HI.out.below⟩
    | succ j =>
      simp only [down]
      have hjl := hin.hk
      have hj : (j : Int) < (xs.length : Int) := by omega
      obtain ⟨ab, ao, rfl, hab, hcA⟩ := HX.out.plain (by omega)
      have hA := (hin.below.cell (p := ⟨ab, ao + j, none⟩) hab).trans (hcA j (by omega))
      have hzc := hin.own.cell j (by rw [hin.hl]; omega)
      have hzf := hin.own.frozen j
      have hr0 := hin.r0
      have hr1 := hin.r1
      have hxr := WX.out j
      have hd := HD.out
      have hN0 : 0 ≤ r * 4294967296 + el xs j := by omega
      have e0 : IntKind.u64.wrap (r * 4294967296) = r * 4294967296 := by rw [IntKind.wrap_u64]; omega
      have e1 : IntKind.u64.wrap (el xs j) = el xs j := by rw [IntKind.wrap_u64]; omega
      have e2 := or_high r (el xs j) hr0 (by omega) hxr.1 hxr.2
      have e3 : IntKind.u64.wrap d = d := by rw [IntKind.wrap_u64]; omega
      have e4 : (d == 0) = false := by simp; omega
      have hd0 : ¬ d = 0 := by omega
      have q0 : 0 ≤ (r * 4294967296 + el xs j) / d := Int.ediv_nonneg hN0 (by omega)
      have q1 : (r * 4294967296 + el xs j) / d < 4294967296 := trial_small (by decide) hd.1 hr1 hxr.2
      have m0 := Int.emod_nonneg (r * 4294967296 + el xs j) (show d ≠ 0 by omega)
      have m1 := Int.emod_lt_of_pos (r * 4294967296 + el xs j) hd.1
      have e5 : (r * 4294967296 + el xs j).tdiv d = (r * 4294967296 + el xs j) / d := Int.tdiv_eq_ediv_of_nonneg hN0
      have e6 : IntKind.u64.wrap ((r * 4294967296 + el xs j) / d) = (r * 4294967296 + el xs j) / d := by rw [IntKind.wrap_u64]; omega
      have e7 : IntKind.u32.wrap ((r * 4294967296 + el xs j) / d) = (r * 4294967296 + el xs j) / d := by rw [IntKind.wrap_u32]; omega
      have e8 : (r * 4294967296 + el xs j).tmod d = (r * 4294967296 + el xs j) % d := Int.tmod_eq_emod_of_nonneg hN0
      have e9 : IntKind.u64.wrap ((r * 4294967296 + el xs j) % d) = (r * 4294967296 + el xs j) % d := by rw [IntKind.wrap_u64]; omega
      clear hin hcA hr0 hr1 hxr hd hN0 q0 q1 m0 m1
      go_wp2
      go_roundw
      case rel => exact ⟨j, _, _, by rw [down_prev], rfl, HI.out.next WX.out HD.out.1 HD.out.2⟩
      case measure => simp [intOf]
end Go.Proofs.YtoflmheodiajaaaGreatDoor.H
namespace Go.Proofs.YtoflmheodiajaaaGreatDoor.H
open Go.RowKit
set_option linter.unusedVariables false
set_option linter.unusedSimpArgs false
variable {Bs : Nat}
theorem two_split (s : Nat) (hs : s ≤ 32) : (2 : Int) ^ s * 2 ^ (32 - s) = 4294967296 := by
  rw [← Int.pow_add, show s + (32 - s) = 32 by omega]; decide
theorem or_parts (A B : Int) (s : Nat) (hs : s < 32) (h0 : 0 ≤ A) (h1 : 0 ≤ B) (h2 : B < 2 ^ s) (h3 : A * 2 ^ s + B < 4294967296) : bits .or .u32 (A * 2 ^ s) B = A * 2 ^ s + B := by
  obtain ⟨a, rfl⟩ := Int.eq_ofNat_of_zero_le h0
  obtain ⟨b, rfl⟩ := Int.eq_ofNat_of_zero_le h1
  have e : ((a : Int) * 2 ^ s) = ((2 ^ s * a : Nat) : Int) := by simp [Int.mul_comm]
  have h2' : b < 2 ^ s := by
    have : ((b : Nat) : Int) < ((2 ^ s : Nat) : Int) := by simpa using h2
    omega
  rw [e] at h3 ⊢
  rw [u32_or_nat _ _ (by omega) (by omega), ← Nat.two_pow_add_eq_or_of_lt h2']
  simp
theorem u32_or_comm (a b : Int) (h1 : 0 ≤ a) (h2 : a < 4294967296) (h3 : 0 ≤ b) (h4 : b < 4294967296) : bits .or .u32 a b = bits .or .u32 b a := by
  rw [u32_or a b h1 h2 h3 h4, u32_or b a h3 h4 h1 h2, Nat.or_comm]
theorem shl_low (x : Int) (s : Nat) (hs : s ≤ 32) : (x * 2 ^ s) % 4294967296 = x % 2 ^ (32 - s) * 2 ^ s := by
  rw [← two_split s hs, Int.mul_comm x, Int.mul_emod_mul_of_pos _ _ (two_pos s), Int.mul_comm]
theorem or_shl (c x : Int) (s : Nat) (hs : s < 32) (h0 : 0 ≤ c) (h1 : c < 2 ^ s) (hx : 0 ≤ x) : bits .or .u32 c ((x * 2 ^ s) % 4294967296) = c + (x * 2 ^ s) % 4294967296 ∧ c + (x * 2 ^ s) % 4294967296 < 4294967296 := by
  have hk := two_pos s
  have hk2 := two_pos (32 - s)
  have hsp := two_split s (by omega)
  rw [shl_low x s (by omega)]
  have a0 := Int.emod_nonneg x (show (2 : Int) ^ (32 - s) ≠ 0 by omega)
  have a1 := Int.emod_lt_of_pos x hk2
  generalize x % 2 ^ (32 - s) = a at *
  have h3 : (a + 1) * 2 ^ s ≤ 2 ^ (32 - s) * 2 ^ s := Int.mul_le_mul_of_nonneg_right (by omega) (by omega)
  rw [Int.add_mul, Int.mul_comm (2 ^ (32 - s)), hsp] at h3
  have h4 : 0 ≤ a * 2 ^ s := Int.mul_nonneg a0 (by omega)
  have h5 : (2 : Int) ^ s ≤ 4294967296 := by
    have : (2 : Int) ^ s * 1 ≤ 2 ^ s * 2 ^ (32 - s) := Int.mul_le_mul_of_nonneg_left (by omega) (by omega)
    omega
  rw [u32_or_comm _ _ h0 (by omega) h4 (by omega), or_parts a c s hs a0 h0 h1 (by omega)]
  omega
structure ShIn (w : World) (xs : List Int) (s i : Nat) (zs : List Int) (wr : World) : Prop where
  ile : i ≤ xs.length
  hl : zs.length = xs.length + 1
  own : OwnI wr w.heap.size 143 .u32 (.slice (some ⟨w.heap.size, 0, none⟩) (xs.length + 1) (xs.length + 1)) zs
  below : Below w.heap.size w wr
  inw : InW zs
  top : el zs i < 2 ^ s
  up : ∀ j, i < j → el zs j = 0
  eq : val zs = vt xs i * 2 ^ s
def ShRel (w : World) (xs : List Int) (s : Nat) (c : Value) (wr : World) : Prop := ∃ i zs, c = .int .i64 (i : Nat) ∧ ShIn w xs s i zs wr
theorem shl_hi (x : Int) (s : Nat) (hs : s ≤ 32) (h0 : 0 ≤ x) (h1 : x < 4294967296) : 0 ≤ x * 2 ^ s ∧ x * 2 ^ s < 4294967296 * 2 ^ s ∧ hi (x * 2 ^ s) < 2 ^ s ∧ x * 2 ^ s < 18446744073709551616 := by
  have hk := two_pos s
  have hsp := two_split s hs
  have a1 : x * 2 ^ s < 4294967296 * 2 ^ s := Int.mul_lt_mul_of_pos_right h1 hk
  have a2 : (2 : Int) ^ s * 1 ≤ 2 ^ s * 2 ^ (32 - s) := Int.mul_le_mul_of_nonneg_left (by have := two_pos (32 - s); omega) (by omega)
  refine ⟨Int.mul_nonneg h0 (by omega), a1, ?_, by omega⟩
  unfold hi
  rw [Int.ediv_lt_iff_lt_mul (by decide)]
  omega
theorem ShIn.next {w wr : World} {xs zs : List Int} {s i : Nat} (h : ShIn w xs s i zs wr) (wx : InW xs) (hi' : i < xs.length) (hs : s < 32) :
    bits .or .u32 (el zs i) (lo (el xs i * 2 ^ s)) = el zs i + lo (el xs i * 2 ^ s) ∧ bits .or .u32 0 (hi (el xs i * 2 ^ s)) = hi (el xs i * 2 ^ s) ∧
    ShIn w xs s (i + 1) ((zs.set i (el zs i + lo (el xs i * 2 ^ s))).set (i + 1) (hi (el xs i * 2 ^ s))) ((wr.setCell ⟨w.heap.size, i, none⟩ (.int .u32 (el zs i + lo (el xs i * 2 ^ s)))).setCell ⟨w.heap.size, i + 1, none⟩ (.int .u32 (hi (el xs i * 2 ^ s)))) := by
  have hx := wx i
  have hz := h.inw i
  obtain ⟨b0, b1, b2, b3⟩ := shl_hi (el xs i) s (by omega) hx.1 hx.2
  have ho := or_shl (el zs i) (el xs i) s hs hz.1 h.top hx.1
  have el0 : lo (el xs i * 2 ^ s) = (el xs i * 2 ^ s) % 4294967296 := rfl
  rw [← el0] at ho
  have hlh := lo_hi (el xs i * 2 ^ s)
  have hlr := lo_range (el xs i * 2 ^ s)
  have hh0 : 0 ≤ hi (el xs i * 2 ^ s) := by unfold hi; omega
  have hh1 : hi (el xs i * 2 ^ s) < 4294967296 := by
    have := two_split s (by omega)
    have a2 : (2 : Int) ^ s * 1 ≤ 2 ^ s * 2 ^ (32 - s) := Int.mul_le_mul_of_nonneg_left (by have := two_pos (32 - s); omega) (by have := two_pos s; omega)
    omega
  have hl := h.hl
  have hup := h.up (i + 1) (by omega)
  have e3 : el (zs.set i (el zs i + lo (el xs i * 2 ^ s))) (i + 1) = 0 := by rw [el_set _ _ _ _ (by omega), if_neg (by omega)]; exact hup
  refine ⟨ho.1, ?_, by omega, by simp [hl], (h.own.set _ _).set _ _, (h.below.setCell (p := ⟨w.heap.size, i, none⟩) (Nat.le_refl _) _).setCell (p := ⟨w.heap.size, i + 1, none⟩) (Nat.le_refl _) _, (h.inw.set _ _ (by omega)).set _ _ ⟨hh0, hh1⟩, ?_, fun j hj => ?_, ?_⟩
  · rw [u32_or 0 _ (by omega) (by omega) hh0 hh1]
    simp
    omega
  · rw [el_set _ _ _ _ (by rw [List.length_set]; omega), if_pos rfl]
    exact b2
  · rw [el_set _ _ _ _ (by rw [List.length_set]; omega), if_neg (by omega), el_set _ _ _ _ (by omega), if_neg (by omega)]
    exact h.up j (by omega)
  · rw [val_set _ _ _ (by rw [List.length_set]; omega), e3, val_set _ _ _ (by omega), h.eq]
    simp only [vt]
    rw [pw_succ]
    generalize lo (el xs i * 2 ^ s) = l at *
    generalize hi (el xs i * 2 ^ s) = H at *
    have e4 : (vt xs i + el xs i * pw i) * 2 ^ s = vt xs i * 2 ^ s + (el xs i * 2 ^ s) * pw i := by grind
    rw [e4, hlh]
    grind
set_option maxHeartbeats 1000000 in
theorem shiftLeft_any (v : Value) (xs : List Int) (s : Nat) (w : World) (h : Nat32 Bs w v xs) (hlen : xs.length ≤ 1099511627776) (hs : s < 32) :
    Calls Tryz.prog 181 #[v, .int .u64 s] w (Gives w fun v w' => ∃ zs, v = .slice (some ⟨w.heap.size, 0, none⟩) (xs.length + 1) (xs.length + 1) ∧ zs.length = xs.length + 1 ∧ OwnI w' w.heap.size 143 .u32 v zs ∧ InW zs ∧ val zs = val xs * 2 ^ s) := by
  obtain ⟨⟨A, ca, rfl, h1, h2, h3⟩, h4⟩ := h
  have HX := Lib.hid h3
  have WX := Lib.hid h4
  clear h3 h4
  go_enter Tryz.func181, Tryz.ntmps181
  go_wp2_with (at_make; refine makeI _ rfl _ _ _ rfl w.heap.size 143 .u32 4 Tryz.underlying92 infoU32 _ _ (xs.length + 1) (xs.length + 1) rfl rfl (by omega) (by omega) (by omega) (by omega) (by omega) (Nat.le_refl _) ?_)
  intro w1 hO hG hS
  have hB := (below_refl w).grown hG (Nat.le_refl _) (fun k hk => by simp at hk)
  have HST := Lib.hid (show ShIn w xs s 0 (List.replicate (xs.length + 1) 0) w1 from ⟨by omega, by simp, hO, hB, InW.replicate _, by rw [el_replicate]; exact two_pos s, fun j _ => el_replicate _ _, by rw [val_zeros]; simp [vt]⟩)
  clear hO hG hS hB
  go_wp2
  go_loopw [6] (fun c wr => ShRel w xs s c wr) (fun c _ => xs.length - (intOf c).toNat)
  case atStart => exact ⟨0, _, rfl, HST.out⟩
  case round =>
    obtain ⟨i, zs, rfl, hin⟩ := hrel
    have HI := Lib.hid hin
    have hil := hin.ile
    by_cases hlt : i < xs.length
    · obtain ⟨ab, ao, rfl, hab, hcA⟩ := HX.out.plain (by omega)
      have hA := (hin.below.cell (p := ⟨ab, ao + i, none⟩) hab).trans (hcA i hlt)
      have hzc := hin.own.cell i (by rw [hin.hl]; omega)
      have hzf := hin.own.frozen i
      have hzf2 := hin.own.frozen (i + 1)
      have hzc2 := hin.own.cell (i + 1) (by rw [hin.hl]; omega)
      rw [hin.up (i + 1) (by omega)] at hzc2
      obtain ⟨eo, eo2, hnx⟩ := hin.next WX.out hlt hs
      have HN := Lib.hid hnx
      have hxr := WX.out i
      obtain ⟨b0, b1, b2, b3⟩ := shl_hi (el xs i) s (by omega) hxr.1 hxr.2
      have e0 : IntKind.u64.wrap (el xs i) = el xs i := by rw [IntKind.wrap_u64]; omega
      have e1 : IntKind.u64.wrap (el xs i * 2 ^ s) = el xs i * 2 ^ s := by rw [IntKind.wrap_u64]; omega
      have e2 : IntKind.u32.wrap (el xs i * 2 ^ s) = lo (el xs i * 2 ^ s) := by rw [IntKind.wrap_u32]; rfl
      have e3 : (el xs i * 2 ^ s) / 4294967296 = hi (el xs i * 2 ^ s) := rfl
      have e4 : IntKind.u32.wrap (hi (el xs i * 2 ^ s)) = hi (el xs i * 2 ^ s) := by
        have := (hnx.inw (i + 1))
        rw [el_set _ _ _ _ (by rw [List.length_set, hin.hl]; omega), if_pos rfl] at this
        rw [IntKind.wrap_u32]; omega
      clear hin hnx hcA hxr b0 b1 b2 b3
      go_wp2
      go_roundw
      case rel => exact ⟨i + 1, _, by go_num, HN.out⟩
      case measure => simp [intOf]; omega
    · obtain rfl : i = xs.length := by omega
      clear hin
      go_wp2
      go_ret
      exact ⟨_, rfl, ⟨zs, rfl, HI.out.hl, HI.out.own, HI.out.inw, HI.out.eq⟩, HI.out.below⟩
end Go.Proofs.YtoflmheodiajaaaGreatDoor.H
namespace Go.Proofs.YtoflmheodiajaaaGreatDoor.H
open Go.RowKit
set_option linter.unusedVariables false
set_option linter.unusedSimpArgs false
def TrH (top v1 v0 u0 h r : Int) : Prop :=
  (top < v1 * 4294967296 + v0 ∧ TrialB 4294967296 top v1 v0 u0 h r) ∨ (top = v1 * 4294967296 + v0 ∧ h * v1 + r = top ∧ 0 ≤ r ∧ r < 4294967296 ∧ 4294967295 ≤ h ∧ h ≤ 4294967297)
structure RoundsH (top v1 v0 u0 G : Int) : Prop where
  done : ∀ h r, TrH top v1 v0 u0 h r → ¬ 4294967296 ≤ h → ¬ r * 4294967296 + u0 < h * v0 → h = G
  step : ∀ h r, TrH top v1 v0 u0 h r → (4294967296 ≤ h ∨ r * 4294967296 + u0 < h * v0) → 1 ≤ h ∧ IntKind.u64.wrap (h - 1) = h - 1 ∧ IntKind.u64.wrap (r + v1) = r + v1 ∧ (r + v1 < 4294967296 → TrH top v1 v0 u0 (h - 1) (r + v1)) ∧ (4294967296 ≤ r + v1 → h - 1 = G)
  prod : ∀ h r, TrH top v1 v0 u0 h r → ¬ 4294967296 ≤ h → IntKind.u64.wrap (h * v0) = h * v0 ∧ IntKind.u64.wrap (r * 4294967296) = r * 4294967296 ∧ bits .or .u64 (r * 4294967296) u0 = r * 4294967296 + u0
theorem trH_start {u2 u1 u0 v1 v0 : Int} (h1 : 2147483648 ≤ v1) (h1B : v1 < 4294967296) (h2 : 0 ≤ v0) (h3 : v0 < 4294967296) (hu2 : 0 ≤ u2) (hu1 : 0 ≤ u1) (hu0 : 0 ≤ u0) (hu0B : u0 < 4294967296) (ht : u2 * 4294967296 + u1 ≤ v1 * 4294967296 + v0) :
    TrH (u2 * 4294967296 + u1) v1 v0 u0 ((u2 * 4294967296 + u1) / v1) ((u2 * 4294967296 + u1) % v1) := by
  rcases Int.lt_or_eq_of_le ht with hlt | heq
  · exact .inl ⟨hlt, trial_start (by decide) (by omega) h2 h3 (by omega) (by omega) hlt hu0 hu0B⟩
  · refine .inr ⟨heq, ?_, Int.emod_nonneg _ (by omega), ?_, ?_, ?_⟩
    · have := Int.mul_ediv_add_emod (u2 * 4294967296 + u1) v1
      rw [Int.mul_comm] at this
      exact this
    · have := Int.emod_lt_of_pos (u2 * 4294967296 + u1) (show 0 < v1 by omega)
      omega
    · rw [heq, Int.le_ediv_iff_mul_le (by omega)]
      omega
    · have : (u2 * 4294967296 + u1) / v1 < 4294967298 := by
        rw [heq, Int.ediv_lt_iff_lt_mul (by omega)]
        omega
      omega
theorem roundsH {u2 u1 u0 v1 v0 : Int} (h1 : 2147483648 ≤ v1) (h1B : v1 < 4294967296) (h2 : 0 ≤ v0) (h3 : v0 < 4294967296) (hu0 : 0 ≤ u0) (hu0B : u0 < 4294967296) (ht : u2 * 4294967296 + u1 ≤ v1 * 4294967296 + v0) :
    RoundsH (u2 * 4294967296 + u1) v1 v0 u0 (guessH u2 u1 u0 v1 v0) := by
  have hV : 0 < v1 * 4294967296 + v0 := by omega
  have hsm : u2 * 4294967296 + u1 < v1 * 4294967296 + v0 → guessH u2 u1 u0 v1 v0 = ((u2 * 4294967296 + u1) * 4294967296 + u0) / (v1 * 4294967296 + v0) := by
    intro hlt
    have := trial_small (B := 4294967296) (u := u2 * 4294967296 + u1) (u1 := u0) (by decide) hV hlt hu0B
    unfold guessH
    rw [if_pos this]
  have heqG : u2 * 4294967296 + u1 = v1 * 4294967296 + v0 → guessH u2 u1 u0 v1 v0 = 4294967295 := by
    intro heq
    unfold guessH
    rw [heq, if_neg]
    rw [Int.not_lt, Int.le_ediv_iff_mul_le hV]
    omega
  generalize u2 * 4294967296 + u1 = top at *
  generalize guessH u2 u1 u0 v1 v0 = G at *
  refine ⟨fun h r t a b => ?_, fun h r t c => ?_, fun h r t a => ?_⟩
  · rcases t with ⟨hlt, t⟩ | ⟨heq, e, r0, rB, l, u⟩
    · rw [hsm hlt]
      exact t.done hV (by omega)
    · rw [heqG heq]; omega
  · rcases t with ⟨hlt, t⟩ | ⟨heq, e, r0, rB, l, u⟩
    · obtain ⟨s1, s2, s3⟩ := t.step (by decide) (by omega) h2 h3 hlt hu0 hu0B (by omega)
      have hB := t.hB
      have hr0 := t.r0
      have hrB := t.rB
      refine ⟨s1, by rw [IntKind.wrap_u64]; omega, by rw [IntKind.wrap_u64]; omega, fun h' => .inl ⟨hlt, s2 h'⟩, fun h' => by rw [hsm hlt]; exact s3 h'⟩
    · have hcase : h = 4294967297 ∨ h = 4294967296 ∨ h = 4294967295 := by omega
      rcases hcase with rfl | rfl | rfl
      · refine ⟨by omega, by decide, by rw [IntKind.wrap_u64]; omega, fun h' => .inr ⟨heq, by omega, by omega, by omega, by omega, by omega⟩, fun h' => by omega⟩
      · refine ⟨by omega, by decide, by rw [IntKind.wrap_u64]; omega, fun h' => .inr ⟨heq, by omega, by omega, by omega, by omega, by omega⟩, fun h' => by rw [heqG heq]; decide⟩
      · exfalso
        omega
  · have hr : 0 ≤ r ∧ r < 4294967296 ∧ 0 ≤ h := by
      rcases t with ⟨hlt, t⟩ | ⟨heq, e, r0, rB, l, u⟩
      · exact ⟨t.r0, t.rB, t.h0⟩
      · omega
    obtain ⟨r0, r1, hh⟩ := hr
    have hp : h * v0 ≤ 4294967295 * 4294967295 := Int.mul_le_mul (by omega) (by omega) h2 (by omega)
    have hp0 : 0 ≤ h * v0 := Int.mul_nonneg hh h2
    exact ⟨by rw [IntKind.wrap_u64]; omega, by rw [IntKind.wrap_u64]; omega, or_high r u0 r0 r1 hu0 hu0B⟩
def sbD (x y b : Int) : Int := (x - y - b) % 4294967296
def sbB (x y b : Int) : Int := if x < y + b then 1 else 0
theorem sb_eq {x y b : Int} (hx : 0 ≤ x ∧ x < 4294967296) (hy : 0 ≤ y ∧ y < 4294967296) (hb : b = 0 ∨ b = 1) : sbD x y b = x - y - b + 4294967296 * sbB x y b := by
  unfold sbD sbB
  split <;> rcases hb with rfl | rfl <;> omega
theorem sb_range (x y b : Int) : 0 ≤ sbD x y b ∧ sbD x y b < 4294967296 := ⟨Int.emod_nonneg _ (by decide), Int.emod_lt_of_pos _ (by decide)⟩
theorem sb_bit (x y b : Int) : sbB x y b = 0 ∨ sbB x y b = 1 := by unfold sbB; split <;> simp
theorem sb_words {x y b : Int} (hx : 0 ≤ x ∧ x < 4294967296) (hy : 0 ≤ y ∧ y < 4294967296) (hb : b = 0 ∨ b = 1) :
    let D := IntKind.u64.wrap (IntKind.u64.wrap (x - y) - b)
    IntKind.u32.wrap D = sbD x y b ∧ bits .and .u64 (D / 4294967296) 1 = sbB x y b ∧ D / 9223372036854775808 = sbB x y b := by
  intro D
  have hD : D = (x - y - b) % 18446744073709551616 := by
    show IntKind.u64.wrap (IntKind.u64.wrap (x - y) - b) = _
    rw [IntKind.wrap_u64, IntKind.wrap_u64]
    omega
  rw [hD]
  refine ⟨by rw [IntKind.wrap_u32]; unfold sbD; omega, ?_, ?_⟩
  · unfold sbB
    split
    · have e : (x - y - b) % 18446744073709551616 / 4294967296 = 4294967295 := by rcases hb with rfl | rfl <;> omega
      rw [e]; decide
    · have e : (x - y - b) % 18446744073709551616 / 4294967296 = 0 := by rcases hb with rfl | rfl <;> omega
      rw [e]; decide
  · unfold sbB
    split <;> rcases hb with rfl | rfl <;> omega
end Go.Proofs.YtoflmheodiajaaaGreatDoor.H
