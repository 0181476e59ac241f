import Derived.Test.YtoflmheodiajaaaGreatDoorK15
namespace Go.Proofs.YtoflmheodiajaaaGreatDoor
open Go.RowKit
set_option linter.unusedVariables false
set_option linter.unusedSimpArgs false
variable {Bs : Nat}
def down : Nat → Int
  | 0 => -1
  | j + 1 => (j : Int)
theorem down_last (n : Nat) (h : 0 < n) : down n = (n : Int) - 1 := by
  obtain ⟨j, rfl⟩ : ∃ j, n = j + 1 := ⟨n - 1, by omega⟩
  simp only [down]; omega
theorem down_prev (j : Nat) : down j = (j : Int) - 1 := by
  cases j with
  | zero => rfl
  | succ j => simp only [down]; omega
structure BwIn (w : World) (xs : List Int) (d : Int) (k : Nat) (r : Int) (zs : List Int) (wr : World) : Prop where
  hk : k ≤ xs.length
  hl : zs.length = xs.length
  own : OwnI wr w.heap.size 191 .u64 (.slice (some ⟨w.heap.size, 0, none⟩) xs.length xs.length) zs
  below : Below w.heap.size w wr
  r0 : 0 ≤ r
  r1 : r < d
  inw : InW zs
  low : ∀ j, j < k → el zs j = 0
  eq : val xs = vt xs k + val zs * d + r * pw k
def BwRel (w : World) (xs : List Int) (d : Int) (i rest : Value) (wr : World) : Prop := ∃ k r zs, i = .int .i64 (down k) ∧ rest = .int .u64 r ∧ BwIn w xs d k r zs wr
theorem BwIn.next {w wr : World} {xs zs : List Int} {d r : Int} {j q : Nat} (h : BwIn w xs d (j + 1) r zs wr) (wx : InW xs) (hd : 0 < d) (hd1 : d < 18446744073709551616) :
    BwIn w xs d j ((r * 18446744073709551616 + el xs j) % d) (zs.set j ((r * 18446744073709551616 + el xs j) / d)) ((wr.drewN q).setCell ⟨w.heap.size, j, none⟩ (.int .u64 ((r * 18446744073709551616 + el xs j) / d))) := by
  have hx := wx j
  have hr0 := h.r0
  have hr1 := h.r1
  have hk := h.hk
  have hN0 : 0 ≤ r * 18446744073709551616 + el xs j := by omega
  have hq0 : 0 ≤ (r * 18446744073709551616 + el xs j) / d := Int.ediv_nonneg hN0 (by omega)
  have hq1 : (r * 18446744073709551616 + el xs j) / d < 18446744073709551616 := trial_small (by decide) hd hr1 hx.2
  refine ⟨by omega, by rw [List.length_set]; exact h.hl, (h.own.drewN q).set j _, (below_drewN h.below q).setCell (p := ⟨w.heap.size, j, none⟩) (Nat.le_refl _) _, Int.emod_nonneg _ (by omega), Int.emod_lt_of_pos _ hd, h.inw.set j _ ⟨hq0, hq1⟩, fun i hi => ?_, ?_⟩
  · rw [el_set _ _ _ _ (by rw [h.hl]; omega), if_neg (by omega)]
    exact h.low i (by omega)
  · have e := h.eq
    rw [val_set _ _ _ (by rw [h.hl]; omega), h.low j (by omega)]
    simp only [vt] at e
    rw [pw_succ] at e
    have hdm := Int.mul_ediv_add_emod (r * 18446744073709551616 + el xs j) d
    generalize (r * 18446744073709551616 + el xs j) / d = q' at *
    generalize (r * 18446744073709551616 + el xs j) % d = r' at *
    have e2 : (d * q' + r') * pw j = (r * 18446744073709551616 + el xs j) * pw j := by rw [hdm]
    rw [e]
    grind
theorem BwIn.done {w wr : World} {xs zs : List Int} {d r : Int} (h : BwIn w xs d 0 r zs wr) (hd : 0 < d) : r = val xs % d ∧ val zs = val xs / d := by
  have e := h.eq
  simp only [vt, pw_zero] at e
  have := (Int.ediv_emod_unique (a := val xs) (b := d) (r := r) (q := val zs) hd).2 ⟨by rw [e, Int.mul_comm d]; omega, h.r0, h.r1⟩
  exact ⟨this.2.symm, this.1.symm⟩
set_option maxHeartbeats 1000000 in
theorem byWord_core (A : Option Addr) (ca : Nat) (xs : List Int) (d : Int) (w : World) (hn : 0 < xs.length) (hlen : xs.length ≤ 1099511627776) (hca : xs.length ≤ ca) (hx : Rd Bs w .u64 191 A xs) (wx : InW xs) (hd : 0 < d) (hd1 : d < 18446744073709551616) :
    Calls Tryz.prog 153 #[.slice A xs.length ca, .int .u64 d] w (Gives w fun v w' => ∃ zs qv, v = .tuple #[qv, .int .u64 (val xs % d)] ∧ Nat64 Bs w' qv zs ∧ val zs = val xs / d ∧ zs.length ≤ xs.length ∧ Trim zs) := by
  obtain ⟨ab, ao, rfl, hab, hcA⟩ := hx.plain hn
  have HA := Lib.hid hcA
  have WX := Lib.hid wx
  have HD := Lib.hid (And.intro hd hd1)
  clear hx hcA wx hd hd1
  go_enter Tryz.func153, Tryz.ntmps153
  go_wp2_with (at_make; refine makeI _ rfl _ _ _ rfl w.heap.size 191 .u64 8 Tryz.underlying200 infoU64 _ _ xs.length xs.length rfl rfl rfl rfl (by omega) (by omega) (by omega) (Nat.le_refl _) ?_)
  intro w1 hO hG hS
  have hB := Lib.hid ((below_refl w).grown hG (Nat.le_refl _) (fun k hk => by simp at hk))
  have hS1 : w.heap.size ≤ w1.heap.size := by omega
  have HO := Lib.hid hO
  clear hO hG hS
  go_wp2
  go_loopw [8, 7] (fun i rest wr => BwRel w xs d i rest wr) (fun i _ _ => (intOf i + 1).toNat)
  case atStart =>
    refine ⟨xs.length, 0, List.replicate xs.length 0, by rw [down_last _ hn], rfl, Nat.le_refl _, by simp, HO.out, hB.out, by omega, HD.out.1, InW.replicate _, fun j _ => el_replicate _ _, ?_⟩
    rw [val_zeros]; simp [val]
  case round =>
    obtain ⟨k, r, zs, rfl, rfl, hin⟩ := hrel
    have HI := Lib.hid hin
    cases k with
    | zero =>
      simp only [down]
      have HN := Lib.hid (nat64_of_own (Bs := Bs) hin.own hin.inw)
      clear hin
      go_wp2_with (go_at_call 152; refine (trim_any _ _ _ HN.out).mono ?_; rintro e w' ⟨v', rfl, hv', rfl⟩; have HV' := Lib.hid hv'; clear hv')
      go_ret2
      obtain ⟨er, ez⟩ := HI.out.done HD.out.1
      subst er
      exact ⟨_, rfl, ⟨_, _, rfl, HV'.out, by rw [val_stripped]; exact ez, by rw [stripped_length]; have := strip_le zs zs.length; have := HI.out.hl; omega, trim_stripped _⟩, HI.out.below⟩
    | succ j =>
      simp only [down]
      have hjl := hin.hk
      have hj : (j : Int) < (xs.length : Int) := by omega
      have hA := (hin.below.cell (p := ⟨ab, ao + j, none⟩) hab).trans (HA.out j (by omega))
      have hzc := hin.own.cell j (by rw [hin.hl]; omega)
      have hzf := hin.own.frozen j
      have HDV := Lib.hid (fun W => div64_any r (el xs j) d W hin.r0 hin.r1 (WX.out j).1 (WX.out j).2 HD.out.2)
      clear hin
      go_wp2_with (go_at_call 175; refine (HDV.out _).mono ?_; rintro e w' ⟨rfl, q, rfl⟩)
      go_roundw
      case rel => exact ⟨j, _, _, by rw [down_prev], rfl, HI.out.next WX.out HD.out.1 HD.out.2⟩
      case measure => simp [intOf]
end Go.Proofs.YtoflmheodiajaaaGreatDoor
namespace Go.Proofs.YtoflmheodiajaaaGreatDoor
open Go.RowKit
set_option linter.unusedVariables false
set_option linter.unusedSimpArgs false
variable {Bs : Nat}
theorem u64_or_comm (a b : Int) (h1 : 0 ≤ a) (h2 : a < 18446744073709551616) (h3 : 0 ≤ b) (h4 : b < 18446744073709551616) : bits .or .u64 a b = bits .or .u64 b a := by
  rw [u64_or a b h1 h2 h3 h4, u64_or b a h3 h4 h1 h2, Nat.or_comm]
theorem shl_low (x : Int) (s : Nat) (hs : s ≤ 64) : (x * 2 ^ s) % 18446744073709551616 = x % 2 ^ (64 - s) * 2 ^ s := by
  rw [← two_split s hs, Int.mul_comm x, Int.mul_emod_mul_of_pos _ _ (two_pos s), Int.mul_comm]
theorem or_shl (c x : Int) (s : Nat) (hs : s < 64) (h0 : 0 ≤ c) (h1 : c < 2 ^ s) (hx : 0 ≤ x) : bits .or .u64 c ((x * 2 ^ s) % 18446744073709551616) = c + (x * 2 ^ s) % 18446744073709551616 ∧ c + (x * 2 ^ s) % 18446744073709551616 < 18446744073709551616 := by
  have hk := two_pos s
  have hk2 := two_pos (64 - s)
  have hsp := two_split s (by omega)
  rw [shl_low x s (by omega)]
  have a0 := Int.emod_nonneg x (show (2 : Int) ^ (64 - s) ≠ 0 by omega)
  have a1 := Int.emod_lt_of_pos x hk2
  generalize x % 2 ^ (64 - s) = a at *
  have h3 : (a + 1) * 2 ^ s ≤ 2 ^ (64 - s) * 2 ^ s := Int.mul_le_mul_of_nonneg_right (by omega) (by omega)
  rw [Int.add_mul, Int.mul_comm (2 ^ (64 - s)), hsp] at h3
  have h4 : 0 ≤ a * 2 ^ s := Int.mul_nonneg a0 (by omega)
  have h5 : (2 : Int) ^ s ≤ 18446744073709551616 := by
    have : (2 : Int) ^ s * 1 ≤ 2 ^ s * 2 ^ (64 - s) := Int.mul_le_mul_of_nonneg_left (by omega) (by omega)
    omega
  rw [u64_or_comm _ _ h0 (by omega) h4 (by omega), or_parts a c s hs a0 h0 h1 (by omega)]
  omega
structure LfIn (w : World) (xs : List Int) (s i : Nat) (zs : List Int) (wr : World) : Prop where
  hi : i ≤ xs.length
  hl : zs.length = xs.length + 1
  own : OwnI wr w.heap.size 191 .u64 (.slice (some ⟨w.heap.size, 0, none⟩) (xs.length + 1) (xs.length + 1)) zs
  below : Below w.heap.size w wr
  inw : InW zs
  top : el zs i < 2 ^ s
  up : ∀ j, i < j → el zs j = 0
  eq : val zs = vt xs i * 2 ^ s
def LfRel (w : World) (xs : List Int) (s : Nat) (c : Value) (wr : World) : Prop := ∃ i zs, c = .int .i64 (i : Nat) ∧ LfIn w xs s i zs wr
theorem LfIn.next {w wr : World} {xs zs : List Int} {s i : Nat} (h : LfIn w xs s i zs wr) (wx : InW xs) (hi : i < xs.length) (hs : s < 64) :
    bits .or .u64 (el zs i) ((el xs i * 2 ^ s) % 18446744073709551616) = el zs i + (el xs i * 2 ^ s) % 18446744073709551616 ∧
    LfIn w xs s (i + 1) ((zs.set i (el zs i + (el xs i * 2 ^ s) % 18446744073709551616)).set (i + 1) (el xs i / 2 ^ (64 - s)))
      ((wr.setCell ⟨w.heap.size, i, none⟩ (.int .u64 (el zs i + (el xs i * 2 ^ s) % 18446744073709551616))).setCell ⟨w.heap.size, i + 1, none⟩ (.int .u64 (el xs i / 2 ^ (64 - s)))) := by
  have hx := wx i
  have hc := h.inw i
  obtain ⟨ho, hlt⟩ := or_shl (el zs i) (el xs i) s hs hc.1 h.top hx.1
  have hk := two_pos s
  have hk2 := two_pos (64 - s)
  have hm0 := Int.emod_nonneg (el xs i * 2 ^ s) (show (18446744073709551616 : Int) ≠ 0 by decide)
  have hd0 : 0 ≤ el xs i / 2 ^ (64 - s) := Int.ediv_nonneg hx.1 (by omega)
  have hd1 : el xs i / 2 ^ (64 - s) < 2 ^ s := by
    rw [Int.ediv_lt_iff_lt_mul hk2, two_split s (by omega)]; exact hx.2
  have hd2 : el xs i / 2 ^ (64 - s) < 18446744073709551616 := Int.lt_of_le_of_lt (Int.ediv_le_self _ hx.1) hx.2
  have hsh := shl_parts (el xs i) s (by omega)
  have hl := h.hl
  refine ⟨ho, by omega, by simp [h.hl], (h.own.set i _).set (i + 1) _, (h.below.setCell (p := ⟨w.heap.size, i, none⟩) (Nat.le_refl _) _).setCell (p := ⟨w.heap.size, i + 1, none⟩) (Nat.le_refl _) _,
    (h.inw.set i _ (by omega)).set (i + 1) _ (by omega), ?_, fun j hj => ?_, ?_⟩
  · rw [el_set _ _ _ _ (by simp; omega), if_pos rfl]; exact hd1
  · rw [el_set _ _ _ _ (by simp; omega), if_neg (by omega), el_set _ _ _ _ (by omega), if_neg (by omega)]
    exact h.up j (by omega)
  · rw [val_set _ _ _ (by simp; omega), val_set _ _ _ (by omega), el_set _ _ _ _ (by omega), if_neg (by omega), h.up (i + 1) (by omega), h.eq, pw_succ]
    simp only [vt]
    generalize (el xs i * 2 ^ s) % 18446744073709551616 = m at *
    generalize el xs i / 2 ^ (64 - s) = q at *
    have : el xs i * 2 ^ s * pw i = (q * 18446744073709551616 + m) * pw i := by rw [← hsh]
    grind
theorem LfIn.next0 {w wr : World} {xs zs : List Int} {i : Nat} (h : LfIn w xs 0 i zs wr) (wx : InW xs) (hi : i < xs.length) :
    bits .or .u64 (el zs i) ((el xs i * 2 ^ 0) % 18446744073709551616) = el zs i + (el xs i * 2 ^ 0) % 18446744073709551616 ∧
    LfIn w xs 0 (i + 1) (zs.set i (el zs i + (el xs i * 2 ^ 0) % 18446744073709551616)) (wr.setCell ⟨w.heap.size, i, none⟩ (.int .u64 (el zs i + (el xs i * 2 ^ 0) % 18446744073709551616))) := by
  have hx := wx i
  have hc := h.inw i
  obtain ⟨ho, hlt⟩ := or_shl (el zs i) (el xs i) 0 (by decide) hc.1 h.top hx.1
  have hl := h.hl
  have hm0 := Int.emod_nonneg (el xs i * 2 ^ 0) (show (18446744073709551616 : Int) ≠ 0 by decide)
  have hm : (el xs i * 2 ^ 0) % 18446744073709551616 = el xs i := by rw [Int.pow_zero, Int.mul_one]; omega
  refine ⟨ho, by omega, by simp [h.hl], h.own.set i _, h.below.setCell (p := ⟨w.heap.size, i, none⟩) (Nat.le_refl _) _, h.inw.set i _ (by omega), ?_, fun j hj => ?_, ?_⟩
  · rw [el_set _ _ _ _ (by omega), if_neg (by omega), h.up (i + 1) (by omega)]; decide
  · rw [el_set _ _ _ _ (by omega), if_neg (by omega)]
    exact h.up j (by omega)
  · rw [val_set _ _ _ (by omega), hm, h.eq]
    simp only [vt]
    grind
set_option maxHeartbeats 1000000 in
set_option maxRecDepth 100000 in
theorem left_core (A : Option Addr) (ca : Nat) (xs : List Int) (s : Nat) (w : World) (hn : 0 < xs.length) (hlen : xs.length ≤ 1099511627776) (hca : xs.length ≤ ca) (hx : Rd Bs w .u64 191 A xs) (wx : InW xs) (hs : s < 64) :
    Calls Tryz.prog 155 #[.slice A xs.length ca, .int .i64 s] w (Gives w fun v w' => ∃ zs, Nat64 Bs w' v zs ∧ val zs = val xs * 2 ^ s ∧ zs.length ≤ xs.length + 1 ∧ Trim zs) := by
  obtain ⟨ab, ao, rfl, hab, hcA⟩ := hx.plain hn
  have HA := Lib.hid hcA
  have WX := Lib.hid wx
  have hz : ((xs.length : Int) == 0) = false := beq_eq_false_iff_ne.2 (by omega)
  have hq : (s : Int) / 64 = 0 := by omega
  have hr : (s : Int) % 64 = s := by omega
  clear hx hcA wx
  go_enter Tryz.func155, Tryz.ntmps155
  go_wp2_with (at_make; refine makeI _ rfl _ _ _ rfl w.heap.size 191 .u64 8 Tryz.underlying200 infoU64 _ _ (xs.length + 1) (xs.length + 1) rfl rfl (by omega) (by omega) (by omega) (by omega) (by omega) (Nat.le_refl _) ?_)
  intro w1 hO hG hS
  have hB := Lib.hid ((below_refl w).grown hG (Nat.le_refl _) (fun k hk => by simp at hk))
  have hS1 : w.heap.size ≤ w1.heap.size := by omega
  have HO := Lib.hid hO
  clear hO hG hS hq hr
  go_wp2
  go_loopw [26] (fun c wr => LfRel w xs s c wr) (fun c _ => xs.length - (intOf c).toNat)
  case atStart =>
    refine ⟨0, List.replicate (xs.length + 1) 0, rfl, by omega, by simp, HO.out, hB.out, InW.replicate _, by rw [el_replicate]; exact two_pos s, fun j _ => el_replicate _ _, ?_⟩
    rw [val_zeros]; simp [vt]
  case round =>
    obtain ⟨i, zs, rfl, hin⟩ := hrel
    have HI := Lib.hid hin
    by_cases hi : i < xs.length
    · have hA := (hin.below.cell (p := ⟨ab, ao + i, none⟩) hab).trans (HA.out i hi)
      have hzc := hin.own.cell i (by rw [hin.hl]; omega)
      have hzf := hin.own.frozen i
      have hzf2 := hin.own.frozen (i + 1)
      have hzc2 := hin.own.cell (i + 1) (by rw [hin.hl]; omega)
      have hw : IntKind.u64.wrap (el xs i * 2 ^ s) = (el xs i * 2 ^ s) % 18446744073709551616 := IntKind.wrap_u64 _
      generalize hm : (el xs i * 2 ^ s) % 18446744073709551616 = m at hw
      clear hin
      by_cases hs0 : s = 0
      · subst hs0
        have hnx := HI.out.next0 WX.out hi
        rw [hm] at hnx
        obtain ⟨ho, hnx⟩ := hnx
        have HX := Lib.hid hnx
        have hw0 : IntKind.u64.wrap (el xs i) = m := by simpa using hw
        clear hnx hm hw
        go_wp2
        go_roundw
        case rel => exact ⟨i + 1, _, by go_num, HX.out⟩
        case measure => simp [intOf]; omega
      · have hnx := HI.out.next WX.out hi hs
        rw [hm] at hnx
        obtain ⟨ho, hnx⟩ := hnx
        have HX := Lib.hid hnx
        have hs1 : (0 : Int) < s := by omega
        have h64 : IntKind.u64.wrap (64 - (s : Int)) = ((64 - s : Nat) : Int) := by rw [IntKind.wrap_u64]; omega
        clear hnx hm
        go_wp2
        go_roundw
        case rel => exact ⟨i + 1, _, by go_num, HX.out⟩
        case measure => simp [intOf]; omega
    · obtain rfl : i = xs.length := by have := hin.hi; omega
      have HN := Lib.hid (nat64_of_own (Bs := Bs) hin.own hin.inw)
      clear hin
      go_wp2_with (go_at_call 152; refine (trim_any _ _ _ HN.out).mono ?_; rintro e w' ⟨v', rfl, hv', rfl⟩; have HV' := Lib.hid hv'; clear hv')
      go_ret
      exact ⟨_, rfl, ⟨_, HV'.out, by rw [val_stripped]; exact HI.out.eq, by rw [stripped_length]; have := strip_le zs zs.length; have := HI.out.hl; omega, trim_stripped _⟩, HI.out.below⟩
theorem left_any (v : Value) (xs : List Int) (s : Nat) (w : World) (h : Nat64 Bs w v xs) (hlen : xs.length ≤ 1099511627776) (hs : s < 64) :
    Calls Tryz.prog 155 #[v, .int .i64 s] w (Gives w fun v w' => ∃ zs, Nat64 Bs w' v zs ∧ val zs = val xs * 2 ^ s ∧ zs.length ≤ xs.length + 1 ∧ Trim zs) := by
  obtain ⟨⟨A, ca, rfl, h1, h2, h3⟩, h4⟩ := h
  rcases Nat.eq_zero_or_pos xs.length with h0 | h0
  · have e : xs = [] := List.eq_nil_of_length_eq_zero h0
    subst e
    have hz : ((([] : List Int).length : Int) == 0) = true := rfl
    clear h3
    go_enter Tryz.func155, Tryz.ntmps155
    go_wp2
    go_ret
    exact ⟨_, rfl, ⟨[], nat64_nil w, by simp [val_nil], by simp, .inl rfl⟩, below_refl _⟩
  · exact left_core A ca xs s w h0 hlen h1 h3 h4 hs
end Go.Proofs.YtoflmheodiajaaaGreatDoor
