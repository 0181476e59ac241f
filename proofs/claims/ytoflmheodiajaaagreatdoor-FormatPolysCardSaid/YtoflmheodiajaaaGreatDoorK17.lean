import Derived.Test.YtoflmheodiajaaaGreatDoorK16
namespace Go.Proofs.YtoflmheodiajaaaGreatDoor
open Go.RowKit
set_option linter.unusedVariables false
set_option linter.unusedSimpArgs false
variable {Bs : Nat}
def rgWord (xs : List Int) (s j : Nat) : Int := el xs j / 2 ^ s + (el xs (j + 1) * 2 ^ (64 - s)) % 18446744073709551616
theorem rg_low (x : Int) (s : Nat) (hs : s ≤ 64) : (x * 2 ^ (64 - s)) % 18446744073709551616 = x % 2 ^ s * 2 ^ (64 - s) := by
  have := shl_low x (64 - s) (by omega)
  rw [show 64 - (64 - s) = s by omega] at this
  exact this
theorem rg_or {xs : List Int} (wx : InW xs) (s j : Nat) (hs : s < 64) (h0 : 0 < s) : bits .or .u64 (el xs j / 2 ^ s) ((el xs (j + 1) * 2 ^ (64 - s)) % 18446744073709551616) = rgWord xs s j ∧ 0 ≤ rgWord xs s j ∧ rgWord xs s j < 18446744073709551616 := by
  have hx := wx j
  have hy := wx (j + 1)
  have hk := two_pos s
  have h1 : 0 ≤ el xs j / 2 ^ s := Int.ediv_nonneg hx.1 (by omega)
  have h2 : el xs j / 2 ^ s < 2 ^ (64 - s) := by
    rw [Int.ediv_lt_iff_lt_mul hk, Int.mul_comm, two_split s (by omega)]; exact hx.2
  have := or_shl (el xs j / 2 ^ s) (el xs (j + 1)) (64 - s) (by omega) h1 h2 hy.1
  have hm := Int.emod_nonneg (el xs (j + 1) * 2 ^ (64 - s)) (show (18446744073709551616 : Int) ≠ 0 by decide)
  unfold rgWord
  exact ⟨this.1, by omega, this.2⟩
theorem rg_zero (xs : List Int) (wx : InW xs) (j : Nat) : rgWord xs 0 j = el xs j := by
  unfold rgWord
  rw [rg_low _ 0 (by decide), Int.pow_zero, Int.ediv_one, Int.emod_one]
  omega
theorem rg_sum {xs zs : List Int} (s : Nat) (hs : s ≤ 64) : ∀ k, (∀ j, j < k → el zs j = rgWord xs s j) → 2 ^ s * vt zs k + el xs 0 % 2 ^ s = vt xs k + el xs k % 2 ^ s * pw k
  | 0, _ => by simp [vt, pw_zero]
  | k + 1, h => by
    have ih := rg_sum (xs := xs) (zs := zs) s hs k (fun j hj => h j (by omega))
    have hw := h k (by omega)
    unfold rgWord at hw
    rw [rg_low _ s hs] at hw
    have hd := Int.mul_ediv_add_emod (el xs k) (2 ^ s)
    have hsp := two_split s hs
    simp only [vt]
    rw [hw, pw_succ]
    generalize el xs k / 2 ^ s = q at *
    generalize el xs k % 2 ^ s = r at *
    generalize el xs (k + 1) % 2 ^ s = t at *
    generalize el xs 0 % 2 ^ s = r0 at *
    generalize (2 : Int) ^ (64 - s) = K' at *
    generalize (2 : Int) ^ s = K at *
    have e1 : K * (vt zs k + (q + t * K') * pw k) = K * vt zs k + K * q * pw k + t * (K * K') * pw k := by grind
    have e2 : el xs k * pw k = (K * q + r) * pw k := by rw [hd]
    rw [e1, hsp]
    grind
theorem rg_val {xs zs : List Int} (wx : InW xs) (s : Nat) (hs : s ≤ 64) (hl : zs.length = xs.length) (h : ∀ j, j < xs.length → el zs j = rgWord xs s j) : val zs = val xs / 2 ^ s := by
  have e := rg_sum (xs := xs) (zs := zs) s hs xs.length h
  rw [el_ge xs xs.length (Nat.le_refl _), Int.zero_emod, Int.zero_mul, Int.add_zero] at e
  have hk := two_pos s
  have h0 := Int.emod_nonneg (el xs 0) (show (2 : Int) ^ s ≠ 0 by omega)
  have h1 := Int.emod_lt_of_pos (el xs 0) hk
  have := (Int.ediv_emod_unique (a := val xs) (b := 2 ^ s) (r := el xs 0 % 2 ^ s) (q := vt zs xs.length) hk).2 ⟨by unfold val; omega, h0, h1⟩
  unfold val at *
  rw [hl]
  exact this.1.symm
structure RgIn (w : World) (xs : List Int) (s i : Nat) (zs : List Int) (wr : World) : Prop where
  hi : i ≤ xs.length
  hl : zs.length = xs.length
  own : OwnI wr w.heap.size 191 .u64 (.slice (some ⟨w.heap.size, 0, none⟩) xs.length xs.length) zs
  below : Below w.heap.size w wr
  inw : InW zs
  eq : ∀ j, j < i → el zs j = rgWord xs s j
theorem RgIn.drew {w wr : World} {xs zs : List Int} {s i : Nat} (h : RgIn w xs s i zs wr) : RgIn w xs s i zs wr.drew := ⟨h.hi, h.hl, h.own.drew, below_drew h.below, h.inw, h.eq⟩
def RgRel (w : World) (xs : List Int) (s : Nat) (c : Value) (wr : World) : Prop := ∃ i zs, c = .int .i64 (i : Nat) ∧ RgIn w xs s i zs wr
theorem RgIn.next {w wr W : World} {xs zs zs' : List Int} {s i : Nat} (h : RgIn w xs s i zs wr) (hi : i < xs.length) (ho : OwnI W w.heap.size 191 .u64 (.slice (some ⟨w.heap.size, 0, none⟩) xs.length xs.length) zs') (hb : Below w.heap.size w W)
    (hl : zs'.length = xs.length) (hw : InW zs') (hz : el zs' i = rgWord xs s i) (hlow : ∀ j, j < i → el zs' j = el zs j) : RgIn w xs s (i + 1) zs' W :=
  ⟨by omega, hl, ho, hb, hw, fun j hj => by
    rcases Nat.lt_or_ge j i with h1 | h1
    · rw [hlow j h1]; exact h.eq j h1
    · have : j = i := by omega
      rw [this]; exact hz⟩
set_option maxRecDepth 100000 in
theorem right_core (A : Option Addr) (ca : Nat) (xs : List Int) (s : Nat) (w : World) (hn : 0 < xs.length) (hlen : xs.length ≤ 1099511627776) (hca : xs.length ≤ ca) (hx : Rd Bs w .u64 191 A xs) (wx : InW xs) (hs : s < 64) :
    Calls Tryz.prog 159 #[.slice A xs.length ca, .int .i64 s] w (Gives w fun v w' => ∃ zs, Nat64 Bs w' v zs ∧ val zs = val xs / 2 ^ s ∧ zs.length ≤ xs.length ∧ Trim zs) := by
  obtain ⟨ab, ao, rfl, hab, hcA⟩ := hx.plain hn
  have HA := Lib.hid hcA
  have WX := Lib.hid wx
  have hz : ((xs.length : Int) == 0) = false := beq_eq_false_iff_ne.2 (by omega)
  have hne : ¬ xs = [] := by intro h; subst h; simp at hn
  have hq : (s : Int) / 64 = 0 := by omega
  have hr : (s : Int) % 64 = s := by omega
  clear hx hcA wx
  go_enter Tryz.func159, Tryz.ntmps159
  go_wp2_with (at_make; refine makeI _ rfl _ _ _ rfl w.heap.size 191 .u64 8 Tryz.underlying200 infoU64 _ _ xs.length xs.length rfl rfl rfl rfl (by omega) (by omega) (by omega) (Nat.le_refl _) ?_)
  intro w1 hO hG hS
  have hB := Lib.hid ((below_refl w).grown hG (Nat.le_refl _) (fun k hk => by simp at hk))
  have hS1 : w.heap.size ≤ w1.heap.size := by omega
  have HO := Lib.hid hO
  clear hO hG hS hq hr
  go_wp2
  go_loopw [25] (fun c wr => RgRel w xs s c wr) (fun c _ => xs.length - (intOf c).toNat)
  case atStart =>
    exact ⟨0, List.replicate xs.length 0, rfl, by omega, by simp, HO.out, hB.out, InW.replicate _, fun j hj => by omega⟩
  case round =>
    obtain ⟨i, zs, rfl, hin⟩ := hrel
    have HI := Lib.hid hin
    by_cases hi : i < xs.length
    · have hA := (hin.below.cell (p := ⟨ab, ao + i, none⟩) hab).trans (HA.out i hi)
      have hzc := hin.own.cell i (by rw [hin.hl]; omega)
      have hzf := hin.own.frozen i
      have hO1 := hin.own.set i (el xs i / 2 ^ s)
      have hB1 := hin.below.setCell (p := ⟨w.heap.size, i, none⟩) (Nat.le_refl _) (.int .u64 (el xs i / 2 ^ s))
      have hl1 : (zs.set i (el xs i / 2 ^ s)).length = xs.length := by rw [List.length_set]; exact hin.hl
      have he1 : el (zs.set i (el xs i / 2 ^ s)) i = el xs i / 2 ^ s := by rw [el_set _ _ _ _ (by rw [hin.hl]; omega), if_pos rfl]
      have hlo1 : ∀ j, j < i → el (zs.set i (el xs i / 2 ^ s)) j = el zs j := fun j hj => by rw [el_set _ _ _ _ (by rw [hin.hl]; omega), if_neg (by omega)]
      have hx := WX.out i
      have hk := two_pos s
      have hwd : 0 ≤ el xs i / 2 ^ s ∧ el xs i / 2 ^ s < 18446744073709551616 := ⟨Int.ediv_nonneg hx.1 (by omega), Int.lt_of_le_of_lt (Int.ediv_le_self _ hx.1) hx.2⟩
      have hw1 := hin.inw.set i _ hwd
      have HL := Lib.hid hin.hl
      clear hin
      by_cases hc : 0 < s ∧ i + 1 < xs.length
      · obtain ⟨hs0, hi1⟩ := hc
        have hA2 := (HI.out.below.cell (p := ⟨ab, ao + (i + 1), none⟩) hab).trans (HA.out (i + 1) hi1)
        obtain ⟨ho, hg0, hg1⟩ := rg_or WX.out s i hs hs0
        have HN := Lib.hid (HI.out.next hi (hO1.set i (rgWord xs s i)) (hB1.setCell (p := ⟨w.heap.size, i, none⟩) (Nat.le_refl _) (.int .u64 (rgWord xs s i))) (by rw [List.length_set]; exact hl1) (hw1.set i _ ⟨hg0, hg1⟩)
          (by rw [el_set _ _ _ _ (by rw [hl1]; omega), if_pos rfl]) (fun j hj => by rw [el_set _ _ _ _ (by rw [hl1]; omega), if_neg (by omega)]; exact hlo1 j hj))
        have hs1 : (0 : Int) < s := by omega
        have h64 : IntKind.u64.wrap (64 - (s : Int)) = ((64 - s : Nat) : Int) := by rw [IntKind.wrap_u64]; omega
        have hwr : IntKind.u64.wrap (el xs (i + 1) * 2 ^ (64 - s)) = (el xs (i + 1) * 2 ^ (64 - s)) % 18446744073709551616 := IntKind.wrap_u64 _
        generalize (el xs (i + 1) * 2 ^ (64 - s)) % 18446744073709551616 = m at *
        have f1 := World.cell?_setCell_same wr ⟨w.heap.size, i, none⟩ (.int .u64 (el xs i / 2 ^ s)) hzc
        have f2 : (wr.setCell ⟨w.heap.size, i, none⟩ (.int .u64 (el xs i / 2 ^ s))).cell? ⟨ab, ao + (i + 1), none⟩ = some (.int .u64 (el xs (i + 1))) := by
          rw [World.cell?_setCell_other _ _ _ _ (by intro e; simp at e <;> omega)]; exact hA2
        have f3 : (wr.setCell ⟨w.heap.size, i, none⟩ (.int .u64 (el xs i / 2 ^ s))).frozen? ⟨w.heap.size, i, none⟩ = false := by rw [World.frozen?_setCell]; exact hzf
        clear hO1 hB1 hl1 he1 hlo1 hw1 hg0 hg1 hx hk hwd
        go_wp2
        clear hA hzc hA2 hzf
        go_region
        all_goals
          go_wp2
          go_roundw
          case rel => exact ⟨i + 1, _, by go_num, HN.out.drew⟩
          case measure => simp [intOf]; omega
      · have HN := Lib.hid (HI.out.next hi hO1 hB1 hl1 hw1 (by
          rw [he1]
          by_cases h0 : s = 0
          · subst h0; rw [rg_zero _ WX.out]; simp
          · unfold rgWord
            rw [el_ge xs (i + 1) (by omega)]; simp) hlo1)
        clear hO1 hB1 hl1 he1 hlo1 hw1 hx hk hwd
        by_cases hs0 : s = 0
        · subst hs0
          have hv0 : el xs i / 2 ^ 0 = el xs i := by simp
          rw [hv0] at HN
          go_wp2
          go_roundw
          case rel => exact ⟨i + 1, _, by go_num, HN.out⟩
          case measure => simp [intOf]; omega
        · have hs1 : (0 : Int) < s := by omega
          have hi1 : ¬ ((i : Int) + 1 < (xs.length : Int)) := by omega
          clear hc
          go_wp2
          go_roundw
          case rel => exact ⟨i + 1, _, by go_num, HN.out⟩
          case measure => simp [intOf]; omega
    · obtain rfl : i = xs.length := by have := hin.hi; omega
      have HN := Lib.hid (nat64_of_own (Bs := Bs) hin.own hin.inw)
      clear hin
      go_wp2_with (go_at_call 152; refine (trim_any _ _ _ HN.out).mono ?_; rintro e w' ⟨v', rfl, hv', rfl⟩; have HV' := Lib.hid hv'; clear hv')
      go_ret
      exact ⟨_, rfl, ⟨_, HV'.out, by rw [val_stripped]; exact rg_val WX.out s (by omega) HI.out.hl HI.out.eq, by rw [stripped_length]; have := strip_le zs zs.length; have := HI.out.hl; omega, trim_stripped _⟩, HI.out.below⟩
theorem right_any (v : Value) (xs : List Int) (s : Nat) (w : World) (h : Nat64 Bs w v xs) (hlen : xs.length ≤ 1099511627776) (hs : s < 64) :
    Calls Tryz.prog 159 #[v, .int .i64 s] w (Gives w fun v w' => ∃ zs, Nat64 Bs w' v zs ∧ val zs = val xs / 2 ^ s ∧ zs.length ≤ xs.length ∧ Trim zs) := by
  obtain ⟨⟨A, ca, rfl, h1, h2, h3⟩, h4⟩ := h
  rcases Nat.eq_zero_or_pos xs.length with h0 | h0
  · have e : xs = [] := List.eq_nil_of_length_eq_zero h0
    subst e
    have hq : (s : Int) / 64 = 0 := by omega
    have hz : decide ((0 : Int) ≥ (([] : List Int).length : Int)) = true := rfl
    clear h3
    go_enter Tryz.func159, Tryz.ntmps159
    go_wp2
    go_ret
    exact ⟨_, rfl, ⟨[], nat64_nil w, by simp [val_nil], by simp, .inl rfl⟩, below_refl _⟩
  · exact right_core A ca xs s w h0 hlen h1 h3 h4 hs
end Go.Proofs.YtoflmheodiajaaaGreatDoor
namespace Go.Proofs.YtoflmheodiajaaaGreatDoor
open Go.RowKit
set_option linter.unusedVariables false
set_option linter.unusedSimpArgs false
variable {Bs : Nat}
structure TrialC (u v1 v0 u0 h r : Int) : Prop where
  up : (u * 18446744073709551616 + u0) / (v1 * 18446744073709551616 + v0) ≤ h
  eq : h * v1 + r = u
  r0 : 0 ≤ r
  rB : r < 18446744073709551616
  h0 : 0 ≤ h
  hB : h < 18446744073709551616
theorem trialC_start {u2 u1 v1 v0 u0 : Int} (h2 : 0 ≤ u2) (h2v : u2 < v1) (h1 : 0 ≤ u1) (h1B : u1 < 18446744073709551616) (hv : v1 < 18446744073709551616) (hv0 : 0 ≤ v0) (hu0 : 0 ≤ u0) (hu0B : u0 < 18446744073709551616) :
    TrialC (u2 * 18446744073709551616 + u1) v1 v0 u0 ((u2 * 18446744073709551616 + u1) / v1) ((u2 * 18446744073709551616 + u1) % v1) := by
  have hv1 : 0 < v1 := by omega
  have hu : 0 ≤ u2 * 18446744073709551616 + u1 := by omega
  have he : (u2 * 18446744073709551616 + u1) / v1 * v1 + (u2 * 18446744073709551616 + u1) % v1 = u2 * 18446744073709551616 + u1 := by have := Int.mul_ediv_add_emod (u2 * 18446744073709551616 + u1) v1; rw [Int.mul_comm] at this; exact this
  have hm0 := Int.emod_nonneg (u2 * 18446744073709551616 + u1) (show v1 ≠ 0 by omega)
  have hm1 := Int.emod_lt_of_pos (u2 * 18446744073709551616 + u1) hv1
  have hq := trial_small (B := 18446744073709551616) (u := u2) (V := v1) (u1 := u1) (by decide) hv1 h2v h1B
  generalize u2 * 18446744073709551616 + u1 = u at *
  refine ⟨?_, he, hm0, by omega, Int.ediv_nonneg hu (by omega), hq⟩
  have hp : 0 < v1 * 18446744073709551616 := Int.mul_pos hv1 (by decide)
  have : (u * 18446744073709551616 + u0) / (v1 * 18446744073709551616 + v0) < u / v1 + 1 := by
    rw [Int.ediv_lt_iff_lt_mul (by omega)]
    have h4 : u < (u / v1 + 1) * v1 := by rw [Int.add_mul]; omega
    have h5 : (u + 1) * 18446744073709551616 ≤ ((u / v1 + 1) * v1) * 18446744073709551616 := Int.mul_le_mul_of_nonneg_right (by omega) (by decide)
    have h6 : 0 ≤ (u / v1 + 1) * v0 := Int.mul_nonneg (by have := Int.ediv_nonneg hu (show 0 ≤ v1 by omega); omega) hv0
    have h7 : (u / v1 + 1) * (v1 * 18446744073709551616 + v0) = ((u / v1 + 1) * v1) * 18446744073709551616 + (u / v1 + 1) * v0 := by grind
    rw [h7]
    rw [Int.add_mul] at h5
    omega
  omega
theorem TrialC.step {u v1 v0 u0 h r : Int} (t : TrialC u v1 v0 u0 h r) (hv : 0 < v1) (hv0 : 0 ≤ v0) (hu0 : 0 ≤ u0) (hc : 18446744073709551616 * r + u0 < h * v0) :
    1 ≤ h ∧ (u * 18446744073709551616 + u0) / (v1 * 18446744073709551616 + v0) ≤ h - 1 ∧ (r + v1 < 18446744073709551616 → TrialC u v1 v0 u0 (h - 1) (r + v1)) := by
  have hp : 0 < v1 * 18446744073709551616 := Int.mul_pos hv (by decide)
  have hq := trial_lt (B := 18446744073709551616) t.eq (by omega) hc
  have h0 := t.h0
  have r0 := t.r0
  have h1 : 1 ≤ h := by
    rcases Int.lt_or_le 0 h with h' | h'
    · omega
    · have : h = 0 := by omega
      rw [this] at hc
      have : 0 ≤ 18446744073709551616 * r := Int.mul_nonneg (by decide) r0
      omega
  exact ⟨h1, by omega, fun hr => ⟨by omega, by rw [Int.sub_mul]; have := t.eq; omega, by omega, hr, by omega, by have := t.hB; omega⟩⟩
def gsF (v1 v0 u0 : Int) : Nat → Int → Int → Int
  | 0, h, _ => h
  | f + 1, h, r => if h * v0 ≤ 18446744073709551616 * r + u0 then h else if r + v1 < 18446744073709551616 then gsF v1 v0 u0 f (h - 1) (r + v1) else h - 1
def GsRel (w : World) (u v1 v0 u0 G : Int) (a b : Value) (wr : World) : Prop := (∃ q, wr = w.drewN q) ∧ ∃ h r f, a = .int .u64 h ∧ b = .int .u64 r ∧ TrialC u v1 v0 u0 h r ∧ h.toNat < f ∧ gsF v1 v0 u0 f h r = G
def Guess (u2 u1 u0 v1 v0 g : Int) : Prop := 0 ≤ g ∧ g < 18446744073709551616 ∧ (g = 18446744073709551616 - 1 ∨ ((u2 * 18446744073709551616 + u1) * 18446744073709551616 + u0) / (v1 * 18446744073709551616 + v0) ≤ g)
theorem gsF_ok {u v1 v0 u0 : Int} (hv : 0 < v1) (hv0 : 0 ≤ v0) (hu0 : 0 ≤ u0) : ∀ (f : Nat) (h r : Int), TrialC u v1 v0 u0 h r → h.toNat < f → 0 ≤ gsF v1 v0 u0 f h r ∧ gsF v1 v0 u0 f h r < 18446744073709551616 ∧ (u * 18446744073709551616 + u0) / (v1 * 18446744073709551616 + v0) ≤ gsF v1 v0 u0 f h r
  | 0, h, r, t, hf => by omega
  | f + 1, h, r, t, hf => by
    unfold gsF
    split
    · exact ⟨t.h0, t.hB, t.up⟩
    · obtain ⟨e1, e2, e3⟩ := t.step hv hv0 hu0 (by omega)
      split
      · rename_i hr
        exact gsF_ok hv hv0 hu0 f (h - 1) (r + v1) (e3 hr) (by omega)
      · exact ⟨by omega, by have := t.hB; omega, e2⟩
def guessV (u2 u1 u0 v1 v0 : Int) : Int := if v1 ≤ u2 then 18446744073709551615 else gsF v1 v0 u0 (((u2 * 18446744073709551616 + u1) / v1).toNat + 1) ((u2 * 18446744073709551616 + u1) / v1) ((u2 * 18446744073709551616 + u1) % v1)
theorem guess_ok {u2 u1 u0 v1 v0 : Int} (h2 : 0 ≤ u2) (h1 : 0 ≤ u1) (h1B : u1 < 18446744073709551616) (h0 : 0 ≤ u0) (h0B : u0 < 18446744073709551616) (hv : 0 < v1) (hvB : v1 < 18446744073709551616) (hv0 : 0 ≤ v0) : Guess u2 u1 u0 v1 v0 (guessV u2 u1 u0 v1 v0) := by
  unfold guessV
  split
  · exact ⟨by decide, by decide, .inl (by decide)⟩
  · have := gsF_ok hv hv0 h0 _ _ _ (trialC_start (v0 := v0) h2 (by omega) h1 h1B hvB hv0 h0 h0B) (Nat.lt_succ_self _)
    exact ⟨this.1, this.2.1, .inr this.2.2⟩
set_option maxHeartbeats 1000000 in
set_option maxRecDepth 100000 in
theorem guess_any (u2 u1 u0 v1 v0 : Int) (w : World) (h2 : 0 ≤ u2) (h1 : 0 ≤ u1) (h1B : u1 < 18446744073709551616) (h0 : 0 ≤ u0) (h0B : u0 < 18446744073709551616) (hv : 0 < v1) (hvB : v1 < 18446744073709551616) (hv0 : 0 ≤ v0) (hv0B : v0 < 18446744073709551616) :
    Calls Tryz.prog 156 #[.int .u64 u2, .int .u64 u1, .int .u64 u0, .int .u64 v1, .int .u64 v0] w fun e w' => e = .returned (.int .u64 (guessV u2 u1 u0 v1 v0)) ∧ ∃ q, w' = w.drewN q := by
  by_cases hc : v1 ≤ u2
  · have HG := Lib.hid (show guessV u2 u1 u0 v1 v0 = 18446744073709551615 by unfold guessV; rw [if_pos hc])
    clear h2 h1 h1B h0 h0B hv hvB hv0 hv0B
    go_enter Tryz.func156, Tryz.ntmps156
    go_wp2
    go_ret
    exact ⟨by rw [HG.out]; rfl, 0, rfl⟩
  · have t := trialC_start (v0 := v0) h2 (by omega) h1 h1B hvB hv0 h0 h0B
    have HD := Lib.hid (fun W => div64_any u2 u1 v1 W h2 (by omega) h1 (by omega) (by omega))
    have T := Lib.hid t
    have BU := Lib.hid h0B
    have BD := Lib.hid (And.intro h0 (And.intro hv (And.intro hvB (And.intro hv0 hv0B))))
    clear t h2 h1 h1B h0 h0B hv hvB hv0 hv0B
    have HGV := Lib.hid (show guessV u2 u1 u0 v1 v0 = gsF v1 v0 u0 (((u2 * 18446744073709551616 + u1) / v1).toNat + 1) ((u2 * 18446744073709551616 + u1) / v1) ((u2 * 18446744073709551616 + u1) % v1) by unfold guessV; rw [if_neg hc])
    generalize guessV u2 u1 u0 v1 v0 = G at HGV
    generalize hu : u2 * 18446744073709551616 + u1 = u at T HGV
    go_enter Tryz.func156, Tryz.ntmps156
    go_wp2_with fail
    refine (HD.out _).mono ?_
    rintro e w1 ⟨rfl, q, rfl⟩
    rw [hu]
    have HU := Lib.hid hu
    clear hu
    go_wp2_with fail
    go_loopw [11, 12] (fun a b wr => GsRel w u v1 v0 u0 G a b wr) (fun a _ _ => (intOf a).toNat)
    case atStart => exact ⟨⟨q, rfl⟩, _, _, _, rfl, rfl, T.out, Nat.lt_succ_self _, HGV.out.symm⟩
    case round =>
      obtain ⟨⟨q1, rfl⟩, h, r, f, rfl, rfl, t, hf, hG⟩ := hrel
      obtain ⟨f, rfl⟩ : ∃ f', f = f' + 1 := ⟨f - 1, by omega⟩
      unfold gsF at hG
      have HGE := Lib.hid hG
      clear hG
      have T1 := Lib.hid t
      have hm := fun W => mul64_any h v0 ⟨t.h0, t.hB⟩ ⟨BD.out.2.2.2.1, BD.out.2.2.2.2⟩ W
      have hlh := lo_hi (h * v0)
      have hlr := lo_range (h * v0)
      generalize Proofs.YtoflmheodiajaaaGreatDoor.hi (h * v0) = ph at *
      generalize lo (h * v0) = pl at *
      have HM := Lib.hid hm
      have HLH := Lib.hid hlh
      have HLR := Lib.hid hlr
      clear t hm hlh hlr
      by_cases hfit : h * v0 ≤ 18446744073709551616 * r + u0
      · have HG := Lib.hid (show h = G by have := HGE.out; rwa [if_pos hfit] at this)
        clear HGE
        have hcase : ph < r ∨ (¬ ph < r ∧ (ph == r) = true ∧ pl ≤ u0) := by
          have := HLH.out
          have := HLR.out
          have := BD.out
          have := BU.out
          rcases Int.lt_trichotomy ph r with h' | h' | h'
          · exact .inl h'
          · exact .inr ⟨by omega, by simp [h'], by subst h'; omega⟩
          · omega
        clear hfit
        rcases hcase with hlt | ⟨hn, heq, hle⟩
        all_goals
          go_wp2_with fail
          refine (HM.out _).mono ?_
          rintro e w2 ⟨rfl, rfl⟩
          go_wp2
          go_ret
          exact ⟨by rw [← HG.out]; rfl, _, rfl⟩
      · obtain ⟨e1, e2, e3⟩ := T1.out.step BD.out.2.1 BD.out.2.2.2.1 BD.out.1 (by omega)
        have E3 := Lib.hid e3
        have hw1 : IntKind.u64.wrap (h - 1) = h - 1 := by rw [IntKind.wrap_u64]; have := T1.out.hB; omega
        have hG2 := HGE.out
        rw [if_neg hfit] at hG2
        have HG2 := Lib.hid hG2
        clear hG2 HGE
        have hcase : (¬ ph < r ∧ (ph == r) = true ∧ ¬ pl ≤ u0) ∨ (¬ ph < r ∧ (ph == r) = false) := by
          have := HLH.out
          have := HLR.out
          have := BD.out
          have := BU.out
          rcases Int.lt_trichotomy ph r with h' | h' | h'
          · omega
          · exact .inl ⟨by omega, by simp [h'], by subst h'; omega⟩
          · exact .inr ⟨by omega, by simp; omega⟩
        have hcase2 : (IntKind.u64.wrap (r + v1) = r + v1 ∧ ¬ r + v1 < r ∧ r + v1 < 18446744073709551616) ∨ ∃ r', IntKind.u64.wrap (r + v1) = r' ∧ r' < r ∧ Hid (¬ r + v1 < 18446744073709551616) := by
          have := T1.out.r0
          have := T1.out.rB
          have := BD.out
          rw [IntKind.wrap_u64]
          rcases Int.lt_or_le (r + v1) 18446744073709551616 with h' | h'
          · exact .inl ⟨by omega, by omega, h'⟩
          · exact .inr ⟨_, rfl, by omega, Lib.hid (by omega)⟩
        have HE := Lib.hid e1
        clear hfit e1 e2 e3
        rcases hcase2 with ⟨k1, k2, k3⟩ | ⟨r', k1, k2, K3⟩
        · rcases hcase with ⟨hn, heq, hle⟩ | ⟨hn, heq⟩
          all_goals
            go_wp2_with fail
            refine (HM.out _).mono ?_
            rintro e w2 ⟨rfl, rfl⟩
            go_wp2
            go_roundw
            case rel => exact ⟨⟨_, rfl⟩, _, _, f, rfl, rfl, E3.out k3, by have := HE.out; omega, by have := HG2.out; rwa [if_pos k3] at this⟩
            case measure => have := HE.out; simp [intOf]; omega
        · have HG3 := HG2.out
          rw [if_neg K3.out] at HG3
          have HG4 := Lib.hid HG3
          clear HG3 HG2
          rcases hcase with ⟨hn, heq, hle⟩ | ⟨hn, heq⟩
          all_goals
            go_wp2_with fail
            refine (HM.out _).mono ?_
            rintro e w2 ⟨rfl, rfl⟩
            go_wp2
            go_ret
            exact ⟨by rw [← HG4.out]; rfl, _, rfl⟩
end Go.Proofs.YtoflmheodiajaaaGreatDoor
