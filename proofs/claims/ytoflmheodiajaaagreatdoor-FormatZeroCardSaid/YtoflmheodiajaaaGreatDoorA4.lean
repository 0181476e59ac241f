/- num.product: what it returns. -/
import Derived.Test.YtoflmheodiajaaaGreatDoorA1
import Derived.Test.YtoflmheodiajaaaGreatDoorA3
import Derived.Test.YtoflmheodiajaaaGreatDoorP2
import Derived.Test.YtoflmheodiajaaaGreatDoorShelf
namespace Go.Proofs.YtoflmheodiajaaaGreatDoor
open Go.RowKit
set_option linter.unusedVariables false
set_option linter.unusedSimpArgs false
variable {Bs : Nat}

theorem mul64_any (x y : Int) (hx : 0 ≤ x ∧ x < 18446744073709551616) (hy : 0 ≤ y ∧ y < 18446744073709551616) (w : World) :
    Calls Tryz.prog 151 #[.int .u64 x, .int .u64 y] w fun e w' => e = .returned (.tuple #[.int .u64 (hi (x * y)), .int .u64 (lo (x * y))]) ∧ w = w' := by
  obtain ⟨a, rfl⟩ := Int.eq_ofNat_of_zero_le hx.1
  obtain ⟨b, rfl⟩ := Int.eq_ofNat_of_zero_le hy.1
  refine (Tryz.bits_Mul64 a b (by omega) (by omega) w).mono ?_
  rintro e w' ⟨rfl, rfl⟩
  refine ⟨?_, rfl⟩
  unfold hi lo
  simp only [Int.natCast_ediv, Int.natCast_emod, Int.natCast_mul]
  rfl

/-- Behind i rounds of the outer loop. -/
def ProdOut (w : World) (xs ys : List Int) (c : Value) (wr : World) : Prop :=
  ∃ (i : Nat) (zs : List Int), c = .int .i64 i ∧ i ≤ xs.length ∧ zs.length = xs.length + ys.length ∧
    OwnI wr w.heap.size 191 .u64 (.slice (some ⟨w.heap.size, 0, none⟩) (xs.length + ys.length) (xs.length + ys.length)) zs ∧ Below w.heap.size w wr ∧
    InW zs ∧ (∀ j, i + ys.length ≤ j → el zs j = 0) ∧ val zs = vt xs i * val ys
/-- Behind k rounds of the inner loop. -/
def ProdIn (w : World) (xs ys : List Int) (i : Nat) (cv c : Value) (wr : World) : Prop :=
  ∃ (k : Nat) (carry : Int) (zs : List Int), cv = .int .u64 carry ∧ c = .int .i64 k ∧ k ≤ ys.length ∧ zs.length = xs.length + ys.length ∧
    OwnI wr w.heap.size 191 .u64 (.slice (some ⟨w.heap.size, 0, none⟩) (xs.length + ys.length) (xs.length + ys.length)) zs ∧ Below w.heap.size w wr ∧
    InW zs ∧ (0 ≤ carry ∧ carry < 18446744073709551616) ∧ (∀ j, i + ys.length ≤ j → el zs j = 0) ∧ val zs + carry * pw (i + k) = vt xs i * val ys + el xs i * pw i * vt ys k

theorem prod_rel {w wr : World} {xs ys zs : List Int} {i k : Nat} {carry : Int} (hl : zs.length = xs.length + ys.length) (hi : i < xs.length) (hk : k < ys.length)
    (hO : OwnI wr w.heap.size 191 .u64 (.slice (some ⟨w.heap.size, 0, none⟩) (xs.length + ys.length) (xs.length + ys.length)) zs) (hB : Below w.heap.size w wr) (wz : InW zs)
    (hc : 0 ≤ carry ∧ carry < 18446744073709551616) (hz : ∀ j, i + ys.length ≤ j → el zs j = 0) (hv : val zs + carry * pw (i + k) = vt xs i * val ys + el xs i * pw i * vt ys k)
    (hx : 0 ≤ el xs i ∧ el xs i < 18446744073709551616) (hy : 0 ≤ el ys k ∧ el ys k < 18446744073709551616) :
    ProdIn w xs ys i (.int .u64 (IntKind.u64.wrap (IntKind.u64.wrap (Proofs.YtoflmheodiajaaaGreatDoor.hi (el xs i * el ys k) + Proofs.YtoflmheodiajaaaGreatDoor.hi (lo (el xs i * el ys k) + el zs (i + k))) + Proofs.YtoflmheodiajaaaGreatDoor.hi (lo (lo (el xs i * el ys k) + el zs (i + k)) + carry))))
      (.int .i64 ((k : Int) + 1)) (wr.setCell ⟨w.heap.size, i + k, none⟩ (.int .u64 (lo (lo (lo (el xs i * el ys k) + el zs (i + k)) + carry)))) := by
  obtain ⟨s1, s2, s3⟩ := mul_step hx hy (wz (i + k)) hc
  have e : IntKind.u64.wrap (IntKind.u64.wrap (Proofs.YtoflmheodiajaaaGreatDoor.hi (el xs i * el ys k) + Proofs.YtoflmheodiajaaaGreatDoor.hi (lo (el xs i * el ys k) + el zs (i + k))) + Proofs.YtoflmheodiajaaaGreatDoor.hi (lo (lo (el xs i * el ys k) + el zs (i + k)) + carry)) = mulHi (el xs i) (el ys k) (el zs (i + k)) carry := by
    rw [IntKind.wrap_u64, IntKind.wrap_u64]
    unfold mulHi at *
    unfold lo at *
    omega
  rw [e]
  refine ⟨k + 1, _, zs.set (i + k) (mulLo (el xs i) (el ys k) (el zs (i + k)) carry), rfl, by go_num, by omega, by simp [hl], hO.set _ _, hB.setCell (p := ⟨w.heap.size, i + k, none⟩) (Nat.le_refl _) _, wz.set _ _ (lo_range _), ⟨s2, s3⟩, fun j hj => ?_, ?_⟩
  · rw [el_set _ _ _ _ (by omega), if_neg (by omega)]; exact hz j hj
  · exact prod_step (by omega) rfl hv s1
theorem prod_out {w wr : World} {xs ys zs : List Int} {i : Nat} {carry : Int} (hl : zs.length = xs.length + ys.length) (hi : i < xs.length)
    (hO : OwnI wr w.heap.size 191 .u64 (.slice (some ⟨w.heap.size, 0, none⟩) (xs.length + ys.length) (xs.length + ys.length)) zs) (hB : Below w.heap.size w wr) (wz : InW zs)
    (hc : 0 ≤ carry ∧ carry < 18446744073709551616) (hz : ∀ j, i + ys.length ≤ j → el zs j = 0) (hv : val zs + carry * pw (i + ys.length) = vt xs i * val ys + el xs i * pw i * vt ys ys.length) :
    ProdOut w xs ys (.int .i64 ((i : Int) + 1)) (wr.setCell ⟨w.heap.size, i + ys.length, none⟩ (.int .u64 carry)) := by
  refine ⟨i + 1, zs.set (i + ys.length) carry, by go_num, by omega, by simp [hl], hO.set _ _, hB.setCell (p := ⟨w.heap.size, i + ys.length, none⟩) (Nat.le_refl _) _, wz.set _ _ hc, fun j hj => ?_, ?_⟩
  · rw [el_set _ _ _ _ (by omega), if_neg (by omega)]; exact hz j (by omega)
  · rw [val_set _ _ _ (by omega), hz _ (Nat.le_refl _)]
    have : vt ys ys.length = val ys := rfl
    rw [this] at hv
    simp only [vt]
    rw [Int.add_mul, ← hv]
    simp
theorem val_zeros (n : Nat) : val (List.replicate n 0) = 0 := by
  have : ∀ k, vt (List.replicate n 0) k = 0 := by
    intro k
    induction k with
    | zero => rfl
    | succ k ih => simp [vt, ih, el_replicate]
  exact this _
theorem prod_end {wr : World} {v : Value} {xs ys zs : List Int} (hl : zs.length = xs.length + ys.length) (hv : val zs = vt xs xs.length * val ys) (h : Nat64 Bs wr v (stripped zs)) :
    ∃ zs, Nat64 Bs wr v zs ∧ val zs = val xs * val ys ∧ zs.length ≤ xs.length + ys.length ∧ Trim zs :=
  ⟨_, h, by rw [val_stripped]; exact hv, by rw [stripped_length]; have := strip_le zs zs.length; omega, trim_stripped _⟩
theorem product_core (A B : Option Addr) (ca cb : Nat) (xs ys : List Int) (w : World) (hnx : 0 < xs.length) (hny : 0 < ys.length) (hlen : xs.length ≤ 1099511627776) (hlen2 : ys.length ≤ 1099511627776)
    (hca : xs.length ≤ ca) (hcb : ys.length ≤ cb) (hx : Rd Bs w .u64 191 A xs) (hy : Rd Bs w .u64 191 B ys) (wx : InW xs) (wy : InW ys) :
    Calls Tryz.prog 129 #[.slice A xs.length ca, .slice B ys.length cb] w (Gives w fun v w' => ∃ zs, Nat64 Bs w' v zs ∧ val zs = val xs * val ys ∧ zs.length ≤ xs.length + ys.length ∧ Trim zs) := by
  have b1 : ((xs.length : Int) == 0) = false := beq_eq_false_iff_ne.2 (by omega)
  have b2 : ((ys.length : Int) == 0) = false := beq_eq_false_iff_ne.2 (by omega)
  have HX := Lib.hid hx
  have HY := Lib.hid hy
  have WX := Lib.hid wx
  have WY := Lib.hid wy
  clear hx hy wx wy
  go_enter Tryz.func129, Tryz.ntmps129
  go_wp2_with (at_make; refine makeI _ rfl (.tmp 26) (.tmp 26) _ rfl w.heap.size 191 .u64 8 Tryz.underlying200 infoU64 _ _ (xs.length + ys.length) (xs.length + ys.length) rfl rfl (by first | rfl | (simp; done)) (by first | rfl | (simp; done)) (by omega) (by omega) (by omega) (Nat.le_refl _) ?_)
  intro w1 hO hG hS
  have hB := Lib.hid ((below_refl w).grown hG (Nat.le_refl _) (fun k hk => by simp at hk))
  have hS1 : w.heap.size ≤ w1.heap.size := by omega
  have HO := Lib.hid hO
  clear hO hG hS
  go_wp2
  go_loopw [30] (fun c wr => ProdOut w xs ys c wr) (fun c _ => xs.length - (intOf c).toNat)
  case atStart =>
    refine ⟨0, List.replicate (xs.length + ys.length) 0, rfl, by omega, by simp, HO.out, hB.out, InW.replicate _, fun j _ => el_replicate _ _, ?_⟩
    rw [val_zeros]; simp [vt]
  case round =>
    obtain ⟨i, zs, rfl, hi, hl, hO, hB, wz, hz, hv⟩ := hrel
    have HL := Lib.hid hl
    have HV := Lib.hid hv
    have HZ := Lib.hid hz
    have WZ := Lib.hid wz
    have HO1 := Lib.hid hO
    have HB1 := Lib.hid hB
    clear hl hv hz wz
    by_cases hlt : i < xs.length
    · obtain ⟨ab, ao, rfl, hab, hcA⟩ := HX.out.plain (by omega)
      have hA := (hB.cell (p := ⟨ab, ao + i, none⟩) hab).trans (hcA i hlt)
      clear hcA hO hB
      go_wp2
      go_loopw [8, 37] (fun cv c wr => ProdIn w xs ys i cv c wr) (fun _ c _ => ys.length - (intOf c).toNat)
      case atStart => exact ⟨0, 0, zs, rfl, rfl, by omega, HL.out, HO1.out, HB1.out, WZ.out, by omega, HZ.out, by rw [HV.out]; simp [vt]⟩
      case round =>
        obtain ⟨k, carry, zs2, rfl, rfl, hk, hl2, hO2, hB2, wz2, hcr, hz2, hv2⟩ := hrel
        have HL2 := Lib.hid hl2
        have HV2 := Lib.hid hv2
        have HZ2 := Lib.hid hz2
        have WZ2 := Lib.hid wz2
        have HO2 := Lib.hid hO2
        have HB2 := Lib.hid hB2
        have HC2 := Lib.hid hcr
        clear hv2 hz2 wz2 hcr
        by_cases hlk : k < ys.length
        · obtain ⟨bb, bo, rfl, hbb, hcB⟩ := HY.out.plain (by omega)
          have hY := (hB2.cell (p := ⟨bb, bo + k, none⟩) hbb).trans (hcB k hlk)
          have hzc := hO2.cell (i + k) (by omega)
          have hzf := hO2.frozen (i + k)
          have hadd1 := fun W => run_Add64_0 (lo (el xs i * el ys k)) (el zs2 (i + k)) (lo_range _).1 (WZ2.out _).1 W
          have hadd2 := fun W => run_Add64_0 (lo (lo (el xs i * el ys k) + el zs2 (i + k))) carry (lo_range _).1 HC2.out.1 W
          clear hcB hl2 hB2 hO2
          go_wp2_with (go_at_call 151; refine (mul64_any (el xs i) (el ys k) (WX.out i) (WY.out k) _).mono ?_; rintro e w' ⟨rfl, rfl⟩)
          go_roundw
          case rel => exact prod_rel HL2.out hlt hlk HO2.out HB2.out WZ2.out HC2.out HZ2.out HV2.out (WX.out i) (WY.out k)
          case measure => simp [intOf]; omega
        · obtain rfl : k = ys.length := by omega
          have hzc := hO2.cell (i + ys.length) (by omega)
          have hzf := hO2.frozen (i + ys.length)
          clear hl2 hB2 hO2
          go_wp2
          go_roundw
          case rel => exact prod_out HL2.out hlt HO2.out HB2.out WZ2.out HC2.out HZ2.out HV2.out
          case measure => simp [intOf]; omega
    · obtain rfl : i = xs.length := by omega
      have hN := nat64_of_own (Bs := Bs) hO WZ.out
      have HN := Lib.hid hN
      clear hO hB hN
      go_wp2_with (go_at_call 152; refine (trim_any _ _ _ HN.out).mono ?_; rintro e w' ⟨v', rfl, hv', rfl⟩; have HV' := Lib.hid hv'; clear hv')
      go_ret
      exact ⟨_, rfl, prod_end HL.out HV.out HV'.out, HB1.out⟩
theorem nat64_nil (w : World) : Nat64 Bs w (.slice none 0 0) [] := ⟨⟨none, 0, rfl, by simp, by omega, fun h => by simp at h⟩, InW.nil⟩
/-- The product of two natural numbers. -/
theorem product_any (a b : Value) (xs ys : List Int) (w : World) (ha : Nat64 Bs w a xs) (hb : Nat64 Bs w b ys) (hx : xs.length ≤ 1099511627776) (hy : ys.length ≤ 1099511627776) :
    Calls Tryz.prog 129 #[a, b] w (Gives w fun v w' => ∃ zs, Nat64 Bs w' v zs ∧ val zs = val xs * val ys ∧ zs.length ≤ xs.length + ys.length ∧ Trim zs) := by
  obtain ⟨⟨A, ca, rfl, h1, h2, h3⟩, h4⟩ := ha
  obtain ⟨⟨B, cb, rfl, k1, k2, k3⟩, k4⟩ := hb
  by_cases hp : 0 < xs.length ∧ 0 < ys.length
  · exact product_core A B ca cb xs ys w hp.1 hp.2 hx hy h1 k1 h3 k3 h4 k4
  have hpost : ∃ zs, Nat64 Bs w (.slice none 0 0) zs ∧ val zs = val xs * val ys ∧ zs.length ≤ xs.length + ys.length ∧ Trim zs := by
    refine ⟨[], nat64_nil w, ?_, by simp, .inl rfl⟩
    have : xs = [] ∨ ys = [] := by
      rcases Nat.eq_zero_or_pos xs.length with h | h
      · exact .inl (List.eq_nil_of_length_eq_zero h)
      · exact .inr (List.eq_nil_of_length_eq_zero (by omega))
    rcases this with h | h <;> simp [h, val_nil]
  have HP := Lib.hid hpost
  have hb1 : ((xs.length : Int) == 0) = true ∨ (((xs.length : Int) == 0) = false ∧ ((ys.length : Int) == 0) = true) := by
    rcases Nat.eq_zero_or_pos xs.length with h | h
    · exact .inl (beq_iff_eq.2 (by omega))
    · exact .inr ⟨beq_eq_false_iff_ne.2 (by omega), beq_iff_eq.2 (by omega)⟩
  clear hpost hp h3 h4 k3 k4
  rcases hb1 with hb1 | ⟨hb1, hb2⟩
  all_goals
    go_enter Tryz.func129, Tryz.ntmps129
    go_wp2
    go_ret
    exact ⟨_, rfl, HP.out, below_refl _⟩
end Go.Proofs.YtoflmheodiajaaaGreatDoor
