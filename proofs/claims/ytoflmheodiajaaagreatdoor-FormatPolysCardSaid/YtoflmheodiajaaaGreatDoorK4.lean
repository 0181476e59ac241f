import Derived.Test.YtoflmheodiajaaaGreatDoorK2
import Derived.Test.YtoflmheodiajaaaGreatDoorK3
namespace Go.Proofs.YtoflmheodiajaaaGreatDoor
open Go.RowKit
set_option linter.unusedVariables false
set_option linter.unusedSimpArgs false
variable {Bs : Nat}
theorem mul64_any (x y : Int) (hx : 0 ≤ x ∧ x < 18446744073709551616) (hy : 0 ≤ y ∧ y < 18446744073709551616) (w : World) :
    Calls Tryz.prog 151 #[.int .u64 x, .int .u64 y] w fun e w' => e = .returned (.tuple #[.int .u64 (hi (x * y)), .int .u64 (lo (x * y))]) ∧ w = w' := by
  obtain ⟨a, rfl⟩ := Int.eq_ofNat_of_zero_le hx.1
  obtain ⟨b, rfl⟩ := Int.eq_ofNat_of_zero_le hy.1
  refine (Tryz.bits_Mul64 a b (by omega) (by omega) w).mono ?_
  rintro e w' ⟨rfl, rfl⟩
  refine ⟨?_, rfl⟩
  unfold hi lo
  simp only [Int.natCast_ediv, Int.natCast_emod, Int.natCast_mul]
  rfl
def ProdOut (w : World) (xs ys : List Int) (c : Value) (wr : World) : Prop :=
  ∃ (i : Nat) (zs : List Int), c = .int .i64 i ∧ i ≤ xs.length ∧ zs.length = xs.length + ys.length ∧
    OwnI wr w.heap.size 191 .u64 (.slice (some ⟨w.heap.size, 0, none⟩) (xs.length + ys.length) (xs.length + ys.length)) zs ∧ Below w.heap.size w wr ∧
    InW zs ∧ (∀ j, i + ys.length ≤ j → el zs j = 0) ∧ val zs = vt xs i * val ys
def ProdIn (w : World) (xs ys : List Int) (i : Nat) (cv c : Value) (wr : World) : Prop :=
  ∃ (k : Nat) (carry : Int) (zs : List Int), cv = .int .u64 carry ∧ c = .int .i64 k ∧ k ≤ ys.length ∧ zs.length = xs.length + ys.length ∧
    OwnI wr w.heap.size 191 .u64 (.slice (some ⟨w.heap.size, 0, none⟩) (xs.length + ys.length) (xs.length + ys.length)) zs ∧ Below w.heap.size w wr ∧
    InW zs ∧ (0 ≤ carry ∧ carry < 18446744073709551616) ∧ (∀ j, i + ys.length ≤ j → el zs j = 0) ∧ val zs + carry * pw (i + k) = vt xs i * val ys + el xs i * pw i * vt ys k
theorem prod_rel {w wr : World} {xs ys zs : List Int} {i k : Nat} {carry : Int} (hl : zs.length = xs.length + ys.length) (hi : i < xs.length) (hk : k < ys.length)
    (hO : OwnI wr w.heap.size 191 .u64 (.slice (some ⟨w.heap.size, 0, none⟩) (xs.length + ys.length) (xs.length + ys.length)) zs) (hB : Below w.heap.size w wr) (wz : InW zs)
    (hc : 0 ≤ carry ∧ carry < 18446744073709551616) (hz : ∀ j, i + ys.length ≤ j → el zs j = 0) (hv : val zs + carry * pw (i + k) = vt xs i * val ys + el xs i * pw i * vt ys k)
    (hx : 0 ≤ el xs i ∧ el xs i < 18446744073709551616) (hy : 0 ≤ el ys k ∧ el ys k < 18446744073709551616) :
    ProdIn w xs ys i (.int .u64 (IntKind.u64.wrap (IntKind.u64.wrap (Proofs.YtoflmheodiajaaaGreatDoor.hi (el xs i * el ys k) + Proofs.YtoflmheodiajaaaGreatDoor.hi (lo (el xs i * el ys k) + el zs (i + k))) + Proofs.YtoflmheodiajaaaGreatDoor.hi (lo (lo (el xs i * el ys k) + el zs (i + k)) + carry))))
      (.int .i64 ((k : Int) + 1)) (wr.setCell ⟨w.heap.size, i + k, none⟩ (.int .u64 (lo (lo (lo (el xs i * el ys k) + el zs (i + k)) + carry)))) := by
  obtain ⟨s1, s2, s3⟩ := mul_step hx hy (wz (i + k)) hc
  have e : IntKind.u64.wrap (IntKind.u64.wrap (Proofs.YtoflmheodiajaaaGreatDoor.hi (el xs i * el ys k) + Proofs.YtoflmheodiajaaaGreatDoor.hi (lo (el xs i * el ys k) + el zs (i + k))) + Proofs.YtoflmheodiajaaaGreatDoor.hi (lo (lo (el xs i * el ys k) + el zs (i + k)) + carry)) = mulHi (el xs i) (el ys k) (el zs (i + k)) carry := by
    rw [IntKind.wrap_u64, IntKind.wrap_u64]
    unfold mulHi at *
    unfold lo at *
    omega
  rw [e]
  refine ⟨k + 1, _, zs.set (i + k) (mulLo (el xs i) (el ys k) (el zs (i + k)) carry), rfl, by go_num, by omega, by simp [hl], hO.set _ _, hB.setCell (p := ⟨w.heap.size, i + k, none⟩) (Nat.le_refl _) _, wz.set _ _ (lo_range _), ⟨s2, s3⟩, fun j hj => ?_, ?_⟩
  · rw [el_set _ _ _ _ (by omega), if_neg (by omega)]; exact hz j hj
  · exact prod_step (by omega) rfl hv s1
theorem prod_out {w wr : World} {xs ys zs : List Int} {i : Nat} {carry : Int} (hl : zs.length = xs.length + ys.length) (hi : i < xs.length)
    (hO : OwnI wr w.heap.size 191 .u64 (.slice (some ⟨w.heap.size, 0, none⟩) (xs.length + ys.length) (xs.length + ys.length)) zs) (hB : Below w.heap.size w wr) (wz : InW zs)
    (hc : 0 ≤ carry ∧ carry < 18446744073709551616) (hz : ∀ j, i + ys.length ≤ j → el zs j = 0) (hv : val zs + carry * pw (i + ys.length) = vt xs i * val ys + el xs i * pw i * vt ys ys.length) :
    ProdOut w xs ys (.int .i64 ((i : Int) + 1)) (wr.setCell ⟨w.heap.size, i + ys.length, none⟩ (.int .u64 carry)) := by
  refine ⟨i + 1, zs.set (i + ys.length) carry, by go_num, by omega, by simp [hl], hO.set _ _, hB.setCell (p := ⟨w.heap.size, i + ys.length, none⟩) (Nat.le_refl _) _, wz.set _ _ hc, fun j hj => ?_, ?_⟩
  · rw [el_set _ _ _ _ (by omega), if_neg (by omega)]; exact hz j (by omega)
  · rw [val_set _ _ _ (by omega), hz _ (Nat.le_refl _)]
    have : vt ys ys.length = val ys := rfl
    rw [this] at hv
    simp only [vt]
    rw [Int.add_mul, ← hv]
    simp
theorem val_zeros (n : Nat) : val (List.replicate n 0) = 0 := by
  have : ∀ k, vt (List.replicate n 0) k = 0 := by
    intro k
    induction k with
    | zero => rfl
    | succ k ih => simp [vt, ih, el_replicate]
  exact this _
theorem prod_end {wr : World} {v : Value} {xs ys zs : List Int} (hl : zs.length = xs.length + ys.length) (hv : val zs = vt xs xs.length * val ys) (h : Nat64 Bs wr v (stripped zs)) :
    ∃ zs, Nat64 Bs wr v zs ∧ val zs = val xs * val ys ∧ zs.length ≤ xs.length + ys.length ∧ Trim zs :=
  ⟨_, h, by rw [val_stripped]; exact hv, by rw [stripped_length]; have := strip_le zs zs.length; omega, trim_stripped _⟩
theorem product_core (A B : Option Addr) (ca cb : Nat) (xs ys : List Int) (w : World) (hnx : 0 < xs.length) (hny : 0 < ys.length) (hlen : xs.length ≤ 1099511627776) (hlen2 : ys.length ≤ 1099511627776)
    (hca : xs.length ≤ ca) (hcb : ys.length ≤ cb) (hx : Rd Bs w .u64 191 A xs) (hy : Rd Bs w .u64 191 B ys) (wx : InW xs) (wy : InW ys) :
    Calls Tryz.prog 129 #[.slice A xs.length ca, .slice B ys.length cb] w (Gives w fun v w' => ∃ zs, Nat64 Bs w' v zs ∧ val zs = val xs * val ys ∧ zs.length ≤ xs.length + ys.length ∧ Trim zs) := by
  have b1 : ((xs.length : Int) == 0) = false := beq_eq_false_iff_ne.2 (by omega)
  have b2 : ((ys.length : Int) == 0) = false := beq_eq_false_iff_ne.2 (by omega)
  have HX := Lib.hid hx
  have HY := Lib.hid hy
  have WX := Lib.hid wx
  have WY := Lib.hid wy
  clear hx hy wx wy
  go_enter Tryz.func129, Tryz.ntmps129
  go_wp2_with (at_make; refine makeI _ rfl (.tmp 26) (.tmp 26) _ rfl w.heap.size 191 .u64 8 Tryz.underlying200 infoU64 _ _ (xs.length + ys.length) (xs.length + ys.length) rfl rfl (by first | rfl | (simp; done)) (by first | rfl | (simp; done)) (by omega) (by omega) (by omega) (Nat.le_refl _) ?_)
  intro w1 hO hG hS
  have hB := Lib.hid ((below_refl w).grown hG (Nat.le_refl _) (fun k hk => by simp at hk))
  have hS1 : w.heap.size ≤ w1.heap.size := by omega
  have HO := Lib.hid hO
  clear hO hG hS
  go_wp2
  go_loopw [30] (fun c wr => ProdOut w xs ys c wr) (fun c _ => xs.length - (intOf c).toNat)
  case atStart =>
    refine ⟨0, List.replicate (xs.length + ys.length) 0, rfl, by omega, by simp, HO.out, hB.out, InW.replicate _, fun j _ => el_replicate _ _, ?_⟩
    rw [val_zeros]; simp [vt]
  case round =>
    obtain ⟨i, zs, rfl, hi, hl, hO, hB, wz, hz, hv⟩ := hrel
    have HL := Lib.hid hl
    have HV := Lib.hid hv
    have HZ := Lib.hid hz
    have WZ := Lib.hid wz
    have HO1 := Lib.hid hO
    have HB1 := Lib.hid hB
    clear hl hv hz wz
    by_cases hlt : i < xs.length
    · obtain ⟨ab, ao, rfl, hab, hcA⟩ := HX.out.plain (by omega)
      have hA := (hB.cell (p := ⟨ab, ao + i, none⟩) hab).trans (hcA i hlt)
      clear hcA hO hB
      go_wp2
      go_loopw [8, 37] (fun cv c wr => ProdIn w xs ys i cv c wr) (fun _ c _ => ys.length - (intOf c).toNat)
      case atStart => exact ⟨0, 0, zs, rfl, rfl, by omega, HL.out, HO1.out, HB1.out, WZ.out, by omega, HZ.out, by rw [HV.out]; simp [vt]⟩
      case round =>
        obtain ⟨k, carry, zs2, rfl, rfl, hk, hl2, hO2, hB2, wz2, hcr, hz2, hv2⟩ := hrel
        have HL2 := Lib.hid hl2
        have HV2 := Lib.hid hv2
        have HZ2 := Lib.hid hz2
        have WZ2 := Lib.hid wz2
        have HO2 := Lib.hid hO2
        have HB2 := Lib.hid hB2
        have HC2 := Lib.hid hcr
        clear hv2 hz2 wz2 hcr
        by_cases hlk : k < ys.length
        · obtain ⟨bb, bo, rfl, hbb, hcB⟩ := HY.out.plain (by omega)
          have hY := (hB2.cell (p := ⟨bb, bo + k, none⟩) hbb).trans (hcB k hlk)
          have hzc := hO2.cell (i + k) (by omega)
          have hzf := hO2.frozen (i + k)
          have hadd1 := fun W => run_Add64_0 (lo (el xs i * el ys k)) (el zs2 (i + k)) (lo_range _).1 (WZ2.out _).1 W
          have hadd2 := fun W => run_Add64_0 (lo (lo (el xs i * el ys k) + el zs2 (i + k))) carry (lo_range _).1 HC2.out.1 W
          clear hcB hl2 hB2 hO2
          go_wp2_with (go_at_call 151; refine (mul64_any (el xs i) (el ys k) (WX.out i) (WY.out k) _).mono ?_; rintro e w' ⟨rfl, rfl⟩)
          go_roundw
          case rel => exact prod_rel HL2.out hlt hlk HO2.out HB2.out WZ2.out HC2.out HZ2.out HV2.out (WX.out i) (WY.out k)
          case measure => simp [intOf]; omega
        · obtain rfl : k = ys.length := by omega
          have hzc := hO2.cell (i + ys.length) (by omega)
          have hzf := hO2.frozen (i + ys.length)
          clear hl2 hB2 hO2
          go_wp2
          go_roundw
          case rel => exact prod_out HL2.out hlt HO2.out HB2.out WZ2.out HC2.out HZ2.out HV2.out
          case measure => simp [intOf]; omega
    · obtain rfl : i = xs.length := by omega
      have hN := nat64_of_own (Bs := Bs) hO WZ.out
      have HN := Lib.hid hN
      clear hO hB hN
      go_wp2_with (go_at_call 152; refine (trim_any _ _ _ HN.out).mono ?_; rintro e w' ⟨v', rfl, hv', rfl⟩; have HV' := Lib.hid hv'; clear hv')
      go_ret
      exact ⟨_, rfl, prod_end HL.out HV.out HV'.out, HB1.out⟩
theorem nat64_nil (w : World) : Nat64 Bs w (.slice none 0 0) [] := ⟨⟨none, 0, rfl, by simp, by omega, fun h => by simp at h⟩, InW.nil⟩
theorem product_any (a b : Value) (xs ys : List Int) (w : World) (ha : Nat64 Bs w a xs) (hb : Nat64 Bs w b ys) (hx : xs.length ≤ 1099511627776) (hy : ys.length ≤ 1099511627776) :
    Calls Tryz.prog 129 #[a, b] w (Gives w fun v w' => ∃ zs, Nat64 Bs w' v zs ∧ val zs = val xs * val ys ∧ zs.length ≤ xs.length + ys.length ∧ Trim zs) := by
  obtain ⟨⟨A, ca, rfl, h1, h2, h3⟩, h4⟩ := ha
  obtain ⟨⟨B, cb, rfl, k1, k2, k3⟩, k4⟩ := hb
  by_cases hp : 0 < xs.length ∧ 0 < ys.length
  · exact product_core A B ca cb xs ys w hp.1 hp.2 hx hy h1 k1 h3 k3 h4 k4
  have hpost : ∃ zs, Nat64 Bs w (.slice none 0 0) zs ∧ val zs = val xs * val ys ∧ zs.length ≤ xs.length + ys.length ∧ Trim zs := by
    refine ⟨[], nat64_nil w, ?_, by simp, .inl rfl⟩
    have : xs = [] ∨ ys = [] := by
      rcases Nat.eq_zero_or_pos xs.length with h | h
      · exact .inl (List.eq_nil_of_length_eq_zero h)
      · exact .inr (List.eq_nil_of_length_eq_zero (by omega))
    rcases this with h | h <;> simp [h, val_nil]
  have HP := Lib.hid hpost
  have hb1 : ((xs.length : Int) == 0) = true ∨ (((xs.length : Int) == 0) = false ∧ ((ys.length : Int) == 0) = true) := by
    rcases Nat.eq_zero_or_pos xs.length with h | h
    · exact .inl (beq_iff_eq.2 (by omega))
    · exact .inr ⟨beq_eq_false_iff_ne.2 (by omega), beq_iff_eq.2 (by omega)⟩
  clear hpost hp h3 h4 k3 k4
  rcases hb1 with hb1 | ⟨hb1, hb2⟩
  all_goals
    go_enter Tryz.func129, Tryz.ntmps129
    go_wp2
    go_ret
    exact ⟨_, rfl, HP.out, below_refl _⟩
end Go.Proofs.YtoflmheodiajaaaGreatDoor
namespace Go.Proofs.YtoflmheodiajaaaGreatDoor
set_option linter.unusedVariables false
set_option linter.unusedSimpArgs false
def dch (s : ByteArray) (k : Nat) : Nat → Int
  | 0 => 0
  | n + 1 => 10 * dch s k n + (bt s (k + n) - 48)
def dval (s : ByteArray) : Int := dch s 0 s.size
theorem dch_add (s : ByteArray) (k n : Nat) : dch s 0 (k + n) = dch s 0 k * 10 ^ n + dch s k n := by
  induction n with
  | zero => simp [dch]
  | succ n ih =>
    rw [show k + (n + 1) = (k + n) + 1 from rfl]
    simp only [dch]
    rw [ih, Nat.zero_add, Int.pow_succ]
    have : 10 * (dch s 0 k * 10 ^ n + dch s k n) = dch s 0 k * (10 ^ n * 10) + 10 * dch s k n := by grind
    omega
def isDigits (s : ByteArray) : Prop := ∀ i, i < s.size → 48 ≤ bt s i ∧ bt s i ≤ 57
theorem isDigits_of (s : ByteArray) (h : digitsFrom s 0 = true) : isDigits s := by
  unfold digitsFrom at h
  have := of_decide_eq_true h
  exact fun i hi => this i hi (Nat.zero_le _)
theorem dch_range {s : ByteArray} (h : isDigits s) (k : Nat) : ∀ n, k + n ≤ s.size → 0 ≤ dch s k n ∧ dch s k n < 10 ^ n
  | 0, _ => by simp [dch]
  | n + 1, hn => by
    obtain ⟨h1, h2⟩ := dch_range h k n (by omega)
    obtain ⟨h3, h4⟩ := h (k + n) (by omega)
    simp only [dch]
    rw [Int.pow_succ]
    omega
theorem dch_small {s : ByteArray} (h : isDigits s) (k n : Nat) (hn : k + n ≤ s.size) (h19 : n ≤ 19) : 0 ≤ dch s k n ∧ dch s k n < 10000000000000000000 := by
  obtain ⟨h1, h2⟩ := dch_range h k n hn
  have h3 : (10 : Nat) ^ n ≤ 10 ^ 19 := Nat.pow_le_pow_right (by omega) h19
  have h4 : ((10 ^ n : Nat) : Int) = (10 : Int) ^ n := by simp
  omega
end Go.Proofs.YtoflmheodiajaaaGreatDoor
namespace Go.Proofs.YtoflmheodiajaaaGreatDoor
open Go.RowKit
set_option linter.unusedVariables false
set_option linter.unusedSimpArgs false
variable {Bs : Nat}
theorem bt_extract (s : ByteArray) (k i : Nat) (h : k + i < s.size) : bt (s.extract k s.size) i = bt s (k + i) := by
  have h1 : i < (s.extract k s.size).size := by simp; omega
  unfold bt
  rw [dif_pos h1, dif_pos h]
  congr 2
  simp [ByteArray.getElem_extract]
def tailOf (s : ByteArray) (k : Nat) : ByteArray := s.extract k s.size
theorem tail_zero (s : ByteArray) : tailOf s 0 = s := by unfold tailOf; exact ByteArray.extract_zero_size
theorem tail_size (s : ByteArray) (k : Nat) : (tailOf s k).size = s.size - k := by unfold tailOf; simp
theorem tail_tail (s : ByteArray) (k n : Nat) (h : k + n ≤ s.size) : (tailOf s k).extract n (tailOf s k).size = tailOf s (k + n) := by
  unfold tailOf
  rw [ByteArray.extract_extract]
  simp
  congr 1
  omega
theorem bt_tail (s : ByteArray) (k i : Nat) (h : k + i < s.size) : bt (tailOf s k) i = bt s (k + i) := bt_extract s k i h
def chunkOf (n : Nat) : Nat := if n % 19 = 0 then 19 else n % 19
theorem chunk_facts (n : Nat) (h : 0 < n) : 1 ≤ chunkOf n ∧ chunkOf n ≤ 19 ∧ chunkOf n ≤ n ∧ (n - chunkOf n) % 19 = 0 := by
  unfold chunkOf
  split <;> omega
def DigIn (S : ByteArray) (C : Nat) (wv i : Value) : Prop := ∃ n : Nat, n ≤ C ∧ i = .int .i64 n ∧ wv = .int .u64 (dch S 0 n)
theorem dig_step {S : ByteArray} {C n : Nat} (hd : isDigits S) (hlt : n < C) (hC : C ≤ 19) (hS : C ≤ S.size) :
    DigIn S C (.int .u64 (IntKind.u64.wrap (IntKind.u64.wrap (10 * dch S 0 n) + (bt S n - 48)))) (.int .i64 ((n : Int) + 1)) := by
  refine ⟨n + 1, hlt, by go_num, ?_⟩
  have h1 := dch_small hd 0 n (by omega) (by omega)
  have h2 := dch_small hd 0 (n + 1) (by omega) (by omega)
  have h3 := hd n (by omega)
  simp only [dch, Nat.zero_add] at h2 ⊢
  congr 1
  rw [IntKind.wrap_u64, IntKind.wrap_u64]
  omega
theorem nat64_one_new (w : World) (y : Int) (hy : 0 ≤ y ∧ y < 18446744073709551616) : Nat64 Bs (w.alloc (.cells #[.int .u64 y] 191)) (.slice (some ⟨w.heap.size, 0, none⟩) 1 1) [y] := by
  refine ⟨⟨_, 1, rfl, by simp, by omega, fun _ => ⟨_, _, _, _, _, rfl, heap_alloc_new w _, .inr rfl, fun j hj => ?_⟩⟩, fun i => ?_⟩
  · have : j = 0 := by simpa using hj
    subst this
    rfl
  · match i with
    | 0 => exact hy
    | i + 1 => simp [el]
def DigRel (Bs : Nat) (w : World) (s : ByteArray) (sv av : Value) (wr : World) : Prop :=
  ∃ (k : Nat) (xs : List Int), sv = .string (tailOf s k) ∧ k ≤ s.size ∧ Nat64 Bs wr av xs ∧ Below w.heap.size w wr ∧ Trim xs ∧ xs.length ≤ 2 * k ∧ val xs = dch s 0 k ∧ (k = 0 ∨ (s.size - k) % 19 = 0)
theorem pow10_19 : (10 : Int) ^ 19 = 10000000000000000000 := by rfl
theorem dch_tail {s : ByteArray} {k : Nat} : ∀ n, k + n ≤ s.size → dch (tailOf s k) 0 n = dch s k n
  | 0, _ => rfl
  | n + 1, h => by
    simp only [dch, Nat.zero_add]
    rw [dch_tail n (by omega), bt_tail s k n (by omega)]
theorem trim_wordOf (u : Int) : Trim (wordOf u) := by
  unfold wordOf
  split
  · exact .inl rfl
  · rename_i h; exact .inr (by simpa [el] using h)
theorem dig_round {w wr w2 w3 w4 : World} {av pv qv rv : Value} {s S : ByteArray} {k C : Nat} {xs ps rs : List Int} {cv : Int} (hS : S = tailOf s k) (hsz : S.size = s.size - k) (hk : k ≤ s.size) (hCk : S.size % 19 = 0 → C = 19) (hC1 : 1 ≤ C) (hC : C ≤ S.size) (hm : (S.size - C) % 19 = 0)
    (hK : k = 0 ∨ (s.size - k) % 19 = 0) (hN : Nat64 Bs wr av xs) (ht : Trim xs) (hv : val xs = dch s 0 k) (hB : Below w.heap.size w wr) (hl : xs.length ≤ 2 * k) (hcv : cv = dch S 0 C) (hcr : 0 ≤ cv ∧ cv < 10000000000000000000)
    (hps : Nat64 Bs w2 pv ps) (hpv : val ps = val xs * val [10000000000000000000]) (hpt : Trim ps) (hpl : ps.length ≤ xs.length + [(10000000000000000000 : Int)].length)
    (hB2 : Below (wr.alloc (.cells #[.int .u64 10000000000000000000] 191)).heap.size (wr.alloc (.cells #[.int .u64 10000000000000000000] 191)) w2) (hq : Nat64 Bs w3 qv (wordOf cv)) (hB3 : Below w2.heap.size w2 w3)
    (hrs : Nat64 Bs w4 rv rs) (hrv : val rs = val ps + val (wordOf cv)) (hr4 : rs.length = max ps.length (wordOf cv).length ∨ Trim rs) (hr3 : rs.length ≤ max ps.length (wordOf cv).length + 1) (hB4 : Below w3.heap.size w3 w4) :
    DigRel Bs w s (.string (S.extract C S.size)) rv w4 := by
  subst hS
  have h19 : C ≤ 19 ∨ 19 < C := by omega
  refine ⟨k + C, rs, by rw [tail_tail s k C (by omega)], by omega, hrs, ?_, sum_trim hpt (trim_wordOf cv) hps.inw hq.inw hrs.inw hrv hr4, ?_, ?_, ?_⟩
  · have s1 := hB.size
    have s2 := hB2.size
    have s3 := hB3.size
    simp at s2
    exact below_then (below_then (below_then (below_alloc hB _) (by simp; omega) hB2) (by omega) hB3) (by omega) hB4
  · have : (wordOf cv).length ≤ 1 := by unfold wordOf; split <;> simp
    simp at hpl
    omega
  · rw [hrv, hpv, val_one, val_wordOf, hcv, dch_tail C (by omega), dch_add, hv]
    rcases hK with rfl | hK
    · simp [dch]
    · rw [hCk (by omega), pow10_19]
  · right
    rw [show s.size - (k + C) = (tailOf s k).size - C by omega]
    exact hm
theorem digits_any (s : ByteArray) (w : World) (hs : s.size ≤ 536870912) (hd : isDigits s) :
    Calls Tryz.prog 106 #[.string s] w (Gives w fun v w' => ∃ xs, Nat64 Bs w' v xs ∧ val xs = dval s ∧ Trim xs ∧ xs.length ≤ 2 * s.size) := by
  go_enter Tryz.func106, Tryz.ntmps106
  go_wp2
  go_loopw [0, 3] (fun sv av wr => DigRel Bs w s sv av wr) (fun sv _ _ => lenOf sv)
  case atStart => exact ⟨0, [], by rw [tail_zero], by omega, nat64_nil _, below_refl _, .inl rfl, by simp, rfl, .inl rfl⟩
  case round =>
    obtain ⟨k, xs, rfl, hk, hN, hB, ht, hl, hv, hm⟩ := hrel
    have HN := Lib.hid hN
    have HB := Lib.hid hB
    have HT := Lib.hid ht
    have HV := Lib.hid hv
    have HM := Lib.hid hm
    have hsz := tail_size s k
    obtain ⟨S, hS⟩ : ∃ S, S = tailOf s k := ⟨_, rfl⟩
    rw [← hS] at hsz ⊢
    have HS := Lib.hid hS
    have HSZ := Lib.hid hsz
    have hS1 : S.size ≤ 536870912 := by omega
    clear hN hB ht hv hm hS hsz
    by_cases hpos : 0 < S.size
    · obtain ⟨c1, c2, c3, c4⟩ := chunk_facts S.size hpos
      have hdS : isDigits S := fun i hi => by
        rw [HS.out, bt_tail s k i (by rw [HSZ.out] at hi; omega)]
        exact hd (k + i) (by rw [HSZ.out] at hi; omega)
      have HDS := Lib.hid hdS
      clear hdS
      have key : ∀ C : Nat, C = chunkOf S.size → ((S.size % 19 = 0 ∧ C = 19) ∨ (S.size % 19 ≠ 0 ∧ C = S.size % 19)) := fun C hC => by
        rw [hC]; unfold chunkOf; split
        · exact .inl ⟨‹_›, rfl⟩
        · exact .inr ⟨‹_›, rfl⟩
      obtain ⟨C, hC⟩ : ∃ C, C = chunkOf S.size := ⟨_, rfl⟩
      have hk2 := key C hC
      rw [← hC] at c1 c2 c3 c4
      have HC4 := Lib.hid c4
      clear key hC c4
      rcases hk2 with ⟨hc, rfl⟩ | ⟨hc, hC⟩
      · have hcb : ((S.size : Int) % 19 == 0) = true := beq_iff_eq.2 (by omega)
        clear hc
        go_wp2_with fail
        go_loop [5, 16] (fun wv i => DigIn S 19 wv i) (fun _ i => 19 - (intOf i).toNat)
        case atStart => exact ⟨0, by omega, rfl, rfl⟩
        case round =>
          obtain ⟨n, hn, rfl, rfl⟩ := hrel
          by_cases hlt : n < 19
          · have hbt := bt_at S n (by omega)
            obtain ⟨d1, d2⟩ := HDS.out n (by omega)
            go_wp2_with fail
            go_round
            case rel => exact dig_step HDS.out hlt (by omega) (by omega)
            case measure => simp [intOf]; omega
          · obtain rfl : n = 19 := by omega
            have hwv := dch_small HDS.out 0 19 (by omega) (by omega)
            have HWV := Lib.hid hwv
            clear hwv
            obtain ⟨cv, hcv⟩ : ∃ cv, cv = dch S 0 19 := ⟨_, rfl⟩
            rw [← hcv] at HWV ⊢
            have HCV := Lib.hid hcv
            clear hcv
            go_wp2_with fail
            refine (product_any _ _ xs [10000000000000000000] _ (HN.out.below (below_alloc (below_refl _) _)) (nat64_one_new _ _ (by omega)) (by omega) (by simp)).mono ?_
            rintro e w2 ⟨pv, rfl, ⟨ps, hps, hpv, hpl, hpt⟩, hB2⟩
            have HPS := Lib.hid hps
            have HPV := Lib.hid hpv
            have HPT := Lib.hid hpt
            have HB2 := Lib.hid hB2
            clear hps hpv hpt hB2
            go_wp2_with fail
            refine (word_any (Bs := Bs) _ _ ?_).mono ?_
            · have := HWV.out; omega
            rintro e w3 ⟨qv, rfl, hq, hB3⟩
            have HQ := Lib.hid hq
            have HB3 := Lib.hid hB3
            clear hq hB3
            go_wp2_with fail
            refine (sum_any _ _ ps (wordOf cv) _ (HPS.out.below HB3.out) HQ.out ?_ ?_).mono ?_
            · simp at hpl; omega
            · unfold wordOf; split <;> simp
            rintro e w4 ⟨rv, rfl, ⟨rs, hrs, hrv, hr1, hr2, hr3, hr4⟩, hB4⟩
            have HRS := Lib.hid hrs
            have HRV := Lib.hid hrv
            have HR4 := Lib.hid hr4
            have HB4 := Lib.hid hB4
            clear hrs hrv hr4 hB4
            go_wp2_with fail
            go_roundw
            case rel => exact dig_round HS.out HSZ.out hk (fun _ => rfl) (by omega) c3 HC4.out HM.out HN.out HT.out HV.out HB.out hl HCV.out HWV.out HPS.out HPV.out HPT.out hpl HB2.out HQ.out HB3.out HRS.out HRV.out HR4.out hr3 HB4.out
            case measure => simp [lenOf]; omega
      · have hcb : ((C : Int) == 0) = false := beq_eq_false_iff_ne.2 (by omega)
        have HCN := Lib.hid hc
        have hrem : ((S.size : Int) % 19) = (C : Int) := by omega
        clear hc hC
        go_wp2_with fail
        go_loop [5, 16] (fun wv i => DigIn S C wv i) (fun _ i => C - (intOf i).toNat)
        case atStart => exact ⟨0, by omega, rfl, rfl⟩
        case round =>
          obtain ⟨n, hn, rfl, rfl⟩ := hrel
          by_cases hlt : n < C
          · have hbt := bt_at S n (by omega)
            obtain ⟨d1, d2⟩ := HDS.out n (by omega)
            go_wp2_with fail
            go_round
            case rel => exact dig_step HDS.out hlt (by omega) (by omega)
            case measure => simp [intOf]; omega
          · obtain rfl : C = n := by omega
            have hwv := dch_small HDS.out 0 C (by omega) (by omega)
            have HWV := Lib.hid hwv
            clear hwv
            obtain ⟨cv, hcv⟩ : ∃ cv, cv = dch S 0 C := ⟨_, rfl⟩
            rw [← hcv] at HWV ⊢
            have HCV := Lib.hid hcv
            clear hcv
            go_wp2_with fail
            refine (product_any _ _ xs [10000000000000000000] _ (HN.out.below (below_alloc (below_refl _) _)) (nat64_one_new _ _ (by omega)) (by omega) (by simp)).mono ?_
            rintro e w2 ⟨pv, rfl, ⟨ps, hps, hpv, hpl, hpt⟩, hB2⟩
            have HPS := Lib.hid hps
            have HPV := Lib.hid hpv
            have HPT := Lib.hid hpt
            have HB2 := Lib.hid hB2
            clear hps hpv hpt hB2
            go_wp2_with fail
            refine (word_any (Bs := Bs) _ _ ?_).mono ?_
            · have := HWV.out; omega
            rintro e w3 ⟨qv, rfl, hq, hB3⟩
            have HQ := Lib.hid hq
            have HB3 := Lib.hid hB3
            clear hq hB3
            go_wp2_with fail
            refine (sum_any _ _ ps (wordOf cv) _ (HPS.out.below HB3.out) HQ.out ?_ ?_).mono ?_
            · simp at hpl; omega
            · unfold wordOf; split <;> simp
            rintro e w4 ⟨rv, rfl, ⟨rs, hrs, hrv, hr1, hr2, hr3, hr4⟩, hB4⟩
            have HRS := Lib.hid hrs
            have HRV := Lib.hid hrv
            have HR4 := Lib.hid hr4
            have HB4 := Lib.hid hB4
            clear hrs hrv hr4 hB4
            go_wp2_with fail
            go_roundw
            case rel => exact dig_round HS.out HSZ.out hk (fun h => absurd h HCN.out) (by omega) c3 HC4.out HM.out HN.out HT.out HV.out HB.out hl HCV.out HWV.out HPS.out HPV.out HPT.out hpl HB2.out HQ.out HB3.out HRS.out HRV.out HR4.out hr3 HB4.out
            case measure => simp [lenOf]; omega
    · have hk' := tail_size s k
      rw [← HS.out] at hk'
      obtain rfl : k = s.size := by omega
      go_wp2
      go_ret
      exact ⟨_, rfl, ⟨xs, HN.out, HV.out, HT.out, hl⟩, HB.out⟩
end Go.Proofs.YtoflmheodiajaaaGreatDoor
