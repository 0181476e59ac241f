import Derived.Test.YtoflmheodiajaaaGreatDoorK26
namespace Go.Proofs.YtoflmheodiajaaaGreatDoor.H
open Go.RowKit
set_option linter.unusedVariables false
set_option linter.unusedSimpArgs false
variable {Bs : Nat}
structure AdIn (w : World) (xs ys : List Int) (k : Nat) (cv : Int) (zs : List Int) (wr : World) : Prop where
  hk : k ≤ xs.length
  hl : zs.length = xs.length + 1
  own : OwnI wr w.heap.size 143 .u32 (.slice (some ⟨w.heap.size, 0, none⟩) (xs.length + 1) (xs.length + 1)) zs
  below : Below w.heap.size w wr
  inw : InW zs
  c01 : cv = 0 ∨ cv = 1
  high : ∀ j, k ≤ j → el zs j = 0
  eq : vt zs k + cv * pw k = vt xs k + vt ys k
def AdRel (w : World) (xs ys : List Int) (c i : Value) (wr : World) : Prop := ∃ (k : Nat) (cv : Int) (zs : List Int), c = .int .u64 cv ∧ i = .int .i64 k ∧ AdIn w xs ys k cv zs wr
theorem AdIn.next {w wr : World} {xs ys zs : List Int} {k : Nat} {cv : Int} (h : AdIn w xs ys k cv zs wr) (hk : k < xs.length) (wx : InW xs) (wy : InW ys) :
    AdIn w xs ys (k + 1) (hi (el xs k + el ys k + cv)) (zs.set k (lo (el xs k + el ys k + cv))) (wr.setCell ⟨w.heap.size, k, none⟩ (.int .u32 (lo (el xs k + el ys k + cv)))) := by
  have hl := h.hl
  refine ⟨by omega, by rw [List.length_set]; exact hl, h.own.set k _, h.below.setCell (p := ⟨w.heap.size, k, none⟩) (Nat.le_refl _) _, h.inw.set _ _ (lo_range _), carry_bit (wx k) (wy k) h.c01, fun j hj => ?_, sum_step (by omega) h.eq⟩
  rw [el_set _ _ _ _ (by omega), if_neg (by omega)]
  exact h.high j (by omega)
theorem AdIn.done {w wr : World} {xs ys zs : List Int} {cv : Int} (h : AdIn w xs ys xs.length cv zs wr) (hle : ys.length ≤ xs.length) :
    val (zs.set xs.length cv) = val xs + val ys ∧ InW (zs.set xs.length cv) ∧ OwnI (wr.setCell ⟨w.heap.size, xs.length, none⟩ (.int .u32 cv)) w.heap.size 143 .u32 (.slice (some ⟨w.heap.size, 0, none⟩) (xs.length + 1) (xs.length + 1)) (zs.set xs.length cv) ∧
    Below w.heap.size w (wr.setCell ⟨w.heap.size, xs.length, none⟩ (.int .u32 cv)) := by
  have hl := h.hl
  have hc := h.c01
  refine ⟨?_, h.inw.set _ _ (by omega), h.own.set _ _, h.below.setCell (p := ⟨w.heap.size, xs.length, none⟩) (Nat.le_refl _) _⟩
  have e := h.eq
  rw [val_set _ _ _ (by omega), h.high _ (Nat.le_refl _)]
  have e2 : val zs = vt zs xs.length := by
    unfold val
    rw [hl]
    simp only [vt]
    rw [h.high _ (Nat.le_refl _)]
    omega
  have e3 : vt ys xs.length = val ys := vt_ge ys _ hle
  have e4 : vt xs xs.length = val xs := rfl
  rw [e2, Int.sub_zero]
  omega
set_option maxHeartbeats 1000000 in
theorem addMag_core (args : Array Value) (A B : Option Addr) (ca cb : Nat) (xs ys : List Int) (w : World) (harg : args = #[.slice A xs.length ca, .slice B ys.length cb] ∧ ys.length ≤ xs.length ∨ args = #[.slice B ys.length cb, .slice A xs.length ca] ∧ ys.length < xs.length)
    (hlen : xs.length ≤ 1099511627776) (hx : Rd Bs w .u32 143 A xs) (hy : Rd Bs w .u32 143 B ys) (wx : InW xs) (wy : InW ys) :
    Calls Tryz.prog 165 args w (Gives w fun v w' => (∃ zs, Nat32 Bs w' v zs ∧ val zs = val xs + val ys ∧ Trim zs ∧ zs.length ≤ xs.length + 1) ∧ NewV w.heap.size v) := by
  have WX := Lib.hid wx
  have WY := Lib.hid wy
  have HX := Lib.hid hx
  have HY := Lib.hid hy
  clear wx wy hx hy
  rcases harg with ⟨rfl, hle⟩ | ⟨rfl, hle⟩
  all_goals
    go_enter Tryz.func165, Tryz.ntmps165
    go_wp2_with (at_make; refine makeI _ rfl _ _ _ rfl w.heap.size 143 .u32 4 Tryz.underlying92 infoU32 _ _ (xs.length + 1) (xs.length + 1) rfl rfl (by omega) (by omega) (by omega) (by omega) (by omega) (Nat.le_refl _) ?_)
    intro w1 hO hG hS
    have hB := (below_refl w).grown hG (Nat.le_refl _) (fun k hk => by simp at hk)
    have HST := Lib.hid (show AdIn w xs ys 0 0 (List.replicate (xs.length + 1) 0) w1 from ⟨by omega, by simp, hO, hB, InW.replicate _, .inl rfl, fun j _ => el_replicate _ _, by simp [vt]⟩)
    clear hO hG hS hB
    go_wp2
    go_loopw [6, 7] (fun c i wr => AdRel w xs ys c i wr) (fun _ i _ => xs.length - (intOf i).toNat)
    case atStart => exact ⟨0, 0, _, rfl, rfl, HST.out⟩
    case round =>
      obtain ⟨k, cv, zs, rfl, rfl, hin⟩ := hrel
      have hc := hin.c01
      have hl := hin.hl
      have hkl := hin.hk
      have hzc := hin.own.frozen k
      have hzv := hin.own.cell k (by omega)
      by_cases hk : k < xs.length
      · have HN := Lib.hid (hin.next hk WX.out WY.out)
        obtain ⟨ab, ao, rfl, hab, hcA⟩ := HX.out.plain (by omega)
        have hA := (hin.below.cell (p := ⟨ab, ao + k, none⟩) hab).trans (hcA k hk)
        have hxr := WX.out k
        have hyr := WY.out k
        have e0 : IntKind.u64.wrap (el xs k) = el xs k := by rw [IntKind.wrap_u64]; omega
        have e1 : IntKind.u64.wrap (cv + el xs k) = cv + el xs k := by rw [IntKind.wrap_u64]; omega
        have e2 : IntKind.u64.wrap (el ys k) = el ys k := by rw [IntKind.wrap_u64]; omega
        have e3 : IntKind.u64.wrap (cv + el xs k + el ys k) = el xs k + el ys k + cv := by rw [IntKind.wrap_u64]; omega
        have e4 : IntKind.u32.wrap (el xs k + el ys k + cv) = lo (el xs k + el ys k + cv) := by rw [IntKind.wrap_u32]; rfl
        have e5 : (el xs k + el ys k + cv) / 4294967296 = hi (el xs k + el ys k + cv) := rfl
        by_cases hky : k < ys.length
        · obtain ⟨bb, bo, rfl, hbb, hcB⟩ := HY.out.plain (by omega)
          have hBc := (hin.below.cell (p := ⟨bb, bo + k, none⟩) hbb).trans (hcB k hky)
          clear hin hcA hcB hxr hyr
          go_wp2
          go_roundw
          case rel => exact ⟨k + 1, _, _, rfl, by go_num, HN.out⟩
          case measure => simp [intOf]; omega
        · have hy0 : el ys k = 0 := el_ge ys k (by omega)
          have HE := Lib.hid hy0
          rw [hy0, Int.add_zero] at e3 e4 e5
          have e6 : cv + el xs k = el xs k + cv := Int.add_comm _ _
          have hn := HN.out
          rw [hy0, Int.add_zero] at hn
          have HN' := Lib.hid hn
          rw [e6] at e1
          clear hin hcA hxr hyr e2 e3 hy0 hn
          go_wp2
          go_roundw
          case rel => exact ⟨k + 1, _, _, rfl, by go_num, HN'.out⟩
          case measure => simp [intOf]; omega
      · obtain rfl : k = xs.length := by omega
        have hd := hin.done (by omega)
        have e4 : IntKind.u32.wrap cv = cv := by rw [IntKind.wrap_u32]; omega
        have HD := Lib.hid hd
        clear hin hd
        go_wp2_with fail
        refine (trim_anyN (Bs := Bs) _ (zs.set xs.length cv) _ (nat32_of_own HD.out.2.2.1 HD.out.2.1)).mono ?_
        rintro e w' ⟨v', rfl, hv, rfl⟩
        have HV := Lib.hid hv
        clear hv
        go_wp2
        go_ret
        exact ⟨_, rfl, ⟨⟨_, HV.out.1, by rw [val_stripped]; exact HD.out.1, trim_stripped _, by rw [stripped_length]; have := strip_le (zs.set xs.length cv) (zs.set xs.length cv).length; rw [List.length_set] at this ⊢; omega⟩, HV.out.2 _ (newV_own HD.out.2.2.1 (Nat.le_refl _))⟩, HD.out.2.2.2⟩
theorem addMag_any (a b : Value) (xs ys : List Int) (w : World) (hlx : xs.length ≤ 1099511627776) (hly : ys.length ≤ 1099511627776) (ha : Nat32 Bs w a xs) (hb : Nat32 Bs w b ys) :
    Calls Tryz.prog 165 #[a, b] w (Gives w fun v w' => (∃ zs, Nat32 Bs w' v zs ∧ val zs = val xs + val ys ∧ Trim zs ∧ zs.length ≤ max xs.length ys.length + 1) ∧ NewV w.heap.size v) := by
  obtain ⟨⟨A, ca, rfl, _, _, ra⟩, wa⟩ := ha
  obtain ⟨⟨B, cb, rfl, _, _, rb⟩, wb⟩ := hb
  rcases Nat.lt_or_ge xs.length ys.length with h | h
  · refine (addMag_core (Bs := Bs) _ B A cb ca ys xs w (.inr ⟨rfl, h⟩) hly rb ra wb wa).mono ?_
    rintro e w' ⟨v, rfl, ⟨⟨zs, h1, h2, h3, h4⟩, hn⟩, hB⟩
    exact ⟨v, rfl, ⟨⟨zs, h1, by omega, h3, by omega⟩, hn⟩, hB⟩
  · refine (addMag_core (Bs := Bs) _ A B ca cb xs ys w (.inl ⟨rfl, h⟩) hlx ra rb wa wb).mono ?_
    rintro e w' ⟨v, rfl, ⟨⟨zs, h1, h2, h3, h4⟩, hn⟩, hB⟩
    exact ⟨v, rfl, ⟨⟨zs, h1, by omega, h3, by omega⟩, hn⟩, hB⟩
end Go.Proofs.YtoflmheodiajaaaGreatDoor.H
namespace Go.Proofs.YtoflmheodiajaaaGreatDoor.H
open Go.RowKit
set_option linter.unusedVariables false
set_option linter.unusedSimpArgs false
variable {Bs : Nat}
def ProdOut (w : World) (xs ys : List Int) (c : Value) (wr : World) : Prop :=
  ∃ (i : Nat) (zs : List Int), c = .int .i64 i ∧ i ≤ xs.length ∧ zs.length = xs.length + ys.length ∧
    OwnI wr w.heap.size 143 .u32 (.slice (some ⟨w.heap.size, 0, none⟩) (xs.length + ys.length) (xs.length + ys.length)) zs ∧ Below w.heap.size w wr ∧
    InW zs ∧ (∀ j, i + ys.length ≤ j → el zs j = 0) ∧ val zs = vt xs i * val ys
def ProdIn (w : World) (xs ys : List Int) (i : Nat) (cv c : Value) (wr : World) : Prop :=
  ∃ (k : Nat) (carry : Int) (zs : List Int), cv = .int .u64 carry ∧ c = .int .i64 k ∧ k ≤ ys.length ∧ zs.length = xs.length + ys.length ∧
    OwnI wr w.heap.size 143 .u32 (.slice (some ⟨w.heap.size, 0, none⟩) (xs.length + ys.length) (xs.length + ys.length)) zs ∧ Below w.heap.size w wr ∧
    InW zs ∧ (0 ≤ carry ∧ carry < 4294967296) ∧ (∀ j, i + ys.length ≤ j → el zs j = 0) ∧ val zs + carry * pw (i + k) = vt xs i * val ys + el xs i * pw i * vt ys k
theorem prod_rel {w wr : World} {xs ys zs : List Int} {i k : Nat} {carry : Int} (hl : zs.length = xs.length + ys.length) (hi' : i < xs.length) (hk : k < ys.length)
    (hO : OwnI wr w.heap.size 143 .u32 (.slice (some ⟨w.heap.size, 0, none⟩) (xs.length + ys.length) (xs.length + ys.length)) zs) (hB : Below w.heap.size w wr) (wz : InW zs)
    (hc : 0 ≤ carry ∧ carry < 4294967296) (hz : ∀ j, i + ys.length ≤ j → el zs j = 0) (hv : val zs + carry * pw (i + k) = vt xs i * val ys + el xs i * pw i * vt ys k)
    (hx : 0 ≤ el xs i ∧ el xs i < 4294967296) (hy : 0 ≤ el ys k ∧ el ys k < 4294967296) :
    ProdIn w xs ys i (.int .u64 (hi (el xs i * el ys k + el zs (i + k) + carry))) (.int .i64 ((k : Int) + 1)) (wr.setCell ⟨w.heap.size, i + k, none⟩ (.int .u32 (lo (el xs i * el ys k + el zs (i + k) + carry)))) := by
  have hp := prod_range hx hy
  have ho := wz (i + k)
  have e := lo_hi (el xs i * el ys k + el zs (i + k) + carry)
  refine ⟨k + 1, _, zs.set (i + k) (lo (el xs i * el ys k + el zs (i + k) + carry)), rfl, by go_num, by omega, by simp [hl], hO.set _ _, hB.setCell (p := ⟨w.heap.size, i + k, none⟩) (Nat.le_refl _) _, wz.set _ _ (lo_range _), ?_, fun j hj => ?_, ?_⟩
  · unfold hi; omega
  · rw [el_set _ _ _ _ (by omega), if_neg (by omega)]; exact hz j hj
  · exact prod_step (by omega) rfl hv e.symm
theorem prod_out {w wr : World} {xs ys zs : List Int} {i : Nat} {carry : Int} (hl : zs.length = xs.length + ys.length) (hi : i < xs.length)
    (hO : OwnI wr w.heap.size 143 .u32 (.slice (some ⟨w.heap.size, 0, none⟩) (xs.length + ys.length) (xs.length + ys.length)) zs) (hB : Below w.heap.size w wr) (wz : InW zs)
    (hc : 0 ≤ carry ∧ carry < 4294967296) (hz : ∀ j, i + ys.length ≤ j → el zs j = 0) (hv : val zs + carry * pw (i + ys.length) = vt xs i * val ys + el xs i * pw i * vt ys ys.length) :
    ProdOut w xs ys (.int .i64 ((i : Int) + 1)) (wr.setCell ⟨w.heap.size, i + ys.length, none⟩ (.int .u32 carry)) := by
  refine ⟨i + 1, zs.set (i + ys.length) carry, by go_num, by omega, by simp [hl], hO.set _ _, hB.setCell (p := ⟨w.heap.size, i + ys.length, none⟩) (Nat.le_refl _) _, wz.set _ _ hc, fun j hj => ?_, ?_⟩
  · rw [el_set _ _ _ _ (by omega), if_neg (by omega)]; exact hz j (by omega)
  · rw [val_set _ _ _ (by omega), hz _ (Nat.le_refl _)]
    have : vt ys ys.length = val ys := rfl
    rw [this] at hv
    simp only [vt]
    rw [Int.add_mul, ← hv]
    simp
theorem val_zeros (n : Nat) : val (List.replicate n 0) = 0 := by
  have : ∀ k, vt (List.replicate n 0) k = 0 := by
    intro k
    induction k with
    | zero => rfl
    | succ k ih => simp [vt, ih, el_replicate]
  exact this _
theorem prod_end {wr : World} {v : Value} {xs ys zs : List Int} (hl : zs.length = xs.length + ys.length) (hv : val zs = vt xs xs.length * val ys) (h : Nat32 Bs wr v (stripped zs)) :
    ∃ zs, Nat32 Bs wr v zs ∧ val zs = val xs * val ys ∧ zs.length ≤ xs.length + ys.length ∧ Trim zs :=
  ⟨_, h, by rw [val_stripped]; exact hv, by rw [stripped_length]; have := strip_le zs zs.length; omega, trim_stripped _⟩
theorem mulMag_core (A B : Option Addr) (ca cb : Nat) (xs ys : List Int) (w : World) (hnx : 0 < xs.length) (hny : 0 < ys.length) (hlen : xs.length ≤ 1099511627776) (hlen2 : ys.length ≤ 1099511627776)
    (hca : xs.length ≤ ca) (hcb : ys.length ≤ cb) (hx : Rd Bs w .u32 143 A xs) (hy : Rd Bs w .u32 143 B ys) (wx : InW xs) (wy : InW ys) :
    Calls Tryz.prog 166 #[.slice A xs.length ca, .slice B ys.length cb] w (Gives w fun v w' => (∃ zs, Nat32 Bs w' v zs ∧ val zs = val xs * val ys ∧ zs.length ≤ xs.length + ys.length ∧ Trim zs) ∧ NewV w.heap.size v) := by
  have b1 : ((xs.length : Int) == 0) = false := beq_eq_false_iff_ne.2 (by omega)
  have b2 : ((ys.length : Int) == 0) = false := beq_eq_false_iff_ne.2 (by omega)
  have HX := Lib.hid hx
  have HY := Lib.hid hy
  have WX := Lib.hid wx
  have WY := Lib.hid wy
  clear hx hy wx wy
  go_enter Tryz.func166, Tryz.ntmps166
  go_wp2_with (at_make; refine makeI _ rfl _ _ _ rfl w.heap.size 143 .u32 4 Tryz.underlying92 infoU32 _ _ (xs.length + ys.length) (xs.length + ys.length) rfl rfl (by first | rfl | (simp; done)) (by first | rfl | (simp; done)) (by omega) (by omega) (by omega) (Nat.le_refl _) ?_)
  intro w1 hO hG hS
  have hB := Lib.hid ((below_refl w).grown hG (Nat.le_refl _) (fun k hk => by simp at hk))
  have hS1 : w.heap.size ≤ w1.heap.size := by omega
  have HO := Lib.hid hO
  clear hO hG hS
  go_wp2
  go_loopw [6] (fun c wr => ProdOut w xs ys c wr) (fun c _ => xs.length - (intOf c).toNat)
  case atStart =>
    refine ⟨0, List.replicate (xs.length + ys.length) 0, rfl, by omega, by simp, HO.out, hB.out, InW.replicate _, fun j _ => el_replicate _ _, ?_⟩
    rw [val_zeros]; simp [vt]
  case round =>
    obtain ⟨i, zs, rfl, hile, hl, hO, hB, wz, hz, hv⟩ := hrel
    have HL := Lib.hid hl
    have HV := Lib.hid hv
    have HZ := Lib.hid hz
    have WZ := Lib.hid wz
    have HO1 := Lib.hid hO
    have HB1 := Lib.hid hB
    clear hl hv hz wz
    by_cases hlt : i < xs.length
    · obtain ⟨ab, ao, rfl, hab, hcA⟩ := HX.out.plain (by omega)
      have HA := Lib.hid (hcA i hlt)
      clear hcA hO hB
      go_wp2
      go_loopw [7, 8] (fun cv c wr => ProdIn w xs ys i cv c wr) (fun _ c _ => ys.length - (intOf c).toNat)
      case atStart => exact ⟨0, 0, zs, rfl, rfl, by omega, HL.out, HO1.out, HB1.out, WZ.out, by omega, HZ.out, by rw [HV.out]; simp [vt]⟩
      case round =>
        obtain ⟨k, carry, zs2, rfl, rfl, hk, hl2, hO2, hB2, wz2, hcr, hz2, hv2⟩ := hrel
        have HL2 := Lib.hid hl2
        have HV2 := Lib.hid hv2
        have HZ2 := Lib.hid hz2
        have WZ2 := Lib.hid wz2
        have HO2 := Lib.hid hO2
        have HB2 := Lib.hid hB2
        have HC2 := Lib.hid hcr
        clear hv2 hz2 wz2 hcr
        by_cases hlk : k < ys.length
        · obtain ⟨bb, bo, rfl, hbb, hcB⟩ := HY.out.plain (by omega)
          have hY := (hB2.cell (p := ⟨bb, bo + k, none⟩) hbb).trans (hcB k hlk)
          have hA := (hB2.cell (p := ⟨ab, ao + i, none⟩) hab).trans HA.out
          have hzc := hO2.cell (i + k) (by omega)
          have hzf := hO2.frozen (i + k)
          have hxr := WX.out i
          have hyr := WY.out k
          have hor := WZ2.out (i + k)
          have hcr := HC2.out
          have hp := prod_range hxr hyr
          have e0 : IntKind.u64.wrap (el xs i) = el xs i := by rw [IntKind.wrap_u64]; omega
          have e1 : IntKind.u64.wrap (el ys k) = el ys k := by rw [IntKind.wrap_u64]; omega
          have e2 : IntKind.u64.wrap (el xs i * el ys k) = el xs i * el ys k := by rw [IntKind.wrap_u64]; omega
          have e3 : IntKind.u64.wrap (el zs2 (i + k)) = el zs2 (i + k) := by rw [IntKind.wrap_u64]; omega
          have e4 : IntKind.u64.wrap (el xs i * el ys k + el zs2 (i + k)) = el xs i * el ys k + el zs2 (i + k) := by rw [IntKind.wrap_u64]; omega
          have e5 : IntKind.u64.wrap (carry + (el xs i * el ys k + el zs2 (i + k))) = el xs i * el ys k + el zs2 (i + k) + carry := by rw [IntKind.wrap_u64]; omega
          have e6 : IntKind.u32.wrap (el xs i * el ys k + el zs2 (i + k) + carry) = lo (el xs i * el ys k + el zs2 (i + k) + carry) := by rw [IntKind.wrap_u32]; rfl
          have e7 : (el xs i * el ys k + el zs2 (i + k) + carry) / 4294967296 = hi (el xs i * el ys k + el zs2 (i + k) + carry) := rfl
          clear hcB hl2 hB2 hO2 hxr hyr hor hcr hp
          go_wp2
          go_quiet (fail)
          go_wp2
          go_roundw
          case rel => exact prod_rel HL2.out hlt hlk (HO2.out.drewN _) (below_drewN HB2.out _) WZ2.out HC2.out HZ2.out HV2.out (WX.out i) (WY.out k)
          case measure => simp [intOf]; omega
        · obtain rfl : k = ys.length := by omega
          have hzc := hO2.cell (i + ys.length) (by omega)
          have hzf := hO2.frozen (i + ys.length)
          have e8 : IntKind.u32.wrap carry = carry := by rw [IntKind.wrap_u32]; have := HC2.out; omega
          clear hl2 hB2 hO2
          go_wp2
          go_roundw
          case rel => exact prod_out HL2.out hlt HO2.out HB2.out WZ2.out HC2.out HZ2.out HV2.out
          case measure => simp [intOf]; omega
    · obtain rfl : i = xs.length := by omega
      have hN := nat32_of_own (Bs := Bs) hO WZ.out
      have HN := Lib.hid hN
      have HO9 := Lib.hid hO
      clear hO hB hN
      go_wp2_with (go_at_call 96; refine (trim_anyN _ _ _ HN.out).mono ?_; rintro e w' ⟨v', rfl, hv', rfl⟩; have HV' := Lib.hid hv'; clear hv')
      go_ret
      exact ⟨_, rfl, ⟨prod_end HL.out HV.out HV'.out.1, HV'.out.2 _ (newV_own HO9.out (Nat.le_refl _))⟩, HB1.out⟩
theorem nat32_nil (w : World) : Nat32 Bs w (.slice none 0 0) [] := ⟨⟨none, 0, rfl, by simp, by simp, fun h => by simp at h⟩, InW.nil⟩
theorem mulMag_any (a b : Value) (xs ys : List Int) (w : World) (ha : Nat32 Bs w a xs) (hb : Nat32 Bs w b ys) (hx : xs.length ≤ 1099511627776) (hy : ys.length ≤ 1099511627776) :
    Calls Tryz.prog 166 #[a, b] w (Gives w fun v w' => (∃ zs, Nat32 Bs w' v zs ∧ val zs = val xs * val ys ∧ zs.length ≤ xs.length + ys.length ∧ Trim zs) ∧ NewV w.heap.size v) := by
  obtain ⟨⟨A, ca, rfl, h1, h2, h3⟩, h4⟩ := ha
  obtain ⟨⟨B, cb, rfl, k1, k2, k3⟩, k4⟩ := hb
  by_cases hp : 0 < xs.length ∧ 0 < ys.length
  · exact mulMag_core A B ca cb xs ys w hp.1 hp.2 hx hy h1 k1 h3 k3 h4 k4
  have hpost : ∃ zs, Nat32 Bs w (.slice none 0 0) zs ∧ val zs = val xs * val ys ∧ zs.length ≤ xs.length + ys.length ∧ Trim zs := by
    refine ⟨[], nat32_nil w, ?_, by simp, .inl rfl⟩
    have : xs = [] ∨ ys = [] := by
      rcases Nat.eq_zero_or_pos xs.length with h | h
      · exact .inl (List.eq_nil_of_length_eq_zero h)
      · exact .inr (List.eq_nil_of_length_eq_zero (by omega))
    rcases this with h | h <;> simp [h, val_nil]
  have HP := Lib.hid hpost
  have hb1 : ((xs.length : Int) == 0) = true ∨ (((xs.length : Int) == 0) = false ∧ ((ys.length : Int) == 0) = true) := by
    rcases Nat.eq_zero_or_pos xs.length with h | h
    · exact .inl (beq_iff_eq.2 (by omega))
    · exact .inr ⟨beq_eq_false_iff_ne.2 (by omega), beq_iff_eq.2 (by omega)⟩
  clear hpost hp h3 h4 k3 k4
  rcases hb1 with hb1 | ⟨hb1, hb2⟩
  all_goals
    go_enter Tryz.func166, Tryz.ntmps166
    go_wp2
    go_ret
    exact ⟨_, rfl, ⟨HP.out, newV_nil _⟩, below_refl _⟩
end Go.Proofs.YtoflmheodiajaaaGreatDoor.H
