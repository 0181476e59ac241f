import Derived.Test.YtoflmheodiajaaaGreatDoorK1
import Derived.Laws.Externs
import Derived.Shelf.Spec.BitsCarry
namespace Go.Proofs.YtoflmheodiajaaaGreatDoor
open Go.RowKit
set_option linter.unusedVariables false
set_option linter.unusedSimpArgs false
variable {Bs : Nat}
theorem infoU64 : (Tryz.prog.info? 191).map (fun i => (i.zero, i.size, i.bytes)) = some (some (.int .u64 0), 1, 8) := by kernel_rfl
structure Nat64 (Bs : Nat) (w : World) (v : Value) (xs : List Int) : Prop where
  out : ∃ A c, v = .slice A xs.length c ∧ xs.length ≤ c ∧ c ≤ 9223372036854775807 ∧ Rd Bs w .u64 191 A xs
  inw : InW xs
theorem Nat64.below {w w1 : World} {v : Value} {xs : List Int} (h : Nat64 Bs w v xs) (hb : Below w.heap.size w w1) : Nat64 Bs w1 v xs := by
  obtain ⟨⟨A, c, e, h1, h2, h3⟩, h4⟩ := h
  exact ⟨⟨A, c, e, h1, h2, h3.below hb⟩, h4⟩
theorem run_Add64 (x y c : Int) (hx : 0 ≤ x) (hy : 0 ≤ y) (hc : c = 0 ∨ c = 1) (w : World) :
    (callFunc 150 #[.int .u64 x, .int .u64 y, .int .u64 c]).run Tryz.prog w = .ok (.value (.tuple #[.int .u64 (lo (x + y + c)), .int .u64 (hi (x + y + c))])) w := by
  obtain ⟨a, rfl⟩ := Int.eq_ofNat_of_zero_le hx
  obtain ⟨b, rfl⟩ := Int.eq_ofNat_of_zero_le hy
  have hc0 : 0 ≤ c := by omega
  obtain ⟨d, rfl⟩ := Int.eq_ofNat_of_zero_le hc0
  rw [run_callFunc_extern Tryz.func150 (by kernel_rfl) (by kernel_rfl) (by kernel_rfl) (e := add64Entry) (by kernel_rfl), run_add64 a b d (by omega) (by omega) (by omega) (by omega)]
  simp only [Result.andThen, lo, hi]
theorem run_Add64_0 (x y : Int) (hx : 0 ≤ x) (hy : 0 ≤ y) (w : World) :
    (callFunc 150 #[.int .u64 x, .int .u64 y, .int .u64 0]).run Tryz.prog w = .ok (.value (.tuple #[.int .u64 (lo (x + y)), .int .u64 (hi (x + y))])) w := by
  have := run_Add64 x y 0 hx hy (.inl rfl) w
  rwa [Int.add_zero] at this
def Gives (w : World) (R : Value → World → Prop) (e : Ending) (w' : World) : Prop := ∃ v, e = .returned v ∧ R v w' ∧ Below w.heap.size w w'
def wordOf (u : Int) : List Int := if u = 0 then [] else [u]
theorem val_wordOf (u : Int) : val (wordOf u) = u := by
  unfold wordOf
  split
  · rename_i h; rw [h]; rfl
  · exact val_one u
theorem word_any (u : Int) (w : World) (hu : 0 ≤ u ∧ u < 18446744073709551616) :
    Calls Tryz.prog 130 #[.int .u64 u] w (Gives w fun v w' => Nat64 Bs w' v (wordOf u)) := by
  by_cases h : u = 0
  · subst h
    clear hu
    go_enter Tryz.func130, Tryz.ntmps130
    go_wp2
    go_ret
    exact ⟨_, rfl, ⟨⟨none, 0, rfl, by simp [wordOf], by omega, fun h => by simp [wordOf] at h⟩, InW.nil⟩, below_refl _⟩
  · have hb : (u == 0) = false := by simp [h]
    have HI := Lib.hid hu
    have HW := Lib.hid (show wordOf u = [u] by simp [wordOf, h])
    clear hu h
    go_enter Tryz.func130, Tryz.ntmps130
    go_wp2
    go_ret
    refine ⟨_, rfl, ?_, below_alloc (below_refl _) _⟩
    rw [HW.out]
    refine ⟨⟨_, 1, rfl, by simp, by omega, fun _ => ⟨_, _, _, _, _, rfl, heap_alloc_new w _, .inr rfl, fun j hj => ?_⟩⟩, fun i => ?_⟩
    · have : j = 0 := by simpa using hj
      subst this
      rfl
    · match i with
      | 0 => exact HI.out
      | i + 1 => simp [el]
theorem trim_raw (A : Option Addr) (c : Nat) (xs : List Int) (w : World) (hm : xs.length ≤ 9223372036854775807) (hc : xs.length ≤ c) (hr : Rd Bs w .u64 191 A xs) :
    Calls Tryz.prog 152 #[.slice A xs.length c] w fun e w' => e = .returned (.slice A (strip xs.length xs) c) ∧ w = w' := by
  go_enter Tryz.func152, Tryz.ntmps152
  go_wp2
  go_loop [0] (fun v => ∃ k : Nat, k ≤ xs.length ∧ strip xs.length xs = strip k xs ∧ v = .slice A k c) (fun v => lenOf v)
  case atStart => exact ⟨xs.length, Nat.le_refl _, rfl, rfl⟩
  case round =>
    obtain ⟨k, hk, hs, rfl⟩ := hrel
    have HS := Lib.hid hs
    clear hs
    cases k with
    | zero =>
      go_wp2
      go_ret
      exact ⟨by rw [HS.out]; rfl, rfl⟩
    | succ k =>
      obtain ⟨ab, ao, rfl, hab, hcell⟩ := hr.plain (by omega)
      have h1 := hcell k (by omega)
      have HR := Lib.hid hr
      clear hcell hr
      by_cases hz : el xs k = 0
      · have hzb : (el xs k == 0) = true := by simp [hz]
        have HZ := Lib.hid hz
        clear hz
        go_wp2
        go_round
        case rel => exact ⟨k, by omega, by rw [HS.out]; simp [strip, HZ.out], rfl⟩
        case measure => simp [lenOf]
      · have hzb : (el xs k == 0) = false := by simp [hz]
        have HZ := Lib.hid hz
        clear hz
        go_wp2
        go_ret
        exact ⟨by rw [HS.out]; simp [strip, HZ.out], rfl⟩
theorem trim_any (v : Value) (xs : List Int) (w : World) (h : Nat64 Bs w v xs) :
    Calls Tryz.prog 152 #[v] w fun e w' => ∃ v', e = .returned v' ∧ Nat64 Bs w v' (stripped xs) ∧ w = w' := by
  obtain ⟨⟨A, c, rfl, h1, h2, h3⟩, h4⟩ := h
  refine (trim_raw A c xs w (by omega) h1 h3).mono ?_
  rintro e w' ⟨rfl, rfl⟩
  have hl := stripped_length xs
  have hle := strip_le xs xs.length
  refine ⟨_, rfl, ⟨⟨A, c, by rw [hl], by omega, h2, fun hp => ?_⟩, h4.take _⟩, rfl⟩
  obtain ⟨b, off, cs, t, fr, e1, e2, e3, e4⟩ := h3 (by omega)
  exact ⟨b, off, cs, t, fr, e1, e2, e3, fun j hj => by rw [el_stripped xs j hj]; exact e4 j (by omega)⟩
def SumRel (w : World) (xs ys : List Int) (c i : Value) (wr : World) : Prop :=
  ∃ (k : Nat) (cv : Int) (zs : List Int), c = .int .u64 cv ∧ i = .int .i64 k ∧ k ≤ xs.length ∧ zs.length = xs.length ∧
    OwnI wr w.heap.size 191 .u64 (.slice (some ⟨w.heap.size, 0, none⟩) xs.length (xs.length + 1)) zs ∧ Below w.heap.size w wr ∧
    (cv = 0 ∨ cv = 1) ∧ InW zs ∧ vt zs k + cv * pw k = vt xs k + vt ys k
theorem sum_rel {w wr : World} {xs ys zs : List Int} {k : Nat} {c : Int} (hl : zs.length = xs.length) (hk : k < xs.length)
    (hO : OwnI wr w.heap.size 191 .u64 (.slice (some ⟨w.heap.size, 0, none⟩) xs.length (xs.length + 1)) zs) (hB : Below w.heap.size w wr) (hc : c = 0 ∨ c = 1) (wz : InW zs)
    (hv : vt zs k + c * pw k = vt xs k + vt ys k) (hx : 0 ≤ el xs k ∧ el xs k < 18446744073709551616) (hy : 0 ≤ el ys k ∧ el ys k < 18446744073709551616) :
    SumRel w xs ys (.int .u64 (hi (el xs k + el ys k + c))) (.int .i64 ((k : Int) + 1)) (wr.setCell ⟨w.heap.size, k, none⟩ (.int .u64 (lo (el xs k + el ys k + c)))) :=
  ⟨k + 1, _, zs.set k (lo (el xs k + el ys k + c)), rfl, by go_num, by omega, by simp [hl], hO.set k _, hB.setCell (p := ⟨w.heap.size, k, none⟩) (Nat.le_refl _) _,
    carry_bit hx hy hc, wz.set k _ (lo_range _), sum_step (by omega) hv⟩
theorem nat64_of_own {w : World} {b : Nat} {v : Value} {xs : List Int} (h : OwnI w b 191 .u64 v xs) (hw : InW xs) : Nat64 Bs w v xs := ⟨h.rd Bs, hw⟩
theorem top_one (zs : List Int) : el (zs ++ [1]) ((zs ++ [1]).length - 1) ≠ 0 := by
  have e : (zs ++ [1]).length - 1 = zs.length := by simp
  rw [e, el_append_at]
  omega
theorem sum_end0 {wr : World} {v : Value} {xs ys zs : List Int} {b : Nat} (hl : zs.length = xs.length) (hO : OwnI wr b 191 .u64 v zs) (wz : InW zs)
    (hv : vt zs xs.length + 0 * pw xs.length = vt xs xs.length + vt ys xs.length) (hle : ys.length ≤ xs.length) :
    ∃ zs, Nat64 Bs wr v zs ∧ val zs = val xs + val ys ∧ xs.length ≤ zs.length ∧ zs.length ≤ xs.length + 1 ∧ (zs.length = xs.length ∨ Trim zs) :=
  ⟨zs, nat64_of_own hO wz, by
    rw [vt_ge zs _ (by omega), vt_ge xs _ (by omega), vt_ge ys _ hle] at hv
    omega, by omega, by omega, .inl hl⟩
theorem sum_end1 {wr : World} {v : Value} {xs ys zs : List Int} {b : Nat} (hl : zs.length = xs.length) (hO : OwnI wr b 191 .u64 v (zs ++ [1])) (wz : InW zs)
    (hv : vt zs xs.length + 1 * pw xs.length = vt xs xs.length + vt ys xs.length) (hle : ys.length ≤ xs.length) :
    ∃ zs, Nat64 Bs wr v zs ∧ val zs = val xs + val ys ∧ xs.length ≤ zs.length ∧ zs.length ≤ xs.length + 1 ∧ (zs.length = xs.length ∨ Trim zs) :=
  ⟨zs ++ [1], nat64_of_own hO (wz.append 1 (by omega)), by
    rw [vt_ge zs _ (by omega), vt_ge xs _ (by omega), vt_ge ys _ hle] at hv
    rw [val_append, hl]
    omega, by simp; omega, by simp; omega, .inr (.inr (top_one zs))⟩
theorem sum_core (A B : Option Addr) (ca cb : Nat) (xs ys : List Int) (w : World) (hle : ys.length ≤ xs.length) (hlen : xs.length ≤ 1099511627776) (hca : xs.length ≤ ca) (hcb : ys.length ≤ cb)
    (hx : Rd Bs w .u64 191 A xs) (hy : Rd Bs w .u64 191 B ys) (wx : InW xs) (wy : InW ys) :
    Calls Tryz.prog 128 #[.slice A xs.length ca, .slice B ys.length cb] w (Gives w fun v w' => ∃ zs, Nat64 Bs w' v zs ∧ val zs = val xs + val ys ∧ xs.length ≤ zs.length ∧ zs.length ≤ xs.length + 1 ∧ (zs.length = xs.length ∨ Trim zs)) := by
  have hnlt : ¬ ((xs.length : Int) < (ys.length : Int)) := by omega
  have HX := Lib.hid hx
  have HY := Lib.hid hy
  have WX := Lib.hid wx
  have WY := Lib.hid wy
  clear hx hy wx wy
  go_enter Tryz.func128, Tryz.ntmps128
  go_wp2_with (at_make; refine makeI _ rfl _ _ _ rfl w.heap.size 191 .u64 8 Tryz.underlying200 infoU64 _ _ xs.length (xs.length + 1) rfl rfl rfl (by first | rfl | (simp; done)) (by omega) (by omega) (by omega) (Nat.le_refl _) ?_)
  intro w1 hO hG hS
  have hB := Lib.hid ((below_refl w).grown hG (Nat.le_refl _) (fun k hk => by simp at hk))
  have hS1 : w.heap.size ≤ w1.heap.size := by omega
  have HO := Lib.hid hO
  clear hO hG hS
  go_wp2
  go_loopw [6, 24] (fun c i wr => SumRel w xs ys c i wr) (fun _ i _ => xs.length - (intOf i).toNat)
  case atStart =>
    exact ⟨0, 0, List.replicate xs.length 0, rfl, rfl, by omega, by simp, HO.out, hB.out, .inl rfl, InW.replicate _, by simp [vt]⟩
  case round =>
    obtain ⟨k, c, zs, rfl, rfl, hk, hl, hO, hB, hc, wz, hv⟩ := hrel
    have HL := Lib.hid hl
    have HV := Lib.hid hv
    have HC := Lib.hid hc
    have WZ := Lib.hid wz
    clear hv hc wz
    by_cases hlt : k < xs.length
    · obtain ⟨ab, ao, rfl, hab, hcA⟩ := HX.out.plain (by omega)
      have hA := (hB.cell (p := ⟨ab, ao + k, none⟩) hab).trans (hcA k hlt)
      have hz := hO.cell k (by omega)
      have hzf := hO.frozen k
      have HO1 := Lib.hid hO
      have HB1 := Lib.hid hB
      clear hcA hl hB hO
      by_cases hly : k < ys.length
      · obtain ⟨bb, bo, rfl, hbb, hcB⟩ := HY.out.plain (by omega)
        have hY := (HB1.out.cell (p := ⟨bb, bo + k, none⟩) hbb).trans (hcB k hly)
        have hadd := fun W => run_Add64 (el xs k) (el ys k) c (WX.out k).1 (WY.out k).1 HC.out W
        clear hcB
        go_wp2
        go_roundw
        case rel => exact sum_rel HL.out hlt HO1.out HB1.out HC.out WZ.out HV.out (WX.out k) (WY.out k)
        case measure => simp [intOf]; omega
      · have hy0 := Lib.hid (el_ge ys k (by omega))
        have hadd := fun W => run_Add64 (el xs k) 0 c (WX.out k).1 (by omega) HC.out W
        go_wp2
        go_roundw
        case rel =>
          have := sum_rel HL.out hlt HO1.out HB1.out HC.out WZ.out HV.out (WX.out k) (WY.out k)
          rw [hy0.out, Int.add_zero] at this
          exact this
        case measure => simp [intOf]; omega
    · obtain rfl : k = xs.length := by omega
      obtain ⟨wv, hvv⟩ := hO.rd Bs
      have HVV := Lib.hid hvv
      have HO1 := Lib.hid hO
      have HB1 := Lib.hid hB
      have hS := hB.size
      clear hl hO hB hvv
      rcases HC.out with rfl | rfl
      · go_wp2
        go_ret
        exact ⟨_, rfl, sum_end0 HL.out HO1.out WZ.out HV.out hle, HB1.out⟩
      · go_wp2_with (at_builtin; refine appendI (w0 := w) w.heap.size rfl (.tmp 51) (.tmp 53) 200 191 .u64 8 rfl Tryz.underlying200 infoU64 (by omega) _ zs 1 rfl rfl HO1.out HB1.out (by omega) (by rw [HL.out]; omega) ?_)
        intro v1 w2 hO2 hB2 hg2 hs2
        have HO2 := Lib.hid hO2
        have HB2 := Lib.hid hB2
        clear hO2 hB2 hg2
        go_wp2
        go_ret
        exact ⟨_, rfl, sum_end1 HL.out HO2.out WZ.out HV.out hle, HB2.out⟩
theorem sum_core2 (A B : Option Addr) (ca cb : Nat) (xs ys : List Int) (w : World) (hle0 : ys.length < xs.length) (hlen : xs.length ≤ 1099511627776) (hca : xs.length ≤ ca) (hcb : ys.length ≤ cb)
    (hx : Rd Bs w .u64 191 A xs) (hy : Rd Bs w .u64 191 B ys) (wx : InW xs) (wy : InW ys) :
    Calls Tryz.prog 128 #[.slice B ys.length cb, .slice A xs.length ca] w (Gives w fun v w' => ∃ zs, Nat64 Bs w' v zs ∧ val zs = val xs + val ys ∧ xs.length ≤ zs.length ∧ zs.length ≤ xs.length + 1 ∧ (zs.length = xs.length ∨ Trim zs)) := by
  have hle : ys.length ≤ xs.length := by omega
  have hnlt : (ys.length : Int) < (xs.length : Int) := by omega
  have HX := Lib.hid hx
  have HY := Lib.hid hy
  have WX := Lib.hid wx
  have WY := Lib.hid wy
  clear hx hy wx wy
  go_enter Tryz.func128, Tryz.ntmps128
  go_wp2_with (at_make; refine makeI _ rfl _ _ _ rfl w.heap.size 191 .u64 8 Tryz.underlying200 infoU64 _ _ xs.length (xs.length + 1) rfl rfl rfl (by first | rfl | (simp; done)) (by omega) (by omega) (by omega) (Nat.le_refl _) ?_)
  intro w1 hO hG hS
  have hB := Lib.hid ((below_refl w).grown hG (Nat.le_refl _) (fun k hk => by simp at hk))
  have hS1 : w.heap.size ≤ w1.heap.size := by omega
  have HO := Lib.hid hO
  clear hO hG hS
  go_wp2
  go_loopw [6, 24] (fun c i wr => SumRel w xs ys c i wr) (fun _ i _ => xs.length - (intOf i).toNat)
  case atStart =>
    exact ⟨0, 0, List.replicate xs.length 0, rfl, rfl, by omega, by simp, HO.out, hB.out, .inl rfl, InW.replicate _, by simp [vt]⟩
  case round =>
    obtain ⟨k, c, zs, rfl, rfl, hk, hl, hO, hB, hc, wz, hv⟩ := hrel
    have HL := Lib.hid hl
    have HV := Lib.hid hv
    have HC := Lib.hid hc
    have WZ := Lib.hid wz
    clear hv hc wz
    by_cases hlt : k < xs.length
    · obtain ⟨ab, ao, rfl, hab, hcA⟩ := HX.out.plain (by omega)
      have hA := (hB.cell (p := ⟨ab, ao + k, none⟩) hab).trans (hcA k hlt)
      have hz := hO.cell k (by omega)
      have hzf := hO.frozen k
      have HO1 := Lib.hid hO
      have HB1 := Lib.hid hB
      clear hcA hl hB hO
      by_cases hly : k < ys.length
      · obtain ⟨bb, bo, rfl, hbb, hcB⟩ := HY.out.plain (by omega)
        have hY := (HB1.out.cell (p := ⟨bb, bo + k, none⟩) hbb).trans (hcB k hly)
        have hadd := fun W => run_Add64 (el xs k) (el ys k) c (WX.out k).1 (WY.out k).1 HC.out W
        clear hcB
        go_wp2
        go_roundw
        case rel => exact sum_rel HL.out hlt HO1.out HB1.out HC.out WZ.out HV.out (WX.out k) (WY.out k)
        case measure => simp [intOf]; omega
      · have hy0 := Lib.hid (el_ge ys k (by omega))
        have hadd := fun W => run_Add64 (el xs k) 0 c (WX.out k).1 (by omega) HC.out W
        go_wp2
        go_roundw
        case rel =>
          have := sum_rel HL.out hlt HO1.out HB1.out HC.out WZ.out HV.out (WX.out k) (WY.out k)
          rw [hy0.out, Int.add_zero] at this
          exact this
        case measure => simp [intOf]; omega
    · obtain rfl : k = xs.length := by omega
      obtain ⟨wv, hvv⟩ := hO.rd Bs
      have HVV := Lib.hid hvv
      have HO1 := Lib.hid hO
      have HB1 := Lib.hid hB
      have hS := hB.size
      clear hl hO hB hvv
      rcases HC.out with rfl | rfl
      · go_wp2
        go_ret
        exact ⟨_, rfl, sum_end0 HL.out HO1.out WZ.out HV.out hle, HB1.out⟩
      · go_wp2_with (at_builtin; refine appendI (w0 := w) w.heap.size rfl (.tmp 51) (.tmp 53) 200 191 .u64 8 rfl Tryz.underlying200 infoU64 (by omega) _ zs 1 rfl rfl HO1.out HB1.out (by omega) (by rw [HL.out]; omega) ?_)
        intro v1 w2 hO2 hB2 hg2 hs2
        have HO2 := Lib.hid hO2
        have HB2 := Lib.hid hB2
        clear hO2 hB2 hg2
        go_wp2
        go_ret
        exact ⟨_, rfl, sum_end1 HL.out HO2.out WZ.out HV.out hle, HB2.out⟩
theorem sum_any (a b : Value) (xs ys : List Int) (w : World) (ha : Nat64 Bs w a xs) (hb : Nat64 Bs w b ys) (hx : xs.length ≤ 1099511627776) (hy : ys.length ≤ 1099511627776) :
    Calls Tryz.prog 128 #[a, b] w (Gives w fun v w' => ∃ zs, Nat64 Bs w' v zs ∧ val zs = val xs + val ys ∧ xs.length ≤ zs.length ∧ ys.length ≤ zs.length ∧ zs.length ≤ max xs.length ys.length + 1 ∧ (zs.length = max xs.length ys.length ∨ Trim zs)) := by
  obtain ⟨⟨A, ca, rfl, h1, h2, h3⟩, h4⟩ := ha
  obtain ⟨⟨B, cb, rfl, k1, k2, k3⟩, k4⟩ := hb
  rcases Nat.lt_or_ge xs.length ys.length with h | h
  · refine (sum_core2 B A cb ca ys xs w h hy k1 h1 k3 h3 k4 h4).mono ?_
    rintro e w' ⟨v, rfl, ⟨zs, hz, hv, hl, hl2, ht⟩, hB⟩
    exact ⟨v, rfl, ⟨zs, hz, by omega, by omega, by omega, by omega, ht.imp (fun e => by omega) id⟩, hB⟩
  · refine (sum_core A B ca cb xs ys w h hx h1 k1 h3 k3 h4 k4).mono ?_
    rintro e w' ⟨v, rfl, ⟨zs, hz, hv, hl, hl2, ht⟩, hB⟩
    exact ⟨v, rfl, ⟨zs, hz, by omega, by omega, by omega, by omega, ht.imp (fun e => by omega) id⟩, hB⟩
end Go.Proofs.YtoflmheodiajaaaGreatDoor
namespace Go.Proofs.YtoflmheodiajaaaGreatDoor
set_option linter.unusedVariables false
set_option linter.unusedSimpArgs false
theorem vt_set (xs : List Int) (i : Nat) (y : Int) (hi : i < xs.length) : ∀ k, vt (xs.set i y) k = vt xs k + (if i < k then (y - el xs i) * pw i else 0)
  | 0 => by simp [vt]
  | k + 1 => by
    simp only [vt]
    rw [vt_set xs i y hi k, el_set xs i k y hi]
    by_cases h1 : k = i
    · subst h1
      rw [if_pos rfl, if_neg (by omega), if_pos (by omega), Int.sub_mul]
      omega
    · rw [if_neg h1]
      by_cases h2 : i < k
      · rw [if_pos h2, if_pos (by omega)]; omega
      · rw [if_neg h2, if_neg (by omega)]; omega
theorem val_set (xs : List Int) (i : Nat) (y : Int) (hi : i < xs.length) : val (xs.set i y) = val xs + (y - el xs i) * pw i := by
  unfold val
  rw [List.length_set, vt_set xs i y hi, if_pos hi]
def mulLo (x y o c : Int) : Int := lo (lo (lo (x * y) + o) + c)
def mulHi (x y o c : Int) : Int := lo (hi (x * y) + hi (lo (x * y) + o)) + hi (lo (lo (x * y) + o) + c)
theorem prod_range {x y : Int} (hx : 0 ≤ x ∧ x < 18446744073709551616) (hy : 0 ≤ y ∧ y < 18446744073709551616) : 0 ≤ x * y ∧ x * y ≤ 18446744073709551615 * 18446744073709551615 := by
  constructor
  · exact Int.mul_nonneg hx.1 hy.1
  · exact Int.mul_le_mul (by omega) (by omega) hy.1 (by omega)
theorem mul_step {x y o c : Int} (hx : 0 ≤ x ∧ x < 18446744073709551616) (hy : 0 ≤ y ∧ y < 18446744073709551616) (ho : 0 ≤ o ∧ o < 18446744073709551616) (hc : 0 ≤ c ∧ c < 18446744073709551616) :
    mulLo x y o c + 18446744073709551616 * mulHi x y o c = x * y + o + c ∧ 0 ≤ mulHi x y o c ∧ mulHi x y o c < 18446744073709551616 := by
  have hp := prod_range hx hy
  unfold mulLo mulHi lo hi
  generalize x * y = p at *
  omega
theorem prod_step {zs : List Int} {V x carry carry' p q y o : Int} {i k : Nat} (hk : i + k < zs.length) (ho : el zs (i + k) = o)
    (h : val zs + carry * pw (i + k) = V + x * pw i * q) (hs : p + 18446744073709551616 * carry' = x * y + o + carry) :
    val (zs.set (i + k) p) + carry' * pw (i + k + 1) = V + x * pw i * (q + y * pw k) := by
  rw [val_set zs _ _ hk, ho, pw_succ]
  have e1 : x * pw i * (q + y * pw k) = x * pw i * q + x * y * pw (i + k) := by
    rw [Int.mul_add, pw_add]
    congr 1
    grind
  rw [e1]
  have e2 : carry' * (18446744073709551616 * pw (i + k)) = 18446744073709551616 * carry' * pw (i + k) := by grind
  rw [e2]
  have e3 : (p - o) * pw (i + k) + 18446744073709551616 * carry' * pw (i + k) = (x * y + carry) * pw (i + k) := by
    rw [← Int.add_mul]
    congr 1
    omega
  have e4 : (x * y + carry) * pw (i + k) = x * y * pw (i + k) + carry * pw (i + k) := by rw [Int.add_mul]
  omega
end Go.Proofs.YtoflmheodiajaaaGreatDoor
