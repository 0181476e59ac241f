import Derived.Test.YtoflmheodiajaaaGreatDoorK17
import Derived.Laws.CopyOwn
namespace Go.Proofs.YtoflmheodiajaaaGreatDoor
open Go.RowKit
set_option linter.unusedVariables false
set_option linter.unusedSimpArgs false
variable {Bs : Nat}
def sbD (x y b : Int) : Int := (x - y - b) % 18446744073709551616
def sbB (x y b : Int) : Int := if x < y + b then 1 else 0
theorem sb_eq {x y b : Int} (hx : 0 ≤ x ∧ x < 18446744073709551616) (hy : 0 ≤ y ∧ y < 18446744073709551616) (hb : b = 0 ∨ b = 1) : sbD x y b = x - y - b + 18446744073709551616 * sbB x y b := by
  unfold sbD sbB
  split <;> rcases hb with rfl | rfl <;> omega
theorem sb_range (x y b : Int) : 0 ≤ sbD x y b ∧ sbD x y b < 18446744073709551616 := ⟨Int.emod_nonneg _ (by decide), Int.emod_lt_of_pos _ (by decide)⟩
theorem sb_bit (x y b : Int) : sbB x y b = 0 ∨ sbB x y b = 1 := by unfold sbB; split <;> simp
theorem run_Sub64 (x y b : Int) (hx : 0 ≤ x) (hy : 0 ≤ y) (hyB : y < 18446744073709551616) (hb : b = 0 ∨ b = 1) (w : World) :
    (callFunc 176 #[.int .u64 x, .int .u64 y, .int .u64 b]).run Tryz.prog w = .ok (.value (.tuple #[.int .u64 (sbD x y b), .int .u64 (sbB x y b)])) w := by
  obtain ⟨x, rfl⟩ := Int.eq_ofNat_of_zero_le hx
  obtain ⟨y, rfl⟩ := Int.eq_ofNat_of_zero_le hy
  obtain ⟨b, rfl⟩ := Int.eq_ofNat_of_zero_le (show 0 ≤ b by omega)
  rw [run_callFunc_extern Tryz.func176 (by kernel_rfl) (by kernel_rfl) (by kernel_rfl) (e := sub64Entry) (by kernel_rfl), run_sub64 x y b (by omega)]
  have e1 : (((x + 18446744073709551616 - y - b) % 18446744073709551616 : Nat) : Int) = sbD x y b := by unfold sbD; omega
  have e2 : ((if x < y + b then 1 else 0 : Nat) : Int) = sbB x y b := by unfold sbB; split <;> split <;> omega
  rw [e1, e2]
  rfl
structure TkIn (w : World) (base ub cu j n : Nat) (d : Int) (us ys : List Int) (i : Nat) (cv bw : Int) (zs : List Int) (wr : World) : Prop where
  hi : i ≤ n
  hl : zs.length = us.length
  own : OwnI wr base 191 .u64 (.slice (some ⟨ub, 0, none⟩) us.length cu) zs
  oth : Besides ub w wr
  inw : InW zs
  c0 : 0 ≤ cv
  c1 : cv < 18446744073709551616
  b01 : bw = 0 ∨ bw = 1
  same : ∀ p, (p < j ∨ j + i ≤ p) → el zs p = el us p
  eq : val zs = val us - d * vt ys i * pw j + (cv + bw) * pw (j + i)
def TkRel (w : World) (base ub cu j n : Nat) (d : Int) (us ys : List Int) (c b k : Value) (wr : World) : Prop :=
  ∃ i cv bw zs, c = .int .u64 cv ∧ b = .int .u64 bw ∧ k = .int .i64 (i : Nat) ∧ TkIn w base ub cu j n d us ys i cv bw zs wr
theorem TkIn.next {w wr : World} {base ub cu j n i : Nat} {d cv bw : Int} {us ys zs : List Int} (h : TkIn w base ub cu j n d us ys i cv bw zs wr) (hin : i < n) (hj : j + n < us.length) (hd : 0 ≤ d ∧ d < 18446744073709551616) (wu : InW us) (wy : InW ys) :
    let p0 := lo (d * el ys i); let p1 := Proofs.YtoflmheodiajaaaGreatDoor.hi (d * el ys i); let a0 := lo (p0 + cv); let a1 := Proofs.YtoflmheodiajaaaGreatDoor.hi (p0 + cv)
    IntKind.u64.wrap (p1 + a1) = p1 + a1 ∧
    TkIn w base ub cu j n d us ys (i + 1) (p1 + a1) (sbB (el us (j + i)) a0 bw) (zs.set (j + i) (sbD (el us (j + i)) a0 bw)) (wr.setCell ⟨ub, j + i, none⟩ (.int .u64 (sbD (el us (j + i)) a0 bw))) := by
  intro p0 p1 a0 a1
  have hy := wy i
  have hu := wu (j + i)
  have hp := prod_range hd hy
  have e1 := lo_hi (d * el ys i)
  have e2 := lo_hi (p0 + cv)
  have r1 := lo_range (d * el ys i)
  have r2 := lo_range (p0 + cv)
  have hc0 := h.c0
  have hc1 := h.c1
  have e3 : d * el ys i = p0 + 18446744073709551616 * p1 := e1
  have e4 : p0 + cv = a0 + 18446744073709551616 * a1 := e2
  have r3 : 0 ≤ p0 ∧ p0 < 18446744073709551616 := r1
  have r4 : 0 ≤ a0 ∧ a0 < 18446744073709551616 := r2
  clear_value p0 p1 a0 a1
  have hb := sb_eq hu r4 h.b01
  have hr := sb_range (el us (j + i)) a0 bw
  have hl := h.hl
  refine ⟨by rw [IntKind.wrap_u64]; omega, by omega, by rw [List.length_set]; exact hl, h.own.set _ _, h.oth.set (b := ub) (p := ⟨ub, j + i, none⟩) (.inr rfl) _, h.inw.set _ _ hr, by omega, by omega, sb_bit _ _ _, fun p hp => ?_, ?_⟩
  · rw [el_set _ _ _ _ (by omega), if_neg (by omega)]
    exact h.same p (by omega)
  · rw [val_set _ _ _ (by omega), h.same (j + i) (by omega), h.eq, hb]
    simp only [vt]
    rw [show j + (i + 1) = (j + i) + 1 by omega, pw_succ, show j + i = i + j by omega, pw_add]
    generalize sbB (el us (i + j)) a0 bw = b' at *
    have e5 : d * el ys i = a0 + 18446744073709551616 * a1 - cv + 18446744073709551616 * p1 := by omega
    have e6 : d * (vt ys i + el ys i * pw i) * pw j = d * vt ys i * pw j + (d * el ys i) * (pw i * pw j) := by grind
    rw [e6, e5]
    grind
structure TkOut (w : World) (base ub cu j n : Nat) (d : Int) (us ys : List Int) (neg : Bool) (zs : List Int) (wr : World) : Prop where
  hl : zs.length = us.length
  own : OwnI wr base 191 .u64 (.slice (some ⟨ub, 0, none⟩) us.length cu) zs
  oth : Besides ub w wr
  inw : InW zs
  same : ∀ p, (p < j ∨ j + n + 1 ≤ p) → el zs p = el us p
  eq : val zs = val us - d * val ys * pw j + (if neg then 1 else 0) * pw (j + n + 1)
theorem TkIn.done {w wr : World} {base ub cu j n : Nat} {d cv bw : Int} {us ys zs : List Int} (h : TkIn w base ub cu j n d us ys n cv bw zs wr) (hj : j + n < us.length) (hy : ys.length = n) (wu : InW us) :
    TkOut w base ub cu j n d us ys (decide (0 < sbB (el us (j + n)) cv bw)) (zs.set (j + n) (sbD (el us (j + n)) cv bw)) (wr.setCell ⟨ub, j + n, none⟩ (.int .u64 (sbD (el us (j + n)) cv bw))) := by
  have hu := wu (j + n)
  have hc0 := h.c0
  have hc1 := h.c1
  have hb := sb_eq hu ⟨hc0, hc1⟩ h.b01
  have hr := sb_range (el us (j + n)) cv bw
  have hbit := sb_bit (el us (j + n)) cv bw
  have hl := h.hl
  refine ⟨by rw [List.length_set]; exact hl, h.own.set _ _, h.oth.set (b := ub) (p := ⟨ub, j + n, none⟩) (.inr rfl) _, h.inw.set _ _ hr, fun p hp => ?_, ?_⟩
  · rw [el_set _ _ _ _ (by omega), if_neg (by omega)]
    exact h.same p (by omega)
  · rw [val_set _ _ _ (by omega), h.same (j + n) (by omega), h.eq, hb, pw_succ]
    have e : val ys = vt ys n := by unfold val; rw [hy]
    rw [e]
    rcases hbit with h0 | h0
    · rw [h0]; simp; grind
    · rw [h0]; simp; grind
set_option maxHeartbeats 1000000 in
set_option maxRecDepth 100000 in
theorem takeAway_any (base ub cu cw j n vb vo cb : Nat) (d : Int) (us ys : List Int) (w : World) (hO : OwnI w base 191 .u64 (.slice (some ⟨ub, 0, none⟩) us.length cu) us) (hj : j + n < us.length) (hy : ys.length = n) (hlen : us.length ≤ 1099511627777) (hcw : n + 1 ≤ cw)
    (hvb : vb < w.heap.size) (hne : vb ≠ ub) (hv : ∀ i, i < n → w.cell? ⟨vb, vo + i, none⟩ = some (.int .u64 (el ys i))) (hcb : n ≤ cb) (hd : 0 ≤ d ∧ d < 18446744073709551616) (wu : InW us) (wy : InW ys) :
    Calls Tryz.prog 157 #[.slice (some ⟨ub, j, none⟩) (n + 1) cw, .slice (some ⟨vb, vo, none⟩) n cb, .int .u64 d] w fun e w' => ∃ neg zs, e = .returned (.bool neg) ∧ TkOut w base ub cu j n d us ys neg zs w' := by
  have HO := Lib.hid hO
  have HV := Lib.hid hv
  have WU := Lib.hid wu
  have WY := Lib.hid wy
  have HD := Lib.hid hd
  have HY := Lib.hid hy
  have HNE := Lib.hid hne
  clear hO hv wu wy hd hy hne
  go_enter Tryz.func157, Tryz.ntmps157
  go_wp2
  go_loopw [7, 8, 16] (fun c b k wr => TkRel w base ub cu j n d us ys c b k wr) (fun _ _ k _ => n - (intOf k).toNat)
  case atStart => exact ⟨0, 0, 0, us, rfl, rfl, rfl, by omega, rfl, HO.out, Besides.refl _ _, WU.out, by omega, by omega, .inl rfl, fun p _ => rfl, by simp [vt]⟩
  case round =>
    obtain ⟨i, cv, bw, zs, rfl, rfl, rfl, hin⟩ := hrel
    have HI := Lib.hid hin
    have hcv := Lib.hid (And.intro hin.c0 hin.c1)
    by_cases hi : i < n
    · have hnx := hin.next hi hj HD.out WU.out WY.out
      have hm := Lib.hid (fun W => mul64_any d (el ys i) HD.out (WY.out i) W)
      have hadd := fun W => run_Add64_0 (lo (d * el ys i)) cv (lo_range _).1 hcv.out.1 W
      have hV := (hin.oth.cell (o := vo + i) hvb HNE.out).trans (HV.out i hi)
      have hc := hin.own.cell (j + i) (by rw [hin.hl]; omega)
      rw [hin.same (j + i) (by omega)] at hc
      have hz := hin.own.frozen (j + i)
      have hsub := fun W => run_Sub64 (el us (j + i)) (lo (lo (d * el ys i) + cv)) bw (WU.out _).1 (lo_range _).1 (lo_range _).2 hin.b01 W
      obtain ⟨hw, hnx⟩ := hnx
      have HN := Lib.hid hnx
      clear hin hnx
      go_wp2_with fail
      refine (hm.out _).mono ?_
      rintro e w2 ⟨rfl, rfl⟩
      go_wp2
      go_roundw
      case rel => exact ⟨i + 1, _, _, _, rfl, rfl, by go_num, HN.out⟩
      case measure => simp [intOf]; omega
    · obtain rfl : i = n := by have := hin.hi; omega
      have hc := hin.own.cell (j + i) (by rw [hin.hl]; omega)
      rw [hin.same (j + i) (by omega)] at hc
      have hz := hin.own.frozen (j + i)
      have hsub := fun W => run_Sub64 (el us (j + i)) cv bw (WU.out _).1 hcv.out.1 hcv.out.2 hin.b01 W
      have HN := Lib.hid (hin.done hj HY.out WU.out)
      clear hin
      go_wp2
      go_ret
      exact ⟨_, _, rfl, HN.out⟩
end Go.Proofs.YtoflmheodiajaaaGreatDoor
namespace Go.Proofs.YtoflmheodiajaaaGreatDoor
open Go.RowKit
set_option linter.unusedVariables false
set_option linter.unusedSimpArgs false
variable {Bs : Nat}
structure PbIn (w : World) (base ub cu j n : Nat) (us ys : List Int) (i : Nat) (cv : Int) (zs : List Int) (wr : World) : Prop where
  hi : i ≤ n
  hl : zs.length = us.length
  own : OwnI wr base 191 .u64 (.slice (some ⟨ub, 0, none⟩) us.length cu) zs
  oth : Besides ub w wr
  inw : InW zs
  c01 : cv = 0 ∨ cv = 1
  same : ∀ p, (p < j ∨ j + i ≤ p) → el zs p = el us p
  eq : val zs = val us + vt ys i * pw j - cv * pw (j + i)
def PbRel (w : World) (base ub cu j n : Nat) (us ys : List Int) (c k : Value) (wr : World) : Prop :=
  ∃ i cv zs, c = .int .u64 cv ∧ k = .int .i64 (i : Nat) ∧ PbIn w base ub cu j n us ys i cv zs wr
theorem PbIn.next {w wr : World} {base ub cu j n i : Nat} {cv : Int} {us ys zs : List Int} (h : PbIn w base ub cu j n us ys i cv zs wr) (hin : i < n) (hj : j + n < us.length) (wu : InW us) (wy : InW ys) :
    PbIn w base ub cu j n us ys (i + 1) (Proofs.YtoflmheodiajaaaGreatDoor.hi (el us (j + i) + el ys i + cv)) (zs.set (j + i) (lo (el us (j + i) + el ys i + cv))) (wr.setCell ⟨ub, j + i, none⟩ (.int .u64 (lo (el us (j + i) + el ys i + cv)))) := by
  have hy := wy i
  have hu := wu (j + i)
  have e1 := lo_hi (el us (j + i) + el ys i + cv)
  have r1 := lo_range (el us (j + i) + el ys i + cv)
  have hb := carry_bit hu hy h.c01
  have hl := h.hl
  refine ⟨by omega, by rw [List.length_set]; exact hl, h.own.set _ _, h.oth.set (b := ub) (p := ⟨ub, j + i, none⟩) (.inr rfl) _, h.inw.set _ _ r1, hb, fun p hp => ?_, ?_⟩
  · rw [el_set _ _ _ _ (by omega), if_neg (by omega)]
    exact h.same p (by omega)
  · rw [val_set _ _ _ (by omega), h.same (j + i) (by omega), h.eq]
    simp only [vt]
    generalize lo (el us (j + i) + el ys i + cv) = l at *
    generalize Proofs.YtoflmheodiajaaaGreatDoor.hi (el us (j + i) + el ys i + cv) = c' at *
    rw [show j + (i + 1) = (j + i) + 1 by omega, pw_succ]
    have e2 : el ys i = l + 18446744073709551616 * c' - el us (j + i) - cv := by omega
    have e3 : (vt ys i + el ys i * pw i) * pw j = vt ys i * pw j + el ys i * pw (j + i) := by rw [pw_add]; grind
    rw [e3, e2]
    grind
structure PbOut (w : World) (base ub cu j n : Nat) (us ys : List Int) (over : Bool) (zs : List Int) (wr : World) : Prop where
  hl : zs.length = us.length
  own : OwnI wr base 191 .u64 (.slice (some ⟨ub, 0, none⟩) us.length cu) zs
  oth : Besides ub w wr
  inw : InW zs
  same : ∀ p, (p < j ∨ j + n + 1 ≤ p) → el zs p = el us p
  eq : val zs = val us + val ys * pw j - (if over then 1 else 0) * pw (j + n + 1)
theorem PbIn.done {w wr : World} {base ub cu j n : Nat} {cv : Int} {us ys zs : List Int} (h : PbIn w base ub cu j n us ys n cv zs wr) (hj : j + n < us.length) (hy : ys.length = n) (wu : InW us) :
    PbOut w base ub cu j n us ys (decide (0 < Proofs.YtoflmheodiajaaaGreatDoor.hi (el us (j + n) + 0 + cv))) (zs.set (j + n) (lo (el us (j + n) + 0 + cv))) (wr.setCell ⟨ub, j + n, none⟩ (.int .u64 (lo (el us (j + n) + 0 + cv)))) := by
  have hu := wu (j + n)
  have e1 := lo_hi (el us (j + n) + 0 + cv)
  have r1 := lo_range (el us (j + n) + 0 + cv)
  have hb := carry_bit hu (show (0 : Int) ≤ 0 ∧ (0 : Int) < 18446744073709551616 by decide) h.c01
  have hl := h.hl
  refine ⟨by rw [List.length_set]; exact hl, h.own.set _ _, h.oth.set (b := ub) (p := ⟨ub, j + n, none⟩) (.inr rfl) _, h.inw.set _ _ r1, fun p hp => ?_, ?_⟩
  · rw [el_set _ _ _ _ (by omega), if_neg (by omega)]
    exact h.same p (by omega)
  · rw [val_set _ _ _ (by omega), h.same (j + n) (by omega), h.eq, pw_succ]
    have e : val ys = vt ys n := by unfold val; rw [hy]
    rw [e]
    generalize lo (el us (j + n) + 0 + cv) = l at *
    generalize Proofs.YtoflmheodiajaaaGreatDoor.hi (el us (j + n) + 0 + cv) = c' at *
    have e2 : l = el us (j + n) + cv - 18446744073709551616 * c' := by omega
    rw [e2]
    rcases hb with h0 | h0
    · rw [h0]; simp; grind
    · rw [h0]; simp; grind
set_option maxHeartbeats 1000000 in
set_option maxRecDepth 100000 in
theorem putBack_any (base ub cu cw j n vb vo cb : Nat) (us ys : List Int) (w : World) (hO : OwnI w base 191 .u64 (.slice (some ⟨ub, 0, none⟩) us.length cu) us) (hj : j + n < us.length) (hy : ys.length = n) (hlen : us.length ≤ 1099511627777) (hcw : n + 1 ≤ cw)
    (hvb : vb < w.heap.size) (hne : vb ≠ ub) (hv : ∀ i, i < n → w.cell? ⟨vb, vo + i, none⟩ = some (.int .u64 (el ys i))) (hcb : n ≤ cb) (wu : InW us) (wy : InW ys) :
    Calls Tryz.prog 158 #[.slice (some ⟨ub, j, none⟩) (n + 1) cw, .slice (some ⟨vb, vo, none⟩) n cb] w fun e w' => ∃ over zs, e = .returned (.bool over) ∧ PbOut w base ub cu j n us ys over zs w' := by
  have HO := Lib.hid hO
  have HV := Lib.hid hv
  have WU := Lib.hid wu
  have WY := Lib.hid wy
  have HY := Lib.hid hy
  have HNE := Lib.hid hne
  clear hO hv wu wy hy hne
  go_enter Tryz.func158, Tryz.ntmps158
  go_wp2
  go_loopw [5, 10] (fun c k wr => PbRel w base ub cu j n us ys c k wr) (fun _ k _ => n - (intOf k).toNat)
  case atStart => exact ⟨0, 0, us, rfl, rfl, by omega, rfl, HO.out, Besides.refl _ _, WU.out, .inl rfl, fun p _ => rfl, by simp [vt]⟩
  case round =>
    obtain ⟨i, cv, zs, rfl, rfl, hin⟩ := hrel
    have HC := Lib.hid hin.c01
    by_cases hi : i < n
    · have hnx := Lib.hid (hin.next hi hj WU.out WY.out)
      have hV := (hin.oth.cell (o := vo + i) hvb HNE.out).trans (HV.out i hi)
      have hc := hin.own.cell (j + i) (by rw [hin.hl]; omega)
      rw [hin.same (j + i) (by omega)] at hc
      have hz := hin.own.frozen (j + i)
      have hadd := fun W => run_Add64 (el us (j + i)) (el ys i) cv (WU.out _).1 (WY.out _).1 HC.out W
      clear hin
      go_wp2
      go_roundw
      case rel => exact ⟨i + 1, _, _, rfl, by go_num, hnx.out⟩
      case measure => simp [intOf]; omega
    · obtain rfl : i = n := by have := hin.hi; omega
      have hc := hin.own.cell (j + i) (by rw [hin.hl]; omega)
      rw [hin.same (j + i) (by omega)] at hc
      have hz := hin.own.frozen (j + i)
      have hadd := fun W => run_Add64 (el us (j + i)) 0 cv (WU.out _).1 (by decide) HC.out W
      have hd := hin.done hj HY.out WU.out
      rw [Int.add_zero] at hd
      have HN := Lib.hid hd
      clear hin hd
      go_wp2
      go_ret
      exact ⟨_, _, rfl, HN.out⟩
end Go.Proofs.YtoflmheodiajaaaGreatDoor
namespace Go.Proofs.YtoflmheodiajaaaGreatDoor
open Go.RowKit
set_option linter.unusedVariables false
set_option linter.unusedSimpArgs false
section
variable {Bs : Nat} {P : Program} {ops : Array Oper} {rest : List Oper} {o : Oper} {a : Act} {Q : Exit → Act → World → Prop}
theorem besides_setRow {w : World} {g : Nat} (cs : Array Value) : Besides g w (w.setRow g cs) :=
  ⟨rfl, rfl, rfl, by simp [World.setRow], fun i hi hb => setRow_other w g i cs hb⟩
theorem appendNil {w : World} (base : Nat) (hgd : o.guard = none) (s x : Operand) (t e : TypeId) (k : IntKind) (bytes : Nat)
    (ho : o.op = .call { callee := .builtin .append, args := #[s, x], argTypes := #[t, t] })
    (ht : P.underlying t = some (.slice e)) (hinfo : (P.info? e).map (fun i => (i.zero, i.size, i.bytes)) = some (some (.int k 0), 1, bytes)) (hb0 : 0 < bytes)
    (hs : a.eval s = .slice none 0 0) (b off n c : Nat) (xs : List Int) (hx : a.eval x = .slice (some ⟨b, off, none⟩) n c) (hn : xs.length = n) (hc : ∀ j, j < xs.length → w.cell? ⟨b, off + j, none⟩ = some (.int k (el xs j)))
    (hbase : base ≤ w.heap.size) (hl : n * bytes ≤ 140737488355328)
    (h : ∀ v1 w1, OwnI w1 base e k v1 xs → Below w.heap.size w w1 → wpList P ops Q rest (a.put o.dst v1) w1) :
    wpList P ops Q (o :: rest) a w := by
  obtain ⟨i0, hi, hzz⟩ := Option.map_eq_some_iff.1 hinfo
  simp only [Prod.mk.injEq] at hzz
  obtain ⟨hz0, hz1, hz2⟩ := hzz
  have hlen : n ≤ 140737488355328 := Nat.le_trans (Nat.le_mul_of_pos_right _ hb0) hl
  refine wpList_append_own w hgd s x t ho base e i0 (.int k 0) 1 bytes ht hi hz0 hz1 hz2 rfl (by omega) (.slice none 0 0) 0 [] hs (World.ownsRow_nil _ _ _ _) ⟨b, off, none⟩ n c (xs.map (Value.int k)) hx (by simp [hn]) ?_ ?_ (by unfold maxLen; omega) (by rw [Nat.zero_add]; exact hl) hbase ?_
  · intro j u hj
    have hj' : j < xs.length := by have := (List.getElem?_eq_some_iff.1 hj).1; simpa using this
    rw [show (⟨b, off, none⟩ : Addr).add j = ⟨b, off + j, none⟩ by unfold Addr.add; split <;> simp_all, hc j hj', ← hj]
    simp [hj', el]
  · intro u hu
    obtain ⟨y, _, rfl⟩ := List.mem_map.1 hu
    rfl
  intro v1 w1 hown hg _
  refine h v1 w1 (by unfold OwnI; simpa [hn] using hown) ?_
  have := (below_refl w).grown hg (Nat.le_refl _) (fun k hk => by simp [Value.ownBlock] at hk)
  exact this
theorem appendEmpty {w : World} (hgd : o.guard = none) (s x : Operand) (t e : TypeId) (bytes : Nat) (k : IntKind)
    (ho : o.op = .call { callee := .builtin .append, args := #[s, x], argTypes := #[t, t] })
    (ht : P.underlying t = some (.slice e)) (hinfo : (P.info? e).map (fun i => (i.zero, i.size, i.bytes)) = some (some (.int k 0), 1, bytes))
    (hs : a.eval s = .slice none 0 0) (A : Option Addr) (c : Nat) (hx : a.eval x = .slice A 0 c)
    (h : wpList P ops Q rest (a.put o.dst (.slice none 0 0)) w) : wpList P ops Q (o :: rest) a w := by
  obtain ⟨i, hi, _⟩ := Option.map_eq_some_iff.1 hinfo
  refine wpList_plain hgd fun K hK => ?_
  have hrun : (Builtin.append_ #[t, t] o.type #[.slice none 0 0, .slice A 0 c]).run P w = .ok (.slice none 0 0) w := by
    cases A with
    | none => simp [Builtin.append_, run_underlying ht, sizeOf, typeInfo, hi, Builtin.lenOf, Builtin.firstCells]
    | some ad => simp [Builtin.append_, run_underlying ht, sizeOf, typeInfo, hi, Builtin.lenOf, Builtin.firstCells, loadCells, loadCellsFrom]
  unfold Oper.wp
  simp [execOp, ho, resolve, invoke, builtin, hs, hx, hrun, Result.andThen]
  exact hK _ _ h
theorem copyI {w : World} (base : Nat) (hgd : o.guard = none) (d s : Operand) (dT sT e : TypeId) (k : IntKind)
    (ho : o.op = .call { callee := .builtin .copy, args := #[d, s], argTypes := #[dT, sT] }) (hu : P.underlying dT = some (.slice e)) (hsz : (P.info? e).map (·.size) = some 1)
    (g c : Nat) (us : List Int) (L : Nat) (hd : a.eval d = .slice (some ⟨g, 0, none⟩) L c) (hO : OwnI w base e k (.slice (some ⟨g, 0, none⟩) L c) us) (b off n c2 : Nat) (xs : List Int) (hs : a.eval s = .slice (some ⟨b, off, none⟩) n c2)
    (hn : xs.length = n) (hL : n ≤ L) (hc : ∀ j, j < xs.length → w.cell? ⟨b, off + j, none⟩ = some (.int k (el xs j)))
    (h : ∀ w1, OwnI w1 base e k (.slice (some ⟨g, 0, none⟩) L c) (xs ++ us.drop n) → Besides g w w1 → wpList P ops Q rest (a.put o.dst (goInt n)) w1) :
    wpList P ops Q (o :: rest) a w := by
  obtain ⟨hlen, h2⟩ := hO
  rcases h2 with ⟨h', _⟩ | ⟨g', cap, cur, h', hbg, hh, h3, h4, h5, h6⟩
  · simp at h'
  simp only [Value.slice.injEq, Option.some.injEq, Addr.mk.injEq, and_true] at h'
  obtain ⟨rfl, hL', rfl⟩ := h'
  subst hL'
  rw [Nat.mul_one] at h5 h6 hlen
  have hul : us.length = us.length := rfl
  simp only [List.length_map] at hlen
  refine wpList_copy_own hgd d s dT sT ho e hu hsz g 0 _ _ ⟨b, off, none⟩ n c2 hd hs cur e hh (xs.map (Value.int k)) (by rw [List.length_map, hn]; exact (Nat.min_eq_left hL).symm) ?_ (by rw [List.length_map, hn]; omega) ?_ ?_
  · intro j u hj
    have hj' : j < xs.length := by have := (List.getElem?_eq_some_iff.1 hj).1; simpa using this
    rw [show (⟨b, off, none⟩ : Addr).add j = ⟨b, off + j, none⟩ by unfold Addr.add; split <;> simp_all, hc j hj', ← hj]
    simp [hj', el]
  · intro u hu
    obtain ⟨y, _, rfl⟩ := List.mem_map.1 hu
    rfl
  · rw [show (xs.map (Value.int k)).length = n by simp [hn]]
    have hL2 : (xs ++ us.drop n).length = us.length := by simp [hn]; omega
    refine h _ ?_ (besides_setRow _)
    unfold OwnI
    rw [hL2]
    refine ⟨by rw [List.length_map, hL2]; omega, .inr ⟨g, _, _, rfl, hbg, setRow_heap _ _ _ _ _ _ hh, h3, h4, by simp [hn]; omega, ?_⟩⟩
    rw [Nat.mul_one]
    simp only [List.take_zero, List.nil_append, Nat.zero_add, List.toList_toArray, List.map_append, List.map_drop]
    rw [← h6, List.take_append]
    simp only [List.length_map, hn]
    rw [List.take_of_length_le (by simp [hn]; omega), List.drop_take]
end
end Go.Proofs.YtoflmheodiajaaaGreatDoor
