import Derived.Test.YtoflmheodiajaaaGreatDoorK14
import Derived.Laws.BitsAllLaws
import Derived.Laws.MathBits
import Derived.Deep.DeepCutAuto
namespace Go.Proofs.YtoflmheodiajaaaGreatDoor
set_option linter.unusedVariables false
set_option linter.unusedSimpArgs false
structure TrialB (B u v1 v0 u1 h r : Int) : Prop where
  up : (u * B + u1) / (v1 * B + v0) ≤ h
  eq : h * v1 + r = u
  r0 : 0 ≤ r
  rB : r < B
  h0 : 0 ≤ h
  hB : h ≤ B + 1
theorem trial_gap {B u v1 v0 u1 h r : Int} (e : h * v1 + r = u) : (u * B + u1) - h * (v1 * B + v0) = u1 + B * r - h * v0 := by
  subst e
  grind
theorem trial_le {B u v1 v0 u1 h r : Int} (e : h * v1 + r = u) (hV : 0 < v1 * B + v0) (hc : h * v0 ≤ B * r + u1) : h ≤ (u * B + u1) / (v1 * B + v0) := by
  rw [Int.le_ediv_iff_mul_le hV]
  have := trial_gap (B := B) (v0 := v0) (u1 := u1) e
  omega
theorem trial_lt {B u v1 v0 u1 h r : Int} (e : h * v1 + r = u) (hV : 0 < v1 * B + v0) (hc : B * r + u1 < h * v0) : (u * B + u1) / (v1 * B + v0) < h := by
  rw [Int.ediv_lt_iff_lt_mul hV]
  have := trial_gap (B := B) (v0 := v0) (u1 := u1) e
  omega
theorem trial_small {B u V u1 : Int} (hB : 0 < B) (hV : 0 < V) (hu : u < V) (hu1 : u1 < B) : (u * B + u1) / V < B := by
  rw [Int.ediv_lt_iff_lt_mul hV]
  have : (u + 1) * B ≤ V * B := Int.mul_le_mul_of_nonneg_right (by omega) (by omega)
  rw [Int.add_mul] at this
  have e : B * V = V * B := Int.mul_comm _ _
  omega
theorem trial_start {B u v1 v0 u1 : Int} (hB : 2 ≤ B) (h1 : B ≤ 2 * v1) (h2 : 0 ≤ v0) (h3 : v0 < B) (h1B : v1 ≤ B) (hu0 : 0 ≤ u) (hu : u < v1 * B + v0) (hu1 : 0 ≤ u1) (hu2 : u1 < B) : TrialB B u v1 v0 u1 (u / v1) (u % v1) := by
  have hv1 : 0 < v1 := by omega
  have he : u / v1 * v1 + u % v1 = u := by have := Int.mul_ediv_add_emod u v1; rw [Int.mul_comm] at this; exact this
  have hp : 0 ≤ v1 * B := Int.mul_nonneg (by omega) (by omega)
  have hpp : 0 < v1 * B := Int.mul_pos (by omega) (by omega)
  have hm0 := Int.emod_nonneg u (show v1 ≠ 0 by omega)
  have hm1 := Int.emod_lt_of_pos u hv1
  refine ⟨?_, he, hm0, by omega, Int.ediv_nonneg hu0 (by omega), ?_⟩
  · have : (u * B + u1) / (v1 * B + v0) < u / v1 + 1 := by
      rw [Int.ediv_lt_iff_lt_mul (by omega)]
      have h4 : u < (u / v1 + 1) * v1 := by rw [Int.add_mul]; omega
      have h5 : (u + 1) * B ≤ ((u / v1 + 1) * v1) * B := Int.mul_le_mul_of_nonneg_right (by omega) (by omega)
      have h6 : 0 ≤ (u / v1 + 1) * v0 := Int.mul_nonneg (by have := Int.ediv_nonneg hu0 (show 0 ≤ v1 by omega); omega) h2
      have h7 : (u / v1 + 1) * (v1 * B + v0) = ((u / v1 + 1) * v1) * B + (u / v1 + 1) * v0 := by grind
      rw [h7]
      rw [Int.add_mul] at h5
      omega
    omega
  · have : u / v1 < B + 2 := by
      rw [Int.ediv_lt_iff_lt_mul hv1]
      have : (B + 2) * v1 = v1 * B + 2 * v1 := by grind
      omega
    omega
theorem TrialB.done {B u v1 v0 u1 h r : Int} (t : TrialB B u v1 v0 u1 h r) (hV : 0 < v1 * B + v0) (hc : h * v0 ≤ B * r + u1) : h = (u * B + u1) / (v1 * B + v0) := by
  have := trial_le t.eq hV hc
  have := t.up
  omega
theorem TrialB.step {B u v1 v0 u1 h r : Int} (t : TrialB B u v1 v0 u1 h r) (hB : 2 ≤ B) (h1 : B ≤ 2 * v1) (h2 : 0 ≤ v0) (h3 : v0 < B) (hu : u < v1 * B + v0) (hu1 : 0 ≤ u1) (hu2 : u1 < B) (hc : B ≤ h ∨ B * r + u1 < h * v0) :
    1 ≤ h ∧ (r + v1 < B → TrialB B u v1 v0 u1 (h - 1) (r + v1)) ∧ (B ≤ r + v1 → h - 1 = (u * B + u1) / (v1 * B + v0)) := by
  have hpp : 0 < v1 * B := Int.mul_pos (by omega) (by omega)
  have hV : 0 < v1 * B + v0 := by omega
  have hq : (u * B + u1) / (v1 * B + v0) < h := by
    rcases hc with hc | hc
    · have := trial_small (B := B) (u1 := u1) (by omega) hV hu hu2
      omega
    · exact trial_lt t.eq hV hc
  have hu0 : 0 ≤ u := by
    have := Int.mul_nonneg t.h0 (show 0 ≤ v1 by omega)
    have := t.eq
    have := t.r0
    omega
  have hq0 : 0 ≤ (u * B + u1) / (v1 * B + v0) := Int.ediv_nonneg (by have := Int.mul_nonneg hu0 (show 0 ≤ B by omega); omega) (by omega)
  have he : (h - 1) * v1 + (r + v1) = u := by rw [Int.sub_mul]; have := t.eq; omega
  refine ⟨by omega, fun hr => ⟨by omega, he, by have := t.r0; omega, hr, by omega, by have := t.hB; omega⟩, fun hr => ?_⟩
  have h4 : (h - 1) * v0 ≤ B * (r + v1) + u1 := by
    have h5 : (h - 1) * v0 ≤ B * v0 := Int.mul_le_mul_of_nonneg_right (by have := t.hB; omega) h2
    have h6 : B * v0 ≤ B * (r + v1) := Int.mul_le_mul_of_nonneg_left (by omega) (by omega)
    omega
  have := trial_le he hV h4
  omega
end Go.Proofs.YtoflmheodiajaaaGreatDoor
namespace Go.Proofs.YtoflmheodiajaaaGreatDoor
set_option linter.unusedVariables false
set_option linter.unusedSimpArgs false
theorem two_split (s : Nat) (hs : s ≤ 64) : (2 : Int) ^ s * 2 ^ (64 - s) = 18446744073709551616 := by
  rw [← Int.pow_add, show s + (64 - s) = 64 by omega]; decide
theorem two_pos (s : Nat) : (0 : Int) < 2 ^ s := Int.pow_pos (by omega)
theorem shl_parts (x : Int) (s : Nat) (hs : s ≤ 64) : x * 2 ^ s = x / 2 ^ (64 - s) * 18446744073709551616 + (x * 2 ^ s) % 18446744073709551616 := by
  have e : (x * 2 ^ s) / 18446744073709551616 = x / 2 ^ (64 - s) := by
    rw [← two_split s hs, Int.mul_comm x, Int.mul_ediv_mul_of_pos _ _ (two_pos s)]
  have := Int.mul_ediv_add_emod (x * 2 ^ s) 18446744073709551616
  rw [e] at this
  omega
theorem or_parts (A B : Int) (s : Nat) (hs : s < 64) (h0 : 0 ≤ A) (h1 : 0 ≤ B) (h2 : B < 2 ^ s) (h3 : A * 2 ^ s + B < 18446744073709551616) : bits .or .u64 (A * 2 ^ s) B = A * 2 ^ s + B := by
  obtain ⟨a, rfl⟩ := Int.eq_ofNat_of_zero_le h0
  obtain ⟨b, rfl⟩ := Int.eq_ofNat_of_zero_le h1
  have e : ((a : Int) * 2 ^ s) = ((2 ^ s * a : Nat) : Int) := by simp [Int.mul_comm]
  have h2' : b < 2 ^ s := by
    have : ((b : Nat) : Int) < ((2 ^ s : Nat) : Int) := by simpa using h2
    omega
  rw [e] at h3 ⊢
  rw [u64_or_nat _ _ (by omega) (by omega), ← Nat.two_pow_add_eq_or_of_lt h2']
  simp
structure D64 (x1 x0 y : Int) (s : Nat) (Y U V : Int) : Prop where
  hY : Y = y * 2 ^ s
  Ylo : 9223372036854775808 ≤ Y
  Yhi : Y < 18446744073709551616
  U0 : 0 ≤ U
  UY : U < Y
  V0 : 0 ≤ V
  V1 : V < 18446744073709551616
  eq : (x1 * 18446744073709551616 + x0) * 2 ^ s = U * 18446744073709551616 + V
theorem d64_make {x1 x0 y : Int} {s : Nat} (hs : s < 64) (h1 : 0 ≤ x1) (h2 : x1 < y) (h0 : 0 ≤ x0) (h3 : x0 < 18446744073709551616) (hlo : 9223372036854775808 ≤ y * 2 ^ s) (hhi : y * 2 ^ s < 18446744073709551616) :
    D64 x1 x0 y s (y * 2 ^ s) (x1 * 2 ^ s + x0 / 2 ^ (64 - s)) ((x0 * 2 ^ s) % 18446744073709551616) ∧
    (x1 * 2 ^ s) % 18446744073709551616 = x1 * 2 ^ s ∧ bits .or .u64 (x1 * 2 ^ s) (x0 / 2 ^ (64 - s)) = x1 * 2 ^ s + x0 / 2 ^ (64 - s) := by
  have hk := two_pos s
  have hk2 := two_pos (64 - s)
  have hsp := two_split s (by omega)
  have hsh := shl_parts x0 s (by omega)
  have hu0 : 0 ≤ x1 * 2 ^ s := Int.mul_nonneg h1 (by omega)
  have hd0 : 0 ≤ x0 / 2 ^ (64 - s) := Int.ediv_nonneg h0 (by omega)
  have hd1 : x0 / 2 ^ (64 - s) < 2 ^ s := by
    rw [Int.ediv_lt_iff_lt_mul hk2, hsp]; exact h3
  have hle : x1 * 2 ^ s + 2 ^ s ≤ y * 2 ^ s := by
    have : (x1 + 1) * 2 ^ s ≤ y * 2 ^ s := Int.mul_le_mul_of_nonneg_right (by omega) (by omega)
    rw [Int.add_mul] at this
    omega
  have hm0 := Int.emod_nonneg (x0 * 2 ^ s) (show (18446744073709551616 : Int) ≠ 0 by decide)
  have hm1 := Int.emod_lt_of_pos (x0 * 2 ^ s) (show (0 : Int) < 18446744073709551616 by decide)
  refine ⟨⟨rfl, hlo, hhi, by omega, by omega, hm0, hm1, ?_⟩, by omega, or_parts x1 _ s hs h1 hd0 hd1 (by omega)⟩
  rw [Int.add_mul, Int.add_mul]
  have : x1 * 18446744073709551616 * 2 ^ s = x1 * 2 ^ s * 18446744073709551616 := by grind
  omega
theorem D64.done {x1 x0 y Y U V q1 q0 W R : Int} {s : Nat} (d : D64 x1 x0 y s Y U V) (hy : 0 < y) (hq1 : q1 = (U * 4294967296 + V / 4294967296) / Y) (hW : W = U * 4294967296 + V / 4294967296 - q1 * Y)
    (hq0 : q0 = (W * 4294967296 + V % 4294967296) / Y) (hR : R = W * 4294967296 + V % 4294967296 - q0 * Y) :
    q1 * 4294967296 + q0 = (x1 * 18446744073709551616 + x0) / y ∧ R / 2 ^ s = (x1 * 18446744073709551616 + x0) % y ∧ 0 ≤ W ∧ W < Y ∧ 0 ≤ R ∧ R < Y ∧ 0 ≤ q1 ∧ q1 < 4294967296 ∧ 0 ≤ q0 ∧ q0 < 4294967296 := by
  have hk := two_pos s
  have hY0 : 0 < Y := by have := d.Ylo; omega
  have w1 : W = (U * 4294967296 + V / 4294967296) % Y := by
    rw [hW, hq1, Int.emod_def, Int.mul_comm Y]
  have r1 : R = (W * 4294967296 + V % 4294967296) % Y := by
    rw [hR, hq0, Int.emod_def (W * 4294967296 + V % 4294967296) Y, Int.mul_comm Y]
  have hW0 : 0 ≤ W := by rw [w1]; exact Int.emod_nonneg _ (by omega)
  have hW1 : W < Y := by rw [w1]; exact Int.emod_lt_of_pos _ hY0
  have hR0 : 0 ≤ R := by rw [r1]; exact Int.emod_nonneg _ (by omega)
  have hR1 : R < Y := by rw [r1]; exact Int.emod_lt_of_pos _ hY0
  have a1 : q1 < 4294967296 := by rw [hq1]; exact trial_small (by decide) hY0 d.UY (by have := d.V1; omega)
  have a2 : q0 < 4294967296 := by rw [hq0]; exact trial_small (by decide) hY0 hW1 (by omega)
  have a3 : 0 ≤ q1 := by rw [hq1]; exact Int.ediv_nonneg (by have := d.U0; have := d.V0; omega) (by omega)
  have a4 : 0 ≤ q0 := by rw [hq0]; exact Int.ediv_nonneg (by omega) (by omega)
  have key : (x1 * 18446744073709551616 + x0) * 2 ^ s = (q1 * 4294967296 + q0) * y * 2 ^ s + R := by
    have e1 : (q1 * 4294967296 + q0) * y * 2 ^ s = q1 * Y * 4294967296 + q0 * Y := by rw [d.hY]; grind
    rw [d.eq, e1]
    have : V = V / 4294967296 * 4294967296 + V % 4294967296 := by omega
    omega
  obtain ⟨t, ht⟩ : ∃ t, R = t * 2 ^ s := ⟨x1 * 18446744073709551616 + x0 - (q1 * 4294967296 + q0) * y, by rw [Int.sub_mul]; omega⟩
  have ht2 : R / 2 ^ s = t := by rw [ht]; exact Int.mul_ediv_cancel _ (by omega)
  have key2 : x1 * 18446744073709551616 + x0 = (q1 * 4294967296 + q0) * y + t := by
    have : (x1 * 18446744073709551616 + x0) * 2 ^ s = ((q1 * 4294967296 + q0) * y + t) * 2 ^ s := by rw [Int.add_mul ((q1 * 4294967296 + q0) * y) t, ← ht]; exact key
    exact Int.eq_of_mul_eq_mul_right (by omega) this
  have t0 : 0 ≤ t := by
    rw [← ht2]; exact Int.ediv_nonneg hR0 (by omega)
  have t1 : t < y := by
    rw [← ht2, Int.ediv_lt_iff_lt_mul hk, ← d.hY]; exact hR1
  have hdm := Int.ediv_emod_unique (a := x1 * 18446744073709551616 + x0) (b := y) (r := t) (q := q1 * 4294967296 + q0) hy
  have hh := hdm.2 ⟨by rw [key2, Int.mul_comm]; omega, t0, t1⟩
  exact ⟨hh.1.symm, by rw [ht2]; exact hh.2.symm, hW0, hW1, hR0, hR1, a3, a1, a4, a2⟩
end Go.Proofs.YtoflmheodiajaaaGreatDoor
namespace Go.Proofs.YtoflmheodiajaaaGreatDoor
open Go.RowKit
set_option linter.unusedVariables false
set_option linter.unusedSimpArgs false
structure Rounds (B U Y1 Y0 V1 q : Int) : Prop where
  done : ∀ h r, TrialB B U Y1 Y0 V1 h r → ¬ B ≤ h → ¬ B * r + V1 < h * Y0 → h = q
  step : ∀ h r, TrialB B U Y1 Y0 V1 h r → (B ≤ h ∨ B * r + V1 < h * Y0) → 1 ≤ h ∧ IntKind.u64.wrap (h - 1) = h - 1 ∧ IntKind.u64.wrap (r + Y1) = r + Y1 ∧ (r + Y1 < B → TrialB B U Y1 Y0 V1 (h - 1) (r + Y1)) ∧ (B ≤ r + Y1 → h - 1 = q)
  prod : ∀ h r, TrialB B U Y1 Y0 V1 h r → ¬ B ≤ h → IntKind.u64.wrap (h * Y0) = h * Y0 ∧ IntKind.u64.wrap (B * r) = B * r ∧ IntKind.u64.wrap (B * r + V1) = B * r + V1
def TrRel (B U Y1 Y0 V1 : Int) (s15 s16 : Value) : Prop := ∃ h r, s15 = .int .u64 h ∧ s16 = .int .u64 r ∧ TrialB B U Y1 Y0 V1 h r
set_option maxRecDepth 100000 in
set_option maxHeartbeats 2000000 in
theorem div64_core (x1 x0 y Y Y1 Y0 A U V V1 V0 H HY R q1 a1 a2 a3 W H2 HY2 R2 q0 b1 QQ b2 b3 b4 RR RM : Int) (s : Nat) (w : World) (h1 : (x1 == 0) = false) (h2 : ¬ y ≤ x1) (hy : (y == 0) = false) (hs : s < 64)
    (HS : ∀ W, Calls Tryz.prog 154 #[.int .u64 y] W fun e w' => e = .returned (.int .i64 s) ∧ W = w')
    (eY : IntKind.u64.wrap (y * 2 ^ s) = Y) (eY1 : Y / 4294967296 = Y1) (eY0 : bits BinOp.and IntKind.u64 Y 4294967295 = Y0) (eA : IntKind.u64.wrap (x1 * 2 ^ s) = A) (eU : bits BinOp.or IntKind.u64 A (x0 / 2 ^ (64 - s)) = U)
    (eV : IntKind.u64.wrap (x0 * 2 ^ s) = V) (eV1 : V / 4294967296 = V1) (eV0 : bits BinOp.and IntKind.u64 V 4294967295 = V0) (hY1 : (Y1 == 0) = false) (hY1' : ¬ Y1 = 0)
    (eH : IntKind.u64.wrap (U.tdiv Y1) = H) (eHY : IntKind.u64.wrap (H * Y1) = HY) (eR : IntKind.u64.wrap (U - HY) = R) (t1 : TrialB 4294967296 U Y1 Y0 V1 H R) (g1 : Rounds 4294967296 U Y1 Y0 V1 q1)
    (eW1 : IntKind.u64.wrap (U * 4294967296) = a1) (eW2 : IntKind.u64.wrap (a1 + V1) = a2) (eW3 : IntKind.u64.wrap (q1 * Y) = a3) (eW : IntKind.u64.wrap (a2 - a3) = W)
    (eH2 : IntKind.u64.wrap (W.tdiv Y1) = H2) (eHY2 : IntKind.u64.wrap (H2 * Y1) = HY2) (eR2 : IntKind.u64.wrap (W - HY2) = R2) (t2 : TrialB 4294967296 W Y1 Y0 V0 H2 R2) (g2 : Rounds 4294967296 W Y1 Y0 V0 q0)
    (eQ1 : IntKind.u64.wrap (q1 * 4294967296) = b1) (eQ : IntKind.u64.wrap (b1 + q0) = QQ) (eS1 : IntKind.u64.wrap (W * 4294967296) = b2) (eS2 : IntKind.u64.wrap (b2 + V0) = b3) (eS3 : IntKind.u64.wrap (q0 * Y) = b4)
    (eS : IntKind.u64.wrap (b3 - b4) = RR) (eM : RR / 2 ^ s = RM) :
    Calls Tryz.prog 175 #[.int .u64 x1, .int .u64 x0, .int .u64 y] w fun e w' => e = .returned (.tuple #[.int .u64 QQ, .int .u64 RM]) ∧ w' = w := by
  have HS := Lib.hid HS
  have T1 := Lib.hid t1
  have G1 := Lib.hid g1
  have T2 := Lib.hid t2
  have G2 := Lib.hid g2
  clear t1 g1 t2 g2
  go_enter Tryz.func175, Tryz.ntmps175
  go_wp2_with fail
  refine (HS.out _).mono ?_
  rintro e w' ⟨rfl, rfl⟩
  go_upto_block 0 with (fail)
  go_cut [15] (fun s15 wx => s15 = .int .u64 q1 ∧ wx = w)
  case first =>
    go_wp2_with fail
    go_loop [15, 16] (fun a b => TrRel 4294967296 U Y1 Y0 V1 a b) (fun a _ => (intOf a).toNat)
    case atStart => exact ⟨H, R, rfl, rfl, T1.out⟩
    case round =>
      obtain ⟨h, r, rfl, rfl, t⟩ := hrel
      have T := Lib.hid t
      clear t
      by_cases c1 : 4294967296 ≤ h
      · obtain ⟨e0, e1, e2, e3, e4⟩ := G1.out.step h r T.out (.inl c1)
        have E3 := Lib.hid e3
        have E4 := Lib.hid e4
        clear e3 e4
        by_cases c2 : 4294967296 ≤ r + Y1
        · go_wp2
          go_meet
          exact ⟨by rw [E4.out c2], rfl⟩
        · go_wp2
          go_round
          case rel => exact ⟨_, _, rfl, rfl, E3.out (by omega)⟩
          case measure => simp [intOf]; omega
      · obtain ⟨p1, p2, p3⟩ := G1.out.prod h r T.out c1
        by_cases c3 : 4294967296 * r + V1 < h * Y0
        · obtain ⟨e0, e1, e2, e3, e4⟩ := G1.out.step h r T.out (.inr c3)
          have E3 := Lib.hid e3
          have E4 := Lib.hid e4
          clear e3 e4
          by_cases c2 : 4294967296 ≤ r + Y1
          · go_wp2
            go_meet
            exact ⟨by rw [E4.out c2], rfl⟩
          · go_wp2
            go_round
            case rel => exact ⟨_, _, rfl, rfl, E3.out (by omega)⟩
            case measure => simp [intOf]; omega
        · have E := Lib.hid (G1.out.done h r T.out c1 c3)
          go_wp2
          go_meet
          exact ⟨by rw [E.out], rfl⟩
  case rest =>
    obtain ⟨rfl, hwc⟩ := hcut
    subst wc
    go_upto_block 2 with (fail)
    go_cut [18] (fun s18 wx => s18 = .int .u64 q0 ∧ wx = w)
    case first =>
      go_wp2_with fail
      go_loop [18, 16] (fun a b => TrRel 4294967296 W Y1 Y0 V0 a b) (fun a _ => (intOf a).toNat)
      case atStart => exact ⟨H2, R2, rfl, rfl, T2.out⟩
      case round =>
        obtain ⟨h, r, rfl, rfl, t⟩ := hrel
        have T := Lib.hid t
        clear t
        by_cases c1 : 4294967296 ≤ h
        · obtain ⟨e0, e1, e2, e3, e4⟩ := G2.out.step h r T.out (.inl c1)
          have E3 := Lib.hid e3
          have E4 := Lib.hid e4
          clear e3 e4
          by_cases c2 : 4294967296 ≤ r + Y1
          · go_wp2
            go_meet
            exact ⟨by rw [E4.out c2], rfl⟩
          · go_wp2
            go_round
            case rel => exact ⟨_, _, rfl, rfl, E3.out (by omega)⟩
            case measure => simp [intOf]; omega
        · obtain ⟨p1, p2, p3⟩ := G2.out.prod h r T.out c1
          by_cases c3 : 4294967296 * r + V0 < h * Y0
          · obtain ⟨e0, e1, e2, e3, e4⟩ := G2.out.step h r T.out (.inr c3)
            have E3 := Lib.hid e3
            have E4 := Lib.hid e4
            clear e3 e4
            by_cases c2 : 4294967296 ≤ r + Y1
            · go_wp2
              go_meet
              exact ⟨by rw [E4.out c2], rfl⟩
            · go_wp2
              go_round
              case rel => exact ⟨_, _, rfl, rfl, E3.out (by omega)⟩
              case measure => simp [intOf]; omega
          · have E := Lib.hid (G2.out.done h r T.out c1 c3)
            go_wp2
            go_meet
            exact ⟨by rw [E.out], rfl⟩
    case rest =>
      obtain ⟨rfl, hwd⟩ := hcut
      subst wc
      go_wp2
      go_ret2
      exact ⟨rfl, rfl⟩
theorem rounds_mk {B U Y1 Y0 V1 : Int} (hB : B = 4294967296) (h1 : B ≤ 2 * Y1) (h2 : 0 ≤ Y0) (h3 : Y0 < B) (h4 : Y1 < B) (hu : U < Y1 * B + Y0) (hv : 0 ≤ V1) (hv1 : V1 < B) : Rounds B U Y1 Y0 V1 ((U * B + V1) / (Y1 * B + Y0)) := by
  subst hB
  refine ⟨fun h r t c1 c2 => t.done (by omega) (by omega), fun h r t c => ?_, fun h r t c => ?_⟩
  · obtain ⟨a, b, c⟩ := t.step (by omega) h1 h2 h3 hu hv hv1 c
    have := t.hB
    have := t.r0
    have := t.rB
    exact ⟨a, by rw [IntKind.wrap_u64]; omega, by rw [IntKind.wrap_u64]; omega, b, c⟩
  · have := t.h0
    have := t.r0
    have := t.rB
    have h5 : 0 ≤ h * Y0 := Int.mul_nonneg t.h0 h2
    have h6 : h * Y0 ≤ 4294967295 * 4294967295 := Int.mul_le_mul (by omega) (by omega) h2 (by omega)
    exact ⟨by rw [IntKind.wrap_u64]; omega, by rw [IntKind.wrap_u64]; omega, by rw [IntKind.wrap_u64]; omega⟩
theorem lz_spec (y : Int) (h0 : 0 < y) (h1 : y < 18446744073709551616) : ∃ s : Nat, s < 64 ∧ (64 - (Lib.bitLen y.toNat : Int)) = s ∧ 9223372036854775808 ≤ y * 2 ^ s ∧ y * 2 ^ s < 18446744073709551616 := by
  obtain ⟨n, rfl⟩ := Int.eq_ofNat_of_zero_le (Int.le_of_lt h0)
  have hb := Lib.bitLenAux_bounds 64 n (by omega) (by omega)
  have e : Lib.bitLen (Int.toNat n) = Lib.bitLenAux 64 n := by simp [Lib.bitLen]
  rw [e]
  generalize Lib.bitLenAux 64 n = k at *
  obtain ⟨b1, b2, b3⟩ := hb
  have hk : k ≤ 64 := by
    rcases Nat.lt_or_ge 64 k with h | h
    · have : 2 ^ 64 ≤ 2 ^ (k - 1) := Nat.pow_le_pow_right (by omega) (by omega)
      omega
    · exact h
  refine ⟨64 - k, by omega, by omega, ?_, ?_⟩
  · have h5 : 2 ^ (k - 1) * 2 ^ (64 - k) ≤ n * 2 ^ (64 - k) := Nat.mul_le_mul_right _ b2
    rw [← Nat.pow_add, show k - 1 + (64 - k) = 63 by omega] at h5
    have : ((n * 2 ^ (64 - k) : Nat) : Int) = (n : Int) * 2 ^ (64 - k) := by simp
    omega
  · have h5 : n * 2 ^ (64 - k) < 2 ^ k * 2 ^ (64 - k) := Nat.mul_lt_mul_of_pos_right b3 (Nat.pow_pos (by omega))
    rw [← Nat.pow_add, show k + (64 - k) = 64 by omega] at h5
    have : ((n * 2 ^ (64 - k) : Nat) : Int) = (n : Int) * 2 ^ (64 - k) := by simp
    omega
set_option maxHeartbeats 1000000 in
theorem div64_any (x1 x0 y : Int) (w : World) (h1 : 0 ≤ x1) (h2 : x1 < y) (h0 : 0 ≤ x0) (h3 : x0 < 18446744073709551616) (h4 : y < 18446744073709551616) :
    Calls Tryz.prog 175 #[.int .u64 x1, .int .u64 x0, .int .u64 y] w fun e w' => e = .returned (.tuple #[.int .u64 ((x1 * 18446744073709551616 + x0) / y), .int .u64 ((x1 * 18446744073709551616 + x0) % y)]) ∧ ∃ q, w' = w.drewN q := by
  by_cases hz : x1 = 0
  · subst hz
    have hy1 : (y == 0) = false := by simp; omega
    have hy2 : ¬ y = 0 := by omega
    have hy3 : ¬ y ≤ 0 := by omega
    have e1 : IntKind.u64.wrap (x0.tdiv y) = x0 / y := IntWalk.u64_quo _ _ (by omega)
    have e2 : x0.tmod y = x0 % y := Int.tmod_eq_emod_of_nonneg h0
    have E1 := Lib.hid (show (0 * 18446744073709551616 + x0) / y = x0 / y by simp)
    have E2 := Lib.hid (show (0 * 18446744073709551616 + x0) % y = x0 % y by simp)
    clear h1 h2 h0 h3 h4
    go_enter Tryz.func175, Tryz.ntmps175
    go_wp2
    go_quiet (fail)
    go_wp2
    go_ret2
    exact ⟨by rw [E1.out, E2.out]; simp [e2], _, rfl⟩
  · obtain ⟨s, hs, es, hlo, hhi⟩ := lz_spec y (by omega) h4
    obtain ⟨d, eA, eU⟩ := d64_make hs h1 h2 h0 h3 hlo hhi
    generalize hU : x1 * 2 ^ s + x0 / 2 ^ (64 - s) = U at d eU
    generalize hV : (x0 * 2 ^ s) % 18446744073709551616 = V at d
    generalize hY : y * 2 ^ s = Y at d hlo hhi
    have hv0 := d.V0
    have hv1 := d.V1
    have hu0 := d.U0
    have huY := d.UY
    have hYe : Y / 4294967296 * 4294967296 + Y % 4294967296 = Y := by omega
    have huY' : U < Y / 4294967296 * 4294967296 + Y % 4294967296 := by omega
    obtain ⟨z1, z2, z3, z4, z5, z6, z7, z8, z9, z10⟩ := d.done (by omega) rfl rfl rfl rfl
    generalize hq1 : (U * 4294967296 + V / 4294967296) / Y = q1 at *
    generalize hW : U * 4294967296 + V / 4294967296 - q1 * Y = W at *
    generalize hq0 : (W * 4294967296 + V % 4294967296) / Y = q0 at *
    generalize hR : W * 4294967296 + V % 4294967296 - q0 * Y = R at *
    have hW' : W < Y / 4294967296 * 4294967296 + Y % 4294967296 := by omega
    have t1 := trial_start (B := 4294967296) (u := U) (v1 := Y / 4294967296) (v0 := Y % 4294967296) (u1 := V / 4294967296) (by decide) (by omega) (by omega) (by omega) (by omega) hu0 huY' (by omega) (by omega)
    have t2 := trial_start (B := 4294967296) (u := W) (v1 := Y / 4294967296) (v0 := Y % 4294967296) (u1 := V % 4294967296) (by decide) (by omega) (by omega) (by omega) (by omega) z3 hW' (by omega) (by omega)
    have g1 := rounds_mk (B := 4294967296) (U := U) (Y1 := Y / 4294967296) (Y0 := Y % 4294967296) (V1 := V / 4294967296) rfl (by omega) (by omega) (by omega) (by omega) huY' (by omega) (by omega)
    have g2 := rounds_mk (B := 4294967296) (U := W) (Y1 := Y / 4294967296) (Y0 := Y % 4294967296) (V1 := V % 4294967296) rfl (by omega) (by omega) (by omega) (by omega) hW' (by omega) (by omega)
    rw [hYe, hq1] at g1
    rw [hYe, hq0] at g2
    have hm : ∀ u : Int, 0 ≤ u → u < Y → IntKind.u64.wrap (u.tdiv (Y / 4294967296)) = u / (Y / 4294967296) ∧ IntKind.u64.wrap (u / (Y / 4294967296) * (Y / 4294967296)) = u / (Y / 4294967296) * (Y / 4294967296) ∧
        IntKind.u64.wrap (u - u / (Y / 4294967296) * (Y / 4294967296)) = u % (Y / 4294967296) := by
      intro u a b
      have e : u / (Y / 4294967296) * (Y / 4294967296) + u % (Y / 4294967296) = u := by
        have := Int.mul_ediv_add_emod u (Y / 4294967296)
        rw [Int.mul_comm] at this
        exact this
      have := Int.emod_nonneg u (show Y / 4294967296 ≠ 0 by omega)
      have := Int.emod_lt_of_pos u (show 0 < Y / 4294967296 by omega)
      have := Int.mul_nonneg (Int.ediv_nonneg a (show 0 ≤ Y / 4294967296 by omega)) (show 0 ≤ Y / 4294967296 by omega)
      exact ⟨IntWalk.u64_quo _ _ (by omega), by rw [IntKind.wrap_u64]; omega, by rw [IntKind.wrap_u64]; omega⟩
    obtain ⟨m1, m2, m3⟩ := hm U hu0 huY
    obtain ⟨n1, n2, n3⟩ := hm W z3 z4
    have hk := two_pos s
    have hRM : 0 ≤ R / 2 ^ s ∧ R / 2 ^ s ≤ R := ⟨Int.ediv_nonneg z5 (by omega), Int.ediv_le_self _ z5⟩
    have hc := div64_core x1 x0 y Y (Y / 4294967296) (Y % 4294967296) (x1 * 2 ^ s) U V (V / 4294967296) (V % 4294967296) _ _ _ q1
      ((U * 4294967296) % 18446744073709551616) (((U * 4294967296) % 18446744073709551616 + V / 4294967296) % 18446744073709551616) ((q1 * Y) % 18446744073709551616) W _ _ _ q0 (q1 * 4294967296) (q1 * 4294967296 + q0)
      ((W * 4294967296) % 18446744073709551616) (((W * 4294967296) % 18446744073709551616 + V % 4294967296) % 18446744073709551616) ((q0 * Y) % 18446744073709551616) R (R / 2 ^ s) s w
      (by simp; omega) (by omega) (by simp; omega) hs
      (fun W => (Tryz.bits_LeadingZeros64 y W (by omega) (by omega)).mono fun e w' h => by rw [es] at h; exact ⟨h.1, h.2.symm⟩)
      (by rw [IntKind.wrap_u64, hY]; omega) rfl (and_low32 _ (by omega) (by omega)) (by rw [IntKind.wrap_u64]; exact eA) eU (by rw [IntKind.wrap_u64]; exact hV) rfl (and_low32 _ (by omega) (by omega)) (by simp; omega) (by omega)
      m1 m2 m3 t1 g1 (by rw [IntKind.wrap_u64]) (by rw [IntKind.wrap_u64]) (by rw [IntKind.wrap_u64]) (by rw [IntKind.wrap_u64]; omega) n1 n2 n3 t2 g2
      (by rw [IntKind.wrap_u64]; omega) (by rw [IntKind.wrap_u64]; omega) (by rw [IntKind.wrap_u64]) (by rw [IntKind.wrap_u64]) (by rw [IntKind.wrap_u64]) (by rw [IntKind.wrap_u64]; omega) rfl
    refine hc.mono ?_
    rintro e w' ⟨rfl, rfl⟩
    exact ⟨by rw [z1, z2], 0, rfl⟩
end Go.Proofs.YtoflmheodiajaaaGreatDoor
