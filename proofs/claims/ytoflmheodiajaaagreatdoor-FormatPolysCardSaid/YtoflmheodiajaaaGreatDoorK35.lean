import Derived.Test.YtoflmheodiajaaaGreatDoorK32
import Derived.Test.YtoflmheodiajaaaGreatDoorK34
namespace Go.Proofs.YtoflmheodiajaaaGreatDoor.H
open Go.RowKit Go.Proofs.YW.PrintWords
set_option linter.unusedVariables false
set_option linter.unusedSimpArgs false
theorem el_cons (a : Int) (xs : List Int) (k : Nat) : el (a :: xs) (k + 1) = el xs k := by simp [el]
theorem el_cons0 (a : Int) (xs : List Int) : el (a :: xs) 0 = a := by simp [el]
theorem vt_cons (a : Int) (xs : List Int) : ∀ k, vt (a :: xs) (k + 1) = a + 4294967296 * vt xs k
  | 0 => by simp [vt, el_cons0, pw_zero]
  | k + 1 => by
    have := vt_cons a xs k
    rw [vt, this, el_cons, vt, pw_succ]
    grind
theorem val_cons (a : Int) (xs : List Int) : val (a :: xs) = a + 4294967296 * val xs := by
  unfold val; rw [List.length_cons, vt_cons]
theorem inW_cons {a : Int} {xs : List Int} : InW (a :: xs) ↔ (0 ≤ a ∧ a < 4294967296) ∧ InW xs := by
  constructor
  · intro h
    refine ⟨by have := h 0; rwa [el_cons0] at this, fun i => ?_⟩
    have := h (i + 1)
    rwa [el_cons] at this
  · rintro ⟨h1, h2⟩ i
    cases i with
    | zero => rwa [el_cons0]
    | succ i => rw [el_cons]; exact h2 i
theorem trim_cons {a : Int} {xs : List Int} (h : Trim (a :: xs)) : Trim xs := by
  cases xs with
  | nil => exact .inl rfl
  | cons b t =>
    right
    rcases h with h | h
    · simp at h
    · rw [List.length_cons, Nat.add_sub_cancel] at h
      rw [List.length_cons] at h ⊢
      rw [el_cons] at h
      simpa using h
def cn (n : Nat) : List Int := if h : n = 0 then [] else ((n % 4294967296 : Nat) : Int) :: cn (n / 4294967296)
termination_by n
decreasing_by omega
theorem cn_zero : cn 0 = [] := by rw [cn, dif_pos rfl]
theorem cn_pos {n : Nat} (h : n ≠ 0) : cn n = ((n % 4294967296 : Nat) : Int) :: cn (n / 4294967296) := by rw [cn, dif_neg h]
theorem val_cn (n : Nat) : val (cn n) = n := by
  induction n using Nat.strongRecOn with
  | _ n ih =>
    by_cases h : n = 0
    · rw [h, cn_zero]; rfl
    · rw [cn_pos h, val_cons, ih _ (by omega)]
      omega
theorem cn_inW (n : Nat) : InW (cn n) := by
  induction n using Nat.strongRecOn with
  | _ n ih =>
    by_cases h : n = 0
    · rw [h, cn_zero]; exact InW.nil
    · rw [cn_pos h]
      exact inW_cons.2 ⟨by omega, ih _ (by omega)⟩
theorem cn_trim (n : Nat) : Trim (cn n) := by
  induction n using Nat.strongRecOn with
  | _ n ih =>
    by_cases h : n = 0
    · rw [h, cn_zero]; exact .inl rfl
    · rw [cn_pos h]
      right
      rw [List.length_cons, Nat.add_sub_cancel]
      by_cases h2 : n / 4294967296 = 0
      · rw [h2, cn_zero, List.length_nil, el_cons0]
        omega
      · rcases ih _ (show n / 4294967296 < n by omega) with h3 | h3
        · rw [cn_pos h2] at h3; simp at h3
        · rw [cn_pos h2, List.length_cons] at h3 ⊢
          rw [el_cons]
          simpa using h3
theorem eq_cn : ∀ {xs : List Int}, InW xs → Trim xs → xs = cn (val xs).toNat
  | [], _, _ => by rw [val_nil]; exact cn_zero.symm
  | a :: xs, hw, ht => by
    have hz := ht.zero hw
    obtain ⟨ha, hx⟩ := inW_cons.1 hw
    have ih := eq_cn hx (trim_cons ht)
    have hv := val_cons a xs
    have hn := val_nonneg hx
    have h0 : val (a :: xs) ≠ 0 := fun e => by have := hz.1 e; simp at this
    have hne : (val (a :: xs)).toNat ≠ 0 := by omega
    rw [cn_pos hne]
    have e1 : (((val (a :: xs)).toNat % 4294967296 : Nat) : Int) = a := by omega
    have e2 : (val (a :: xs)).toNat / 4294967296 = (val xs).toNat := by omega
    rw [e1, e2, ← ih]
theorem cn_len {n k : Nat} (h : n < 4294967296 ^ k) : (cn n).length ≤ k := by
  induction k generalizing n with
  | zero =>
    have : n = 0 := by simpa using h
    rw [this, cn_zero]; simp
  | succ k ih =>
    by_cases h0 : n = 0
    · rw [h0, cn_zero]; simp
    · rw [cn_pos h0, List.length_cons]
      have := ih (n := n / 4294967296) (by rw [Nat.pow_succ] at h; omega)
      omega
theorem cn_len0 (n : Nat) : (cn n).length = 0 ↔ n = 0 := by
  by_cases h : n = 0
  · rw [h, cn_zero]; simp
  · rw [cn_pos h]; simp [h]
theorem add_at {b o j : Nat} : (⟨b, o, none⟩ : Addr).add j = ⟨b, o + j, none⟩ := by
  unfold Addr.add
  split
  · rename_i h; subst h; rfl
  · rfl
theorem rd_of_C {w : World} {k : IntKind} {e : TypeId} {A : Option Addr} {xs : List Int} (h : Kd.C (Kd.int k) w A xs.length xs) : Rd w.heap.size w k e A xs := fun hn => by
  obtain ⟨_, _, h3⟩ := h
  obtain ⟨ad, rfl, hc⟩ := h3 hn
  have hcell : ∀ j, j < xs.length → w.cell? (ad.add j) = some (.int k (el xs j)) := fun j hj => by
    obtain ⟨c, hl, hk, hu⟩ := hc j xs[j] (List.getElem?_eq_getElem hj)
    have hk' : c = [.int k xs[j]] := hk
    subst hk'
    have h1 : w.cell? (ad.add (j * 1 + 0)) = some (.int k xs[j]) := hu 0 (.int k xs[j]) rfl
    rw [Nat.mul_one, Nat.add_zero] at h1
    rw [h1, el_at]
  obtain ⟨b, off, spot⟩ := ad
  have h0 := hcell 0 hn
  have e0 : (⟨b, off, spot⟩ : Addr).add 0 = ⟨b, off, spot⟩ := rfl
  rw [e0] at h0
  unfold World.cell? at h0
  cases hb : w.heap[b]? with
  | none => simp [hb] at h0
  | some o =>
    cases o with
    | cells cs t fr =>
      simp only [hb] at h0
      cases spot with
      | some z => simp at h0
      | none =>
        refine ⟨b, off, cs, t, fr, rfl, hb, .inl (lt_of_heap hb), fun j hj => ?_⟩
        have := hcell j hj
        rw [add_at, Lib.cell_of_heap hb] at this
        exact this
    | _ => simp [hb] at h0
theorem C_of_rd {w : World} {Bs : Nat} {k : IntKind} {e : TypeId} {A : Option Addr} {xs : List Int} (hm : xs.length ≤ 9223372036854775807) (h : Rd Bs w k e A xs) : Kd.C (Kd.int k) w A xs.length xs := by
  refine ⟨rfl, hm, fun hn => ?_⟩
  obtain ⟨b, off, cs, t, fr, rfl, hb, _, hc⟩ := h hn
  refine ⟨_, rfl, fun j p hj => ⟨[.int k p], rfl, rfl, fun i u hu => ?_⟩⟩
  have hjl : j < xs.length := (List.getElem?_eq_some_iff.1 hj).1
  have hp : xs[j] = p := (List.getElem?_eq_some_iff.1 hj).2
  have hi : i = 0 := by
    have := (List.getElem?_eq_some_iff.1 hu).1
    simpa using this
  subst hi
  have hu' : Value.int k p = u := by simpa using hu
  show w.cell? ((⟨b, off, none⟩ : Addr).add (j * 1 + 0)) = some u
  rw [← hu', Nat.mul_one, Nat.add_zero, add_at, Lib.cell_of_heap hb, hc j hjl, ← el_at _ _ hjl, hp]
theorem V_of {w : World} {Bs B B' e : Nat} {v : Value} {xs : List Int} (h : Nat32 Bs w v xs) (hn : NewV B v) : Kd.V (Kd.int .u32) e w B' (fun k => B ≤ k) v xs := by
  obtain ⟨⟨A, c, rfl, h1, h2, h3⟩, _⟩ := h
  refine ⟨A, c, rfl, h1, fun W hW => C_of_rd (Bs := Bs) (e := 143) h2 fun hp => ?_⟩
  obtain ⟨b, off, cs, t, fr, e1, e2, e3, e4⟩ := h3 hp
  exact ⟨b, off, cs, t, fr, e1, (hW b (hn _ _ _ rfl _ e1) (lt_of_heap e2)).trans e2, e3, e4⟩
theorem nat32_of_C {w : World} {A : Option Addr} {c : Nat} {xs : List Int} (h : Kd.C (Kd.int .u32) w A xs.length xs) (hc : xs.length ≤ c) (hw : InW xs) : Nat32 w.heap.size w (.slice A xs.length c) xs :=
  ⟨⟨A, c, rfl, hc, h.2.1, rd_of_C h⟩, hw⟩
def okW (l : List Int) : Bool := l.all fun x => decide (0 ≤ x ∧ x < 4294967296)
theorem okW_iff {l : List Int} : okW l = true ↔ InW l := by
  induction l with
  | nil => exact ⟨fun _ => InW.nil, fun _ => rfl⟩
  | cons a t ih =>
    rw [inW_cons, ← ih]
    simp [okW]
def okT : List Int → Bool
  | [] => true
  | [a] => decide (a ≠ 0)
  | _ :: b :: t => okT (b :: t)
theorem okT_iff : ∀ {l : List Int}, okT l = true ↔ Trim l
  | [] => ⟨fun _ => .inl rfl, fun _ => rfl⟩
  | [a] => by
    simp only [okT, decide_eq_true_eq]
    exact ⟨fun h => .inr (by simpa [el] using h), fun h => by
      rcases h with h | h
      · simp at h
      · simpa [el] using h⟩
  | a :: b :: t => by
    rw [okT, okT_iff (l := b :: t)]
    constructor
    · intro h
      right
      rcases h with h | h
      · simp at h
      · rw [List.length_cons, Nat.add_sub_cancel]
        rw [List.length_cons] at h ⊢
        rw [el_cons]
        simpa using h
    · exact trim_cons
def okN (l : List Int) : Bool := okW l && okT l
theorem okN_iff {l : List Int} : okN l = true ↔ InW l ∧ Trim l := by unfold okN; rw [Bool.and_eq_true, okW_iff, okT_iff]
def addMagF (l0 l1 : List Int) : Option (List Int) := if okW l0 = true ∧ okW l1 = true ∧ l0.length ≤ 1099511627775 ∧ l1.length ≤ 1099511627775 then some (cn (val l0 + val l1).toNat) else none
def mulMagF (l0 l1 : List Int) : Option (List Int) := if okW l0 = true ∧ okW l1 = true ∧ l0.length ≤ 1099511627775 ∧ l1.length ≤ 1099511627775 then some (cn (val l0 * val l1).toNat) else none
def smallDivF (l0 : List Int) (d : Int) : Option (List Int × Int) := if okW l0 = true ∧ l0.length ≤ 1099511627775 ∧ 0 < d ∧ d < 4294967296 then some (cn (val l0 / d).toNat, val l0 % d) else none
def divMagF (l0 l1 : List Int) : Option (List Int × List Int) := if okN l0 = true ∧ okN l1 = true ∧ (l0.length ≤ 1099511627775 ∧ l1.length ≤ 1099511627775) ∧ 0 < val l1 then some (cn (val l0 / val l1).toNat, cn (val l0 % val l1).toNat) else none
theorem some_of_if {α : Type} {p : Prop} {hd : Decidable p} {a r : α} (h : (@ite _ p hd (some a) none) = some r) : p ∧ a = r := by
  by_cases hp : p
  · rw [if_pos hp] at h; exact ⟨hp, Option.some.inj h⟩
  · rw [if_neg hp] at h; cases h
theorem addMagG (A0 : Option Addr) (c0 : Nat) (l0 : List Int) (A1 : Option Addr) (c1 : Nat) (l1 : List Int) (r : List Int) (w : World) (hr0 : Kd.C (Kd.int .u32) w A0 l0.length l0) (hc0 : l0.length ≤ c0) (hr1 : Kd.C (Kd.int .u32) w A1 l1.length l1) (hc1 : l1.length ≤ c1) (h : addMagF l0 l1 = some r) :
    Calls Tryz.prog 165 #[.slice A0 l0.length c0, .slice A1 l1.length c1] w fun e w' => ∃ v0_ : Value, e = .returned (v0_) ∧ Kd.V (Kd.int .u32) 143 w' w.heap.size (fun k_ => (w.heap.size ≤ k_)) v0_ r ∧ Below w.heap.size w w' := by
  obtain ⟨⟨g0, g1, h2, h3⟩, rfl⟩ := some_of_if h
  have h0 := okW_iff.1 g0
  have h1 := okW_iff.1 g1
  refine (addMag_any (Bs := w.heap.size) _ _ l0 l1 w (by omega) (by omega) (nat32_of_C hr0 hc0 h0) (nat32_of_C hr1 hc1 h1)).mono ?_
  rintro e w' ⟨v, rfl, ⟨⟨zs, z1, z2, z3, z4⟩, hn⟩, hB⟩
  have := eq_cn z1.inw z3
  rw [z2] at this
  rw [← this]
  exact ⟨v, rfl, V_of z1 hn, hB⟩
theorem mulMagG (A0 : Option Addr) (c0 : Nat) (l0 : List Int) (A1 : Option Addr) (c1 : Nat) (l1 : List Int) (r : List Int) (w : World) (hr0 : Kd.C (Kd.int .u32) w A0 l0.length l0) (hc0 : l0.length ≤ c0) (hr1 : Kd.C (Kd.int .u32) w A1 l1.length l1) (hc1 : l1.length ≤ c1) (h : mulMagF l0 l1 = some r) :
    Calls Tryz.prog 166 #[.slice A0 l0.length c0, .slice A1 l1.length c1] w fun e w' => ∃ v0_ : Value, e = .returned (v0_) ∧ Kd.V (Kd.int .u32) 143 w' w.heap.size (fun k_ => (w.heap.size ≤ k_)) v0_ r ∧ Below w.heap.size w w' := by
  obtain ⟨⟨g0, g1, h2, h3⟩, rfl⟩ := some_of_if h
  have h0 := okW_iff.1 g0
  have h1 := okW_iff.1 g1
  refine (mulMag_any (Bs := w.heap.size) _ _ l0 l1 w (nat32_of_C hr0 hc0 h0) (nat32_of_C hr1 hc1 h1) (by omega) (by omega)).mono ?_
  rintro e w' ⟨v, rfl, ⟨⟨zs, z1, z2, z3, z4⟩, hn⟩, hB⟩
  have := eq_cn z1.inw z4
  rw [z2] at this
  rw [← this]
  exact ⟨v, rfl, V_of z1 hn, hB⟩
theorem smallDivG (A0 : Option Addr) (c0 : Nat) (l0 : List Int) (a1 : Int) (r1 : List Int) (r2 : Int) (w : World) (hr0 : Kd.C (Kd.int .u32) w A0 l0.length l0) (hc0 : l0.length ≤ c0) (h : smallDivF l0 a1 = some (r1, r2)) :
    Calls Tryz.prog 63 #[.slice A0 l0.length c0, .int .u32 a1] w fun e w' => ∃ v0_ : Value, e = .returned (.tuple #[v0_, .int .u32 r2]) ∧ Kd.V (Kd.int .u32) 143 w' w.heap.size (fun k_ => (w.heap.size ≤ k_)) v0_ r1 ∧ Below w.heap.size w w' := by
  obtain ⟨⟨g0, h1, h2, h3⟩, e0⟩ := some_of_if h
  have h0 := okW_iff.1 g0
  obtain ⟨rfl, rfl⟩ := Prod.mk.inj e0
  refine (smallDiv_core (Bs := w.heap.size) A0 c0 l0 a1 w (by omega) hc0 (rd_of_C hr0) h0 h2 h3).mono ?_
  rintro e w' ⟨v, rfl, ⟨zs, qv, rfl, z1, z2, z3, z4, hn⟩, hB⟩
  have := eq_cn z1.inw z4
  rw [z2] at this
  rw [← this]
  exact ⟨qv, rfl, V_of z1 hn, hB⟩
theorem divMagG (A0 : Option Addr) (c0 : Nat) (l0 : List Int) (A1 : Option Addr) (c1 : Nat) (l1 : List Int) (r1 : List Int) (r2 : List Int) (w : World) (hr0 : Kd.C (Kd.int .u32) w A0 l0.length l0) (hc0 : l0.length ≤ c0) (hr1 : Kd.C (Kd.int .u32) w A1 l1.length l1) (hc1 : l1.length ≤ c1) (h : divMagF l0 l1 = some (r1, r2)) :
    Calls Tryz.prog 179 #[.slice A0 l0.length c0, .slice A1 l1.length c1] w fun e w' => ∃ v0_ v1_ : Value, e = .returned (.tuple #[v0_, v1_]) ∧ Kd.V (Kd.int .u32) 143 w' w.heap.size (fun k_ => (w.heap.size ≤ k_)) v0_ r1 ∧ Kd.V (Kd.int .u32) 143 w' w.heap.size (fun k_ => (w.heap.size ≤ k_)) v1_ r2 ∧ Below w.heap.size w w' := by
  obtain ⟨⟨g0, g1, ⟨h2, h3⟩, h4⟩, e0⟩ := some_of_if h
  obtain ⟨h0, t0⟩ := okN_iff.1 g0
  obtain ⟨h1, t1⟩ := okN_iff.1 g1
  obtain ⟨rfl, rfl⟩ := Prod.mk.inj e0
  refine (divMag_any (Bs := w.heap.size) _ _ l0 l1 w h2 h3 (nat32_of_C hr0 hc0 h0) (nat32_of_C hr1 hc1 h1) t0 t1 h4).mono ?_
  rintro e w' ⟨v, rfl, ⟨qv, rv, qs, rs, rfl, hq, hr, hqv, hrv, tq, tr, nq, nr⟩, hB⟩
  have e1 := eq_cn hq.inw tq
  have e2 := eq_cn hr.inw tr
  rw [hqv] at e1
  rw [hrv] at e2
  rw [← e1, ← e2]
  exact ⟨qv, rv, rfl, V_of hq nq, V_of hr nr, hB⟩
end Go.Proofs.YtoflmheodiajaaaGreatDoor.H
namespace Go.Proofs.YtoflmheodiajaaaGreatDoor.G
open Go.RowKit Go.Proofs.YtoflmheodiajaaaGreatDoor.H
theorem _root_.Go.Proofs.YtoflmheodiajaaaGreatDoor.H.below_alloc' (w : World) (o : Obj) : Below w.heap.size w (w.alloc o) := (Below.refl _ _).alloc (Nat.le_refl _) o
def sosoptnum_addMag.f (l0 : List Int) (l1 : List Int) : Option (List Int) := addMagF l0 l1
def sosoptnum_mulMag.f (l0 : List Int) (l1 : List Int) : Option (List Int) := mulMagF l0 l1
def nSD.f (l0 : List Int) (a1 : Int) : Option (List Int × Int) := smallDivF l0 a1
def nDM.f (l0 : List Int) (l1 : List Int) : Option (List Int × List Int) := divMagF l0 l1
def nM1.f (a0 : Bool) (l1 : List Int) : Option (Bool × List Int) := some (a0 && decide (0 < l1.length), l1)
section
open Go.Proofs.YW.PrintWords
set_option maxHeartbeats 400000 in
theorem nM1.calls (a0 : Bool) (P1_ : Nat → Prop) (A1 : Option Addr) (c1 : Nat) (l1 : List Int) (r1 : Bool) (r2 : List Int) (w : World) (hs1 : Kd.V (Kd.int .u32) 143 w w.heap.size (fun k_ => P1_ k_) (.slice A1 l1.length c1) l1) (h : nM1.f a0 l1 = some (r1, r2)) :
    Calls Tryz.prog 138 #[.bool a0, .slice A1 l1.length c1] w fun e w' => ∃ v1_ : Value, e = .returned (.agg #[.bool r1, v1_]) ∧ Kd.V (Kd.int .u32) 143 w' w.heap.size (fun k_ => (P1_ k_ ∨ w.heap.size ≤ k_)) v1_ r2 ∧ Below w.heap.size w w' := by
  obtain ⟨e1, rfl⟩ := Prod.mk.inj (Option.some.inj h)
  have HV := Lib.hid (fun W (hb : Below w.heap.size w W) => (Kd.V_mono (Kd.V_below hs1 hb) (fun k hk => .inl hk) : Kd.V (Kd.int .u32) 143 W w.heap.size (fun k_ => (P1_ k_ ∨ w.heap.size ≤ k_)) (.slice A1 l1.length c1) l1))
  clear hs1 h
  cases a0
  · have er : r1 = false := by rw [← e1]; rfl
    subst er
    clear e1
    go_enter Tryz.func138, Tryz.ntmps138
    go_wp2
    exact bodyPost_ret (v := .agg #[.bool false, .slice A1 l1.length c1]) (by simp [results, Tryz.results138, go_sem]) rfl ⟨_, rfl, HV.out _ (H.below_alloc' w _), H.below_alloc' w _⟩
  · have er : r1 = decide (0 < l1.length) := by rw [← e1]; rfl
    subst er
    clear e1
    go_enter Tryz.func138, Tryz.ntmps138
    go_wp2
    exact bodyPost_ret (v := .agg #[.bool (decide (0 < l1.length)), .slice A1 l1.length c1]) (by simp [results, Tryz.results138, go_sem]) rfl ⟨_, rfl, HV.out _ (H.below_alloc' w _), H.below_alloc' w _⟩
theorem sosoptnum_addMag.calls (A0 : Option Addr) (c0 : Nat) (l0 : List Int) (A1 : Option Addr) (c1 : Nat) (l1 : List Int) (r : List Int) (w : World) (hr0 : Kd.C (Kd.int .u32) w A0 l0.length l0) (hc0 : l0.length ≤ c0) (hr1 : Kd.C (Kd.int .u32) w A1 l1.length l1) (hc1 : l1.length ≤ c1) (h : sosoptnum_addMag.f l0 l1 = some r) :
    Calls Tryz.prog 165 #[.slice A0 l0.length c0, .slice A1 l1.length c1] w fun e w' => ∃ v0_ : Value, e = .returned (v0_) ∧ Kd.V (Kd.int .u32) 143 w' w.heap.size (fun k_ => (w.heap.size ≤ k_)) v0_ r ∧ Below w.heap.size w w' := addMagG A0 c0 l0 A1 c1 l1 r w hr0 hc0 hr1 hc1 h
theorem sosoptnum_mulMag.calls (A0 : Option Addr) (c0 : Nat) (l0 : List Int) (A1 : Option Addr) (c1 : Nat) (l1 : List Int) (r : List Int) (w : World) (hr0 : Kd.C (Kd.int .u32) w A0 l0.length l0) (hc0 : l0.length ≤ c0) (hr1 : Kd.C (Kd.int .u32) w A1 l1.length l1) (hc1 : l1.length ≤ c1) (h : sosoptnum_mulMag.f l0 l1 = some r) :
    Calls Tryz.prog 166 #[.slice A0 l0.length c0, .slice A1 l1.length c1] w fun e w' => ∃ v0_ : Value, e = .returned (v0_) ∧ Kd.V (Kd.int .u32) 143 w' w.heap.size (fun k_ => (w.heap.size ≤ k_)) v0_ r ∧ Below w.heap.size w w' := mulMagG A0 c0 l0 A1 c1 l1 r w hr0 hc0 hr1 hc1 h
theorem nSD.calls (A0 : Option Addr) (c0 : Nat) (l0 : List Int) (a1 : Int) (r1 : List Int) (r2 : Int) (w : World) (hr0 : Kd.C (Kd.int .u32) w A0 l0.length l0) (hc0 : l0.length ≤ c0) (h : nSD.f l0 a1 = some (r1, r2)) :
    Calls Tryz.prog 63 #[.slice A0 l0.length c0, .int .u32 a1] w fun e w' => ∃ v0_ : Value, e = .returned (.tuple #[v0_, .int .u32 r2]) ∧ Kd.V (Kd.int .u32) 143 w' w.heap.size (fun k_ => (w.heap.size ≤ k_)) v0_ r1 ∧ Below w.heap.size w w' := smallDivG A0 c0 l0 a1 r1 r2 w hr0 hc0 h
theorem nDM.calls (A0 : Option Addr) (c0 : Nat) (l0 : List Int) (A1 : Option Addr) (c1 : Nat) (l1 : List Int) (r1 : List Int) (r2 : List Int) (w : World) (hr0 : Kd.C (Kd.int .u32) w A0 l0.length l0) (hc0 : l0.length ≤ c0) (hr1 : Kd.C (Kd.int .u32) w A1 l1.length l1) (hc1 : l1.length ≤ c1) (h : nDM.f l0 l1 = some (r1, r2)) :
    Calls Tryz.prog 179 #[.slice A0 l0.length c0, .slice A1 l1.length c1] w fun e w' => ∃ v0_ v1_ : Value, e = .returned (.tuple #[v0_, v1_]) ∧ Kd.V (Kd.int .u32) 143 w' w.heap.size (fun k_ => (w.heap.size ≤ k_)) v0_ r1 ∧ Kd.V (Kd.int .u32) 143 w' w.heap.size (fun k_ => (w.heap.size ≤ k_)) v1_ r2 ∧ Below w.heap.size w w' := divMagG A0 c0 l0 A1 c1 l1 r1 r2 w hr0 hc0 hr1 hc1 h
end
def Sz (n : Nat) : Prop := (cn n).length ≤ 1099511627775
theorem cn_mono {a b : Nat} (h : a ≤ b) : (cn a).length ≤ (cn b).length := by
  induction b using Nat.strongRecOn generalizing a with
  | _ b ih =>
    by_cases ha : a = 0
    · rw [ha, cn_zero]; simp
    · rw [cn_pos ha, cn_pos (show b ≠ 0 by omega), List.length_cons, List.length_cons]
      have := ih (b / 4294967296) (by omega) (a := a / 4294967296) (by omega)
      omega
theorem Sz.le {a b : Nat} (h : Sz b) (hab : a ≤ b) : Sz a := Nat.le_trans (cn_mono hab) h
theorem sz_lt {n k : Nat} (h : n < 4294967296 ^ k) (hk : k ≤ 1099511627775) : Sz n := Nat.le_trans (cn_len h) hk
theorem addMag_cn {a b : Nat} (ha : Sz a) (hb : Sz b) : sosoptnum_addMag.f (cn a) (cn b) = some (cn (a + b)) := by
  unfold sosoptnum_addMag.f addMagF
  rw [if_pos ⟨okW_iff.2 (cn_inW _), okW_iff.2 (cn_inW _), ha, hb⟩, val_cn, val_cn]
  congr 2
theorem mulMag_cn {a b : Nat} (ha : Sz a) (hb : Sz b) : sosoptnum_mulMag.f (cn a) (cn b) = some (cn (a * b)) := by
  unfold sosoptnum_mulMag.f mulMagF
  rw [if_pos ⟨okW_iff.2 (cn_inW _), okW_iff.2 (cn_inW _), ha, hb⟩, val_cn, val_cn, ← Int.natCast_mul, Int.toNat_natCast]
theorem smallDiv_cn {a d : Nat} (ha : Sz a) (hd : 0 < d) (hd1 : d < 4294967296) : nSD.f (cn a) d = some (cn (a / d), ((a % d : Nat) : Int)) := by
  unfold nSD.f smallDivF
  rw [if_pos ⟨okW_iff.2 (cn_inW _), ha, by omega, by omega⟩, val_cn, ← Int.natCast_ediv, ← Int.natCast_emod, Int.toNat_natCast]
theorem divMag_cn {a b : Nat} (ha : Sz a) (hb : Sz b) (h0 : 0 < b) : nDM.f (cn a) (cn b) = some (cn (a / b), cn (a % b)) := by
  unfold nDM.f divMagF
  rw [if_pos ⟨okN_iff.2 ⟨cn_inW _, cn_trim _⟩, okN_iff.2 ⟨cn_inW _, cn_trim _⟩, ⟨ha, hb⟩, by rw [val_cn]; omega⟩, val_cn, val_cn, ← Int.natCast_ediv, ← Int.natCast_emod, Int.toNat_natCast, Int.toNat_natCast]
end Go.Proofs.YtoflmheodiajaaaGreatDoor.G
