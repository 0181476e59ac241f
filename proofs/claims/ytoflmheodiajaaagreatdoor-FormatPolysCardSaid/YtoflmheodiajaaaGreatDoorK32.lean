import Derived.Test.YtoflmheodiajaaaGreatDoorK31
namespace Go.Proofs.YtoflmheodiajaaaGreatDoor.H
open Go.RowKit
set_option linter.unusedVariables false
set_option linter.unusedSimpArgs false
variable {Bs : Nat}
theorem trim_len {xs : List Int} {k : Nat} (h : Trim xs) (hw : InW xs) (hv : val xs < pw k) : xs.length ≤ k := by
  rcases Nat.lt_or_ge k xs.length with hl | hl
  · have h1 := h.ge hw (by omega)
    have h2 := pw_mono (show k ≤ xs.length - 1 by omega)
    omega
  · exact hl
theorem val_lt (xs : List Int) (hw : InW xs) : val xs < pw xs.length := (vt_nonneg hw xs.length).2
theorem divMag_any (a b : Value) (xs ys : List Int) (w : World) (hlx : xs.length ≤ 1099511627775) (hly : ys.length ≤ 1099511627775) (ha : Nat32 Bs w a xs) (hb : Nat32 Bs w b ys) (tx : Trim xs) (ty : Trim ys) (hy0 : 0 < val ys) :
    Calls Tryz.prog 179 #[a, b] w (Gives w fun v w' => Quot Bs w.heap.size (val xs) (val ys) v w') := by
  have ha' := ha
  have hb' := hb
  obtain ⟨⟨A, ca, rfl, _, _, _⟩, _⟩ := ha'
  obtain ⟨⟨B, cb, rfl, _, _, _⟩, _⟩ := hb'
  rcases Int.lt_or_le (val xs) (val ys) with h | h
  · exact divMag_less A B ca cb xs ys w (by omega) (by omega) ha hb tx ty h
  have hyn : 0 < ys.length := by
    rcases Nat.eq_zero_or_pos ys.length with h' | h'
    · rw [List.eq_nil_of_length_eq_zero h', val_nil] at hy0; omega
    · exact h'
  rcases Nat.lt_or_ge 1 ys.length with h1 | h1
  · have hle : ys.length ≤ xs.length := trim_len ty hb.inw (by have := val_lt xs ha.inw; omega)
    obtain ⟨m, hm⟩ : ∃ m, xs.length = ys.length + m := ⟨xs.length - ys.length, by omega⟩
    have := divMag_long A B ca cb ys.length m xs ys w hlx hm rfl (by omega) ha hb tx ty h
    rw [← hm] at this
    exact this
  · exact divMag_word A B ca cb xs ys w (by omega) (by omega) ha hb tx ty h hy0
noncomputable def natAt (Bs : Nat) (w : World) (v : Value) : Nat := by
  classical exact if h : ∃ ys, Nat32 Bs w v ys then (val h.choose).toNat else 0
theorem natAt_eq {w : World} {v : Value} {ys : List Int} (h : Nat32 Bs w v ys) : natAt Bs w v = (val ys).toNat := by
  unfold natAt
  have hex : ∃ ys, Nat32 Bs w v ys := ⟨ys, h⟩
  rw [dif_pos hex]
  have hc := hex.choose_spec
  generalize hex.choose = zs at hc
  have h' := h
  have hc' := hc
  obtain ⟨⟨A, c, rfl, _, _, _⟩, _⟩ := h'
  obtain ⟨⟨A', c', e, _, _, _⟩, _⟩ := hc'
  simp only [Value.slice.injEq] at e
  obtain ⟨rfl, hl, rfl⟩ := e
  have e2 : zs = ys := by
    rcases Nat.eq_zero_or_pos ys.length with h0 | h0
    · rw [List.eq_nil_of_length_eq_zero h0, List.eq_nil_of_length_eq_zero (hl.symm.trans h0)]
    · obtain ⟨b, off, e1, _, r1⟩ := nat32_plain h h0
      rw [hl] at hc
      obtain ⟨b2, off2, e2, _, r2⟩ := nat32_plain hc (by omega)
      rw [e1] at e2
      simp only [Option.some.injEq, Addr.mk.injEq, and_true] at e2
      obtain ⟨rfl, rfl⟩ := e2
      apply List.ext_getElem hl.symm
      intro i h1 h2
      have a1 := r1 i (by omega)
      rw [r2 i (by omega)] at a1
      simp only [Option.some.injEq, Value.int.injEq, true_and] at a1
      simpa [el, h1, h2] using a1
  rw [e2]
structure GcIn (Bs : Nat) (w : World) (G : Int) (a b : Value) (wr : World) (xs ys : List Int) : Prop where
  a : Nat32 Bs wr a xs
  b : Nat32 Bs wr b ys
  ta : Trim xs
  tb : Trim ys
  la : xs.length ≤ 1099511627775
  lb : ys.length ≤ 1099511627775
  g : gI (val xs) (val ys) = G
  below : Below w.heap.size w wr
def GcRel (Bs : Nat) (w : World) (G : Int) (a b : Value) (wr : World) : Prop := ∃ xs ys, GcIn Bs w G a b wr xs ys
theorem GcIn.next {w wr w1 : World} {G : Int} {a b r : Value} {xs ys rs : List Int} (h : GcIn Bs w G a b wr xs ys) (h0 : 0 < val ys) (hb : Below wr.heap.size wr w1) (hr : Nat32 Bs w1 r rs) (tr : Trim rs) (hv : val rs = val xs % val ys) : GcIn Bs w G b r w1 ys rs := by
  have hm := Int.emod_lt_of_pos (val xs) h0
  refine ⟨h.b.below hb, hr, h.tb, tr, h.lb, Nat.le_trans (trim_len tr hr.inw (k := ys.length) (by have := val_lt ys h.b.inw; omega)) h.lb, ?_, below_then h.below h.below.size hb⟩
  rw [hv, ← gI_step (val_nonneg h.a.inw) (by omega)]
  exact h.g
end Go.Proofs.YtoflmheodiajaaaGreatDoor.H
