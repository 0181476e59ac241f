import Derived.Test.YtoflmheodiajaaaGreatDoorK39
namespace Go.Proofs.YtoflmheodiajaaaGreatDoor.H
open Go.RowKit Go.Proofs.YtoflmheodiajaaaGreatDoor.G Go.Proofs.YQ.PA Go.Proofs.YW.PrintWords
set_option linter.unusedVariables false
set_option linter.unusedSimpArgs false
def VV (w : World) (P : Nat → Prop) (W : World) (v : Value) (xs : List Int) : Prop := Kd.V (Kd.int .u32) 143 W 0 (fun k => (P k ∨ w.heap.size ≤ k) ∧ k ≠ w.heap.size ∧ k ≠ w.heap.size + 1 ∧ k ≠ w.heap.size + 2) v xs
theorem VV.below {w W W1 : World} {P : Nat → Prop} {v : Value} {xs : List Int} (h : VV w P W v xs) (hb : Below W.heap.size W W1) : VV w P W1 v xs := Kd.V_map h (fun _ hf => Kd.F_below hf hb)
theorem VV.set {w W : World} {P : Nat → Prop} {v : Value} {xs : List Int} (h : VV w P W v xs) {b i : Nat} (hb : b = w.heap.size ∨ b = w.heap.size + 1 ∨ b = w.heap.size + 2) (u : Value) : VV w P (W.setCell ⟨b, i, none⟩ u) v xs :=
  Kd.V_map h (fun _ hf => Kd.F_far (p := ⟨b, i, none⟩) hf (fun k hk => by show k ≠ b; omega) u)
theorem VV.reads {w W : World} {P : Nat → Prop} {A : Option Addr} {c : Nat} {xs : List Int} (h : VV w P W (.slice A xs.length c) xs) : xs.length ≤ c ∧ Kd.C (Kd.int .u32) W A xs.length xs := (Kd.V_reads' h).2
theorem VV.give {w W : World} {P : Nat → Prop} {A : Option Addr} {n c : Nat} {xs : List Int} (h : VV w P W (.slice A n c) xs) (base : Nat) : Kd.V (Kd.int .u32) 143 W base (fun k => ((P k ∨ w.heap.size ≤ k) ∧ k ≠ w.heap.size ∧ k ≠ w.heap.size + 1 ∧ k ≠ w.heap.size + 2)) (.slice A n c) xs := Kd.V_map h (fun _ hf => hf)
theorem VV.old {w W : World} {P : Nat → Prop} {v : Value} {xs : List Int} {base : Nat} (h : Kd.V (Kd.int .u32) 143 w base P v xs) (hb : Below w.heap.size w W) : VV w P W v xs :=
  Kd.V_map (Kd.V_bound h) (fun _ hf => Kd.F_below (Kd.F_mono hf (fun k hk => ⟨.inl hk.1, by omega, by omega, by omega⟩)) hb)
theorem VV.new {w W W1 : World} {P : Nat → Prop} {v : Value} {xs : List Int} {base : Nat} (h : Kd.V (Kd.int .u32) 143 W1 base (fun k => W.heap.size ≤ k) v xs) (hW : w.heap.size + 3 ≤ W.heap.size) : VV w P W1 v xs :=
  Kd.V_map h (fun _ hf => Kd.F_mono hf (fun k hk => ⟨.inr (by omega), by omega, by omega, by omega⟩))
theorem VV.both {w W W1 : World} {P Q : Nat → Prop} {v : Value} {xs : List Int} {base : Nat} (h : Kd.V (Kd.int .u32) 143 W1 base (fun k => (((P k ∨ w.heap.size ≤ k) ∧ k ≠ w.heap.size ∧ k ≠ w.heap.size + 1 ∧ k ≠ w.heap.size + 2) ∨ ((Q k ∨ w.heap.size ≤ k) ∧ k ≠ w.heap.size ∧ k ≠ w.heap.size + 1 ∧ k ≠ w.heap.size + 2)) ∨ W.heap.size ≤ k) v xs) (hW : w.heap.size + 3 ≤ W.heap.size) : VV w (fun k => P k ∨ Q k) W1 v xs :=
  Kd.V_map h (fun _ hf => Kd.F_mono hf (fun k hk => by
    rcases hk with (hk | hk) | hk
    · exact ⟨hk.1.imp .inl id, hk.2⟩
    · exact ⟨hk.1.imp .inr id, hk.2⟩
    · exact ⟨.inr (by omega), by omega, by omega, by omega⟩))
theorem VV.or1 {w W : World} {P Q : Nat → Prop} {v : Value} {xs : List Int} (h : VV w P W v xs) : VV w (fun k => P k ∨ Q k) W v xs := Kd.V_mono h (fun k hk => ⟨hk.1.imp .inl id, hk.2⟩)
theorem VV.or2 {w W : World} {P Q : Nat → Prop} {v : Value} {xs : List Int} (h : VV w Q W v xs) : VV w (fun k => P k ∨ Q k) W v xs := Kd.V_mono h (fun k hk => ⟨hk.1.imp .inr id, hk.2⟩)
theorem VV.out {w W : World} {P : Nat → Prop} {v : Value} {xs : List Int} (h : VV w P W v xs) (base : Nat) : Kd.V (Kd.int .u32) 143 W base (fun k => P k ∨ w.heap.size ≤ k) v xs := Kd.V_map h (fun _ hf => Kd.F_mono hf (fun k hk => hk.1))
theorem VV.none {w W : World} {P : Nat → Prop} : VV w P W (.slice none 0 0) [] := Kd.V_nil _ _ _ _ _
theorem blk_after {W W1 : World} {b : Nat} {o : Obj} (h : W.heap[b]? = some o) (hb : Below W.heap.size W W1) : W1.heap[b]? = some o := (hb.block b (lt_of_heap h)).trans h
theorem blk_next {W : World} {b : Nat} {o : Obj} (h : W.heap[b]? = some o) (o' : Obj) : (W.alloc o').heap[b]? = some o := blk_after h (H.below_alloc' W o')
theorem heap3 (w : World) (a b c : Obj) : (((w.alloc a).alloc b).alloc c).heap[w.heap.size]? = some a ∧ (((w.alloc a).alloc b).alloc c).heap[w.heap.size + 1]? = some b ∧ (((w.alloc a).alloc b).alloc c).heap[w.heap.size + 2]? = some c ∧ (((w.alloc a).alloc b).alloc c).heap.size = w.heap.size + 3 := by
  have h1 := heap_alloc_new w a
  have h2 := heap_alloc_new (w.alloc a) b
  have h3 := heap_alloc_new ((w.alloc a).alloc b) c
  have e2 : (w.alloc a).heap.size = w.heap.size + 1 := by simp
  have e3 : ((w.alloc a).alloc b).heap.size = w.heap.size + 2 := by simp
  rw [e2] at h2
  rw [e3] at h3
  exact ⟨blk_next (blk_next h1 b) c, blk_next h2 c, h3, by simp⟩
theorem two_cells {W : World} {b t : Nat} {x y : Value} {fr : Nat × Nat} (h : W.heap[b]? = some (.cells #[x, y] t fr)) : W.cell? ⟨b, 0, none⟩ = some x ∧ W.cell? ⟨b, 1, none⟩ = some y := ⟨by rw [Lib.cell_of_heap h]; rfl, by rw [Lib.cell_of_heap h]; rfl⟩
theorem two_free {W : World} {b t : Nat} {cs : Array Value} (h : W.heap[b]? = some (.cells cs t (0, 0))) : (∀ i, W.frozen? ⟨b, i, none⟩ = false) ∧ b < W.heap.size := ⟨fun i => Lib.frozen_of_heap h i, lt_of_heap h⟩
def fracF (a0 : Bool) (l0 : List Int) (a1 : Bool) (l1 : List Int) : Option (Bool × List Int × Bool × List Int) :=
  if okN l0 = true ∧ okN l1 = true ∧ (l0.length ≤ 1099511627775 ∧ l1.length ≤ 1099511627775) ∧ a1 = false ∧ 0 < val l1 ∧ (a0 = true → 0 < val l0) then
    some (a0, cn ((val l0).toNat / Nat.gcd (val l0).toNat (val l1).toNat), false, if (val l1).toNat / Nat.gcd (val l0).toNat (val l1).toNat = 1 then [] else cn ((val l1).toNat / Nat.gcd (val l0).toNat (val l1).toNat))
  else none
structure FrB (w W : World) (g : Nat) (n d x : Array Value) : Prop where
  n : W.heap[w.heap.size]? = some (.cells n 94 (0, 0))
  d : W.heap[w.heap.size + 1]? = some (.cells d 94 (0, 0))
  r : W.heap[w.heap.size + 2]? = some (.cells #[.bool false, .slice none 0 0, .bool false, .slice none 0 0] 96 (0, 0))
  x : W.heap[g]? = some (.cells x 94 (0, 0))
  g : w.heap.size + 3 ≤ g
theorem FrB.below {w W W1 : World} {g : Nat} {n d x : Array Value} (h : FrB w W g n d x) (hb : Below W.heap.size W W1) : FrB w W1 g n d x := ⟨blk_after h.n hb, blk_after h.d hb, blk_after h.r hb, blk_after h.x hb, h.g⟩
theorem FrB.setN {w W : World} {g : Nat} {n d x : Array Value} (h : FrB w W g n d x) (i : Nat) (u : Value) : FrB w (W.setCell ⟨w.heap.size, i, none⟩ u) g (n.setIfInBounds i u) d x :=
  ⟨heap_setCell h.n u, by rw [heap_setCell_other _ _ _ _ (by show w.heap.size + 1 ≠ w.heap.size; omega)]; exact h.d, by rw [heap_setCell_other _ _ _ _ (by show w.heap.size + 2 ≠ w.heap.size; omega)]; exact h.r, by rw [heap_setCell_other _ _ _ _ (by show g ≠ w.heap.size; have := h.g; omega)]; exact h.x, h.g⟩
theorem FrB.setD {w W : World} {g : Nat} {n d x : Array Value} (h : FrB w W g n d x) (i : Nat) (u : Value) : FrB w (W.setCell ⟨w.heap.size + 1, i, none⟩ u) g n (d.setIfInBounds i u) x :=
  ⟨by rw [heap_setCell_other _ _ _ _ (by show w.heap.size ≠ w.heap.size + 1; omega)]; exact h.n, heap_setCell h.d u, by rw [heap_setCell_other _ _ _ _ (by show w.heap.size + 2 ≠ w.heap.size + 1; omega)]; exact h.r, by rw [heap_setCell_other _ _ _ _ (by show g ≠ w.heap.size + 1; have := h.g; omega)]; exact h.x, h.g⟩
set_option maxHeartbeats 4000000 in
theorem fracG (a0_0 : Bool) (P0_1_ : Nat → Prop) (A0_1 : Option Addr) (c0_1 : Nat) (l0_1 : List Int) (a1_0 : Bool) (P1_1_ : Nat → Prop) (A1_1 : Option Addr) (c1_1 : Nat) (l1_1 : List Int) (r1 : Bool) (r2 : List Int) (r3 : Bool) (r4 : List Int) (w : World)
    (hs0_1 : Kd.V (Kd.int .u32) 143 w w.heap.size (fun k_ => P0_1_ k_) (.slice A0_1 l0_1.length c0_1) l0_1) (hs1_1 : Kd.V (Kd.int .u32) 143 w w.heap.size (fun k_ => P1_1_ k_) (.slice A1_1 l1_1.length c1_1) l1_1) (h : fracF a0_0 l0_1 a1_0 l1_1 = some (r1, r2, r3, r4)) :
    Calls Tryz.prog 140 #[.agg #[.bool a0_0, .slice A0_1 l0_1.length c0_1], .agg #[.bool a1_0, .slice A1_1 l1_1.length c1_1]] w fun e w' => ∃ v1_ v3_ : Value, e = .returned (.agg #[.bool r1, v1_, .bool r3, v3_]) ∧
      Kd.V (Kd.int .u32) 143 w' w.heap.size (fun k_ => ((P0_1_ k_ ∨ P1_1_ k_) ∨ w.heap.size ≤ k_)) v1_ r2 ∧ Kd.V (Kd.int .u32) 143 w' w.heap.size (fun k_ => ((P0_1_ k_ ∨ P1_1_ k_) ∨ w.heap.size ≤ k_)) v3_ r4 ∧ Below w.heap.size w w' := by
  obtain ⟨⟨g0, g1, ⟨h2, h3⟩, rfl, h4, h5⟩, er⟩ := some_of_if h
  obtain ⟨i0, t0⟩ := okN_iff.1 g0
  obtain ⟨i1, t1⟩ := okN_iff.1 g1
  obtain ⟨n, hn⟩ : ∃ n : Nat, val l0_1 = n := ⟨(val l0_1).toNat, by have := val_nonneg i0; omega⟩
  obtain ⟨d, hd⟩ : ∃ d : Nat, val l1_1 = d := ⟨(val l1_1).toNat, by omega⟩
  have e0 := eq_cn i0 t0
  have e1 := eq_cn i1 t1
  rw [hn, Int.toNat_natCast] at e0
  rw [hd, Int.toNat_natCast] at e1
  subst e0
  subst e1
  rw [hn, hd, Int.toNat_natCast, Int.toNat_natCast] at er
  rw [hd] at h4
  rw [hn] at h5
  have zn : Sz n := h2
  have zd : Sz d := h3
  have d0 : 0 < d := by omega
  simp only [Prod.mk.injEq] at er
  obtain ⟨rfl, e2, rfl, e4⟩ := er
  have gp : 0 < Nat.gcd n d := Nat.gcd_pos_of_pos_right _ d0
  have zg : Sz (Nat.gcd n d) := zd.le (Nat.gcd_le_right _ d0)
  obtain ⟨kg, hkg⟩ := Ev.rounds (gcd_f a0_0 false zn zd)
  have hVn := fun W hb => VV.old (W := W) hs0_1 hb
  have hVd := fun W hb => VV.old (W := W) hs1_1 hb
  have HG := Lib.hid (fun W (hb : Below w.heap.size w W) => sosoptnum_Gcd.calls kg a0_0 _ A0_1 c0_1 (cn n) false _ A1_1 c1_1 (cn d) false (cn (Nat.gcd n d)) W ((hVn W hb).give W.heap.size) ((hVd W hb).give W.heap.size) hkg)
  have HVn := Lib.hid hVn
  have HVd := Lib.hid hVd
  have HZ := Lib.hid (And.intro zn (And.intro zd (And.intro zg (And.intro gp d0))))
  have H5 := Lib.hid h5
  have HE := Lib.hid (And.intro e2 e4)
  obtain ⟨gb, hgb⟩ : ∃ gb, gb = Nat.gcd n d := ⟨_, rfl⟩
  have HGB := Lib.hid hgb
  rw [← hgb] at HG
  clear hs0_1 hs1_1 h g0 g1 h2 h3 h4 h5 i0 t0 i1 t1 hn hd zn zd d0 e2 e4 gp zg hkg hVn hVd hgb
  go_enter Tryz.func140, Tryz.ntmps140
  go_wp2_with fail
  refine (HG.out _ (below_alloc (below_alloc (below_alloc (below_refl w) _) _) _)).mono ?_
  rintro e w1 ⟨vg, rfl, hvg, hb1⟩
  obtain ⟨GA, gc, rfl⟩ := Kd.V_slice hvg
  obtain ⟨q0, q1, q2, q3⟩ := heap3 w (.cells #[.bool a0_0, .slice A0_1 (cn n).length c0_1] 94) (.cells #[.bool false, .slice A1_1 (cn d).length c1_1] 94) (.cells #[.bool false, .slice none 0 0, .bool false, .slice none 0 0] 96)
  have b2 := (hb1.block _ (lt_of_heap q0)).trans q0
  have b3 := (hb1.block _ (lt_of_heap q1)).trans q1
  have b4 := (hb1.block _ (lt_of_heap q2)).trans q2
  have hs1 : w.heap.size + 3 ≤ w1.heap.size := by have := hb1.size; omega
  have HB1 := Lib.hid (below_then (below_alloc (below_alloc (below_alloc (below_refl w) _) _) _) (by omega) hb1)
  have HVg := Lib.hid (VV.both (w := w) hvg (by omega))
  have HF1 := Lib.hid (show FrB w (w1.alloc (.cells #[.bool false, .slice GA (cn gb).length gc] 94)) w1.heap.size _ _ _ from ⟨blk_next b2 _, blk_next b3 _, blk_next b4 _, heap_alloc_new w1 _, hs1⟩)
  clear hvg hb1 q0 q1 q2 q3 b2 b3 b4
  obtain ⟨rb, hrb, hb10, hb11⟩ := bits_f false HZ.out.2.2.1
  rw [← HGB.out] at hrb hb10 hb11
  obtain ⟨kb, hkb⟩ := Ev.rounds hrb
  have HVg1 := Lib.hid (HVg.out.below (below_alloc' w1 (.cells #[.bool false, .slice GA (cn gb).length gc] 94)))
  have HBI := Lib.hid (sosoptnum_Bits.calls kb false GA gc (cn gb) rb _ HVg1.out.reads.2 HVg1.out.reads.1 hkb)
  clear hrb hkb
  have H11 := Lib.hid (And.intro hb10 hb11)
  clear hb10 hb11
  go_wp2_with fail
  refine HBI.out.mono ?_
  rintro e w2 ⟨rfl, hb2⟩
  have HF2 := Lib.hid (HF1.out.below hb2)
  have HB2 := Lib.hid (below_then (below_alloc HB1.out _) (Nat.le_trans HB1.out.size (by simp)) hb2)
  have HVg2 := Lib.hid (HVg1.out.below hb2)
  have hs2 : w.heap.size + 3 ≤ w2.heap.size := by have := hb2.size; simp at this; omega
  clear hb2 HBI
  have hcase : gb = 1 ∨ 1 < gb := by have := HZ.out.2.2.2.1; have := HGB.out; omega
  rcases hcase with hg1 | hg1
  · have hr1 := H11.out.1.2 hg1
    subst hr1
    have hgg := HGB.out
    rw [hg1] at hgg
    have HN2 := Lib.hid (show r2 = cn n by rw [← HE.out.1, ← hgg, Nat.div_one])
    have HD2 := Lib.hid (show r4 = if d = 1 then [] else cn d by rw [← HE.out.2, ← hgg, Nat.div_one])
    have HVN := Lib.hid (VV.or1 (Q := P1_1_) (HVn.out w2 HB2.out))
    have HVD := Lib.hid (VV.or2 (P := P0_1_) (HVd.out w2 HB2.out))
    obtain ⟨d0', d1'⟩ := two_cells HF2.out.d
    obtain ⟨r, hr, hr1, hr2⟩ := bits_f false (n := d) HZ.out.2.1
    obtain ⟨kr, hkr⟩ := Ev.rounds hr
    have HBT := Lib.hid (sosoptnum_Bits.calls kr false A1_1 c1_1 (cn d) r _ HVD.out.reads.2 HVD.out.reads.1 hkr)
    have HR := Lib.hid (And.intro hr1 hr2)
    clear hr hkr hr1 hr2 hgg hg1
    go_wp2_with fail
    refine HBT.out.mono ?_
    rintro e w5 ⟨rfl, hb5⟩
    have HVN5 := Lib.hid (HVN.out.below hb5)
    have HVD5 := Lib.hid (HVD.out.below hb5)
    have HF5a := HF2.out.below hb5
    have HB5 := Lib.hid (below_then HB2.out HB2.out.size hb5)
    obtain ⟨n0, n1⟩ := two_cells HF5a.n
    obtain ⟨d0, d1⟩ := two_cells HF5a.d
    obtain ⟨dz, dl⟩ := two_free HF5a.d
    have dz0 := dz 0
    have dz1 := dz 1
    have k0 : w5.cell? ⟨w.heap.size + 1 + 1, 0, none⟩ = some (.bool false) := by rw [show w.heap.size + 1 + 1 = w.heap.size + 2 from rfl, Lib.cell_of_heap HF5a.r]; rfl
    have k1 : w5.cell? ⟨w.heap.size + 1 + 1, 1, none⟩ = some (.slice none 0 0) := by rw [show w.heap.size + 1 + 1 = w.heap.size + 2 from rfl, Lib.cell_of_heap HF5a.r]; rfl
    have k2 : w5.cell? ⟨w.heap.size + 1 + 1, 2, none⟩ = some (.bool false) := by rw [show w.heap.size + 1 + 1 = w.heap.size + 2 from rfl, Lib.cell_of_heap HF5a.r]; rfl
    have k3 : w5.cell? ⟨w.heap.size + 1 + 1, 3, none⟩ = some (.slice none 0 0) := by rw [show w.heap.size + 1 + 1 = w.heap.size + 2 from rfl, Lib.cell_of_heap HF5a.r]; rfl
    have kz : ∀ i, w5.frozen? ⟨w.heap.size + 1 + 1, i, none⟩ = false := (two_free HF5a.r).1
    have kz0 := kz 0
    have kz1 := kz 1
    have kz2 := kz 2
    have kz3 := kz 3
    have kl : w.heap.size + 1 + 1 < w5.heap.size := (two_free HF5a.r).2
    have HF5 := Lib.hid HF5a
    clear HF5a dz kz hb5 HBT
    have hrc : (r = 1 ∧ d = 1) ∨ ((r == 1) = false ∧ d ≠ 1) := by
      by_cases h : d = 1
      · exact .inl ⟨HR.out.1.2 h, h⟩
      · exact .inr ⟨beq_eq_false_iff_ne.2 (fun e => h (HR.out.1.1 e)), h⟩
    rcases hrc with ⟨hr, h1⟩ | ⟨hr, h1⟩
    · subst hr
      have H1 := Lib.hid h1
      clear h1
      go_wp2
      refine bodyPost_ret (v := .agg #[.bool a0_0, .slice A0_1 (cn n).length c0_1, .bool false, .slice none 0 0]) (by simp [results, Tryz.results140, go_sem, k0, k1, k2, k3, kl]) rfl ⟨_, _, rfl, ?_, ?_, ?_⟩
      · rw [HN2.out]
        exact (((((((HVN5.out.set (i := 0) (.inr (.inl rfl)) _).set (i := 1) (.inr (.inl rfl)) _).set (i := 0) (.inr (.inr rfl)) _).set (i := 1) (.inr (.inr rfl)) _).set (i := 2) (.inr (.inr rfl)) _).set (i := 3) (.inr (.inr rfl)) _)).out _
      · rw [HD2.out, if_pos H1.out]
        exact VV.none.out _
      · exact ((((((HB5.out.setCell (p := ⟨w.heap.size + 1, 0, none⟩) (by show w.heap.size ≤ w.heap.size + 1; omega) _).setCell (p := ⟨w.heap.size + 1, 1, none⟩) (by show w.heap.size ≤ w.heap.size + 1; omega) _).setCell (p := ⟨w.heap.size + 1 + 1, 0, none⟩) (by show w.heap.size ≤ w.heap.size + 1 + 1; omega) _).setCell (p := ⟨w.heap.size + 1 + 1, 1, none⟩) (by show w.heap.size ≤ w.heap.size + 1 + 1; omega) _).setCell (p := ⟨w.heap.size + 1 + 1, 2, none⟩) (by show w.heap.size ≤ w.heap.size + 1 + 1; omega) _).setCell (p := ⟨w.heap.size + 1 + 1, 3, none⟩) (by show w.heap.size ≤ w.heap.size + 1 + 1; omega) _)
    · have H1 := Lib.hid h1
      clear h1
      go_wp2
      refine bodyPost_ret (v := .agg #[.bool a0_0, .slice A0_1 (cn n).length c0_1, .bool false, .slice A1_1 (cn (d)).length c1_1]) (by simp [results, Tryz.results140, go_sem, k0, k1, k2, k3, kl]) rfl ⟨_, _, rfl, ?_, ?_, ?_⟩
      · rw [HN2.out]
        exact ((((HVN5.out.set (i := 0) (.inr (.inr rfl)) _).set (i := 1) (.inr (.inr rfl)) _).set (i := 2) (.inr (.inr rfl)) _).set (i := 3) (.inr (.inr rfl)) _).out _
      · rw [HD2.out, if_neg H1.out]
        exact ((((HVD5.out.set (i := 0) (.inr (.inr rfl)) _).set (i := 1) (.inr (.inr rfl)) _).set (i := 2) (.inr (.inr rfl)) _).set (i := 3) (.inr (.inr rfl)) _).out _
      · exact ((((HB5.out.setCell (p := ⟨w.heap.size + 1 + 1, 0, none⟩) (by show w.heap.size ≤ w.heap.size + 1 + 1; omega) _).setCell (p := ⟨w.heap.size + 1 + 1, 1, none⟩) (by show w.heap.size ≤ w.heap.size + 1 + 1; omega) _).setCell (p := ⟨w.heap.size + 1 + 1, 2, none⟩) (by show w.heap.size ≤ w.heap.size + 1 + 1; omega) _).setCell (p := ⟨w.heap.size + 1 + 1, 3, none⟩) (by show w.heap.size ≤ w.heap.size + 1 + 1; omega) _)
  · have hr1 : 1 < rb := H11.out.2.2 hg1
    obtain ⟨n0, n1⟩ := two_cells HF2.out.n
    obtain ⟨x0, x1⟩ := two_cells HF2.out.x
    have hdv : gb ∣ n ∧ gb ∣ d := by rw [HGB.out]; exact ⟨Nat.gcd_dvd_left _ _, Nat.gcd_dvd_right _ _⟩
    have en : ((a0_0 != false) && decide (0 < (cn (n / gb)).length)) = a0_0 := by
      cases a0_0
      · rfl
      · have hn0 := H5.out rfl
        have : 0 < (cn (n / gb)).length := cn_ne (by have := Nat.div_pos (Nat.le_of_dvd (by omega) hdv.1) (by omega); omega)
        simp [this]
    have zgb : Sz gb := by rw [HGB.out]; exact HZ.out.2.2.1
    have hq := quoRem_f a0_0 false (x := n) (y := gb) HZ.out.1 zgb (by omega)
    rw [en] at hq
    have HQ1 := Lib.hid (nQR.calls a0_0 A0_1 c0_1 (cn n) false GA gc (cn gb) _ _ _ _ w2 (HVn.out w2 HB2.out).reads.2 (HVn.out w2 HB2.out).reads.1 HVg2.out.reads.2 HVg2.out.reads.1 hq)
    have HD := Lib.hid hdv
    have HZG := Lib.hid zgb
    clear hq en hdv zgb
    go_wp2_with fail
    refine HQ1.out.mono ?_
    rintro e w3 ⟨v1, v3, rfl, hv1, hv3, hb3⟩
    obtain ⟨QA, qc, rfl⟩ := Kd.V_slice hv1
    obtain ⟨QB, qe, rfl⟩ := Kd.V_slice hv3
    have HVq := Lib.hid (((VV.new (P := fun k => P0_1_ k ∨ P1_1_ k) hv1 hs2).set (i := 0) (.inl rfl) (.bool a0_0)).set (i := 1) (.inl rfl) (.slice QA (cn (n / gb)).length qc))
    have HVg3 := Lib.hid (((HVg2.out.below hb3).set (i := 0) (.inl rfl) (.bool a0_0)).set (i := 1) (.inl rfl) (.slice QA (cn (n / gb)).length qc))
    have HVd3 := Lib.hid ((((HVd.out w2 HB2.out).below hb3).set (i := 0) (.inl rfl) (.bool a0_0)).set (i := 1) (.inl rfl) (.slice QA (cn (n / gb)).length qc))
    have HF3a := HF2.out.below hb3
    have HF3 := Lib.hid ((HF3a.setN 0 (.bool a0_0)).setN 1 (.slice QA (cn (n / gb)).length qc))
    have hs3 : w.heap.size + 3 ≤ w3.heap.size := by have := hb3.size; omega
    have HB3 := Lib.hid (((below_then HB2.out HB2.out.size hb3).setCell (p := ⟨w.heap.size, 0, none⟩) (Nat.le_refl _) (.bool a0_0)).setCell (p := ⟨w.heap.size, 1, none⟩) (Nat.le_refl _) (.slice QA (cn (n / gb)).length qc))
    obtain ⟨n0', n1'⟩ := two_cells HF3a.n
    obtain ⟨nz, nl⟩ := two_free HF3a.n
    have nz0 := nz 0
    have nz1 := nz 1
    obtain ⟨d0', d1'⟩ := two_cells HF3a.d
    obtain ⟨x0', x1'⟩ := two_cells HF3a.x
    clear HF3a hv1 hv3 hb3 nz n0 n1 x0 x1
    have hq2 := quoRem_f false false (x := d) (y := gb) HZ.out.2.1 HZG.out (by omega)
    have HQ2 := Lib.hid (fun W C1 C2 => nQR.calls false A1_1 c1_1 (cn d) false GA gc (cn gb) _ _ _ _ W C1 HVd3.out.reads.1 C2 HVg3.out.reads.1 hq2)
    clear hq2
    go_wp2_with fail
    refine (HQ2.out _ HVd3.out.reads.2 HVg3.out.reads.2).mono ?_
    rintro e w4 ⟨v5, v6, rfl, hv5, hv6, hb4⟩
    obtain ⟨DA, dc, rfl⟩ := Kd.V_slice hv5
    obtain ⟨DB, de, rfl⟩ := Kd.V_slice hv6
    have hs3' : w.heap.size + 3 ≤ ((w3.setCell ⟨w.heap.size, 0, none⟩ (.bool a0_0)).setCell ⟨w.heap.size, 1, none⟩ (.slice QA (cn (n / gb)).length qc)).heap.size := by simpa using hs3
    have HVD := Lib.hid (((VV.new (P := fun k => P0_1_ k ∨ P1_1_ k) hv5 hs3').set (i := 0) (.inr (.inl rfl)) (.bool false)).set (i := 1) (.inr (.inl rfl)) (.slice DA (cn (d / gb)).length dc))
    have HVN := Lib.hid (((HVq.out.below hb4).set (i := 0) (.inr (.inl rfl)) (.bool false)).set (i := 1) (.inr (.inl rfl)) (.slice DA (cn (d / gb)).length dc))
    have HF4a := HF3.out.below hb4
    have HF4 := Lib.hid ((HF4a.setD 0 (.bool false)).setD 1 (.slice DA (cn (d / gb)).length dc))
    have HB4 := Lib.hid (((below_then HB3.out HB3.out.size hb4).setCell (p := ⟨w.heap.size + 1, 0, none⟩) (by show w.heap.size ≤ w.heap.size + 1; omega) (.bool false)).setCell (p := ⟨w.heap.size + 1, 1, none⟩) (by show w.heap.size ≤ w.heap.size + 1; omega) (.slice DA (cn (d / gb)).length dc))
    obtain ⟨dz, dl⟩ := two_free HF4a.d
    have dz0 := dz 0
    have dz1 := dz 1
    obtain ⟨c0, c1⟩ := two_cells HF4.out.d
    obtain ⟨d0, d1⟩ := two_cells HF4a.d
    have edb : (false && decide (0 < (cn (d % gb)).length)) = false := rfl
    obtain ⟨r, hr, hr1, hr2⟩ := bits_f false (n := d / gb) (HZ.out.2.1.le (Nat.div_le_self _ _))
    obtain ⟨kr, hkr⟩ := Ev.rounds hr
    have HBT := Lib.hid (sosoptnum_Bits.calls kr false DA dc (cn (d / gb)) r _ HVD.out.reads.2 HVD.out.reads.1 hkr)
    have HR := Lib.hid (And.intro hr1 hr2)
    clear HF4a hv5 hv6 hb4 dz hr hkr hr1 hr2 hs3' n0' n1' d0' d1' x0' x1' nz0 nz1
    have HN2 := Lib.hid (show r2 = cn (n / gb) by rw [← HE.out.1, HGB.out])
    have HD2 := Lib.hid (show r4 = if d / gb = 1 then [] else cn (d / gb) by rw [← HE.out.2, HGB.out])
    go_wp2_with fail
    clear d0 d1 dz0 dz1 dl nl c0 c1
    refine HBT.out.mono ?_
    rintro e w5 ⟨rfl, hb5⟩
    have HVN5 := Lib.hid (HVN.out.below hb5)
    have HVD5 := Lib.hid (HVD.out.below hb5)
    have HF5a := HF4.out.below hb5
    have HB5 := Lib.hid (below_then HB4.out HB4.out.size hb5)
    obtain ⟨n0, n1⟩ := two_cells HF5a.n
    obtain ⟨d0, d1⟩ := two_cells HF5a.d
    obtain ⟨dz, dl⟩ := two_free HF5a.d
    have dz0 := dz 0
    have dz1 := dz 1
    have k0 : w5.cell? ⟨w.heap.size + 1 + 1, 0, none⟩ = some (.bool false) := by rw [show w.heap.size + 1 + 1 = w.heap.size + 2 from rfl, Lib.cell_of_heap HF5a.r]; rfl
    have k1 : w5.cell? ⟨w.heap.size + 1 + 1, 1, none⟩ = some (.slice none 0 0) := by rw [show w.heap.size + 1 + 1 = w.heap.size + 2 from rfl, Lib.cell_of_heap HF5a.r]; rfl
    have k2 : w5.cell? ⟨w.heap.size + 1 + 1, 2, none⟩ = some (.bool false) := by rw [show w.heap.size + 1 + 1 = w.heap.size + 2 from rfl, Lib.cell_of_heap HF5a.r]; rfl
    have k3 : w5.cell? ⟨w.heap.size + 1 + 1, 3, none⟩ = some (.slice none 0 0) := by rw [show w.heap.size + 1 + 1 = w.heap.size + 2 from rfl, Lib.cell_of_heap HF5a.r]; rfl
    have kz : ∀ i, w5.frozen? ⟨w.heap.size + 1 + 1, i, none⟩ = false := (two_free HF5a.r).1
    have kz0 := kz 0
    have kz1 := kz 1
    have kz2 := kz 2
    have kz3 := kz 3
    have kl : w.heap.size + 1 + 1 < w5.heap.size := (two_free HF5a.r).2
    have HF5 := Lib.hid HF5a
    clear HF5a dz kz hb5 HBT
    have hrc : (r = 1 ∧ d / gb = 1) ∨ ((r == 1) = false ∧ d / gb ≠ 1) := by
      by_cases h : d / gb = 1
      · exact .inl ⟨HR.out.1.2 h, h⟩
      · exact .inr ⟨beq_eq_false_iff_ne.2 (fun e => h (HR.out.1.1 e)), h⟩
    rcases hrc with ⟨hr, h1⟩ | ⟨hr, h1⟩
    · subst hr
      have H1 := Lib.hid h1
      clear h1
      go_wp2
      refine bodyPost_ret (v := .agg #[.bool a0_0, .slice QA (cn (n / gb)).length qc, .bool false, .slice none 0 0]) (by simp [results, Tryz.results140, go_sem, k0, k1, k2, k3, kl]) rfl ⟨_, _, rfl, ?_, ?_, ?_⟩
      · rw [HN2.out]
        exact (((((((HVN5.out.set (i := 0) (.inr (.inl rfl)) _).set (i := 1) (.inr (.inl rfl)) _).set (i := 0) (.inr (.inr rfl)) _).set (i := 1) (.inr (.inr rfl)) _).set (i := 2) (.inr (.inr rfl)) _).set (i := 3) (.inr (.inr rfl)) _)).out _
      · rw [HD2.out, if_pos H1.out]
        exact VV.none.out _
      · exact ((((((HB5.out.setCell (p := ⟨w.heap.size + 1, 0, none⟩) (by show w.heap.size ≤ w.heap.size + 1; omega) _).setCell (p := ⟨w.heap.size + 1, 1, none⟩) (by show w.heap.size ≤ w.heap.size + 1; omega) _).setCell (p := ⟨w.heap.size + 1 + 1, 0, none⟩) (by show w.heap.size ≤ w.heap.size + 1 + 1; omega) _).setCell (p := ⟨w.heap.size + 1 + 1, 1, none⟩) (by show w.heap.size ≤ w.heap.size + 1 + 1; omega) _).setCell (p := ⟨w.heap.size + 1 + 1, 2, none⟩) (by show w.heap.size ≤ w.heap.size + 1 + 1; omega) _).setCell (p := ⟨w.heap.size + 1 + 1, 3, none⟩) (by show w.heap.size ≤ w.heap.size + 1 + 1; omega) _)
    · have H1 := Lib.hid h1
      clear h1
      go_wp2
      refine bodyPost_ret (v := .agg #[.bool a0_0, .slice QA (cn (n / gb)).length qc, .bool false, .slice DA (cn (d / gb)).length dc]) (by simp [results, Tryz.results140, go_sem, k0, k1, k2, k3, kl]) rfl ⟨_, _, rfl, ?_, ?_, ?_⟩
      · rw [HN2.out]
        exact ((((HVN5.out.set (i := 0) (.inr (.inr rfl)) _).set (i := 1) (.inr (.inr rfl)) _).set (i := 2) (.inr (.inr rfl)) _).set (i := 3) (.inr (.inr rfl)) _).out _
      · rw [HD2.out, if_neg H1.out]
        exact ((((HVD5.out.set (i := 0) (.inr (.inr rfl)) _).set (i := 1) (.inr (.inr rfl)) _).set (i := 2) (.inr (.inr rfl)) _).set (i := 3) (.inr (.inr rfl)) _).out _
      · exact ((((HB5.out.setCell (p := ⟨w.heap.size + 1 + 1, 0, none⟩) (by show w.heap.size ≤ w.heap.size + 1 + 1; omega) _).setCell (p := ⟨w.heap.size + 1 + 1, 1, none⟩) (by show w.heap.size ≤ w.heap.size + 1 + 1; omega) _).setCell (p := ⟨w.heap.size + 1 + 1, 2, none⟩) (by show w.heap.size ≤ w.heap.size + 1 + 1; omega) _).setCell (p := ⟨w.heap.size + 1 + 1, 3, none⟩) (by show w.heap.size ≤ w.heap.size + 1 + 1; omega) _)
end Go.Proofs.YtoflmheodiajaaaGreatDoor.H
