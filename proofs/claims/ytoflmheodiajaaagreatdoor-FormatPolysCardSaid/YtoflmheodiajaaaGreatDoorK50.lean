import Derived.Test.YtoflmheodiajaaaGreatDoorK49
namespace Go.Proofs.YtoflmheodiajaaaGreatDoor
open Go.RowKit
set_option linter.unusedVariables false
set_option linter.unusedSimpArgs false
variable {Bs : Nat}
theorem Oth.keepsR {B b : Nat} {w w1 : World} {T : List TypeId} {bad : Bool} {l : List UInt8} (h : Oth B b w w1) (hBs : Bs ≤ B) (hb : IsR bad B b l w) (h1 : 84 ∉ T) (h2 : 5 ∉ T) : Keeps Bs T w w1 := by
  intro k cs t fr hk hT
  obtain ⟨p, _, hBb, v, hbk, _⟩ := hb
  rcases hT with hlt | ht
  · rw [h.1.block k (by omega)]; exact hk
  · refine h.2 k cs t fr hk ?_ (fun e => h2 (e ▸ ht))
    intro e
    subst e
    rw [hbk] at hk
    simp only [Option.some.injEq, Obj.cells.injEq] at hk
    exact h1 (hk.2.1 ▸ ht)
def WpRelR (B b : Nat) (l : List UInt8) (vars : Nat) (ts : List TermV) (w : World) (i : Value) (W : World) : Prop :=
  ∃ k : Nat, i = .int .i64 k ∧ k ≤ ts.length ∧ IsR false B b (l ++ headL vars ts.length ++ termsTo ts k) W ∧ Oth B b w W
set_option maxHeartbeats 2000000 in
set_option maxRecDepth 100000 in
theorem writerPolyRef_any (A : Option Addr) (ca : Nat) (ts : List TermV) (vars : Nat) (B b : Nat) (l : List UInt8) (w : World) (hBs : Bs ≤ B) (hBw : B ≤ w.heap.size) (hA : RdT Bs w A ts)
    (hc : ts.length ≤ ca) (hl : ts.length < 100) (hd : ∀ i, i < ts.length → (tm ts i).c.size ≤ 1000000) (hv : vars ≤ 6) (hok : polyOk okF zF vars ts = true) (hex : ∀ i, i < ts.length → ∀ j, j < (tm ts i).xs.length → 0 ≤ el (tm ts i).xs j ∧ el (tm ts i).xs j < 100)
    (hxs : ∀ i, i < ts.length → (tm ts i).xs.length ≤ 6) (hlen : (l ++ polyL vars ts).length ≤ 140737488355328) (h : IsR false B b l w) :
    Calls Tryz.prog 16 #[.pointer (some ⟨b, 0, none⟩), .agg #[.int .i64 vars, .slice A ts.length ca]] w fun e w' => e = .returned (.tuple #[]) ∧ IsR false B b (l ++ polyL vars ts) w' ∧ Oth B b w w' := by
  have HO := Lib.hid (fun W h1 h2 => (refValid_any (Bs := Bs) A ca ts vars W h1 h2 hc (by omega) hd))
  have HA := Lib.hid hA
  have HH := Lib.hid h
  have HEX := Lib.hid hex
  have HXS := Lib.hid hxs
  have HLEN := Lib.hid hlen
  have HOK := Lib.hid hok
  clear hA h hex hlen hok hd hxs
  have n1 := countRef_small (.pointer (some ⟨b, 0, none⟩)) vars (by omega)
  have n2 := countRef_small (.pointer (some ⟨b, 0, none⟩)) ts.length hl
  have N1 := Lib.hid n1
  have N2 := Lib.hid n2
  clear n1 n2
  go_enter Tryz.func16, Tryz.ntmps16
  go_wp2_with fail
  refine (HO.out _ (by simp; omega) (HA.out.below (below_alloc (below_refl _) _))).mono ?_
  rintro e w1 ⟨_, rfl, rfl, hb1⟩
  rw [HOK.out]
  obtain ⟨k1, _, hs1⟩ := box_kept hb1
  have hB1 : Below w.heap.size w w1 := below_then (below_alloc (below_refl w) _) (by simp) hb1
  have HB1 := Lib.hid hB1
  have k10 : w1.cell? ⟨w.heap.size, 0, none⟩ = some (.int .i64 vars) := k1 0
  have k11 : w1.cell? ⟨w.heap.size, 1, none⟩ = some (.slice A ts.length ca) := k1 1
  have HBX := Lib.hid (box_heap hb1)
  clear k1 hb1 hB1
  go_wp2_with fail
  have HW1 := Lib.hid (IsB.below HH.out HB1.out)
  have HP1 : (headL vars ts.length).length ≤ (polyL vars ts).length := by simp [polyL]
  have HL1 : l.length + (polyL vars ts).length ≤ 140737488355328 := by have := HLEN.out; simpa using this
  have hBL : Below w1.heap.size w1 (w1.alloc (.cells #[.string polyS, .string (decS vars), .string (decS ts.length)] 9)).drew := below_drew (below_alloc (below_refl w1) _)
  have hs3 := HB1.out.size
  have hline := lineRef_any false B b l [polyS, decS vars, decS ts.length] w1.heap.size 0 3 (w1.alloc (.cells #[.string polyS, .string (decS vars), .string (decS ts.length)] 9)).drew
    (IsB.below HW1.out hBL) (fun j x hx => by exact strs_new _ [polyS, decS vars, decS ts.length] _ j x hx) (by simp) (by simp) (by simp) (by show l.length + (headL vars ts.length).length ≤ _; omega) (by simp; omega)
  have HLI := Lib.hid hline
  have HBL := Lib.hid hBL
  clear hline hBL
  go_region_with (first | (go_at_call 36; (with_reducible refine (N1.out _).mono ?_); rintro e w' ⟨rfl, rfl⟩) | (go_at_call 36; (with_reducible refine (N2.out _).mono ?_); rintro e w' ⟨rfl, rfl⟩) | (go_at_call 35; refine HLI.out.mono ?_; rintro e w3 ⟨rfl, h3, hb3⟩; have H3 := Lib.hid h3; have HB3 := Lib.hid hb3; clear h3 hb3))
  all_goals (
    have hbb := HH.out
    have hbw : b < w.heap.size := by obtain ⟨_, _, h⟩ := hbb; exact h.lt
    have hbx3 := HB3.out.2 w.heap.size _ _ _ ((HBL.out.block w.heap.size (by omega)).trans HBX.out) (by omega) (by decide)
    have HO3 := Lib.hid ((Oth.of_below (Oth.refl B b w) hBw (below_then HB1.out HB1.out.size HBL.out)).trans HB3.out)
    have x0 : w3.cell? ⟨w.heap.size, 0, none⟩ = some (.int .i64 vars) := by rw [Lib.cell_of_heap hbx3]; rfl
    have x1 : w3.cell? ⟨w.heap.size, 1, none⟩ = some (.slice A ts.length ca) := by rw [Lib.cell_of_heap hbx3]; rfl
    clear hbb hbx3 k10 k11 N1 N2
    go_wp2_with fail
    go_loopw [30] (fun i W => WpRelR B b l vars ts w3 i W) (fun i _ => ts.length - (intOf i).toNat)
    case atStart =>
      refine ⟨0, rfl, by omega, ?_, Oth.refl _ _ _⟩
      rw [show l ++ headL vars ts.length ++ termsTo ts 0 = l ++ headL vars ts.length by simp [termsTo]]
      exact H3.out
    case round =>
      rename World => W0
      obtain ⟨k, rfl, hk, hwr, hor⟩ := hrel
      have HWR := Lib.hid hwr
      have HOR := Lib.hid hor
      clear hwr hor
      by_cases hlt : k < ts.length
      · have hR := HA.out.keeps ((HO3.out.trans HOR.out).keepsR hBs HH.out (T := [28, 3]) (by decide) (by decide))
        obtain ⟨ab, ao, rfl, hab, hcA⟩ := hR.plain (by omega)
        obtain ⟨hA1, hA2, hT1, hT2, hT3⟩ := hcA k hlt
        rw [show 2 * k = k * 2 by omega] at hA1 hA2
        obtain ⟨XA, hXA⟩ : ∃ XA, (tm ts k).A = XA := ⟨_, rfl⟩
        rw [hXA] at hA2 hT1
        clear hXA
        have HT := Lib.hid hT1
        have hx6 := HXS.out k hlt
        have HEK := Lib.hid (HEX.out k hlt)
        have e2 : (W0.alloc (.cells #[.string (tm ts k).c, .slice XA (tm ts k).xs.length (tm ts k).cap] 28)).heap.size = W0.heap.size + 1 := by simp
        have hmade := OwnStr.made (W0.alloc (.cells #[.string (tm ts k).c, .slice XA (tm ts k).xs.length (tm ts k).cap] 28)) [termS, (tm ts k).c] (by simp)
        have hbU := below_alloc (below_refl (W0.alloc (.cells #[.string (tm ts k).c, .slice XA (tm ts k).xs.length (tm ts k).cap] 28))) (.cells #[.string termS, .string (tm ts k).c] 9)
        rw [e2] at hmade hbU
        have HM := Lib.hid hmade
        have HBU := Lib.hid hbU
        have hoR := HOR.out.1.size
        clear hcA hR hmade hbU hT1
        go_wp2_with fail
        go_loopw [6, 40] (fun v i W => WordsRel (W0.heap.size + 1) (W0.alloc (.cells #[.string (tm ts k).c, .slice XA (tm ts k).xs.length (tm ts k).cap] 28)) (tm ts k) v i W) (fun _ i _ => (tm ts k).xs.length - (intOf i).toNat)
        case atStart =>
          exact ⟨0, rfl, by omega, by rw [List.take_zero]; exact HM.out, HBU.out, by simp⟩
        case round =>
          obtain ⟨j, rfl, hj, hown, hbW, hsW⟩ := hrel
          have HOWN := Lib.hid hown
          have HBW := Lib.hid hbW
          clear hown hbW
          by_cases hjl : j < (tm ts k).xs.length
          · obtain ⟨xb, xo, rfl, hxb, hxc⟩ := HT.out.plain (by omega)
            have hx1 := (below_alloc (below_refl W0) (.cells #[.string (tm ts k).c, .slice (some ⟨xb, xo, none⟩) (tm ts k).xs.length (tm ts k).cap] 28)).cell (p := ⟨xb, xo + j, none⟩) hxb
            have hx2 := (HBW.out.cell (p := ⟨xb, xo + j, none⟩) (by show xb < W0.heap.size + 1; omega)).trans (hx1.trans (hxc j hjl))
            obtain ⟨q1, q2⟩ := HEK.out j hjl
            have hnat := countRef_small (.pointer (some ⟨b, 0, none⟩)) (el (tm ts k).xs j).toNat (by omega)
            rw [Int.toNat_of_nonneg q1] at hnat
            have HNAT := Lib.hid hnat
            clear hxc hx1 hnat
            go_wp2_with fail
            refine (HNAT.out _).mono ?_
            rintro e w' ⟨rfl, rfl⟩
            go_wp2_with (at_builtin; refine appendStr (w0 := (W0.alloc (.cells #[.string (tm ts k).c, .slice (some ⟨xb, xo, none⟩) (tm ts k).xs.length (tm ts k).cap] 28))) (W0.heap.size + 1) rfl (.tmp 44) (.tmp 48) rfl _ _ _ rfl rfl HOWN.out HBW.out hsW (by simp; omega) ?_)
            intro v1 w4 ho4 hb4 hs4
            have HO4 := Lib.hid ho4
            have HB4 := Lib.hid hb4
            clear ho4 hb4
            go_wp2
            go_roundw
            case rel =>
              refine ⟨j + 1, by go_num, by omega, ?_, HB4.out, hs4⟩
              have := HO4.out
              rw [show termS :: (tm ts k).c :: List.map (fun x => decS x.toNat) (List.take (j + 1) (tm ts k).xs) = (termS :: (tm ts k).c :: List.map (fun x => decS x.toNat) (List.take j (tm ts k).xs)) ++ [decS (el (tm ts k).xs j).toNat] by
                rw [List.take_succ_eq_append_getElem hjl, el_at _ _ hjl]; simp]
              simpa [List.map_take] using this
            case measure => simp [intOf]; omega
          · obtain rfl : j = (tm ts k).xs.length := by omega
            obtain ⟨v0, c0, rfl, hc0, hv0, hcells⟩ := HOWN.out.read (by simp)
            have htw : termS :: (tm ts k).c :: List.map (fun x => decS x.toNat) (List.take (tm ts k).xs.length (tm ts k).xs) = termW (tm ts k) := by rw [List.take_length]; rfl
            rw [htw] at hc0 hcells ⊢
            obtain ⟨N, hN⟩ : ∃ N, (termW (tm ts k)).length = N := ⟨_, rfl⟩
            have hN2 : N ≤ 8 := by rw [← hN]; simp [termW]; omega
            have hbE : Below W0.heap.size W0 wr := below_mix (below_alloc (below_refl W0) _) (Nat.le_succ _) HBW.out
            have hlen1 := termsTo_le ts (show k + 1 ≤ ts.length by omega)
            have hlen2 : (polyL vars ts).length = (headL vars ts.length).length + (termsTo ts ts.length).length := by simp [polyL]
            have hlen3 : (termsTo ts (k + 1)).length = (termsTo ts k).length + (lineOf (termW (tm ts k))).length := by simp [termsTo]
            have hline := lineRef_any false B b (l ++ headL vars ts.length ++ termsTo ts k) (termW (tm ts k)) v0 0 c0 wr (IsB.below HWR.out hbE) hcells hv0 hc0 (by omega) (by simp only [List.length_append]; omega) (by have := hbE.size; have := HO3.out.1.size; omega)
            rw [hN] at hline hc0 ⊢
            have HLI2 := Lib.hid hline
            have HBE := Lib.hid hbE
            clear hline hbE hcells htw
            go_wp2_with fail
            refine HLI2.out.mono ?_
            rintro e w5 ⟨rfl, h5, hb5⟩
            have H5 := Lib.hid h5
            have HB5 := Lib.hid hb5
            clear h5 hb5
            go_wp2
            go_roundw
            case rel =>
              refine ⟨k + 1, by go_num, by omega, ?_, (Oth.of_below HOR.out (by have := HO3.out.1.size; omega) HBE.out).trans HB5.out⟩
              rw [show l ++ headL vars ts.length ++ termsTo ts (k + 1) = l ++ headL vars ts.length ++ termsTo ts k ++ lineOf (termW (tm ts k)) by simp [termsTo]]
              exact H5.out
            case measure => simp [intOf]; omega
      · obtain rfl : k = ts.length := by omega
        go_wp2
        go_end0
        refine ⟨rfl, ?_, HO3.out.trans HOR.out⟩
        rw [show l ++ polyL vars ts = l ++ headL vars ts.length ++ termsTo ts ts.length by simp [polyL]]
        exact HWR.out)
end Go.Proofs.YtoflmheodiajaaaGreatDoor
