import Derived.Test.YtoflmheodiajaaaGreatDoorK9
import Derived.Defers
import Derived.Recover
namespace Go.Proofs.YtoflmheodiajaaaGreatDoor
open Go.RowKit
set_option linter.unusedVariables false
set_option linter.unusedSimpArgs false
variable {Bs : Nat}
theorem Oth.keeps {B b : Nat} {w w1 : World} {T : List TypeId} {bs : List Value} (h : Oth B b w w1) (hBs : Bs ≤ B) (hb : IsB 106 [] B b bs w) (h1 : 106 ∉ T) (h2 : 5 ∉ T) : Keeps Bs T w w1 := by
  intro k cs t fr hk hT
  obtain ⟨p, _, hBb, v, hbk, _⟩ := hb
  rcases hT with hlt | ht
  · rw [h.1.block k (by omega)]; exact hk
  · refine h.2 k cs t fr hk ?_ (fun e => h2 (e ▸ ht))
    intro e
    subst e
    rw [hbk] at hk
    simp only [Option.some.injEq, Obj.cells.injEq] at hk
    exact h1 (hk.2.1 ▸ ht)
def tx (l : List UInt8) : ByteArray := ⟨l.toArray⟩
def polyS : ByteArray := ⟨#[112, 111, 108, 121]⟩
def termS : ByteArray := ⟨#[116, 101, 114, 109]⟩
def termW (t : TermV) : List ByteArray := termS :: t.c :: t.xs.map (fun x => decS x.toNat)
def termsTo (ts : List TermV) : Nat → List UInt8
  | 0 => []
  | k + 1 => termsTo ts k ++ lineOf (termW (tm ts k))
def headL (vars : Nat) (n : Nat) : List UInt8 := lineOf [polyS, decS vars, decS n]
def polyL (vars : Nat) (ts : List TermV) : List UInt8 := headL vars ts.length ++ termsTo ts ts.length
theorem termsTo_le (ts : List TermV) : ∀ {k n : Nat}, k ≤ n → (termsTo ts k).length ≤ (termsTo ts n).length := by
  intro k n h
  induction n with
  | zero => obtain rfl : k = 0 := by omega
            exact Nat.le_refl _
  | succ n ih =>
    by_cases e : k = n + 1
    · subst e; exact Nat.le_refl _
    · have := ih (by omega)
      simp only [termsTo, List.length_append]
      omega
theorem strs_new (W : World) (xs : List ByteArray) (e : TypeId) (j : Nat) (x : ByteArray) (h : xs[j]? = some x) : (W.alloc (.cells (xs.map Value.string).toArray e)).cell? ⟨W.heap.size, 0 + j, none⟩ = some (.string x) := by
  rw [World.cell?_alloc_at _ e _ (0 + j) rfl, Nat.zero_add]
  simp [h]
def OwnStr (w : World) (base : Nat) (v : Value) (xs : List ByteArray) : Prop := w.ownsRow base 9 1 v xs.length (xs.map Value.string)
theorem OwnStr.read {w : World} {base : Nat} {v : Value} {xs : List ByteArray} (h : OwnStr w base v xs) (h0 : 0 < xs.length) :
    ∃ g c, v = .slice (some ⟨g, 0, none⟩) xs.length c ∧ xs.length ≤ c ∧ g < w.heap.size ∧ ∀ (j : Nat) x, xs[j]? = some x → w.cell? ⟨g, 0 + j, none⟩ = some (.string x) := by
  have h' := h
  rcases h.2 with ⟨_, hz⟩ | ⟨g, cap, cur, rfl, hbg, hh, h1, h2, h3, h4⟩
  · omega
  · refine ⟨g, cap, rfl, h1, lt_of_heap hh, fun j x hx => ?_⟩
    have hj : j < xs.length := (List.getElem?_eq_some_iff.1 hx).1
    rw [Nat.zero_add, World.ownsRow.cellAt h' j (by omega)]
    simp [hx]
theorem OwnStr.made (w : World) (xs : List ByteArray) (hx : xs.length ≤ 1000) : OwnStr (w.alloc (.cells (xs.map Value.string).toArray 9)) w.heap.size (.slice (some ⟨w.heap.size, 0, none⟩) xs.length xs.length) xs :=
  ⟨by simp, .inr ⟨w.heap.size, xs.length, (xs.map Value.string).toArray, rfl, Nat.le_refl _, heap_alloc_new w _, Nat.le_refl _, by unfold maxLen; omega, by simp, by simp [← List.map_take]⟩⟩
theorem infoStr : (Tryz.prog.info? 9).map (fun i => (i.zero.map (fun z => z.cells.size), i.size, i.bytes)) = some (some 1, 1, 16) := by kernel_rfl
theorem appendStr {ops : Array Oper} {rest : List Oper} {o : Oper} {a : Act} {Q : Exit → Act → World → Prop} {w0 W : World} (base : Nat) (hgd : o.guard = none) (s x : Operand)
    (ho : o.op = .call { callee := .builtin .append, args := #[s, x], argTypes := #[50, 50] })
    (v : Value) (xs : List ByteArray) (y : ByteArray) (hs : a.eval s = v) (hx : a.eval x = .slice (some ⟨W.heap.size, 0, none⟩) 1 1)
    (HO : OwnStr W base v xs) (HB : Below base w0 W) (hbase : base ≤ W.heap.size) (hl : xs.length ≤ 1000000)
    (h : ∀ v1 w1, OwnStr w1 base v1 (xs ++ [y]) → Below base w0 w1 → base ≤ w1.heap.size → wpList Tryz.prog ops Q rest (a.put o.dst v1) w1) :
    wpList Tryz.prog ops Q (o :: rest) a (W.alloc (.cells #[.string y] 9)) := by
  obtain ⟨i0, hi, hzz⟩ := Option.map_eq_some_iff.1 infoStr
  simp only [Prod.mk.injEq] at hzz
  obtain ⟨hz0, hz1, hz2⟩ := hzz
  obtain ⟨z, hz, hz3⟩ := Option.map_eq_some_iff.1 hz0
  refine wpList_append_own (W.alloc (.cells #[.string y] 9)) hgd s x 50 ho base 9 i0 z 1 16 Tryz.underlying50 hi hz hz1 hz2 hz3 (by omega) v xs.length (xs.map Value.string) hs (World.ownsRow.alloc HO _) ⟨W.heap.size, 0, none⟩ 1 1 [.string y] hx rfl (fun j u hj => cells_new W #[.string y] _ j u hj) ?_ (by unfold maxLen; omega) (by omega) (by simp; omega) ?_
  · intro u hu
    simp only [List.mem_singleton] at hu
    subst hu
    rfl
  intro v1 w1 hown hg _
  have hg' := World.grownBy.trans (World.grownBy_alloc W _ _) hg
  have hsz := hg.size
  simp at hsz
  exact h v1 w1 (by unfold OwnStr; simpa using hown) (HB.grown hg' hbase (fun b hb => (World.ownsRow.lt HO b hb).1)) (by omega)
def WordsRel (base : Nat) (U : World) (t : TermV) (v i : Value) (W : World) : Prop :=
  ∃ j : Nat, i = .int .i64 j ∧ j ≤ t.xs.length ∧ OwnStr W base v (termS :: t.c :: (t.xs.take j).map (fun x => decS x.toNat)) ∧ Below base U W ∧ base ≤ W.heap.size
def WpRel (B b : Nat) (l : List UInt8) (vars : Nat) (ts : List TermV) (w : World) (i : Value) (W : World) : Prop :=
  ∃ k : Nat, i = .int .i64 k ∧ k ≤ ts.length ∧ IsW B b (l ++ headL vars ts.length ++ termsTo ts k) W ∧ Oth B b w W
set_option maxHeartbeats 2000000 in
set_option maxRecDepth 100000 in
theorem writerPoly_any (okC zC : ByteArray → Bool) (dom : ByteArray → Prop) (HS : OfSpec Bs okC zC dom) (A : Option Addr) (ca : Nat) (ts : List TermV) (vars : Nat) (B b : Nat) (l : List UInt8) (w : World) (hBs : Bs ≤ B) (hBw : B ≤ w.heap.size) (hA : RdT Bs w A ts)
    (hc : ts.length ≤ ca) (hl : ts.length < 100) (hd : ∀ i, i < ts.length → dom (tm ts i).c) (hv : vars ≤ 6) (hok : polyOk okC zC vars ts = true) (hex : ∀ i, i < ts.length → ∀ j, j < (tm ts i).xs.length → 0 ≤ el (tm ts i).xs j ∧ el (tm ts i).xs j < 100)
    (hxs : ∀ i, i < ts.length → (tm ts i).xs.length ≤ 6) (hlen : (l ++ polyL vars ts).length ≤ 140737488355328) (h : IsW B b l w) :
    Calls Tryz.prog 15 #[.pointer (some ⟨b, 0, none⟩), .agg #[.int .i64 vars, .slice A ts.length ca]] w fun e w' => e = .returned (.tuple #[]) ∧ IsW B b (l ++ polyL vars ts) w' ∧ Oth B b w w' := by
  have HO := Lib.hid (fun W h1 h2 => (polyOf_any okC zC dom HS A ca ts vars W h1 h2 hc (by omega) hd))
  have HA := Lib.hid hA
  have HH := Lib.hid h
  have HEX := Lib.hid hex
  have HXS := Lib.hid hxs
  have HLEN := Lib.hid hlen
  have HOK := Lib.hid hok
  clear hA h hex hlen hok HS hd hxs
  have n1 := natural_small vars (by omega)
  have n2 := natural_small ts.length hl
  have N1 := Lib.hid n1
  have N2 := Lib.hid n2
  clear n1 n2
  go_enter Tryz.func15, Tryz.ntmps15
  go_wp2_with fail
  refine (HO.out _ (by simp; omega) (HA.out.below (below_alloc (below_refl _) _))).mono ?_
  rintro e w1 ⟨_, rfl, ⟨n, A1, l1, c1, rfl⟩, hb1⟩
  rw [HOK.out]
  obtain ⟨k1, _, hs1⟩ := box_kept hb1
  have hB1 : Below w.heap.size w w1 := below_then (below_alloc (below_refl w) _) (by simp) hb1
  have HB1 := Lib.hid hB1
  have k10 : w1.cell? ⟨w.heap.size, 0, none⟩ = some (.int .i64 vars) := k1 0
  have k11 : w1.cell? ⟨w.heap.size, 1, none⟩ = some (.slice A ts.length ca) := k1 1
  have HBX := Lib.hid (box_heap hb1)
  clear k1 hb1 hB1
  go_wp2_with fail
  have HW1 := Lib.hid (IsB.below HH.out HB1.out)
  have HP1 : (headL vars ts.length).length ≤ (polyL vars ts).length := by simp [polyL]
  have HL1 : l.length + (polyL vars ts).length ≤ 140737488355328 := by have := HLEN.out; simpa using this
  have e1 : (w1.alloc (.cells #[.int .i64 n, .slice A1 l1 c1] 111)).heap.size = w1.heap.size + 1 := by simp
  have hBL : Below w1.heap.size w1 ((w1.alloc (.cells #[.int .i64 n, .slice A1 l1 c1] 111)).alloc (.cells #[.string polyS, .string (decS vars), .string (decS ts.length)] 9)).drew := below_drew (below_alloc (below_alloc (below_refl w1) _) _)
  have hs3 := HB1.out.size
  have hline := line_any B b l [polyS, decS vars, decS ts.length] (w1.heap.size + 1) 0 3 ((w1.alloc (.cells #[.int .i64 n, .slice A1 l1 c1] 111)).alloc (.cells #[.string polyS, .string (decS vars), .string (decS ts.length)] 9)).drew
    (IsB.below HW1.out hBL) (fun j x hx => by rw [← e1]; exact strs_new _ [polyS, decS vars, decS ts.length] _ j x hx) (by simp) (by simp) (by simp) (by show l.length + (headL vars ts.length).length ≤ _; omega) (by simp; omega)
  have HLI := Lib.hid hline
  have HBL := Lib.hid hBL
  clear hline hBL
  go_region_with (first | (go_at_call_of 33 (Value.int .i64 (vars : Int)); refine (N1.out _).mono ?_; rintro e w' ⟨rfl, rfl⟩) | (go_at_call_of 33 (Value.int .i64 (ts.length : Int)); refine (N2.out _).mono ?_; rintro e w' ⟨rfl, rfl⟩) | (go_at_call 32; refine HLI.out.mono ?_; rintro e w3 ⟨rfl, h3, hb3⟩; have H3 := Lib.hid h3; have HB3 := Lib.hid hb3; clear h3 hb3))
  all_goals (
    have hbb := HH.out
    have hbw : b < w.heap.size := by obtain ⟨_, _, h⟩ := hbb; exact h.lt
    have hbx3 := HB3.out.2 w.heap.size _ _ _ ((HBL.out.block w.heap.size (by omega)).trans HBX.out) (by omega) (by decide)
    have HO3 := Lib.hid ((Oth.of_below (Oth.refl B b w) hBw (below_then HB1.out HB1.out.size HBL.out)).trans HB3.out)
    have x0 : w3.cell? ⟨w.heap.size, 0, none⟩ = some (.int .i64 vars) := by rw [Lib.cell_of_heap hbx3]; rfl
    have x1 : w3.cell? ⟨w.heap.size, 1, none⟩ = some (.slice A ts.length ca) := by rw [Lib.cell_of_heap hbx3]; rfl
    clear hbb hbx3 k10 k11 N1 N2
    go_wp2_with fail
    go_loopw [32] (fun i W => WpRel B b l vars ts w3 i W) (fun i _ => ts.length - (intOf i).toNat)
    case atStart =>
      refine ⟨0, rfl, by omega, ?_, Oth.refl _ _ _⟩
      rw [show l ++ headL vars ts.length ++ termsTo ts 0 = l ++ headL vars ts.length by simp [termsTo]]
      exact H3.out
    case round =>
      rename World => W0
      obtain ⟨k, rfl, hk, hwr, hor⟩ := hrel
      have HWR := Lib.hid hwr
      have HOR := Lib.hid hor
      clear hwr hor
      by_cases hlt : k < ts.length
      · have hR := HA.out.keeps ((HO3.out.trans HOR.out).keeps hBs HH.out (T := [28, 3]) (by decide) (by decide))
        obtain ⟨ab, ao, rfl, hab, hcA⟩ := hR.plain (by omega)
        obtain ⟨hA1, hA2, hT1, hT2, hT3⟩ := hcA k hlt
        rw [show 2 * k = k * 2 by omega] at hA1 hA2
        obtain ⟨XA, hXA⟩ : ∃ XA, (tm ts k).A = XA := ⟨_, rfl⟩
        rw [hXA] at hA2 hT1
        clear hXA
        have HT := Lib.hid hT1
        have hx6 := HXS.out k hlt
        have HEK := Lib.hid (HEX.out k hlt)
        have e2 : (W0.alloc (.cells #[.string (tm ts k).c, .slice XA (tm ts k).xs.length (tm ts k).cap] 28)).heap.size = W0.heap.size + 1 := by simp
        have hmade := OwnStr.made (W0.alloc (.cells #[.string (tm ts k).c, .slice XA (tm ts k).xs.length (tm ts k).cap] 28)) [termS, (tm ts k).c] (by simp)
        have hbU := below_alloc (below_refl (W0.alloc (.cells #[.string (tm ts k).c, .slice XA (tm ts k).xs.length (tm ts k).cap] 28))) (.cells #[.string termS, .string (tm ts k).c] 9)
        rw [e2] at hmade hbU
        have HM := Lib.hid hmade
        have HBU := Lib.hid hbU
        have hoR := HOR.out.1.size
        clear hcA hR hmade hbU hT1
        go_wp2_with fail
        go_loopw [8, 42] (fun v i W => WordsRel (W0.heap.size + 1) (W0.alloc (.cells #[.string (tm ts k).c, .slice XA (tm ts k).xs.length (tm ts k).cap] 28)) (tm ts k) v i W) (fun _ i _ => (tm ts k).xs.length - (intOf i).toNat)
        case atStart =>
          exact ⟨0, rfl, by omega, by rw [List.take_zero]; exact HM.out, HBU.out, by simp⟩
        case round =>
          obtain ⟨j, rfl, hj, hown, hbW, hsW⟩ := hrel
          have HOWN := Lib.hid hown
          have HBW := Lib.hid hbW
          clear hown hbW
          by_cases hjl : j < (tm ts k).xs.length
          · obtain ⟨xb, xo, rfl, hxb, hxc⟩ := HT.out.plain (by omega)
            have hx1 := (below_alloc (below_refl W0) (.cells #[.string (tm ts k).c, .slice (some ⟨xb, xo, none⟩) (tm ts k).xs.length (tm ts k).cap] 28)).cell (p := ⟨xb, xo + j, none⟩) hxb
            have hx2 := (HBW.out.cell (p := ⟨xb, xo + j, none⟩) (by show xb < W0.heap.size + 1; omega)).trans (hx1.trans (hxc j hjl))
            obtain ⟨q1, q2⟩ := HEK.out j hjl
            have hnat := natural_small (el (tm ts k).xs j).toNat (by omega)
            rw [Int.toNat_of_nonneg q1] at hnat
            have HNAT := Lib.hid hnat
            clear hxc hx1 hnat
            go_wp2_with fail
            refine (HNAT.out _).mono ?_
            rintro e w' ⟨rfl, rfl⟩
            go_wp2_with (at_builtin; refine appendStr (w0 := (W0.alloc (.cells #[.string (tm ts k).c, .slice (some ⟨xb, xo, none⟩) (tm ts k).xs.length (tm ts k).cap] 28))) (W0.heap.size + 1) rfl (.tmp 46) (.tmp 49) rfl _ _ _ rfl rfl HOWN.out HBW.out hsW (by simp; omega) ?_)
            intro v1 w4 ho4 hb4 hs4
            have HO4 := Lib.hid ho4
            have HB4 := Lib.hid hb4
            clear ho4 hb4
            go_wp2
            go_roundw
            case rel =>
              refine ⟨j + 1, by go_num, by omega, ?_, HB4.out, hs4⟩
              have := HO4.out
              rw [show termS :: (tm ts k).c :: List.map (fun x => decS x.toNat) (List.take (j + 1) (tm ts k).xs) = (termS :: (tm ts k).c :: List.map (fun x => decS x.toNat) (List.take j (tm ts k).xs)) ++ [decS (el (tm ts k).xs j).toNat] by
                rw [List.take_succ_eq_append_getElem hjl, el_at _ _ hjl]; simp]
              simpa [List.map_take] using this
            case measure => simp [intOf]; omega
          · obtain rfl : j = (tm ts k).xs.length := by omega
            obtain ⟨v0, c0, rfl, hc0, hv0, hcells⟩ := HOWN.out.read (by simp)
            have htw : termS :: (tm ts k).c :: List.map (fun x => decS x.toNat) (List.take (tm ts k).xs.length (tm ts k).xs) = termW (tm ts k) := by rw [List.take_length]; rfl
            rw [htw] at hc0 hcells ⊢
            obtain ⟨N, hN⟩ : ∃ N, (termW (tm ts k)).length = N := ⟨_, rfl⟩
            have hN2 : N ≤ 8 := by rw [← hN]; simp [termW]; omega
            have hbE : Below W0.heap.size W0 wr := below_mix (below_alloc (below_refl W0) _) (Nat.le_succ _) HBW.out
            have hlen1 := termsTo_le ts (show k + 1 ≤ ts.length by omega)
            have hlen2 : (polyL vars ts).length = (headL vars ts.length).length + (termsTo ts ts.length).length := by simp [polyL]
            have hlen3 : (termsTo ts (k + 1)).length = (termsTo ts k).length + (lineOf (termW (tm ts k))).length := by simp [termsTo]
            have hline := line_any B b (l ++ headL vars ts.length ++ termsTo ts k) (termW (tm ts k)) v0 0 c0 wr (IsB.below HWR.out hbE) hcells hv0 hc0 (by omega) (by simp only [List.length_append]; omega) (by have := hbE.size; have := HO3.out.1.size; omega)
            rw [hN] at hline hc0 ⊢
            have HLI2 := Lib.hid hline
            have HBE := Lib.hid hbE
            clear hline hbE hcells htw
            go_wp2_with fail
            refine HLI2.out.mono ?_
            rintro e w5 ⟨rfl, h5, hb5⟩
            have H5 := Lib.hid h5
            have HB5 := Lib.hid hb5
            clear h5 hb5
            go_wp2
            go_roundw
            case rel =>
              refine ⟨k + 1, by go_num, by omega, ?_, (Oth.of_below HOR.out (by have := HO3.out.1.size; omega) HBE.out).trans HB5.out⟩
              rw [show l ++ headL vars ts.length ++ termsTo ts (k + 1) = l ++ headL vars ts.length ++ termsTo ts k ++ lineOf (termW (tm ts k)) by simp [termsTo]]
              exact H5.out
            case measure => simp [intOf]; omega
      · obtain rfl : k = ts.length := by omega
        go_wp2
        go_end0
        refine ⟨rfl, ?_, HO3.out.trans HOR.out⟩
        rw [show l ++ polyL vars ts = l ++ headL vars ts.length ++ termsTo ts ts.length by simp [polyL]]
        exact HWR.out)
end Go.Proofs.YtoflmheodiajaaaGreatDoor
namespace Go.Proofs.YtoflmheodiajaaaGreatDoor
open Go.RowKit
set_option linter.unusedVariables false
set_option linter.unusedSimpArgs false
variable {Bs : Nat}
theorem closurePoly_any (okC zC : ByteArray → Bool) (dom : ByteArray → Prop) (HS : OfSpec Bs okC zC dom) (A : Option Addr) (ca : Nat) (ts : List TermV) (vars : Nat) (B b pb : Nat) (l : List UInt8) (w : World) (hBs : Bs ≤ B) (hBw : B ≤ w.heap.size) (hA : RdT Bs w A ts)
    (hp0 : w.cell? ⟨pb, 0, none⟩ = some (.int .i64 vars)) (hp1 : w.cell? ⟨pb, 1, none⟩ = some (.slice A ts.length ca))
    (hc : ts.length ≤ ca) (hl : ts.length < 100) (hd : ∀ i, i < ts.length → dom (tm ts i).c) (hv : vars ≤ 6) (hok : polyOk okC zC vars ts = true) (hex : ∀ i, i < ts.length → ∀ j, j < (tm ts i).xs.length → 0 ≤ el (tm ts i).xs j ∧ el (tm ts i).xs j < 100)
    (hxs : ∀ i, i < ts.length → (tm ts i).xs.length ≤ 6) (hlen : (l ++ polyL vars ts).length ≤ 140737488355328) (h : IsW B b l w) :
    Calls Tryz.prog 14 #[.pointer (some ⟨b, 0, none⟩), .pointer (some ⟨pb, 0, none⟩)] w fun e w' => e = .returned (.tuple #[]) ∧ IsW B b (l ++ polyL vars ts) w' ∧ Oth B b w w' := by
  have HW := Lib.hid (writerPoly_any okC zC dom HS A ca ts vars B b l w hBs hBw hA hc hl hd hv hok hex hxs hlen h)
  clear hA h hex hxs hlen hok HS hd
  go_enter Tryz.func14, Tryz.ntmps14
  go_wp2_with fail
  refine HW.out.mono ?_
  rintro e w' ⟨rfl, hw, ho⟩
  have H1 := Lib.hid hw
  have H2 := Lib.hid ho
  clear hw ho
  go_wp2
  go_end0
  exact ⟨rfl, H1.out, H2.out⟩
theorem catch_idle (p : Addr) (w : World) :
    CallsD Tryz.prog 27 #[.pointer (some p)] .returning w fun e u' w' => e = .returned (.tuple #[]) ∧ u' = .returning ∧ w' = w := by
  refine callsD_of_wpS Tryz.func27 rfl fun c₀ cs hu => ?_
  apply wpS_seq
  apply wpS_region
  simp [wpOpsS, go_sem, recoverD, hu, Tryz.ntmps27, Exit.thenS]
  have hf : (#[Value.pointer (some p)] ++ (Array.replicate 13 undef).setIfInBounds 4 Value.nilIface : Array Value) = #[.pointer (some p), undef, undef, undef, undef, .nilIface, undef, undef, undef, undef, undef, undef, undef, undef] := by rfl
  rw [hf]
  refine wpS_of_wp ?_
  go_wp2
  cases c₀
  simp_all [bodyPostS, results, Tryz.results27]
theorem run_isErrno (x : Int) (w : World) : (Instr.typeAssert (.iface 29 (.int .i64 x)) 20 29 true).run Tryz.prog w = .ok (.tuple #[.int .i64 x, .bool true]) w := by kernel_rfl
set_option maxRecDepth 100000 in
theorem catch_errno (p : Addr) (x0 x : Int) (older : List PanicEntry) (w : World) (hc : w.cell? p = some (.int .i64 x0)) (hz : w.frozen? p = false) :
    CallsD Tryz.prog 27 #[.pointer (some p)] (.panicking ({ v := .iface 29 (.int .i64 x), recovered := false } :: older)) w fun e u' w' =>
      e = .returned (.tuple #[]) ∧ u' = .panicking ({ v := .iface 29 (.int .i64 x), recovered := true } :: older) ∧ w' = w.setCell p (.int .i64 x) := by
  refine callsD_of_wpS Tryz.func27 rfl fun c₀ cs hu => ?_
  apply wpS_seq
  apply wpS_region
  simp [wpOpsS, go_sem, recoverD, hu, Tryz.ntmps27, Exit.thenS]
  have hf : (#[Value.pointer (some p)] ++ (Array.replicate 13 undef).setIfInBounds 4 (.iface 29 (.int .i64 x)) : Array Value) = #[.pointer (some p), undef, undef, undef, undef, .iface 29 (.int .i64 x), undef, undef, undef, undef, undef, undef, undef, undef] := by rfl
  rw [hf]
  have hta := run_isErrno x
  refine wpS_of_wp ?_
  go_wp2
  simp_all [bodyPostS, results, Tryz.results27]
theorem fail_any (x : Int) (w : World) : Calls Tryz.prog 31 #[.int .i64 x] w fun e w' => e = .panicked [{ v := .iface 29 (.int .i64 x), recovered := false }] ∧ w' = w := by
  go_enter Tryz.func31, Tryz.ntmps31
  go_wp2
  first | exact ⟨rfl, rfl⟩ | simp [bodyPost]
end Go.Proofs.YtoflmheodiajaaaGreatDoor
namespace Go.Proofs.YtoflmheodiajaaaGreatDoor
open Go.RowKit
set_option linter.unusedVariables false
set_option linter.unusedSimpArgs false
variable {Bs : Nat}
theorem isW_new (w : World) : IsW w.heap.size w.heap.size [] (w.alloc (.cells #[.pointer none, .slice none 0 0] 106)) :=
  ⟨.pointer none, .inl rfl, Nat.le_refl _, .slice none 0 0, heap_alloc_new w _, World.ownsRow_nil _ _ _ _, by simp [Value.ownBlock]⟩
set_option maxHeartbeats 1000000 in
set_option maxRecDepth 100000 in
theorem written_ok (q : Addr) (l : List UInt8) (w : World) (hl : l ≠ []) (hm : l.length ≤ 1048576)
    (HC : Calls Tryz.prog 14 #[.pointer (some ⟨w.heap.size + 1, 0, none⟩), .pointer (some q)] ((w.alloc (.cells #[.int .i64 0] 29)).alloc (.cells #[.pointer none, .slice none 0 0] 106))
      fun e w' => e = .returned (.tuple #[]) ∧ IsW (w.heap.size + 1) (w.heap.size + 1) l w' ∧ Oth (w.heap.size + 1) (w.heap.size + 1) ((w.alloc (.cells #[.int .i64 0] 29)).alloc (.cells #[.pointer none, .slice none 0 0] 106)) w') :
    Calls Tryz.prog 13 #[.func (Fn.func 14) #[] #[.pointer (some q)]] w (Gives w fun v _ => v = .tuple #[.string ⟨l.toArray⟩, .int .i64 0]) := by
  have HC := Lib.hid HC
  go_enter_defers Tryz.func13, Tryz.ntmps13
  go_wp2_with fail
  refine HC.out.mono ?_
  rintro e w1 ⟨rfl, h1, h2⟩
  have hx : w1.heap[w.heap.size]? = some (.cells #[.int .i64 0] 29 (0, 0)) := (h2.1.block _ (by omega)).trans (heap_two_fst w _ _)
  have x0 : w1.cell? ⟨w.heap.size, 0, none⟩ = some (.int .i64 0) := by rw [Lib.cell_of_heap hx]; rfl
  have xz := fun i => Lib.frozen_of_heap hx i
  have H1 := Lib.hid h1
  have H2 := Lib.hid h2
  have HX := Lib.hid hx
  clear h1 h2 hx
  go_wp2_with fail
  refine (len_any (T := 106) (ext := []) _ _ _ _ H1.out).mono ?_
  rintro e w' ⟨rfl, rfl⟩
  rw [Lib.byteCells_length]
  have hm2 : ¬ (1048576 < (l.length : Int)) := by omega
  go_wp2_with fail
  refine (string_any (T := 106) (ext := []) _ _ _ _ H1.out hl).mono ?_
  rintro e w2 ⟨rfl, hb2⟩
  have hx2 : w2.heap[w.heap.size]? = some (.cells #[.int .i64 0] 29 (0, 0)) := (hb2.block _ (by omega)).trans HX.out
  have y0 : w2.cell? ⟨w.heap.size, 0, none⟩ = some (.int .i64 0) := by rw [Lib.cell_of_heap hx2]; rfl
  have yz := fun i => Lib.frozen_of_heap hx2 i
  have HB2 := Lib.hid hb2
  clear hb2 hx2 x0 xz
  go_wp2_with fail
  refine leaves_cons (f := 27) (args := #[.pointer (some ⟨w.heap.size, 0, none⟩)]) (by simp) (by simp [go_sem]) ?_
  refine (catch_idle ⟨w.heap.size, 0, none⟩ _).mono ?_
  rintro e u' w'' ⟨rfl, rfl, rfl⟩
  simp [Leaves, settle, results, Tryz.results13, go_sem, y0]
  exact ⟨_, rfl, rfl, (below_mix (below_mix (below_alloc (below_alloc (below_refl w) _) _) (Nat.le_succ _) H2.out.1) (Nat.le_succ _) HB2.out).setCell (p := ⟨w.heap.size, 0, none⟩) (Nat.le_refl _) _⟩
theorem formatPoly_ok (okC zC : ByteArray → Bool) (dom : ByteArray → Prop) (HS : OfSpec Bs okC zC dom) (A : Option Addr) (ca : Nat) (ts : List TermV) (vars : Nat) (w : World) (hBs : Bs ≤ w.heap.size) (hA : RdT Bs w A ts)
    (hc : ts.length ≤ ca) (hl : ts.length < 100) (hd : ∀ i, i < ts.length → dom (tm ts i).c) (hv : vars ≤ 6) (hok : polyOk okC zC vars ts = true) (hex : ∀ i, i < ts.length → ∀ j, j < (tm ts i).xs.length → 0 ≤ el (tm ts i).xs j ∧ el (tm ts i).xs j < 100)
    (hxs : ∀ i, i < ts.length → (tm ts i).xs.length ≤ 6) (hlen : (polyL vars ts).length ≤ 1048576) :
    Calls Tryz.prog 7 #[.agg #[.int .i64 vars, .slice A ts.length ca]] w (Gives w fun v _ => v = .tuple #[.string ⟨(polyL vars ts).toArray⟩, .int .i64 0]) := by
  have hmf : ∀ (fn : Fn) (first cap : Array Value) (w : World), (Instr.makeFunc fn first cap).run Tryz.prog w = .ok (.func fn first cap) w := fun _ _ _ _ => rfl
  have hne : polyL vars ts ≠ [] := by simp [polyL, headL, lineOf]
  have e1 : (w.alloc (.cells #[.int .i64 vars, .slice A ts.length ca] 24)).heap.size = w.heap.size + 1 := by simp
  have hbx := heap_alloc_new w (.cells #[.int .i64 vars, .slice A ts.length ca] 24)
  have hb3 := below_alloc (below_alloc (below_refl (w.alloc (.cells #[.int .i64 vars, .slice A ts.length ca] 24))) (.cells #[.int .i64 0] 29)) (.cells #[.pointer none, .slice none 0 0] 106)
  have hbx3 := (hb3.block w.heap.size (by simp)).trans hbx
  have hclo := closurePoly_any okC zC dom HS A ca ts vars (w.heap.size + 2) (w.heap.size + 2) w.heap.size [] (((w.alloc (.cells #[.int .i64 vars, .slice A ts.length ca] 24)).alloc (.cells #[.int .i64 0] 29)).alloc (.cells #[.pointer none, .slice none 0 0] 106))
    (by omega) (by simp) (hA.below (below_alloc (below_alloc (below_alloc (below_refl w) _) _) _)) (by rw [Lib.cell_of_heap hbx3]; rfl) (by rw [Lib.cell_of_heap hbx3]; rfl) hc hl hd hv hok hex hxs (by simpa using Nat.le_trans hlen (by omega))
    (by
      have := isW_new ((w.alloc (.cells #[.int .i64 vars, .slice A ts.length ca] 24)).alloc (.cells #[.int .i64 0] 29))
      rw [show ((w.alloc (.cells #[.int .i64 vars, .slice A ts.length ca] 24)).alloc (.cells #[.int .i64 0] 29)).heap.size = w.heap.size + 2 by simp] at this
      exact this)
  rw [List.nil_append] at hclo
  have hwr := written_ok ⟨w.heap.size, 0, none⟩ (polyL vars ts) (w.alloc (.cells #[.int .i64 vars, .slice A ts.length ca] 24)) hne hlen (by rw [e1]; exact hclo)
  have HWR := Lib.hid hwr
  clear hwr hclo hbx3 hb3 hbx hA hex hxs hlen hok HS hd e1
  go_enter Tryz.func7, Tryz.ntmps7
  go_wp2_with fail
  refine HWR.out.mono ?_
  rintro e w' ⟨_, rfl, rfl, hb⟩
  have HB := Lib.hid (below_then (below_alloc (below_refl w) _) (by simp) hb)
  clear hb
  go_wp2
  go_ret2
  exact ⟨_, rfl, rfl, HB.out⟩
end Go.Proofs.YtoflmheodiajaaaGreatDoor
