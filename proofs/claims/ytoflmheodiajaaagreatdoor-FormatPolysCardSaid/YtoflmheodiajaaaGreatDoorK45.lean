import Derived.Test.YtoflmheodiajaaaGreatDoorK43
import Derived.Test.YtoflmheodiajaaaGreatDoorK44
namespace Go.Proofs.YQ.PR
open Go.RowKit Go.Proofs.YtoflmheodiajaaaGreatDoor.G Go.Proofs.YW.PrintWords Go.Proofs.YW.PrintLast Go.Proofs.YW.PrintMore
attribute [local go_sem] max2_int min2_int max_two min_two max_three min_three max_four min_four
set_option linter.unusedVariables false
set_option linter.unusedSimpArgs false
end Go.Proofs.YQ.PR
namespace Go.Proofs.YQ.PR
open Go.RowKit Go.Proofs.YtoflmheodiajaaaGreatDoor.G Go.Proofs.YW.PrintWords
open Go.Proofs.YtoflmheodiajaaaGreatDoor (el el_ge sumTo revCmp expCmp sumTo_range ExpR)
set_option linter.unusedVariables false
set_option linter.unusedSimpArgs false
theorem rd_el (xs : List Int) (i : Nat) : rd xs (i : Int) = el xs i := by unfold rd el; rw [Int.toNat_natCast]
theorem wrap_in5 {x : Int} (h0 : -9223372036854775808 ≤ x) (h1 : x ≤ 9223372036854775807) : wrap64 x = x := by unfold wrap64; omega
def Ex (xs : List Int) : Prop := ∀ j, 0 ≤ el xs j ∧ el xs j ≤ 1048576
theorem Ex.r {xs : List Int} (h : Ex xs) : ExpR (fun j => el xs j) := h
theorem sum_ge {xs : List Int} : ∀ k, xs.length ≤ k → sumTo (fun j => el xs j) k = sumTo (fun j => el xs j) xs.length
  | 0, h => by rw [show xs.length = 0 by omega]
  | k + 1, h => by
    by_cases e : xs.length = k + 1
    · rw [e]
    · rw [sumTo, sum_ge k (by omega), el_ge xs k (by omega)]
      omega
theorem rev_ge {xs ys : List Int} (hl : xs.length = ys.length) : ∀ k, xs.length ≤ k → revCmp (fun j => el xs j) (fun j => el ys j) k = revCmp (fun j => el xs j) (fun j => el ys j) xs.length
  | 0, h => by rw [show xs.length = 0 by omega]
  | k + 1, h => by
    by_cases e : xs.length = k + 1
    · rw [e]
    · rw [revCmp, el_ge xs k (by omega), el_ge ys k (by omega), if_neg (by omega), if_neg (by omega), rev_ge hl k (by omega)]
theorem order_l1 (xs ys : List Int) (hl : xs.length = ys.length) (h6 : xs.length ≤ 6) : ∀ i : Nat, i ≤ xs.length → Ev (fun k => rOr.l1 k xs ys ((i : Int) - 1)) (revCmp (fun j => el xs j) (fun j => el ys j) i)
  | 0, _ => by
    refine Ev.step (f := fun _ => some 0) (fun k => ?_) (Ev.now _)
    simp only [rOr.l1]
    rw [if_neg (by omega)]
  | i + 1, hi => by
    have e : ((i + 1 : Nat) : Int) - 1 = (i : Int) := by omega
    by_cases he : el xs i = el ys i
    · have ih := order_l1 xs ys hl h6 i (by omega)
      rw [revCmp, if_neg (by omega), if_neg (by omega)]
      refine Ev.step (fun k => ?_) ih
      simp only [rOr.l1]
      rw [e, if_pos (by omega), if_pos (by omega), if_pos (by omega), if_pos (by omega), rd_el, rd_el, if_pos he, wrap_in5 (by omega) (by omega)]
    · refine Ev.step (f := fun _ => some _) (fun k => ?_) (Ev.now _)
      simp only [rOr.l1]
      rw [e, if_pos (by omega), if_pos (by omega), if_pos (by omega), if_pos (by omega), rd_el, rd_el, if_neg he]
      simp only [revCmp]
      split
      · rfl
      · rw [if_pos (by omega)]
theorem order_l0 (xs ys : List Int) (hl : xs.length = ys.length) (h6 : xs.length ≤ 6) (hx : Ex xs) (hy : Ex ys) : ∀ (m i : Nat), i + m = xs.length → Ev (fun k => rOr.l0 k xs ys (sumTo (fun j => el xs j) i) (sumTo (fun j => el ys j) i) (i : Int)) (expCmp (fun j => el xs j) (fun j => el ys j))
  | 0, i, hi => by
    obtain rfl : i = xs.length := by omega
    unfold expCmp
    rw [sum_ge 6 h6, sum_ge (xs := ys) 6 (by omega), rev_ge hl 6 h6, ← hl]
    by_cases he : sumTo (fun j => el xs j) xs.length = sumTo (fun j => el ys j) xs.length
    · rw [if_pos he]
      refine Ev.step (fun k => ?_) (order_l1 xs ys hl h6 xs.length (Nat.le_refl _))
      simp only [rOr.l0]
      rw [if_neg (by omega), if_pos he, wrap_in5 (by omega) (by omega)]
    · rw [if_neg he]
      refine Ev.step (f := fun _ => some _) (fun k => ?_) (Ev.now _)
      simp only [rOr.l0]
      rw [if_neg (by omega), if_neg he]
      split <;> rfl
  | m + 1, i, hi => by
    have ih := order_l0 xs ys hl h6 hx hy m (i + 1) (by omega)
    have s1 := sumTo_range hx.r i
    have s2 := sumTo_range hy.r i
    have h1 := hx i
    have h2 := hy i
    refine Ev.step (fun k => ?_) ih
    simp only [rOr.l0]
    rw [if_pos (by omega), if_pos (by omega), if_pos (by omega), rd_el, rd_el, wrap_in5 (by omega) (by omega), wrap_in5 (by omega) (by omega), wrap_in5 (by omega) (by omega)]
    rfl
theorem order_f (xs ys : List Int) (hl : xs.length = ys.length) (h6 : xs.length ≤ 6) (hx : Ex xs) (hy : Ex ys) : Ev (fun k => rOr.f k xs ys) (expCmp (fun j => el xs j) (fun j => el ys j)) := order_l0 xs ys hl h6 hx hy xs.length 0 (by omega)
theorem degree_l0 (xs : List Int) (h6 : xs.length ≤ 6) (hx : Ex xs) : ∀ (m i : Nat), i + m = xs.length → sumTo (fun j => el xs j) i ≤ 24 → ∃ d, Ev (fun k => rDg.l0 k xs (sumTo (fun j => el xs j) i) (i : Int)) d ∧ (0 ≤ d ↔ sumTo (fun j => el xs j) xs.length ≤ 24)
  | 0, i, hi, hs => by
    obtain rfl : i = xs.length := by omega
    refine ⟨sumTo (fun j => el xs j) xs.length, Ev.step (f := fun _ => some _) (fun k => ?_) (Ev.now _), ?_⟩
    · simp only [rDg.l0]
      rw [if_neg (by omega)]
    · have := sumTo_range hx.r xs.length
      omega
  | m + 1, i, hi, hs => by
    have s1 := sumTo_range hx.r i
    have h1 := hx i
    by_cases hg : el xs i > 24 - sumTo (fun j => el xs j) i
    · refine ⟨-1, Ev.step (f := fun _ => some _) (fun k => ?_) (Ev.now _), ?_⟩
      · simp only [rDg.l0]
        rw [if_pos (by omega), if_pos (by omega), rd_el, if_neg (by omega), wrap_in5 (by omega) (by omega), if_pos hg]
      · have hmono : ∀ n, i + 1 ≤ n → sumTo (fun j => el xs j) (i + 1) ≤ sumTo (fun j => el xs j) n := fun n hn => by
          induction n with
          | zero => omega
          | succ n ih =>
            by_cases e : i = n
            · subst e; exact Int.le_refl _
            · have := ih (by omega)
              have := hx n
              simp only [sumTo] at *
              omega
        have := hmono xs.length (by omega)
        simp only [sumTo] at this
        omega
    · obtain ⟨d, hd, hd2⟩ := degree_l0 xs h6 hx m (i + 1) (by omega) (by simp only [sumTo]; omega)
      refine ⟨d, Ev.step (fun k => ?_) hd, hd2⟩
      simp only [rDg.l0]
      rw [if_pos (by omega), if_pos (by omega), rd_el, if_neg (by omega), wrap_in5 (x := 24 - _) (by omega) (by omega), if_neg hg, wrap_in5 (by omega) (by omega), wrap_in5 (by omega) (by omega)]
      rfl
theorem valid_f (xs : List Int) (h6 : xs.length ≤ 6) (hx : Ex xs) : Ev (fun k => sosoptref05_Valid.f k xs) (decide (sumTo (fun j => el xs j) 6 ≤ 24)) := by
  obtain ⟨d, hd, hd2⟩ := degree_l0 xs h6 hx xs.length 0 (by omega) (by simp [sumTo])
  rw [sum_ge 6 h6, show decide (sumTo (fun j => el xs j) xs.length ≤ 24) = decide (d ≥ 0) by rw [decide_eq_decide]; omega]
  refine Ev.congr (f := fun k => (rDg.l0 k xs 0 0).bind fun t => some (decide (t ≥ 0))) (fun k => ?_) (Ev.bind hd (Ev.now _))
  unfold sosoptref05_Valid.f rDg.f
  rw [if_pos (by omega), if_neg (by omega)]
theorem sameInts_l0 (xs : List Int) (h : xs.length ≤ 1000000) : ∀ (m i : Nat), i + m = xs.length → Ev (fun k => rSI.l0 k xs xs (xs.length : Int) (i : Int)) true
  | 0, i, hi => by
    refine Ev.step (f := fun _ => some true) (fun k => ?_) (Ev.now _)
    simp only [rSI.l0]
    rw [if_neg (by omega)]
  | m + 1, i, hi => by
    refine Ev.step (fun k => ?_) (sameInts_l0 xs h m (i + 1) (by omega))
    simp only [rSI.l0]
    rw [if_pos (by omega), if_pos (by omega), if_pos (by omega), if_pos (by omega), if_pos trivial, wrap_in5 (by omega) (by omega)]
    rfl
theorem sameInts_f (xs : List Int) (h : xs.length ≤ 1000000) : Ev (fun k => rSI.f k xs xs) true := by
  refine Ev.congr (fun k => ?_) (sameInts_l0 xs h xs.length 0 (by omega))
  unfold rSI.f
  rw [if_pos rfl]
  rfl
theorem samePoly_l0 (v : Int) (ts : List S28) (ht : ts.length ≤ 1000000) (hx : ∀ i : Nat, i < ts.length → (rd_T28 ts (i : Int)).f1.length ≤ 1000000) : ∀ (m i : Nat), i + m = ts.length → Ev (fun k => rSP.l0 k (ts.length : Int) (i : Int) v ts v ts) true
  | 0, i, hi => by
    refine Ev.step (f := fun _ => some true) (fun k => ?_) (Ev.now _)
    simp only [rSP.l0]
    rw [if_neg (by omega)]
  | m + 1, i, hi => by
    refine Ev.step (f := fun k => (rSI.f k ((rd_T28 ts (i : Int)).f1) ((rd_T28 ts (i : Int)).f1)).bind fun t => if t = true then rSP.l0 k (ts.length : Int) ((i + 1 : Nat) : Int) v ts v ts else some false) (fun k => ?_) (Ev.bind (sameInts_f _ (hx i (by omega))) ?_)
    · simp only [rSP.l0]
      rw [if_pos (by omega), if_pos (by omega), if_pos (by omega), if_pos (by omega), if_pos trivial, wrap_in5 (by omega) (by omega)]
      rfl
    · exact samePoly_l0 v ts ht hx m (i + 1) (by omega)
theorem samePoly_f (v : Int) (ts : List S28) (ht : ts.length ≤ 1000000) (hx : ∀ i : Nat, i < ts.length → (rd_T28 ts (i : Int)).f1.length ≤ 1000000) : Ev (fun k => rSP.f k v ts v ts) true := by
  have hj : Ev (fun k => rSP.j0 k false v ts v ts) true := Ev.step (fun k => by simp only [rSP.j0]; rw [if_neg (by decide)]; rfl) (samePoly_l0 v ts ht hx ts.length 0 (by omega))
  refine Ev.congr (fun k => ?_) hj
  unfold rSP.f
  rw [if_pos rfl]
  simp
end Go.Proofs.YQ.PR
namespace Go.Proofs.YtoflmheodiajaaaGreatDoor
open Go.RowKit
set_option linter.unusedVariables false
set_option linter.unusedSimpArgs false
variable {Bs : Nat}
def toS (t : TermV) : Go.Proofs.YQ.PR.S28 := ⟨t.c, t.xs⟩
theorem C28_of_rdT {w : World} {A : Option Addr} {ts : List TermV} (hm : ts.length ≤ 9223372036854775807) (hx : ∀ i, i < ts.length → (tm ts i).xs.length ≤ 9223372036854775807) (h : RdT Bs w A ts) :
    Go.Proofs.YW.PrintWords.Kd.C Go.Proofs.YQ.PR.k28 w A (ts.map toS).length (ts.map toS) := by
  refine ⟨rfl, by simpa using hm, fun hn => ?_⟩
  rw [List.length_map] at hn
  obtain ⟨b, off, cs, t, fr, rfl, hb, _, hc⟩ := h hn
  refine ⟨_, rfl, fun j p hj => ?_⟩
  have hjl : j < ts.length := by have := (List.getElem?_eq_some_iff.1 hj).1; simpa using this
  obtain ⟨h1, h2, h3, h4, h5⟩ := hc j hjl
  have hp : p = toS (tm ts j) := by
    have := (List.getElem?_eq_some_iff.1 hj).2
    rw [← this, List.getElem_map, tm_at]
  subst hp
  refine ⟨[.string (tm ts j).c, .slice (tm ts j).A (tm ts j).xs.length (tm ts j).cap], rfl, Go.Proofs.YQ.PR.k28_mk w (toS (tm ts j)) h4 (H.C_of_rd (hx j hjl) h3), fun i u hu => ?_⟩
  have hi : i = 0 ∨ i = 1 := by
    have := (List.getElem?_eq_some_iff.1 hu).1
    simp at this
    omega
  show w.cell? ((⟨b, off, none⟩ : Addr).add (j * 2 + i)) = some u
  rcases hi with rfl | rfl
  · have hu' : Value.string (tm ts j).c = u := by simpa using hu
    rw [← hu', H.add_at, Lib.cell_of_heap hb, Nat.add_zero, Nat.mul_comm j 2]
    exact h1
  · have hu' : Value.slice (tm ts j).A (tm ts j).xs.length (tm ts j).cap = u := by simpa using hu
    rw [← hu', H.add_at, Lib.cell_of_heap hb, Nat.mul_comm j 2, ← Nat.add_assoc]
    exact h2
theorem samePoly_any (V : Int) (A0 : Option Addr) (c0 : Nat) (ts : List TermV) (A1 : Option Addr) (c1 : Nat) (tk : List TermV) (w : World) (h0 : RdT Bs w A0 ts) (h1 : RdT 0 w A1 tk) (hc0 : ts.length ≤ c0) (hc1 : ts.length ≤ c1) (hl : ts.length ≤ 1000000) (hx : ∀ i, i < ts.length → (tm ts i).xs.length ≤ 1000000) (he : tk.map bare = ts.map bare) :
    Calls Tryz.prog 10 #[.agg #[.int .i64 V, .slice A0 ts.length c0], .agg #[.int .i64 V, .slice A1 ts.length c1]] w fun e w' => e = .returned (.bool true) ∧ Below w.heap.size w w' := by
  have hlk := bare_len he
  have hmap : tk.map toS = ts.map toS := by
    have e1 : ∀ l : List TermV, l.map toS = (l.map bare).map toS := fun l => by rw [List.map_map]; rfl
    rw [e1 tk, e1 ts, he]
  have g0 := C28_of_rdT (by omega) (fun i hi => Nat.le_trans (hx i hi) (by omega)) h0
  have g1 := C28_of_rdT (by omega) (fun i hi => by rw [(bare_tm he i).2]; exact Nat.le_trans (hx i (by omega)) (by omega)) h1
  rw [hmap] at g1
  have hk0 : (ts.map toS).length = ts.length := by simp
  obtain ⟨k, hk⟩ := Go.Proofs.YW.PrintWords.Ev.rounds (Go.Proofs.YQ.PR.samePoly_f V (ts.map toS) (by omega) (fun i hi => by
    rw [hk0] at hi
    have : Go.Proofs.YQ.PR.rd_T28 (ts.map toS) (i : Int) = toS (tm ts i) := by
      simp [Go.Proofs.YQ.PR.rd_T28, hi, tm_at]
    rw [this]
    exact hx i hi))
  have hh := Go.Proofs.YQ.PR.rSP.calls k V A0 c0 (ts.map toS) V A1 c1 (ts.map toS) true w g0 (by omega) g1 (by omega) hk
  rw [hk0] at hh
  exact hh
end Go.Proofs.YtoflmheodiajaaaGreatDoor
namespace Go.Proofs.YtoflmheodiajaaaGreatDoor
open Go.RowKit
set_option linter.unusedVariables false
set_option linter.unusedSimpArgs false
theorem writerRT (bad : Bool) : BT 84 ([Value.bool bad] : List Value).length := ⟨by decide, by kernel_rfl⟩
def IsR (bad : Bool) (B b : Nat) (l : List UInt8) (w : World) : Prop := IsB 84 [.bool bad] B b (Lib.byteCells l) w
theorem countRef_small (p : Value) (i : Nat) (hi : i < 100) (w : World) :
    Calls Tryz.prog 36 #[p, .int .i64 i] w fun e w' => e = .returned (.string (decS i)) ∧ w' = w := by
  have hi0 : ¬ ((i : Int) < 0) := by omega
  go_enter Tryz.func36, Tryz.ntmps36
  go_wp2_with fail
  refine (Tryz.strconv_Itoa_small i hi _).mono ?_
  rintro e w' ⟨rfl, rfl⟩
  go_wp2
  go_ret
  exact ⟨rfl, rfl⟩
set_option maxHeartbeats 1000000 in
theorem lineRef_any (bad : Bool) (B b : Nat) (l : List UInt8) (xs : List ByteArray) (bk o c : Nat) (w : World) (h : IsR bad B b l w) (hcells : ∀ (j : Nat) x, xs[j]? = some x → w.cell? ⟨bk, o + j, none⟩ = some (.string x)) (hbk : bk < w.heap.size) (hcap : xs.length ≤ c)
    (hN : xs.length ≤ 140737488355328) (hlen : l.length + (lineOf xs).length ≤ 140737488355328) (hBw : B ≤ w.heap.size) :
    Calls Tryz.prog 35 #[.pointer (some ⟨b, 0, none⟩), .slice (some ⟨bk, o, none⟩) xs.length c] w fun e w' => e = .returned (.tuple #[]) ∧ IsR bad B b (l ++ lineOf xs) w' ∧ Oth B b w w' := by
  have hl1 : (lineOf xs).length = (Lib.join (xs.map (·.data.toList)) [32]).length + 1 := by simp [lineOf]
  have HJ := Lib.hid (Tryz.strings_Join bk o c xs ⟨#[32]⟩ w.drew hcells hbk hN hcap (by
    show (Lib.join (xs.map (·.data.toList)) [32]).length ≤ _
    omega))
  have HH := Lib.hid h
  have hsz : (⟨(Lib.join (xs.map (·.data.toList)) [32]).toArray⟩ : ByteArray).size + (⟨#[10]⟩ : ByteArray).size ≤ 9223372036854775807 := by
    have e1 : (⟨(Lib.join (xs.map (·.data.toList)) [32]).toArray⟩ : ByteArray).size = (Lib.join (xs.map (·.data.toList)) [32]).length := by simp [ByteArray.size]
    have e2 : (⟨#[10]⟩ : ByteArray).size = 1 := rfl
    omega
  clear h hcells
  go_enter Tryz.func35, Tryz.ntmps35
  go_wp2_with fail
  go_region_with (first | (go_at_call 55; refine HJ.out.mono ?_; rintro e w1 ⟨rfl, hb1⟩; have HB1 := Lib.hid hb1; clear hb1) | (go_at_call 54; refine (writeString_any (writerRT bad) B b (Lib.byteCells l) _ w1 (IsB.below HH.out (below_then (below_drew (below_refl w)) (Nat.le_refl _) HB1.out)) (by rw [Lib.byteCells_length]; show l.length + _ ≤ _; simp [ByteArray.size]; omega) (Nat.le_trans hBw HB1.out.size)).mono ?_; rintro e w2 ⟨rfl, h2, hb2⟩; have H2 := Lib.hid h2; have HB2 := Lib.hid hb2; clear h2 hb2))
  all_goals (
    go_wp2
    go_end0
    refine ⟨rfl, ⟨_, .inr rfl, ?_⟩, ?_⟩
    · have e : Lib.byteCells (l ++ lineOf xs) = Lib.byteCells l ++ Lib.strCells (⟨(Lib.join (xs.map (·.data.toList)) [32]).toArray⟩ ++ ⟨#[10]⟩) := by
        simp [Lib.byteCells, Lib.strCells, lineOf]
      rw [e]
      exact H2.out
    · exact (Oth.of_below (Oth.refl B b w) hBw (below_then (below_drew (below_refl w)) (Nat.le_refl _) HB1.out)).trans HB2.out)
end Go.Proofs.YtoflmheodiajaaaGreatDoor
