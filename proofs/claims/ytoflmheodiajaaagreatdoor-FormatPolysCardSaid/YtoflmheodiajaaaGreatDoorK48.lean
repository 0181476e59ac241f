import Derived.Test.YtoflmheodiajaaaGreatDoorK47
import Derived.Deep.RegionLaw
namespace Go.Proofs.YtoflmheodiajaaaGreatDoor
open Go.RowKit
set_option linter.unusedVariables false
set_option linter.unusedSimpArgs false
variable {Bs : Nat}
theorem orderRef_any (A0 : Option Addr) (c0 : Nat) (xs : List Int) (A1 : Option Addr) (c1 : Nat) (ys : List Int) (w : World) (h0 : Rd Bs w .i64 3 A0 xs) (h1 : Rd Bs w .i64 3 A1 ys) (hc0 : xs.length ≤ c0) (hc1 : ys.length ≤ c1) (hl : xs.length = ys.length) (h6 : xs.length ≤ 6)
    (hx : ExpR (fun j => el xs j)) (hy : ExpR (fun j => el ys j)) :
    Calls Tryz.prog 116 #[.slice A0 xs.length c0, .slice A1 ys.length c1] w fun e w' => e = .returned (.int .i64 (expCmp (fun j => el xs j) (fun j => el ys j))) ∧ Below w.heap.size w w' := by
  obtain ⟨k, hk⟩ := Go.Proofs.YW.PrintWords.Ev.rounds (Go.Proofs.YQ.PR.order_f xs ys hl h6 hx hy)
  refine (Go.Proofs.YQ.PR.rOr.calls k A0 c0 xs A1 c1 ys _ w (H.C_of_rd (by omega) h0) hc0 (H.C_of_rd (by omega) h1) hc1 hk).mono ?_
  rintro e w' ⟨rfl, hd⟩
  exact ⟨rfl, Go.Proofs.YW.PrintWords.Drawn0.below hd⟩
theorem validRef_any (A0 : Option Addr) (c0 : Nat) (xs : List Int) (w : World) (h0 : Rd Bs w .i64 3 A0 xs) (hc0 : xs.length ≤ c0) (h6 : xs.length ≤ 6) (hx : ExpR (fun j => el xs j)) :
    Calls Tryz.prog 89 #[.slice A0 xs.length c0] w fun e w' => e = .returned (.bool (decide (sumTo (fun j => el xs j) 6 ≤ 24))) ∧ Below w.heap.size w w' := by
  obtain ⟨k, hk⟩ := Go.Proofs.YW.PrintWords.Ev.rounds (Go.Proofs.YQ.PR.valid_f xs h6 hx)
  refine (Go.Proofs.YQ.PR.sosoptref05_Valid.calls k A0 c0 xs _ w (H.C_of_rd (by omega) h0) hc0 hk).mono ?_
  rintro e w' ⟨rfl, hd⟩
  exact ⟨rfl, Go.Proofs.YW.PrintWords.Drawn0.below hd⟩
def TermsR (w : World) (base : Nat) (tv : Value) (ts : List TermV) (n : Nat) : Prop :=
  ∃ L, w.ownsRow base 98 5 tv n L ∧ ∀ i, i < n → L[5 * i + 4]? = some (.slice (tm ts i).A (tm ts i).xs.length (tm ts i).cap)
theorem TermsR.shape {w : World} {base : Nat} {tv : Value} {ts : List TermV} {n : Nat} (h : TermsR w base tv ts n) : ∃ A c, tv = .slice A n c := by
  obtain ⟨L, ⟨_, h2⟩, _⟩ := h
  rcases h2 with ⟨rfl, h0⟩ | ⟨g, cap, cur, rfl, _⟩
  · exact ⟨none, 0, by rw [h0]⟩
  · exact ⟨_, cap, rfl⟩
theorem TermsR.below {w w1 : World} {base : Nat} {tv : Value} {ts : List TermV} {n : Nat} (h : TermsR w base tv ts n) (hb : Below w.heap.size w w1) : TermsR w1 base tv ts n := by
  obtain ⟨L, ⟨h1, h2⟩, h3⟩ := h
  refine ⟨L, ⟨h1, ?_⟩, h3⟩
  rcases h2 with h' | ⟨g, cap, cur, e, hbg, hh, r⟩
  · exact .inl h'
  · exact .inr ⟨g, cap, cur, e, hbg, by rw [hb.block g (lt_of_heap hh)]; exact hh, r⟩
theorem TermsR.first {w : World} {base : Nat} {tv : Value} {ts : List TermV} {n : Nat} (h : TermsR w base tv ts n) (hi : 0 < n) :
    ∃ g c, tv = .slice (some ⟨g, 0, none⟩) n c ∧ base ≤ g ∧ g < w.heap.size ∧ w.cell? ⟨g, 4, none⟩ = some (.slice (tm ts 0).A (tm ts 0).xs.length (tm ts 0).cap) := by
  obtain ⟨L, h1, h3⟩ := h
  have h1' := h1
  obtain ⟨_, h2⟩ := h1
  rcases h2 with ⟨rfl, h0⟩ | ⟨g, cap, cur, rfl, hbg, hh, _⟩
  · omega
  · exact ⟨g, cap, rfl, hbg, lt_of_heap hh, by rw [World.ownsRow.cellAt h1' _ (by omega)]; exact h3 0 hi⟩
theorem TermsR.setOther {w : World} {base : Nat} {tv : Value} {ts : List TermV} {n : Nat} (h : TermsR w base tv ts n) {b i : Nat} (hb : b < base) (u : Value) : TermsR (w.setCell ⟨b, i, none⟩ u) base tv ts n := by
  obtain ⟨L, ⟨h1, h2⟩, h3⟩ := h
  refine ⟨L, ⟨h1, ?_⟩, h3⟩
  rcases h2 with h' | ⟨g, cap, cur, e, hbg, hh, r⟩
  · exact .inl h'
  · exact .inr ⟨g, cap, cur, e, hbg, heap_far hh (by omega) u, r⟩
theorem TermsR.none (w : World) (base : Nat) (ts : List TermV) : TermsR w base (.slice none 0 0) ts 0 := ⟨[], World.ownsRow_nil w base _ 5, fun i hi => by omega⟩
theorem infoRT : (Tryz.prog.info? 98).map (fun i => (i.zero.map (fun z => z.cells.size), i.size, i.bytes)) = some (some 5, 5, 88) := by kernel_rfl
def termR (b1 : Bool) (A1 : Option Addr) (n1 c1 : Nat) (b2 : Bool) (A2 : Option Addr) (n2 c2 : Nat) (A : Option Addr) (n c : Nat) : List Value := [.bool b1, .slice A1 n1 c1, .bool b2, .slice A2 n2 c2, .slice A n c]
theorem stepAppendR {P : Program} (hP : P = Tryz.prog) {ops : Array Oper} {o : Oper} {a : Act} {Q : Exit → Act → World → Prop} {K : Act → World → Prop} {w0 W : World} (base : Nat) (hw : Region.wanted o (yielded ops a.tmps) = true) (s x : Operand)
    (ho : o.op = .call { callee := .builtin .append, args := #[s, x], argTypes := #[37, 37] })
    (tv : Value) (ts : List TermV) (n : Nat) (b1 : Bool) (A1 : Option Addr) (n1 c1 : Nat) (b2 : Bool) (A2 : Option Addr) (n2 c2 : Nat) (A : Option Addr) (l c : Nat) (hA : (tm ts n).A = A) (hl' : (tm ts n).xs.length = l) (hc' : (tm ts n).cap = c)
    (hs : a.eval s = tv) (hx : a.eval x = .slice (some ⟨W.heap.size, 0, none⟩) 1 1) (HO : TermsR W base tv ts n) (HB : Below base w0 W) (hbase : base ≤ W.heap.size) (hl : n ≤ 1000000)
    (h : ∀ v1 w1, TermsR w1 base v1 ts (n + 1) → Below base w0 w1 → base ≤ w1.heap.size → K (a.put o.dst v1) w1) :
    if Region.wanted o (yielded ops a.tmps) = true then Oper.wp P o a (W.alloc (.cells (termR b1 A1 n1 c1 b2 A2 n2 c2 A l c).toArray 98)) K Q else K (a.put o.dst undef) (W.alloc (.cells (termR b1 A1 n1 c1 b2 A2 n2 c2 A l c).toArray 98)) := by
  subst hP
  obtain ⟨L, HL, hL⟩ := HO
  obtain ⟨i0, hi, hzz⟩ := Option.map_eq_some_iff.1 infoRT
  simp only [Prod.mk.injEq] at hzz
  obtain ⟨hz0, hz1, hz2⟩ := hzz
  obtain ⟨z, hz, hz3⟩ := Option.map_eq_some_iff.1 hz0
  refine Go.Proofs.YW.PrintWords.step_append_cells (w0 := w0) base hw s x 37 98 z 5 88 ho Tryz.underlying37 (by rw [hi]; simp only [Option.map_some]; rw [hz, hz1, hz2]) hz3 (by omega) (by omega) tv n L (termR b1 A1 n1 c1 b2 A2 n2 c2 A l c) hs hx rfl ?_ HL HB hbase (by omega) ?_
  · intro u hu
    simp only [termR, List.mem_cons, List.not_mem_nil, or_false] at hu
    rcases hu with rfl | rfl | rfl | rfl | rfl <;> rfl
  intro v1 w1 hown hb hg hat
  have hsz := hg.size
  refine h v1 w1 ⟨_, hown, fun i hi => ?_⟩ hb (by omega)
  have hlen := HL.1
  by_cases e : i = n
  · subst e
    rw [List.getElem?_append_right (by omega), show 5 * i + 4 - L.length = 4 by omega, hA, hl', hc']
    rfl
  · rw [List.getElem?_append_left (by omega)]
    exact hL i (by omega)
structure WrIn (w : World) (A : Option Addr) (ca : Nat) (ts : List TermV) (vars : Int) (k : Nat) (tv : Value) (W : World) : Prop where
  below : Below w.heap.size w W
  size : w.heap.size + 2 < W.heap.size
  box : W.heap[w.heap.size]? = some (.cells #[.int .i64 vars, .slice A ts.length ca] 24 (0, 0))
  out : W.heap[w.heap.size + 1]? = some (.cells #[.int .i64 0, .slice none 0 0] 39 (0, 0))
  poly : W.heap[w.heap.size + 2]? = some (.cells #[.int .i64 vars, tv] 39 (0, 0))
  terms : TermsR W (w.heap.size + 3) tv ts k
theorem WrIn.since {w W W1 : World} {A : Option Addr} {ca : Nat} {ts : List TermV} {vars : Int} {k : Nat} {tv : Value} (h : WrIn w A ca ts vars k tv W) (hb : Below W.heap.size W W1) : WrIn w A ca ts vars k tv W1 :=
  ⟨below_then h.below h.below.size hb, Nat.lt_of_lt_of_le h.size hb.size, by rw [hb.block _ (by have := h.size; omega)]; exact h.box, by rw [hb.block _ (by have := h.size; omega)]; exact h.out, by rw [hb.block _ h.size]; exact h.poly, h.terms.below hb⟩
theorem WrIn.next {w W W4 : World} {A : Option Addr} {ca : Nat} {ts : List TermV} {vars : Int} {k : Nat} {tv v1 : Value} (h : WrIn w A ca ts vars k tv W) (hb : Below (w.heap.size + 3) W W4) (ht : TermsR W4 (w.heap.size + 3) v1 ts (k + 1)) :
    WrIn w A ca ts vars (k + 1) v1 (W4.setCell ⟨w.heap.size + 2, 1, none⟩ v1) := by
  have p4 : W4.heap[w.heap.size + 2]? = some (.cells #[.int .i64 vars, tv] 39 (0, 0)) := (hb.block _ (by omega)).trans h.poly
  refine ⟨(below_mix h.below (by omega) hb).setCell (p := ⟨w.heap.size + 2, 1, none⟩) (by simp) _, ?_, ?_, ?_, ?_, ht.setOther (by omega) _⟩
  · have := hb.size
    have := h.size
    simp
    omega
  · exact heap_far ((hb.block _ (by omega)).trans h.box) (by omega) _
  · exact heap_far ((hb.block _ (by omega)).trans h.out) (by omega) _
  · rw [heap_setCell p4]; rfl
def WrRel (okC zC : ByteArray → Bool) (w : World) (A : Option Addr) (ca : Nat) (ts : List TermV) (vars : Int) (i : Value) (W : World) : Prop :=
  ∃ (k : Nat) (tv : Value), i = .int .i64 k ∧ k ≤ ts.length ∧ wfFrom okC zC vars ts 0 = wfFrom okC zC vars ts k ∧ (∀ i, i < k → tOk okC zC vars ts i = true) ∧ WrIn w A ca ts vars k tv W
def WrPost (ts : List TermV) (vars : Int) (base : Nat) (ok : Bool) (v : Value) (w' : World) : Prop :=
  ∃ n A l c, v = .tuple #[.agg #[.int .i64 n, .slice A l c], .bool ok] ∧ (ok = true → n = vars ∧ l = ts.length ∧ TermsR w' base (.slice A l c) ts ts.length)
theorem wrPost_no (ts : List TermV) (vars : Int) (base : Nat) (w' : World) : WrPost ts vars base false (.tuple #[.agg #[.int .i64 0, .slice none 0 0], .bool false]) w' := ⟨_, _, _, _, rfl, fun h => by cases h⟩
theorem refRead_range (okC zC : ByteArray → Bool) (A : Option Addr) (ca : Nat) (ts : List TermV) (vars : Int) (w : World) (hv : vars < 0 ∨ 6 < vars) :
    Calls Tryz.prog 88 #[.agg #[.int .i64 vars, .slice A ts.length ca]] w (Gives w fun v w' => WrPost ts vars (w.heap.size + 3) (wfOk okC zC vars ts) v w') := by
  have HK := Lib.hid (show wfOk okC zC vars ts = false by
    have : ¬ (0 ≤ vars ∧ vars ≤ 6) := by omega
    simp [wfOk, this])
  rcases hv with h | h
  · go_enter Tryz.func88, Tryz.ntmps88
    go_wp2
    refine bodyPost_ret (v := .tuple #[.agg #[.int .i64 0, .slice none 0 0], .bool false]) (by simp [results, Tryz.results88, go_sem]) rfl ⟨_, rfl, by rw [HK.out]; exact wrPost_no _ _ _ _, ?_⟩
    exact below_alloc (below_alloc (below_alloc (below_refl _) _) _) _
  · have h' : ¬ vars < 0 := by omega
    go_enter Tryz.func88, Tryz.ntmps88
    go_wp2
    refine bodyPost_ret (v := .tuple #[.agg #[.int .i64 0, .slice none 0 0], .bool false]) (by simp [results, Tryz.results88, go_sem]) rfl ⟨_, rfl, by rw [HK.out]; exact wrPost_no _ _ _ _, ?_⟩
    exact below_alloc (below_alloc (below_alloc (below_refl _) _) _) _
set_option maxRecDepth 100000 in
set_option maxHeartbeats 4000000 in
theorem refRead_in (A : Option Addr) (ca : Nat) (ts : List TermV) (vars : Int) (w : World) (hBs : Bs ≤ w.heap.size) (hA : RdT Bs w A ts)
    (hc : ts.length ≤ ca) (hm : ts.length ≤ 4096) (hd : ∀ i, i < ts.length → (tm ts i).c.size ≤ 1000000) (hv1 : 0 ≤ vars) (hv2 : vars ≤ 6) :
    Calls Tryz.prog 88 #[.agg #[.int .i64 vars, .slice A ts.length ca]] w (Gives w fun v w' => WrPost ts vars (w.heap.size + 3) (wfOk okF zF vars ts) v w') := by
  have HA := Lib.hid hA
  have HD := Lib.hid hd
  have hv3 : ¬ vars < 0 := by omega
  have hv4 : ¬ 6 < vars := by omega
  have HW := Lib.hid (show wfOk okF zF vars ts = wfFrom okF zF vars ts 0 by simp [wfOk, hv1, hv2])
  clear hA hd
  go_enter Tryz.func88, Tryz.ntmps88
  go_wp2
  go_loopw [5] (fun i W => WrRel okF zF w A ca ts vars i W) (fun i _ => ts.length - (intOf i).toNat)
  case atStart =>
    exact ⟨0, .slice none 0 0, rfl, by omega, rfl, fun i hi => by omega, below_alloc (below_alloc (below_alloc (below_refl _) _) _) _, by simp, (heap_three w _ _ _).1, (heap_three w _ _ _).2.1, (heap_three w _ _ _).2.2, TermsR.none _ _ _⟩
  case round =>
    obtain ⟨k, tv, rfl, hk, he, hall, hin⟩ := hrel
    have HE := Lib.hid he
    have HALL := Lib.hid hall
    have HIN := Lib.hid hin
    clear he hall hin
    have b00 : wr.cell? ⟨w.heap.size, 0, none⟩ = some (.int .i64 vars) := by rw [Lib.cell_of_heap HIN.out.box]; rfl
    have b01 : wr.cell? ⟨w.heap.size, 1, none⟩ = some (.slice A ts.length ca) := by rw [Lib.cell_of_heap HIN.out.box]; rfl
    by_cases hlt : k < ts.length
    · obtain ⟨ab, ao, rfl, hab, hcA⟩ := HA.out.plain (by omega)
      obtain ⟨hcA1, hcA2, hT1, hT2, hT3⟩ := hcA k hlt
      have hA1 := (HIN.out.below.cell (p := ⟨ab, ao + 2 * k, none⟩) hab).trans hcA1
      have hA2 := (HIN.out.below.cell (p := ⟨ab, ao + 2 * k + 1, none⟩) hab).trans hcA2
      rw [show 2 * k = k * 2 by omega] at hA1 hA2
      have HT := Lib.hid hT1
      have HCA := Lib.hid hcA
      clear hcA hcA1 hcA2 hT1
      have hsz := HIN.out.below.size
      go_wp2_with fail
      refine (readRef_any (tm ts k).c _ (HD.out k hlt)).mono ?_
      rintro e w1 ⟨_, rfl, ⟨b1, A1, n1, c1, b2, A2, n2, c2, rfl, hz⟩, hb1⟩
      have HZ := Lib.hid hz
      have HX1 := Lib.hid (HIN.out.since hb1)
      have HB1 := Lib.hid hb1
      have HX2 := Lib.hid (HX1.out.since (below_alloc (below_refl w1) (.cells #[.bool b1, .slice A1 n1 c1, .bool b2, .slice A2 n2 c2] 96)))
      clear hb1 hz b00 b01 hA1
      have hU := heap_alloc_new w1 (.cells #[.bool b1, .slice A1 n1 c1, .bool b2, .slice A2 n2 c2] 96)
      have C0 := fun x : After (w1.alloc (.cells #[.bool b1, .slice A1 n1 c1, .bool b2, .slice A2 n2 c2] 96)) => (x.below.cell (p := ⟨w1.heap.size, 0, none⟩) (by simp)).trans (show _ = some (.bool b1) by rw [Lib.cell_of_heap hU]; rfl)
      have C1 := fun x : After (w1.alloc (.cells #[.bool b1, .slice A1 n1 c1, .bool b2, .slice A2 n2 c2] 96)) => (x.below.cell (p := ⟨w1.heap.size, 1, none⟩) (by simp)).trans (show _ = some (.slice A1 n1 c1) by rw [Lib.cell_of_heap hU]; rfl)
      have C2 := fun x : After (w1.alloc (.cells #[.bool b1, .slice A1 n1 c1, .bool b2, .slice A2 n2 c2] 96)) => (x.below.cell (p := ⟨w1.heap.size, 2, none⟩) (by simp)).trans (show _ = some (.bool b2) by rw [Lib.cell_of_heap hU]; rfl)
      have C3 := fun x : After (w1.alloc (.cells #[.bool b1, .slice A1 n1 c1, .bool b2, .slice A2 n2 c2] 96)) => (x.below.cell (p := ⟨w1.heap.size, 3, none⟩) (by simp)).trans (show _ = some (.slice A2 n2 c2) by rw [Lib.cell_of_heap hU]; rfl)
      have X0 := fun x : After (w1.alloc (.cells #[.bool b1, .slice A1 n1 c1, .bool b2, .slice A2 n2 c2] 96)) => show x.w.cell? ⟨w.heap.size, 0, none⟩ = some (.int .i64 vars) by rw [Lib.cell_of_heap (HX2.out.since x.below).box]; rfl
      have X1 := fun x : After (w1.alloc (.cells #[.bool b1, .slice A1 n1 c1, .bool b2, .slice A2 n2 c2] 96)) => show x.w.cell? ⟨w.heap.size, 1, none⟩ = some (.slice (some ⟨ab, ao, none⟩) ts.length ca) by rw [Lib.cell_of_heap (HX2.out.since x.below).box]; rfl
      have XA := fun x : After (w1.alloc (.cells #[.bool b1, .slice A1 n1 c1, .bool b2, .slice A2 n2 c2] 96)) => show x.w.cell? ⟨ab, ao + k * 2 + 1, none⟩ = some (.slice (tm ts k).A (tm ts k).xs.length (tm ts k).cap) by
        rw [show ao + k * 2 + 1 = ao + 2 * k + 1 by omega]
        exact ((HX2.out.since x.below).below.cell (p := ⟨ab, ao + 2 * k + 1, none⟩) hab).trans (HCA.out k hlt).2.1
      have FO := fun x : After (w1.alloc (.cells #[.bool b1, .slice A1 n1 c1, .bool b2, .slice A2 n2 c2] 96)) => show x.w.cell? ⟨w.heap.size + 1, 0, none⟩ = some (.int .i64 0) by rw [Lib.cell_of_heap (HX2.out.since x.below).out]; rfl
      have FO1 := fun x : After (w1.alloc (.cells #[.bool b1, .slice A1 n1 c1, .bool b2, .slice A2 n2 c2] 96)) => show x.w.cell? ⟨w.heap.size + 1, 1, none⟩ = some (.slice none 0 0) by rw [Lib.cell_of_heap (HX2.out.since x.below).out]; rfl
      have FZ := fun (x : After (w1.alloc (.cells #[.bool b1, .slice A1 n1 c1, .bool b2, .slice A2 n2 c2] 96))) i => Lib.frozen_of_heap (HX2.out.since x.below).out i
      clear hA2 hU
      have HRS := Lib.hid (rsign_any b1 A1 n1 c1 b2 A2 n2 c2)
      cases hoc : okF (tm ts k).c
      · have HN := Lib.hid (show tOk okF zF vars ts k = false by simp [tOk, hoc])
        go_wp2_with fail
        (refine wp_region_after_lit (by kernel_rfl) (by kernel_rfl) ?_; (repeat (go_big_quiet_step (fail))); refine wpQuiet_nil ?_; intro _ hw'; obtain ⟨xa, hw''⟩ := hw'; subst hw'')
        go_wp2
        have HX := Lib.hid (HX2.out.since xa.below)
        have o0 := FO xa
        have o1 := FO1 xa
        have hs9 := HX.out.size
        refine bodyPost_ret (v := .tuple #[.agg #[.int .i64 0, .slice none 0 0], .bool false]) (by simp [results, Tryz.results88, go_sem, o0, o1, hs9, Nat.lt_of_succ_lt hs9]) rfl ⟨_, rfl, by rw [HW.out, HE.out, wfFrom_no hlt HN.out]; exact wrPost_no _ _ _ _, ?_⟩
        exact (HX.out.below.setCell (p := ⟨w.heap.size + 1, 0, none⟩) (Nat.le_succ _) _).setCell (p := ⟨w.heap.size + 1, 1, none⟩) (Nat.le_succ _) _
      cases hzc : zF (tm ts k).c
      case true =>
        have HN := Lib.hid (show tOk okF zF vars ts k = false by simp [tOk, hzc])
        have hzz : (sgnR b1 n1 == 0) = true := (HZ.out hoc).trans hzc
        go_wp2_with fail
        (refine wp_region_after_lit (by kernel_rfl) (by kernel_rfl) ?_; (repeat (go_big_quiet_step ((go_at_call 115; exact after_call (HRS.out _))))); refine wpQuiet_nil ?_; intro _ hw'; obtain ⟨xa, hw''⟩ := hw'; subst hw'')
        go_wp2
        have HX := Lib.hid (HX2.out.since xa.below)
        have o0 := FO xa
        have o1 := FO1 xa
        have hs9 := HX.out.size
        refine bodyPost_ret (v := .tuple #[.agg #[.int .i64 0, .slice none 0 0], .bool false]) (by simp [results, Tryz.results88, go_sem, o0, o1, hs9, Nat.lt_of_succ_lt hs9]) rfl ⟨_, rfl, by rw [HW.out, HE.out, wfFrom_no hlt HN.out]; exact wrPost_no _ _ _ _, ?_⟩
        exact (HX.out.below.setCell (p := ⟨w.heap.size + 1, 0, none⟩) (Nat.le_succ _) _).setCell (p := ⟨w.heap.size + 1, 1, none⟩) (Nat.le_succ _) _
      have hzz : (sgnR b1 n1 == 0) = false := (HZ.out hoc).trans hzc
      by_cases hln : ((tm ts k).xs.length : Int) = vars
      case neg =>
        have hlb : (((tm ts k).xs.length : Int) != vars) = true := by simp [hln]
        have HN := Lib.hid (show tOk okF zF vars ts k = false by simp [tOk, hln])
        go_wp2_with fail
        (refine wp_region_after_lit (by kernel_rfl) (by kernel_rfl) ?_; (repeat (go_big_quiet_step ((go_at_call 115; exact after_call (HRS.out _))))); refine wpQuiet_nil ?_; intro _ hw'; obtain ⟨xa, hw''⟩ := hw'; subst hw'')
        go_wp2
        have HX := Lib.hid (HX2.out.since xa.below)
        have o0 := FO xa
        have o1 := FO1 xa
        have hs9 := HX.out.size
        refine bodyPost_ret (v := .tuple #[.agg #[.int .i64 0, .slice none 0 0], .bool false]) (by simp [results, Tryz.results88, go_sem, o0, o1, hs9, Nat.lt_of_succ_lt hs9]) rfl ⟨_, rfl, by rw [HW.out, HE.out, wfFrom_no hlt HN.out]; exact wrPost_no _ _ _ _, ?_⟩
        exact (HX.out.below.setCell (p := ⟨w.heap.size + 1, 0, none⟩) (Nat.le_succ _) _).setCell (p := ⟨w.heap.size + 1, 1, none⟩) (Nat.le_succ _) _
      have hlb : (((tm ts k).xs.length : Int) != vars) = false := by simp [hln]
      go_wp2_with fail
      (refine wp_region_after_lit (by kernel_rfl) (by kernel_rfl) ?_; (repeat (go_big_quiet_step ((go_at_call 115; exact after_call (HRS.out _))))); refine wpQuiet_nil ?_; intro _ hw'; obtain ⟨xa, hw''⟩ := hw'; subst hw'')
      go_wp2
      have HXU := Lib.hid (HX2.out.since xa.below)
      have ju0 := X0 xa
      have ju1 := X1 xa
      have ju2 := FO xa
      have ju3 := FO1 xa
      have juz := FZ xa
      have juA := XA xa
      have d0 := C0 xa
      have d1 := C1 xa
      have d2 := C2 xa
      have d3 := C3 xa
      have jus := HXU.out.size
      have hgl : w1.heap.size < xa.w.heap.size := by have := xa.below.size; simp at this; omega
      clear C0 C1 C2 C3 X0 X1 XA FO FO1 FZ hzz hlb HRS
      generalize xa.w = U at *
      obtain ⟨EA, hEA⟩ : ∃ EA, (tm ts k).A = EA := ⟨_, rfl⟩
      have hte := HT.out
      rw [hEA] at juA hte
      have HTE := Lib.hid hte
      have HEA := Lib.hid hEA
      have hl6 : (tm ts k).xs.length ≤ 6 := by omega
      have HLN := Lib.hid hln
      clear hte hEA hln
      go_loop [8] (fun v => ∃ j : Nat, j ≤ (tm ts k).xs.length ∧ v = .int .i64 j ∧ expsFrom (tm ts k).xs 1048576 0 = expsFrom (tm ts k).xs 1048576 j) (fun v => (tm ts k).xs.length - (intOf v).toNat)
      case atStart => exact ⟨0, by omega, rfl, rfl⟩
      case round =>
        obtain ⟨j, hj, rfl, hej⟩ := hrel
        have HEJ := Lib.hid hej
        clear hej
        by_cases hjl : j < (tm ts k).xs.length
        · obtain ⟨xb, xo, rfl, hxb, hxc⟩ := HTE.out.plain (by omega)
          have hx1 := (HXU.out.below.cell (p := ⟨xb, xo + j, none⟩) hxb).trans (hxc j hjl)
          have hjv : (j : Int) < vars := by have := HLN.out; omega
          clear hxc
          by_cases g1 : el (tm ts k).xs j < 0
          · have HN := Lib.hid (show tOk okF zF vars ts k = false by
              have h1 : expOk (tm ts k).xs 1048576 = false := by simp [expOk, HEJ.out, expsFrom_no hjl (.inl g1)]
              simp [tOk, h1])
            go_wp2
            refine bodyPost_ret (v := .tuple #[.agg #[.int .i64 0, .slice none 0 0], .bool false]) (by simp [results, Tryz.results88, go_sem, ju2, ju3, jus, Nat.lt_of_succ_lt jus]) rfl ⟨_, rfl, by rw [HW.out, HE.out, wfFrom_no hlt HN.out]; exact wrPost_no _ _ _ _, ?_⟩
            exact (HXU.out.below.setCell (p := ⟨w.heap.size + 1, 0, none⟩) (Nat.le_succ _) _).setCell (p := ⟨w.heap.size + 1, 1, none⟩) (Nat.le_succ _) _
          · by_cases g2 : 1048576 < el (tm ts k).xs j
            · have HN := Lib.hid (show tOk okF zF vars ts k = false by
                have h1 : expOk (tm ts k).xs 1048576 = false := by simp [expOk, HEJ.out, expsFrom_no hjl (.inr g2)]
                simp [tOk, h1])
              go_wp2
              refine bodyPost_ret (v := .tuple #[.agg #[.int .i64 0, .slice none 0 0], .bool false]) (by simp [results, Tryz.results88, go_sem, ju2, ju3, jus, Nat.lt_of_succ_lt jus]) rfl ⟨_, rfl, by rw [HW.out, HE.out, wfFrom_no hlt HN.out]; exact wrPost_no _ _ _ _, ?_⟩
              exact (HXU.out.below.setCell (p := ⟨w.heap.size + 1, 0, none⟩) (Nat.le_succ _) _).setCell (p := ⟨w.heap.size + 1, 1, none⟩) (Nat.le_succ _) _
            · have HN := Lib.hid (expsFrom_step (xs := (tm ts k).xs) (most := 1048576) (k := j) (by omega) (by omega))
              go_wp2
              go_round
              case rel => exact ⟨j + 1, by omega, by go_num, by rw [HEJ.out, HN.out]⟩
              case measure => simp [intOf]; omega
        · obtain rfl : j = (tm ts k).xs.length := by omega
          have hox : expOk (tm ts k).xs 1048576 = true := by simp [expOk, HEJ.out, expsFrom_end, hl6]
          have HOX := Lib.hid hox
          have hjv : ¬ (((tm ts k).xs.length : Int) < vars) := by have := HLN.out; omega
          clear hox
          have X0 := fun x : After U => show x.w.cell? ⟨w.heap.size, 0, none⟩ = some (.int .i64 vars) by rw [Lib.cell_of_heap (HXU.out.since x.below).box]; rfl
          have X1 := fun x : After U => show x.w.cell? ⟨w.heap.size, 1, none⟩ = some (.slice (some ⟨ab, ao, none⟩) ts.length ca) by rw [Lib.cell_of_heap (HXU.out.since x.below).box]; rfl
          have XA := fun x : After U => (x.below.cell (p := ⟨ab, ao + k * 2 + 1, none⟩) (Nat.lt_of_lt_of_le hab HXU.out.below.size)).trans juA
          have X2 := fun x : After U => show x.w.cell? ⟨w.heap.size + 1, 0, none⟩ = some (.int .i64 0) by rw [Lib.cell_of_heap (HXU.out.since x.below).out]; rfl
          have X3 := fun x : After U => show x.w.cell? ⟨w.heap.size + 1, 1, none⟩ = some (.slice none 0 0) by rw [Lib.cell_of_heap (HXU.out.since x.below).out]; rfl
          have XZ := fun (x : After U) i => Lib.frozen_of_heap (HXU.out.since x.below).out i
          have D0 := fun x : After U => (x.below.cell (p := ⟨w1.heap.size, 0, none⟩) hgl).trans d0
          have D1 := fun x : After U => (x.below.cell (p := ⟨w1.heap.size, 1, none⟩) hgl).trans d1
          have D2 := fun x : After U => (x.below.cell (p := ⟨w1.heap.size, 2, none⟩) hgl).trans d2
          have D3 := fun x : After U => (x.below.cell (p := ⟨w1.heap.size, 3, none⟩) hgl).trans d3
          cases k with
          | zero =>
            go_wp2_with fail
            (refine wp_region_after_lit (by kernel_rfl) (by kernel_rfl) ?_; (repeat (go_big_quiet_step (fail))); refine wpQuiet_nil ?_; intro _ hw'; obtain ⟨xa, hw''⟩ := hw'; subst hw'')
            go_wp2
            have HT0 := Lib.hid (show tOk okF zF vars ts 0 = true by simp [tOk, hoc, HOX.out, hzc, HLN.out])
            have HXV := Lib.hid (HXU.out.since xa.below)
            have v0 := X1 xa
            have v1 := XA xa
            have e0 := D0 xa
            have e1 := D1 xa
            have e2 := D2 xa
            have e3 := D3 xa
            have vt : xa.w.cell? ⟨w.heap.size + 1 + 1, 1, none⟩ = some tv := by rw [show w.heap.size + 1 + 1 = w.heap.size + 2 from rfl, Lib.cell_of_heap HXV.out.poly]; rfl
            have vs := HXV.out.size
            clear X0 X1 XA X2 X3 XZ D0 D1 D2 D3 ju0 ju1 ju2 ju3 juz juA jus d0 d1 d2 d3
            generalize xa.w = V at *
            have HXD := Lib.hid (HXV.out.since (below_drew (below_refl V)))
            go_region_law (refine stepAppendR (W := V.drew) (w0 := V.drew) rfl (w.heap.size + 3) rfl (.tmp 108) (.tmp 117) rfl tv ts 0 b1 A1 n1 c1 b2 A2 n2 c2 EA (tm ts 0).xs.length (tm ts 0).cap HEA.out rfl rfl (by simp [Act.eval, Act.put]) (by simp [Act.eval, Act.put]) HXD.out.terms (Below.refl _ _) HXD.out.size (by omega) ?_; intro v9 w4 ht4 hb4 hs4; obtain ⟨A4, n4, rfl⟩ := ht4.shape; have c4 : w4.cell? ⟨w.heap.size + 1 + 1, 1, none⟩ = some tv := by { rw [show w.heap.size + 1 + 1 = w.heap.size + 2 from rfl, Lib.cell_of_heap ((hb4.block _ (by omega)).trans HXD.out.poly)]; rfl }; have z4 : ∀ i, w4.frozen? ⟨w.heap.size + 1 + 1, i, none⟩ = false := fun i => Lib.frozen_of_heap ((hb4.block _ (by omega)).trans HXD.out.poly) i; have HN4 := Lib.hid (HXD.out.next hb4 ht4); clear ht4)
            all_goals
              go_wp2
              go_roundw
              case rel => exact ⟨0 + 1, _, by go_num, by omega, wfFrom_step HT0.out, fun i hi => by (obtain rfl : i = 0 := by omega); exact HT0.out, HN4.out⟩
              case measure => simp [intOf]; omega
          | succ k =>
            have hpk := HALL.out k (by omega)
            have hpx : expOk (tm ts k).xs 1048576 = true ∧ ((tm ts k).xs.length : Int) = vars := by
              simp only [tOk, Bool.and_eq_true, decide_eq_true_eq] at hpk
              exact ⟨hpk.2.1, hpk.2.2.2.1⟩
            have hlp : (tm ts k).xs.length = (tm ts (k + 1)).xs.length := by have := hpx.2; have := HLN.out; omega
            obtain ⟨hp1, hp2, hp3, hp4, hp5⟩ := HCA.out k (by omega)
            obtain ⟨PA, hPA⟩ : ∃ PA, (tm ts k).A = PA := ⟨_, rfl⟩
            rw [hPA] at hp2 hp3
            obtain ⟨C, hC⟩ : ∃ C, C = expCmp (exF (tm ts k)) (exF (tm ts (k + 1))) := ⟨_, rfl⟩
            have HCM := Lib.hid (fun W (hb : Below w.heap.size w W) => (orderRef_any (Bs := Bs) PA (tm ts k).cap (tm ts k).xs EA (tm ts (k + 1)).cap (tm ts (k + 1)).xs W (hp3.below hb) (HTE.out.below hb) hp4 hT2 hlp (by omega) (expR_of (by omega) (by omega) hpx.1) (expR_of (by omega) (by omega) HOX.out)).mono (R' := fun e w' => e = .returned (.int .i64 C) ∧ Below W.heap.size W w') (by rintro e w' ⟨rfl, hb⟩; exact ⟨by rw [hC]; rfl, hb⟩))
            have XP := fun x : After U => show x.w.cell? ⟨ab, ao + k * 2 + 1, none⟩ = some (.slice PA (tm ts k).xs.length (tm ts k).cap) by
              rw [show ao + k * 2 + 1 = ao + 2 * k + 1 by omega]
              exact ((HXU.out.since x.below).below.cell (p := ⟨ab, ao + 2 * k + 1, none⟩) hab).trans hp2
            have hi1 : ((k + 1 : Nat) : Int) - 1 = (k : Int) := by omega
            have hk1 : (k : Int) < (ts.length : Int) := by omega
            have hk2 : (k : Int) + 1 < (ts.length : Int) := by omega
            have hk3 : (0 : Int) ≤ (k : Int) + 1 := by omega
            have hk4 : k + 1 < ts.length := hlt
            have HBU := Lib.hid HXU.out.below
            clear hp1 hp2 hp3 hp4 hp5 hpx hpk hlp hPA
            by_cases hcm : C ≤ 0
            · have HN := Lib.hid (show tOk okF zF vars ts (k + 1) = false by
                have : ¬ (0 < expCmp (exF (tm ts k)) (exF (tm ts (k + 1)))) := by omega
                simp [tOk, this])
              clear hC
              go_wp2_with fail
              (refine wp_region_after_lit (by kernel_rfl) (by kernel_rfl) ?_; (repeat (go_big_quiet_step ((go_at_call 116; exact after_call (HCM.out _ (below_then HBU.out HBU.out.size (by rename_i xq; exact xq.below))))))); refine wpQuiet_nil ?_; intro _ hw'; obtain ⟨xa, hw''⟩ := hw'; subst hw'')
              go_wp2
              have o0 := X2 xa
              have o1 := X3 xa
              have HX := Lib.hid (HXU.out.since xa.below)
              have hs9 := HX.out.size
              refine bodyPost_ret (v := .tuple #[.agg #[.int .i64 0, .slice none 0 0], .bool false]) (by simp [results, Tryz.results88, go_sem, o0, o1, hs9, Nat.lt_of_succ_lt hs9]) rfl ⟨_, rfl, by rw [HW.out, HE.out, wfFrom_no hlt HN.out]; exact wrPost_no _ _ _ _, ?_⟩
              exact (HX.out.below.setCell (p := ⟨w.heap.size + 1, 0, none⟩) (Nat.le_succ _) _).setCell (p := ⟨w.heap.size + 1, 1, none⟩) (Nat.le_succ _) _
            · have HT0 := Lib.hid (show tOk okF zF vars ts (k + 1) = true by
                have : 0 < expCmp (exF (tm ts k)) (exF (tm ts (k + 1))) := by omega
                simp [tOk, hoc, HOX.out, hzc, HLN.out, this])
              clear hC
              go_wp2_with fail
              (refine wp_region_after_lit (by kernel_rfl) (by kernel_rfl) ?_; (repeat (go_big_quiet_step ((go_at_call 116; exact after_call (HCM.out _ (below_then HBU.out HBU.out.size (by rename_i xq; exact xq.below))))))); refine wpQuiet_nil ?_; intro _ hw'; obtain ⟨xa, hw''⟩ := hw'; subst hw'')
              go_wp2
              clear XP
              have HXV := Lib.hid (HXU.out.since xa.below)
              have v0 := X1 xa
              have v1 := XA xa
              have e0 := D0 xa
              have e1 := D1 xa
              have e2 := D2 xa
              have e3 := D3 xa
              have vt : xa.w.cell? ⟨w.heap.size + 1 + 1, 1, none⟩ = some tv := by rw [show w.heap.size + 1 + 1 = w.heap.size + 2 from rfl, Lib.cell_of_heap HXV.out.poly]; rfl
              have vs := HXV.out.size
              clear X0 X1 XA X2 X3 XZ D0 D1 D2 D3 ju0 ju1 ju2 ju3 juz juA jus d0 d1 d2 d3
              generalize xa.w = V at *
              have HXD := Lib.hid (HXV.out.since (below_drew (below_refl V)))
              go_region_law (refine stepAppendR (W := V.drew) (w0 := V.drew) rfl (w.heap.size + 3) rfl (.tmp 108) (.tmp 117) rfl tv ts (k + 1) b1 A1 n1 c1 b2 A2 n2 c2 EA (tm ts (k + 1)).xs.length (tm ts (k + 1)).cap HEA.out rfl rfl (by simp [Act.eval, Act.put]) (by simp [Act.eval, Act.put]) HXD.out.terms (Below.refl _ _) HXD.out.size (by omega) ?_; intro v9 w4 ht4 hb4 hs4; obtain ⟨A4, n4, rfl⟩ := ht4.shape; have c4 : w4.cell? ⟨w.heap.size + 1 + 1, 1, none⟩ = some tv := by { rw [show w.heap.size + 1 + 1 = w.heap.size + 2 from rfl, Lib.cell_of_heap ((hb4.block _ (by omega)).trans HXD.out.poly)]; rfl }; have z4 : ∀ i, w4.frozen? ⟨w.heap.size + 1 + 1, i, none⟩ = false := fun i => Lib.frozen_of_heap ((hb4.block _ (by omega)).trans HXD.out.poly) i; have HN4 := Lib.hid (HXD.out.next hb4 ht4); clear ht4)
              all_goals
                go_wp2
                go_roundw
                case rel => exact ⟨k + 1 + 1, _, by go_num, by omega, by rw [HE.out, wfFrom_step HT0.out], fun i hi => (Nat.lt_succ_iff_lt_or_eq.1 hi).elim (HALL.out i) (fun e => by rw [e]; exact HT0.out), HN4.out⟩
                case measure => simp [intOf]; omega
    · obtain rfl : k = ts.length := by omega
      obtain ⟨A4, n4, rfl⟩ := HIN.out.terms.shape
      have o0 : wr.cell? ⟨w.heap.size + 1, 0, none⟩ = some (.int .i64 0) := by rw [Lib.cell_of_heap HIN.out.out]; rfl
      have o1 : wr.cell? ⟨w.heap.size + 1, 1, none⟩ = some (.slice none 0 0) := by rw [Lib.cell_of_heap HIN.out.out]; rfl
      have q0 : wr.cell? ⟨w.heap.size + 1 + 1, 0, none⟩ = some (.int .i64 vars) := by rw [Lib.cell_of_heap HIN.out.poly]; rfl
      have q1 : wr.cell? ⟨w.heap.size + 1 + 1, 1, none⟩ = some (.slice A4 ts.length n4) := by rw [Lib.cell_of_heap HIN.out.poly]; rfl
      have oz := fun i => Lib.frozen_of_heap HIN.out.out i
      have hs9 := HIN.out.size
      go_wp2
      refine bodyPost_ret (v := .tuple #[.agg #[.int .i64 vars, .slice A4 ts.length n4], .bool true]) (by simp [results, Tryz.results88, go_sem, o0, o1, hs9, Nat.lt_of_succ_lt hs9]) rfl ⟨_, rfl, ?_, ?_⟩
      · rw [HW.out, HE.out, wfFrom_end]
        exact ⟨_, _, _, _, rfl, fun _ => ⟨rfl, rfl, (HIN.out.terms.setOther (b := w.heap.size + 1) (by omega) _).setOther (b := w.heap.size + 1) (by omega) _⟩⟩
      · exact (HIN.out.below.setCell (p := ⟨w.heap.size + 1, 0, none⟩) (Nat.le_succ _) _).setCell (p := ⟨w.heap.size + 1, 1, none⟩) (Nat.le_succ _) _
end Go.Proofs.YtoflmheodiajaaaGreatDoor
