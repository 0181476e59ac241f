import Derived.Test.YtoflmheodiajaaaGreatDoorK6
import Derived.Deep.QuietTactic
import Derived.BigQuiet
namespace Go.Proofs.YtoflmheodiajaaaGreatDoor
open Go.RowKit
set_option linter.unusedVariables false
set_option linter.unusedSimpArgs false
variable {Bs : Nat}
structure TermV where
  c : ByteArray
  A : Option Addr
  cap : Nat
  xs : List Int
def noTerm : TermV := ⟨⟨#[]⟩, none, 0, []⟩
def tm (ts : List TermV) (i : Nat) : TermV := ts.getD i noTerm
theorem tm_at (ts : List TermV) (i : Nat) (h : i < ts.length) : ts[i] = tm ts i := by simp [tm, h]
def TermOk (Bs : Nat) (w : World) (t : TermV) : Prop := Rd Bs w .i64 3 t.A t.xs ∧ t.xs.length ≤ t.cap ∧ t.cap ≤ 9223372036854775807
def RdT (Bs : Nat) (w : World) (A : Option Addr) (ts : List TermV) : Prop :=
  0 < ts.length → ∃ b off cs t fr, A = some ⟨b, off, none⟩ ∧ w.heap[b]? = some (.cells cs t fr) ∧ (b < Bs ∨ t = 28) ∧
    ∀ j, j < ts.length → cs[off + 2 * j]? = some (.string (tm ts j).c) ∧ cs[off + 2 * j + 1]? = some (.slice (tm ts j).A (tm ts j).xs.length (tm ts j).cap) ∧ TermOk Bs w (tm ts j)
theorem TermOk.keeps {w w1 : World} {t : TermV} (h : TermOk Bs w t) (hk : Keeps Bs [3] w w1) : TermOk Bs w1 t := ⟨h.1.keeps hk, h.2⟩
theorem RdT.keeps {w w1 : World} {A : Option Addr} {ts : List TermV} (h : RdT Bs w A ts) (hk : Keeps Bs [28, 3] w w1) : RdT Bs w1 A ts := fun hn => by
  obtain ⟨b, off, cs, t, fr, e1, e2, e3, e4⟩ := h hn
  refine ⟨b, off, cs, t, fr, e1, hk b cs t fr e2 (e3.imp id (fun h => by simp [h])), e3, fun j hj => ?_⟩
  obtain ⟨f1, f2, f3⟩ := e4 j hj
  exact ⟨f1, f2, f3.keeps (hk.sub (by simp))⟩
theorem RdT.below {w w1 : World} {A : Option Addr} {ts : List TermV} (h : RdT Bs w A ts) (hb : Below w.heap.size w w1) : RdT Bs w1 A ts := h.keeps (Keeps.of_below hb)
theorem RdT.plain {w : World} {A : Option Addr} {ts : List TermV} (h : RdT Bs w A ts) (hn : 0 < ts.length) :
    ∃ b off, A = some ⟨b, off, none⟩ ∧ b < w.heap.size ∧ ∀ j, j < ts.length → w.cell? ⟨b, off + 2 * j, none⟩ = some (.string (tm ts j).c) ∧ w.cell? ⟨b, off + 2 * j + 1, none⟩ = some (.slice (tm ts j).A (tm ts j).xs.length (tm ts j).cap) ∧ TermOk Bs w (tm ts j) := by
  obtain ⟨b, off, cs, t, fr, e1, e2, _, e4⟩ := h hn
  exact ⟨b, off, e1, lt_of_heap e2, fun j hj => by rw [Lib.cell_of_heap e2, Lib.cell_of_heap e2]; exact e4 j hj⟩
def TermsOut (w : World) (base : Nat) (tv : Value) (ts : List TermV) (n : Nat) : Prop :=
  ∃ L, w.ownsRow base 184 9 tv n L ∧ ∀ i, i < n → ∀ j, j < 6 → L[9 * i + 3 + j]? = some (.int .i32 (el (tm ts i).xs j))
theorem TermsOut.shape {w : World} {base : Nat} {tv : Value} {ts : List TermV} {n : Nat} (h : TermsOut w base tv ts n) : ∃ A c, tv = .slice A n c := by
  obtain ⟨L, ⟨_, h2⟩, _⟩ := h
  rcases h2 with ⟨rfl, h0⟩ | ⟨g, cap, cur, rfl, _⟩
  · exact ⟨none, 0, by rw [h0]⟩
  · exact ⟨_, cap, rfl⟩
theorem TermsOut.below {w w1 : World} {base : Nat} {tv : Value} {ts : List TermV} {n : Nat} (h : TermsOut w base tv ts n) (hb : Below w.heap.size w w1) : TermsOut w1 base tv ts n := by
  obtain ⟨L, ⟨h1, h2⟩, h3⟩ := h
  refine ⟨L, ⟨h1, ?_⟩, h3⟩
  rcases h2 with h' | ⟨g, cap, cur, e, hbg, hh, r⟩
  · exact .inl h'
  · exact .inr ⟨g, cap, cur, e, hbg, by rw [hb.block g (lt_of_heap hh)]; exact hh, r⟩
theorem TermsOut.at {w : World} {base : Nat} {tv : Value} {ts : List TermV} {n : Nat} (h : TermsOut w base tv ts n) {i : Nat} (hi : i < n) :
    ∃ g c, tv = .slice (some ⟨g, 0, none⟩) n c ∧ base ≤ g ∧ g < w.heap.size ∧ ∀ j, j < 6 → w.cell? ⟨g, 9 * i + 3 + j, none⟩ = some (.int .i32 (el (tm ts i).xs j)) := by
  obtain ⟨L, h1, h3⟩ := h
  have h1' := h1
  obtain ⟨_, h2⟩ := h1
  rcases h2 with ⟨rfl, h0⟩ | ⟨g, cap, cur, rfl, hbg, hh, _⟩
  · omega
  · exact ⟨g, cap, rfl, hbg, lt_of_heap hh, fun j hj => by rw [World.ownsRow.cellAt h1' _ (by omega)]; exact h3 i hi j hj⟩
theorem TermsOut.setOther {w : World} {base : Nat} {tv : Value} {ts : List TermV} {n : Nat} (h : TermsOut w base tv ts n) {b i : Nat} (hb : b < base) (u : Value) : TermsOut (w.setCell ⟨b, i, none⟩ u) base tv ts n := by
  obtain ⟨L, ⟨h1, h2⟩, h3⟩ := h
  refine ⟨L, ⟨h1, ?_⟩, h3⟩
  rcases h2 with h' | ⟨g, cap, cur, e, hbg, hh, r⟩
  · exact .inl h'
  · exact .inr ⟨g, cap, cur, e, hbg, heap_far hh (by omega) u, r⟩
theorem cells_new (W : World) (cs : Array Value) (e : TypeId) (j : Nat) (u : Value) (h : cs.toList[j]? = some u) : (W.alloc (.cells cs e)).cell? ((⟨W.heap.size, 0, none⟩ : Addr).add j) = some u := by
  rw [show (⟨W.heap.size, 0, none⟩ : Addr).add j = ⟨W.heap.size, j, none⟩ by simp [Addr.add] <;> omega]
  rw [World.cell?_alloc_at cs e _ j rfl]
  simpa using h
theorem infoTerm : (Tryz.prog.info? 184).map (fun i => (i.zero.map (fun z => z.cells.size), i.size, i.bytes)) = some (some 9, 9, 48) := by kernel_rfl
def termCells (p q : Int) (a : Option Addr) (f : Nat → Int) : Array Value := #[.int .i64 p, .int .i64 q, .pointer a, .int .i32 (f 0), .int .i32 (f 1), .int .i32 (f 2), .int .i32 (f 3), .int .i32 (f 4), .int .i32 (f 5)]
theorem appendT {ops : Array Oper} {rest : List Oper} {o : Oper} {a : Act} {Q : Exit → Act → World → Prop} {w0 W : World} (base : Nat) (hgd : o.guard = none) (s x : Operand)
    (ho : o.op = .call { callee := .builtin .append, args := #[s, x], argTypes := #[109, 109] })
    (v : Value) (ts : List TermV) (n : Nat) (p q : Int) (ad : Option Addr) (hs : a.eval s = v) (hx : a.eval x = .slice (some ⟨W.heap.size, 0, none⟩) 1 1)
    (HO : TermsOut W base v ts n) (HB : Below base w0 W) (hbase : base ≤ W.heap.size) (hl : n ≤ 1000000)
    (h : ∀ v1 w1, TermsOut w1 base v1 ts (n + 1) → Below base w0 w1 → base ≤ w1.heap.size → wpList Tryz.prog ops Q rest (a.put o.dst v1) w1) :
    wpList Tryz.prog ops Q (o :: rest) a (W.alloc (.cells (termCells p q ad (fun j => el (tm ts n).xs j)) 184)) := by
  obtain ⟨L, HL, hL⟩ := HO
  obtain ⟨i0, hi, hzz⟩ := Option.map_eq_some_iff.1 infoTerm
  simp only [Prod.mk.injEq] at hzz
  obtain ⟨hz0, hz1, hz2⟩ := hzz
  obtain ⟨z, hz, hz3⟩ := Option.map_eq_some_iff.1 hz0
  refine wpList_append_own (W.alloc (.cells (termCells p q ad (fun j => el (tm ts n).xs j)) 184)) hgd s x 109 ho base 184 i0 z 9 48 Tryz.underlying109 hi hz hz1 hz2 hz3 (by omega) v n L hs (World.ownsRow.alloc HL _) ⟨W.heap.size, 0, none⟩ 1 1 (termCells p q ad (fun j => el (tm ts n).xs j)).toList hx rfl (cells_new W _ _) ?_ (by unfold maxLen; omega) (by omega) (by simp; omega) ?_
  · intro u hu
    simp only [termCells, List.mem_cons, List.not_mem_nil, or_false] at hu
    rcases hu with rfl | rfl | rfl | rfl | rfl | rfl | rfl | rfl | rfl <;> rfl
  intro v1 w1 hown hg _
  have hg' := World.grownBy.trans (World.grownBy_alloc W _ _) hg
  have hsz := hg.size
  simp at hsz
  refine h v1 w1 ⟨_, hown, fun i hi j hj => ?_⟩ (HB.grown hg' hbase (fun b hb => (World.ownsRow.lt HL b hb).1)) (by omega)
  have hlen := HL.1
  by_cases e : i = n
  · subst e
    rw [List.getElem?_append_right (by omega), show 9 * i + 3 + j - L.length = 3 + j by omega]
    match j, hj with
    | 0, _ => rfl
    | 1, _ => rfl
    | 2, _ => rfl
    | 3, _ => rfl
    | 4, _ => rfl
    | 5, _ => rfl
  · rw [List.getElem?_append_left (by omega)]
    exact hL i (by omega) j hj
def degOf (ts : List TermV) : Int := if ts.length = 0 then -1 else sumTo (fun j => el (tm ts 0).xs j) 6
theorem polyDegree_any (n : Int) (tv : Value) (ts : List TermV) (base : Nat) (w : World) (h : TermsOut w base tv ts ts.length) (hr : 0 < ts.length → ExpR (fun j => el (tm ts 0).xs j)) :
    Calls Tryz.prog 84 #[.agg #[.int .i64 n, tv]] w (Gives w fun v _ => v = .int .i64 (degOf ts)) := by
  by_cases h0 : ts.length = 0
  · have HD := Lib.hid (show degOf ts = -1 by simp [degOf, h0])
    obtain ⟨A, c, rfl⟩ := h.shape
    rw [h0]
    clear h hr h0
    go_enter Tryz.func84, Tryz.ntmps84
    go_wp2
    go_ret
    exact ⟨_, rfl, by rw [HD.out]; rfl, below_alloc (below_refl _) _⟩
  · have HD := Lib.hid (show degOf ts = sumTo (fun j => el (tm ts 0).xs j) 6 by simp [degOf, h0])
    have h' := h.below (below_alloc (below_refl w) (.cells #[.int .i64 n, tv] 111))
    obtain ⟨g, c, rfl, hb, hg, hc⟩ := h'.at (i := 0) (by omega)
    have c0 := hc 0 (by omega)
    have c1 := hc 1 (by omega)
    have c2 := hc 2 (by omega)
    have c3 := hc 3 (by omega)
    have c4 := hc 4 (by omega)
    have c5 := hc 5 (by omega)
    simp only [Nat.mul_zero, Nat.zero_add, Nat.reduceAdd] at c0 c1 c2 c3 c4 c5
    have HR := Lib.hid (fun W => degree_any (fun j => el (tm ts 0).xs j) W (hr (by omega)))
    have hn0 : 0 < ts.length := by omega
    have hz : ((ts.length : Int) == 0) = false := by
      simp only [beq_eq_false_iff_ne, ne_eq]; omega
    clear h h' hr hc h0 hb hg
    go_enter Tryz.func84, Tryz.ntmps84
    go_wp2_with fail
    refine (HR.out _).mono ?_
    rintro e w' ⟨rfl, rfl⟩
    go_wp2
    go_ret
    exact ⟨_, rfl, by rw [HD.out]; rfl, below_alloc (below_alloc (below_refl _) _) _⟩
def fitsOf (ts : List TermV) : Bool := decide (degOf ts ≤ 24)
theorem fits_any (n : Int) (tv : Value) (ts : List TermV) (base : Nat) (w : World) (h : TermsOut w base tv ts ts.length) (hr : 0 < ts.length → ExpR (fun j => el (tm ts 0).xs j)) (hl : ts.length ≤ 4096) :
    Calls Tryz.prog 53 #[.agg #[.int .i64 n, tv]] w (Gives w fun v _ => v = .bool (fitsOf ts)) := by
  have HD := Lib.hid (fun W h => polyDegree_any n tv ts base W h hr)
  have h' := h.below (below_alloc (below_refl w) (.cells #[.int .i64 n, tv] 111))
  obtain ⟨A, c, rfl⟩ := h.shape
  have H' := Lib.hid h'
  clear h hr h'
  by_cases hd : degOf ts ≤ 24
  · have HF := Lib.hid (show fitsOf ts = true by simp [fitsOf, hd])
    have hl2 : (ts.length : Int) ≤ 4096 := by omega
    go_enter Tryz.func53, Tryz.ntmps53
    go_wp2_with fail
    refine (HD.out _ H'.out).mono ?_
    rintro e w' ⟨_, rfl, rfl, hb⟩
    obtain ⟨hc, _, hsz⟩ := box_kept hb
    have k1 : w'.cell? ⟨w.heap.size, 1, none⟩ = some (.slice A ts.length c) := hc 1
    have HB := Lib.hid (below_then (below_alloc (below_refl w) _) (by simp) hb)
    clear hc hb
    go_wp2
    go_ret
    exact ⟨_, rfl, by rw [HF.out]; rfl, HB.out⟩
  · have HF := Lib.hid (show fitsOf ts = false by simp [fitsOf, hd])
    go_enter Tryz.func53, Tryz.ntmps53
    go_wp2_with fail
    refine (HD.out _ H'.out).mono ?_
    rintro e w' ⟨_, rfl, rfl, hb⟩
    have HB := Lib.hid (below_then (below_alloc (below_refl w) _) (by simp) hb)
    clear hb
    go_wp2
    go_ret
    exact ⟨_, rfl, by rw [HF.out]; rfl, HB.out⟩
end Go.Proofs.YtoflmheodiajaaaGreatDoor
namespace Go.Proofs.YtoflmheodiajaaaGreatDoor
open Go.RowKit
set_option linter.unusedVariables false
structure After (w0 : World) where
  w : World
  below : Below w0.heap.size w0 w
def After.start (w : World) : After w := ⟨w.drew, below_drew (below_refl w)⟩
instance {w : World} : Nonempty (After w) := ⟨After.start w⟩
def After.more {w : World} (x : After w) {w1 : World} (h : Below x.w.heap.size x.w w1) : After w := ⟨w1, below_then x.below x.below.size h⟩
theorem wp_region_after_lit {P : Program} {id : Nat} {Q : Exit → Act → World → Prop} {a : Act} {w : World} {l : List Oper} (hm : P.follows .mixedOrders = true) (hB : Region.lexB .any l.toArray = true)
    (h : wpQuiet P l.toArray (fun w' => ∃ x : After w, w' = x.w) (fun a' => ∀ w', (∃ x : After w, w' = x.w) → Q .normal a' w') l a) : (Code.region id l.toArray true).wp P Q a w :=
  wp_region_quiet (C := fun w' => ∃ x : After w, w' = x.w) hm hB ⟨After.start w, rfl⟩ (by simpa using h)
theorem after_call {P : Program} {f : FuncId} {args : Array Value} {w : World} {x : After w} {v : Value} (h : Calls P f args x.w fun e w' => e = .returned v ∧ Below x.w.heap.size x.w w') :
    Calls P f args x.w fun e w'' => e = .returned v ∧ ∃ y : After w, w'' = y.w :=
  h.mono fun _ w1 ⟨he, hb⟩ => ⟨he, x.more hb, rfl⟩
end Go.Proofs.YtoflmheodiajaaaGreatDoor
