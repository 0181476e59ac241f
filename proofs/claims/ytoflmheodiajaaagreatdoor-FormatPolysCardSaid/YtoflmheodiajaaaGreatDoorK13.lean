import Derived.Test.YtoflmheodiajaaaGreatDoorK11
import Derived.Test.YtoflmheodiajaaaGreatDoorK12
import Derived.Deep.RegionLaw
namespace Go.Proofs.YtoflmheodiajaaaGreatDoor
open Go.RowKit
set_option linter.unusedVariables false
set_option linter.unusedSimpArgs false
def bare (t : TermV) : TermV := { t with A := none, cap := 0 }
theorem tm_bare (ts : List TermV) (i : Nat) : tm (ts.map bare) i = bare (tm ts i) := by
  unfold tm
  by_cases h : i < ts.length
  · simp [h]
  · simp [h]; rfl
def TRow (W : World) (base : Nat) (tv : Value) (ts : List TermV) : Prop :=
  ∃ L, W.ownsRow base 28 2 tv ts.length L ∧ ∀ i, i < ts.length → L[2 * i]? = some (.string (tm ts i).c) ∧ L[2 * i + 1]? = some (.slice (tm ts i).A (tm ts i).xs.length (tm ts i).cap) ∧ TermOk 0 W (tm ts i)
theorem TRow.shape {w : World} {base : Nat} {tv : Value} {ts : List TermV} (h : TRow w base tv ts) : ∃ A c, tv = .slice A ts.length c := by
  obtain ⟨L, ⟨_, h2⟩, _⟩ := h
  rcases h2 with ⟨rfl, h0⟩ | ⟨g, cap, cur, rfl, _⟩
  · exact ⟨none, 0, by rw [h0]⟩
  · exact ⟨_, cap, rfl⟩
theorem TRow.rdT {W : World} {base : Nat} {tv : Value} {ts : List TermV} (h : TRow W base tv ts) : ∃ A c, tv = .slice A ts.length c ∧ ts.length ≤ c ∧ RdT 0 W A ts := by
  obtain ⟨L, ⟨h1, h2⟩, h3⟩ := h
  rcases h2 with ⟨rfl, h0⟩ | ⟨g, cap, cur, rfl, hbg, hh, h4, h5, h6, h7⟩
  · exact ⟨none, 0, by rw [h0], by omega, fun hn => by omega⟩
  · refine ⟨_, cap, rfl, h4, fun hn => ⟨g, 0, cur, _, _, rfl, hh, .inr rfl, fun j hj => ?_⟩⟩
    obtain ⟨f1, f2, f3⟩ := h3 j hj
    have key : ∀ k, k < ts.length * 2 → cur[0 + k]? = L[k]? := fun k hk => by
      rw [← h7, List.getElem?_take_of_lt hk, Nat.zero_add, Array.getElem?_toList]
    exact ⟨(key (2 * j) (by omega)).trans f1, (by rw [Nat.add_assoc]; exact (key (2 * j + 1) (by omega)).trans f2), f3⟩
theorem TRow.keeps {w w1 : World} {base : Nat} {tv : Value} {ts : List TermV} (h : TRow w base tv ts) (hk : Keeps 0 [28, 3] w w1) : TRow w1 base tv ts := by
  obtain ⟨L, ⟨h1, h2⟩, h3⟩ := h
  refine ⟨L, ⟨h1, ?_⟩, fun i hi => ⟨(h3 i hi).1, (h3 i hi).2.1, (h3 i hi).2.2.keeps (hk.sub (by simp))⟩⟩
  rcases h2 with h' | ⟨g, cap, cur, e, hbg, hh, r⟩
  · exact .inl h'
  · exact .inr ⟨g, cap, cur, e, hbg, hk _ _ _ _ hh (.inr (by simp)), r⟩
theorem TRow.below {w w1 : World} {base : Nat} {tv : Value} {ts : List TermV} (h : TRow w base tv ts) (hb : Below w.heap.size w w1) : TRow w1 base tv ts := h.keeps (Keeps.of_below hb)
theorem TRow.set {w : World} {base g i : Nat} {cs : Array Value} {t : TypeId} {fr : Nat × Nat} {tv : Value} {ts : List TermV} (h : TRow w base tv ts) (hg : w.heap[g]? = some (.cells cs t fr)) (ht : t ∉ [28, 3]) (u : Value) : TRow (w.setCell ⟨g, i, none⟩ u) base tv ts :=
  h.keeps (Keeps.setCell hg (Nat.zero_le _) ht u)
theorem keeps_grown {w w1 : World} {base e size n : Nat} {v : Value} {xs : List Value} {T : List TypeId} (hown : w.ownsRow base e size v n xs) (hg : w.grownBy w1 v.ownBlock) (ht : e ∉ T) : Keeps 0 T w w1 := by
  intro k cs t fr hk hT
  rcases hT with h | h
  · omega
  have hne : some k ≠ v.ownBlock := by
    intro e2
    rcases hown.2 with ⟨rfl, _⟩ | ⟨g, cap, cur, rfl, _, hh, _⟩
    · simp [Value.ownBlock] at e2
    · simp only [Value.ownBlock, Option.some.injEq] at e2
      subst e2
      rw [hk] at hh
      simp only [Option.some.injEq, Obj.cells.injEq] at hh
      exact ht (hh.2.1 ▸ h)
  rw [hg.block k (lt_of_heap hk) hne]
  exact hk
theorem OwnI.below' {w w1 : World} {bs e : Nat} {k : IntKind} {v : Value} {xs : List Int} (h : OwnI w bs e k v xs) (hk : Keeps 0 [e] w w1) : OwnI w1 bs e k v xs := by
  obtain ⟨h1, h2⟩ := h
  refine ⟨h1, ?_⟩
  rcases h2 with h' | ⟨g, cap, cur, e', hbg, hh, r⟩
  · exact .inl h'
  · exact .inr ⟨g, cap, cur, e', hbg, hk _ _ _ _ hh (.inr (by simp)), r⟩
theorem infoApiTerm : (Tryz.prog.info? 28).map (fun i => (i.zero.map (fun z => z.cells.size), i.size, i.bytes)) = some (some 2, 2, 40) := by kernel_rfl
theorem appendApi {ops : Array Oper} {rest : List Oper} {o : Oper} {a : Act} {Q : Exit → Act → World → Prop} {w0 W : World} (base : Nat) (hgd : o.guard = none) (s x : Operand)
    (ho : o.op = .call { callee := .builtin .append, args := #[s, x], argTypes := #[22, 22] })
    (v : Value) (ts : List TermV) (t : TermV) (A : Option Addr) (l c : Nat) (hA : t.A = A) (hl' : t.xs.length = l) (hc' : t.cap = c) (hs : a.eval s = v) (hx : a.eval x = .slice (some ⟨W.heap.size, 0, none⟩) 1 1)
    (HO : TRow W base v ts) (HT : TermOk 0 W t) (HB : Below base w0 W) (hbase : base ≤ W.heap.size) (hl : ts.length ≤ 1000000)
    (h : ∀ v1 w1, TRow w1 base v1 (ts ++ [t]) → Keeps 0 [3, 24, 121, 9] W w1 → Below base w0 w1 → W.heap.size ≤ w1.heap.size → wpList Tryz.prog ops Q rest (a.put o.dst v1) w1) :
    wpList Tryz.prog ops Q (o :: rest) a (W.alloc (.cells #[.string t.c, .slice A l c] 28)) := by
  obtain ⟨L, HL, hL⟩ := HO
  obtain ⟨i0, hi, hzz⟩ := Option.map_eq_some_iff.1 infoApiTerm
  simp only [Prod.mk.injEq] at hzz
  obtain ⟨hz0, hz1, hz2⟩ := hzz
  obtain ⟨z, hz, hz3⟩ := Option.map_eq_some_iff.1 hz0
  refine wpList_append_own (W.alloc (.cells #[.string t.c, .slice A l c] 28)) hgd s x 22 ho base 28 i0 z 2 40 Tryz.underlying22 hi hz hz1 hz2 hz3 (by omega) v ts.length L hs (World.ownsRow.alloc HL _) ⟨W.heap.size, 0, none⟩ 1 1 [.string t.c, .slice A l c] hx rfl (fun j u hj => cells_new W #[.string t.c, .slice A l c] _ j u hj) ?_ (by unfold maxLen; omega) (by omega) (by simp; omega) ?_
  · intro u hu
    simp only [List.mem_cons, List.not_mem_nil, or_false] at hu
    rcases hu with rfl | rfl <;> rfl
  intro v1 w1 hown hg _
  have hk : Keeps 0 [3, 24, 121, 9] W w1 := by
    have h1 := keeps_grown (T := [3, 24, 121, 9]) (World.ownsRow.alloc HL (.cells #[.string t.c, .slice A l c] 28)) hg (by decide)
    exact (Keeps.of_below (below_alloc (below_refl W) _)).trans h1
  have hg' := World.grownBy.trans (World.grownBy_alloc W _ _) hg
  have hsz := hg.size
  simp at hsz
  refine h v1 w1 ⟨_, by simpa using hown, fun i hi => ?_⟩ hk (HB.grown hg' hbase (fun b hb => (World.ownsRow.lt HL b hb).1)) (by omega)
  have hlen := HL.1
  rw [List.length_append, List.length_singleton] at hi
  by_cases e : i = ts.length
  · subst e
    have e1 : tm (ts ++ [t]) ts.length = t := by simp [tm]
    rw [e1, List.getElem?_append_right (by omega), List.getElem?_append_right (by omega), show 2 * ts.length - L.length = 0 by omega, show 2 * ts.length + 1 - L.length = 1 by omega, hA, hl', hc']
    exact ⟨rfl, rfl, HT.keeps (hk.sub (by simp))⟩
  · have e1 : tm (ts ++ [t]) i = tm ts i := by simp [tm, List.getElem?_append_left (show i < ts.length by omega)]
    rw [e1, List.getElem?_append_left (by omega), List.getElem?_append_left (by omega)]
    exact ⟨(hL i (by omega)).1, (hL i (by omega)).2.1, (hL i (by omega)).2.2.keeps (hk.sub (by simp))⟩
theorem stepAppendI {P : Program} (hP : P = Tryz.prog) {ops : Array Oper} {o : Oper} {a : Act} {Q : Exit → Act → World → Prop} {K : Act → World → Prop} {w0 W : World} (base : Nat) (hw : Region.wanted o (yielded ops a.tmps) = true) (s x : Operand)
    (ho : o.op = .call { callee := .builtin .append, args := #[s, x], argTypes := #[26, 26] })
    (v : Value) (xs : List Int) (y : Int) (hs : a.eval s = v) (hx : a.eval x = .slice (some ⟨W.heap.size, 0, none⟩) 1 1)
    (HO : OwnI W base 3 .i64 v xs) (HB : Below base w0 W) (hbase : base ≤ W.heap.size) (hl : xs.length ≤ 1000000)
    (h : ∀ v1 w1, OwnI w1 base 3 .i64 v1 (xs ++ [y]) → Below base w0 w1 → W.heap.size ≤ w1.heap.size → K (a.put o.dst v1) w1) :
    if Region.wanted o (yielded ops a.tmps) = true then Oper.wp P o a (W.alloc (.cells #[.int .i64 y] 3)) K Q else K (a.put o.dst undef) (W.alloc (.cells #[.int .i64 y] 3)) := by
  subst hP
  refine Go.Proofs.YW.PrintWords.step_append_cells (w0 := w0) base hw s x 26 3 (.int .i64 0) 1 8 ho Tryz.underlying26 (by kernel_rfl) rfl (by omega) (by omega) v xs.length (xs.map (Value.int .i64)) [.int .i64 y] hs hx rfl ?_ HO HB hbase (by omega) ?_
  · intro u hu
    simp only [List.mem_singleton] at hu
    subst hu
    rfl
  intro v1 w1 hown hb hg _
  exact h v1 w1 (by unfold OwnI; simpa using hown) hb hg.size
end Go.Proofs.YtoflmheodiajaaaGreatDoor
