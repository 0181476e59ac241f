/- Rows of numbers that a call owns: made, read, stored into, appended to, handed back. Over any program. -/
import Derived.Test.YtoflmheodiajaaaGreatDoorA0
namespace Go.Proofs.YtoflmheodiajaaaGreatDoor
open Go.RowKit

/-- A slice of numbers in memory of the call's own (blocks from base on). -/
def OwnI (w : World) (base e : Nat) (k : IntKind) (v : Value) (xs : List Int) : Prop := w.ownsRow base e 1 v xs.length (xs.map (Value.int k))

section
variable {P : Program} {ops : Array Oper} {rest : List Oper} {o : Oper} {a : Act} {Q : Exit → Act → World → Prop}

/-- make([]T, l, c), T a kind of number. -/
theorem makeI (w : World) (hg : o.guard = none) (x y : Operand) (t : TypeId) (hop : o.op = Op.makeSlice t x y)
    (base : Nat) (e : TypeId) (k : IntKind) (bytes : Nat) (h1 : P.underlying t = some (.slice e)) (hinfo : (P.info? e).map (fun i => (i.zero, i.size, i.bytes)) = some (some (.int k 0), 1, bytes))
    (L C : Int) (l c : Nat) (hl : a.eval x = .int .i64 L) (hc : a.eval y = .int .i64 C) (hL : L = (l : Int)) (hC : C = (c : Int)) (hlc : l ≤ c) (hb : c * bytes ≤ 281474976710656) (hb0 : 0 < bytes) (hbase : base ≤ w.heap.size)
    (hK : ∀ w', OwnI w' base e k (.slice (some ⟨w.heap.size, 0, none⟩) l c) (List.replicate l 0) → w.grownBy w' none → w'.heap.size = w.heap.size + 1 → wpList P ops Q rest (a.put o.dst (.slice (some ⟨w.heap.size, 0, none⟩) l c)) w') :
    wpList P ops Q (o :: rest) a w := by
  obtain ⟨i0, hi, hzz⟩ := Option.map_eq_some_iff.1 hinfo
  simp only [Prod.mk.injEq] at hzz
  obtain ⟨hz0, hz1, hz2⟩ := hzz
  have hc' : c ≤ 281474976710656 := Nat.le_trans (Nat.le_mul_of_pos_right _ hb0) hb
  have hbb : (i0.bytes : Int) * (c : Int) ≤ 281474976710656 := by
    rw [hz2, ← Int.natCast_mul, Nat.mul_comm]
    exact Int.ofNat_le.2 hb
  have hrun := run_make (P := P) (w := w) t e i0 (.int k 0) h1 hi hz0 .i64 .i64 (l : Int) (c : Int) (by omega) (by omega) hbb (by omega)
  refine wpList_plain hg fun K hK' => ?_
  subst hL
  subst hC
  unfold Oper.wp
  simp only [execOp, hop, hl, hc]
  simp only [Int.toNat_natCast] at hrun
  simp [hrun, Result.andThen]
  refine hK' _ _ (hK _ ?_ (World.grownBy_alloc w _ none) (by simp))
  rw [hz1, Nat.mul_one]
  refine ⟨by simp, .inr ⟨w.heap.size, c, madeCells (Value.int k 0).cells c, by simp, hbase, heap_alloc_new w _, by simp; exact hlc, by unfold maxLen; omega, by simp [madeCells], ?_⟩⟩
  have hcells : (Value.int k 0).cells = #[.int k 0] := rfl
  rw [hcells, toList_madeCells_one]
  simp [List.take_replicate, Nat.min_eq_left hlc]

variable {w : World} {bs e : Nat} {k : IntKind} {xs : List Int}

theorem OwnI.cell {g n c : Nat} (h : OwnI w bs e k (.slice (some ⟨g, 0, none⟩) n c) xs) (j : Nat) (hj : j < xs.length) : w.cell? ⟨g, j, none⟩ = some (.int k (el xs j)) := by
  have hn : n = xs.length := by
    rcases h.2 with ⟨h', _⟩ | ⟨g', cap', cur, h', _⟩
    · simp at h'
    · simp at h'; exact h'.2.1
  subst hn
  rw [World.ownsRow.cellAt h j (by omega)]
  simp [el, hj]
theorem OwnI.frozen {g n c : Nat} (h : OwnI w bs e k (.slice (some ⟨g, 0, none⟩) n c) xs) (j : Nat) : w.frozen? ⟨g, j, none⟩ = false := by
  have hn : n = xs.length := by
    rcases h.2 with ⟨h', _⟩ | ⟨g', cap', cur, h', _⟩
    · simp at h'
    · simp at h'; exact h'.2.1
  subst hn
  exact World.ownsRow.frozenAt h j
theorem OwnI.lies {v : Value} (h : OwnI w bs e k v xs) (b : Nat) (hb : v.ownBlock = some b) : bs ≤ b ∧ b < w.heap.size := by
  rcases h.2 with ⟨rfl, _⟩ | ⟨g, cap, cur, rfl, hbg, hh, _⟩
  · simp [Value.ownBlock] at hb
  · have : g = b := by simpa [Value.ownBlock] using hb
    subst this
    exact ⟨hbg, (Array.getElem?_eq_some_iff.1 hh).1⟩
theorem OwnI.set {g n c : Nat} (h : OwnI w bs e k (.slice (some ⟨g, 0, none⟩) n c) xs) (j : Nat) (y : Int) : OwnI (w.setCell ⟨g, j, none⟩ (.int k y)) bs e k (.slice (some ⟨g, 0, none⟩) n c) (xs.set j y) := by
  have hn : n = xs.length := by
    rcases h.2 with ⟨h', _⟩ | ⟨g', cap', cur, h', _⟩
    · simp at h'
    · simp at h'; exact h'.2.1
  subst hn
  have := (World.ownsRow.stored h j (.int k y)).1
  unfold OwnI
  rw [List.length_set, List.map_set]
  exact this
theorem OwnI.alloc {v : Value} (h : OwnI w bs e k v xs) (o : Obj) : OwnI (w.alloc o) bs e k v xs := World.ownsRow.alloc h o
theorem OwnI.drew {v : Value} (h : OwnI w bs e k v xs) : OwnI w.drew bs e k v xs := World.ownsRow.drew h
theorem OwnI.drewN {v : Value} (h : OwnI w bs e k v xs) (n : Nat) : OwnI (w.drewN n) bs e k v xs := by
  induction n with
  | zero => exact h
  | succ n ih => rw [← World.drew_drewN]; exact ih.drew
/-- A row in memory that a later call leaves alone. -/
theorem OwnI.below {v : Value} (h : OwnI w bs e k v xs) {w1 : World} (hb : Below w.heap.size w w1) : OwnI w1 bs e k v xs := by
  refine ⟨h.1, ?_⟩
  rcases h.2 with h' | ⟨g, cap, cur, rfl, hbg, hh, h1, h2, h3, h4⟩
  · exact .inl h'
  · exact .inr ⟨g, cap, cur, rfl, hbg, by rw [hb.block g (Array.getElem?_eq_some_iff.1 hh).1]; exact hh, h1, h2, h3, h4⟩
theorem OwnI.mono {v : Value} {b : Nat} (h : OwnI w bs e k v xs) (hb : b ≤ bs) : OwnI w b e k v xs := by
  refine ⟨h.1, ?_⟩
  rcases h.2 with h' | ⟨g, cap, cur, rfl, hbg, r⟩
  · exact .inl h'
  · exact .inr ⟨g, cap, cur, rfl, by omega, r⟩
/-- What is owned can be read. -/
theorem OwnI.rd {v : Value} (Bs : Nat) (h : OwnI w bs e k v xs) : ∃ A c, v = .slice A xs.length c ∧ xs.length ≤ c ∧ c ≤ 9223372036854775807 ∧ Rd Bs w k e A xs := by
  rcases h.2 with ⟨rfl, h0⟩ | ⟨g, cap, cur, rfl, hbg, hh, h1, h2, h3, h4⟩
  · refine ⟨none, 0, by rw [h0], by omega, by omega, fun hp => by omega⟩
  · refine ⟨_, cap, rfl, h1, by unfold maxLen at h2; omega, fun _ => ⟨g, 0, cur, e, (0, 0), rfl, hh, .inr rfl, fun j hj => ?_⟩⟩
    have := OwnI.cell h j hj
    rw [Lib.cell_of_heap hh] at this
    rw [Nat.zero_add]; exact this

/-- append(v, y): behind 'at_builtin'; y lies in a new block of one cell. -/
theorem appendI {w0 W : World} (base : Nat) (hgd : o.guard = none) (s x : Operand) (t e : TypeId) (k : IntKind) (bytes : Nat)
    (ho : o.op = .call { callee := .builtin .append, args := #[s, x], argTypes := #[t, t] })
    (ht : P.underlying t = some (.slice e)) (hinfo : (P.info? e).map (fun i => (i.zero, i.size, i.bytes)) = some (some (.int k 0), 1, bytes)) (hb0 : 0 < bytes)
    (v : Value) (xs : List Int) (y : Int) (hs : a.eval s = v) (hx : a.eval x = .slice (some ⟨W.heap.size, 0, none⟩) 1 1)
    (HO : OwnI W base e k v xs) (HB : Below base w0 W) (hbase : base ≤ W.heap.size) (hl : (xs.length + 1) * bytes ≤ 140737488355328)
    (h : ∀ v1 w1, OwnI w1 base e k v1 (xs ++ [y]) → Below base w0 w1 → W.grownBy w1 v.ownBlock → base ≤ w1.heap.size → wpList P ops Q rest (a.put o.dst v1) w1) :
    wpList P ops Q (o :: rest) a (W.alloc (.cells #[.int k y] e)) := by
  obtain ⟨i0, hi, hzz⟩ := Option.map_eq_some_iff.1 hinfo
  simp only [Prod.mk.injEq] at hzz
  obtain ⟨hz0, hz1, hz2⟩ := hzz
  have hlen : xs.length + 1 ≤ 140737488355328 := Nat.le_trans (Nat.le_mul_of_pos_right _ hb0) hl
  refine wpList_append_own (W.alloc (.cells #[.int k y] e)) hgd s x t ho base e i0 (.int k 0) 1 bytes ht hi hz0 hz1 hz2 rfl (by omega) v xs.length (xs.map (Value.int k)) hs (World.ownsRow.alloc HO _) ⟨W.heap.size, 0, none⟩ 1 1 [.int k y] hx rfl ?_ ?_ (by unfold maxLen; omega) hl (by simp; omega) ?_
  · exact cell_one_new _ _ _
  · intro u hu
    simp only [List.mem_singleton] at hu
    subst hu
    rfl
  intro v1 w1 hown hg _
  have hg' := World.grownBy.trans (World.grownBy_alloc W _ _) hg
  have hsz := hg.size
  simp at hsz
  refine h v1 w1 (by unfold OwnI; simpa using hown) (HB.grown hg' hbase (fun b hb => (OwnI.lies HO b hb).1)) hg' (by omega)
end
end Go.Proofs.YtoflmheodiajaaaGreatDoor
