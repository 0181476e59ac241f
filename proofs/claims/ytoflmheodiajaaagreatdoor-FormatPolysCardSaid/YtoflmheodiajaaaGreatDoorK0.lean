import Derived.Test.YtoflmheodiajaaaGreatDoorProg
import Derived.WalkKit
import Derived.WalkSpells
import Derived.WalkLawsBesides
import Derived.Outline
import Derived.Lib.Hide
import Derived.Laws.Rows
import Derived.Deep.QuietTactic
import Derived.BigQuiet
import Derived.Deep.RegionWith
import Derived.Deep.DeepFit
import Derived.Lib.Strings
import Derived.OpenShut
import Derived.Lib.Builder
namespace Go.Proofs.YtoflmheodiajaaaGreatDoor
open Go.RowKit
def bt (s : ByteArray) (i : Nat) : Int := if h : i < s.size then ((s[i]'h).toNat : Int) else 0
theorem bt_at (s : ByteArray) (i : Nat) : ∀ h : i < s.size, ((s[i]'h).toNat : Int) = bt s i := fun h => by simp [bt, h]
theorem bt_range (s : ByteArray) (i : Nat) : 0 ≤ bt s i ∧ bt s i ≤ 255 := by
  unfold bt
  split
  · rename_i h
    have := (s[i]'h).toNat_lt
    omega
  · omega
def el (xs : List Int) (i : Nat) : Int := xs.getD i 0
theorem el_at (xs : List Int) (i : Nat) : ∀ h : i < xs.length, xs[i] = el xs i := fun h => by simp [el, h]
def Rd (Bs : Nat) (w : World) (k : IntKind) (e : TypeId) (A : Option Addr) (xs : List Int) : Prop :=
  0 < xs.length → ∃ b off cs t fr, A = some ⟨b, off, none⟩ ∧ w.heap[b]? = some (.cells cs t fr) ∧ (b < Bs ∨ t = e) ∧ ∀ j, j < xs.length → cs[off + j]? = some (.int k (el xs j))
def Keeps (Bs : Nat) (T : List TypeId) (w w1 : World) : Prop := ∀ (b : Nat) cs t fr, w.heap[b]? = some (.cells cs t fr) → (b < Bs ∨ t ∈ T) → w1.heap[b]? = some (.cells cs t fr)
theorem lt_of_heap {w : World} {b : Nat} {o : Obj} (h : w.heap[b]? = some o) : b < w.heap.size := (Array.getElem?_eq_some_iff.1 h).1
theorem Keeps.of_below {Bs : Nat} {T : List TypeId} {w w1 : World} (h : Below w.heap.size w w1) : Keeps Bs T w w1 := fun b cs t fr hb _ => by
  rw [h.block b (lt_of_heap hb)]; exact hb
theorem Keeps.trans {Bs : Nat} {T : List TypeId} {w w1 w2 : World} (h : Keeps Bs T w w1) (h2 : Keeps Bs T w1 w2) : Keeps Bs T w w2 := fun b cs t fr hb ht => h2 b cs t fr (h b cs t fr hb ht) ht
theorem Keeps.sub {Bs : Nat} {T T' : List TypeId} {w w1 : World} (h : Keeps Bs T w w1) (hs : ∀ t ∈ T', t ∈ T) : Keeps Bs T' w w1 := fun b cs t fr hb ht => h b cs t fr hb (ht.imp id (hs t))
theorem Keeps.setCell {Bs : Nat} {T : List TypeId} {w : World} {g i : Nat} {cs : Array Value} {t : TypeId} {fr : Nat × Nat} (hg : w.heap[g]? = some (.cells cs t fr)) (hB : Bs ≤ g) (ht : t ∉ T) (v : Value) : Keeps Bs T w (w.setCell ⟨g, i, none⟩ v) := fun b c u f hb hu => by
  have hne : g ≠ b := by
    intro e
    subst e
    rw [hg] at hb
    simp only [Option.some.injEq, Obj.cells.injEq] at hb
    rcases hu with h | h
    · omega
    · exact ht (hb.2.1 ▸ h)
  unfold World.setCell
  simp [Array.getElem?_modify, hne]
  exact hb
theorem Rd.keeps {Bs : Nat} {w w1 : World} {k : IntKind} {e : TypeId} {A : Option Addr} {xs : List Int} (h : Rd Bs w k e A xs) (hk : Keeps Bs [e] w w1) : Rd Bs w1 k e A xs := fun hn => by
  obtain ⟨b, off, cs, t, fr, e1, e2, e3, e4⟩ := h hn
  exact ⟨b, off, cs, t, fr, e1, hk b cs t fr e2 (e3.imp id (fun h => by simp [h])), e3, e4⟩
theorem Rd.below {Bs : Nat} {w w1 : World} {k : IntKind} {e : TypeId} {A : Option Addr} {xs : List Int} (h : Rd Bs w k e A xs) (hb : Below w.heap.size w w1) : Rd Bs w1 k e A xs := h.keeps (Keeps.of_below hb)
theorem Rd.plain {Bs : Nat} {w : World} {k : IntKind} {e : TypeId} {A : Option Addr} {xs : List Int} (h : Rd Bs w k e A xs) (hn : 0 < xs.length) :
    ∃ b off, A = some ⟨b, off, none⟩ ∧ b < w.heap.size ∧ ∀ j, j < xs.length → w.cell? ⟨b, off + j, none⟩ = some (.int k (el xs j)) := by
  obtain ⟨b, off, cs, t, fr, e1, e2, _, e4⟩ := h hn
  exact ⟨b, off, e1, lt_of_heap e2, fun j hj => by rw [Lib.cell_of_heap e2]; exact e4 j hj⟩
theorem below_then {B : Nat} {w w1 w2 : World} (h : Below B w w1) (hB : B ≤ w1.heap.size) (k : Below w1.heap.size w1 w2) : Below B w w2 :=
  h.trans ⟨k.os, k.tape, k.output, k.size, fun i hi => k.block i (Nat.lt_of_lt_of_le hi hB)⟩
theorem below_refl (w : World) : Below w.heap.size w w := Below.refl _ _
theorem below_alloc {w W : World} (h : Below w.heap.size w W) (o : Obj) : Below w.heap.size w (W.alloc o) := h.alloc h.size o
theorem below_drew {B : Nat} {w W : World} (h : Below B w W) : Below B w W.drew := ⟨h.os, h.tape, h.output, h.size, h.block⟩
theorem below_drewN {B : Nat} {w W : World} (h : Below B w W) (n : Nat) : Below B w (W.drewN n) := ⟨h.os, h.tape, h.output, h.size, h.block⟩
theorem box_kept {w w1 : World} {cs : Array Value} {t : TypeId} (hb : Below (w.alloc (.cells cs t)).heap.size (w.alloc (.cells cs t)) w1) :
    (∀ i, w1.cell? ⟨w.heap.size, i, none⟩ = cs[i]?) ∧ (∀ i, w1.frozen? ⟨w.heap.size, i, none⟩ = false) ∧ w.heap.size < w1.heap.size := by
  have hs := hb.size
  simp at hs
  refine ⟨fun i => ?_, fun i => ?_, by omega⟩
  · rw [hb.cell (p := ⟨w.heap.size, i, none⟩) (by simp)]
    exact World.cell?_alloc_at cs t _ i rfl
  · rw [hb.frozen (p := ⟨w.heap.size, i, none⟩) (by simp)]
    exact World.frozen?_alloc_at cs t _ i rfl
theorem empty_of (s : ByteArray) (h : s.size = 0) : s.toList.isEmpty = true := by
  rw [ByteArray.toList_eq]
  have : s.data = #[] := Array.eq_empty_of_size_eq_zero h
  simp [this]
theorem empty_not (s : ByteArray) (h : 0 < s.size) : s.toList.isEmpty = false := by
  rw [ByteArray.toList_eq]
  have : 0 < s.data.size := h
  rw [Bool.eq_false_iff]
  intro hc
  simp at hc
  simp [hc] at this
def lenOf : Value → Nat
  | .slice _ n _ => n
  | .string s => s.size
  | _ => 0
end Go.Proofs.YtoflmheodiajaaaGreatDoor
namespace Go.Proofs.YtoflmheodiajaaaGreatDoor
open Go.RowKit
def digitsFrom (s : ByteArray) (k : Nat) : Bool := decide (∀ i, i < s.size → k ≤ i → 48 ≤ bt s i ∧ bt s i ≤ 57)
def plainS (s : ByteArray) : Bool := decide (0 < s.size) && (!(bt s 0 == 48) || decide (s.size ≤ 1)) && digitsFrom s 0
theorem digitsFrom_step {s : ByteArray} {k : Nat} (h1 : 48 ≤ bt s k) (h2 : bt s k ≤ 57) : digitsFrom s k = digitsFrom s (k + 1) := by
  unfold digitsFrom
  rw [decide_eq_decide]
  exact ⟨fun h i hi hk => h i hi (by omega), fun h i hi hk => by
    rcases Nat.lt_or_ge k i with h' | h'
    · exact h i hi h'
    · obtain rfl : i = k := by omega
      exact ⟨h1, h2⟩⟩
theorem digitsFrom_no {s : ByteArray} {k : Nat} (hk : k < s.size) (h : bt s k < 48 ∨ 57 < bt s k) : digitsFrom s k = false := by
  unfold digitsFrom
  rw [decide_eq_false_iff_not]
  intro h'
  have := h' k hk (Nat.le_refl _)
  omega
theorem digitsFrom_end (s : ByteArray) : digitsFrom s s.size = true := by
  unfold digitsFrom
  rw [decide_eq_true_iff]
  intro i hi hk
  omega
set_option maxHeartbeats 400000 in
theorem plain_any (s : ByteArray) (w : World) (hs : s.size ≤ 9223372036854775807) :
    Calls Tryz.prog 105 #[.string s] w fun e w' => e = .returned (.bool (plainS s)) ∧ w = w' := by
  by_cases h0 : s.size = 0
  · have hl := empty_of s h0
    have HP := Lib.hid (show plainS s = false by simp [plainS, h0])
    clear h0
    go_enter Tryz.func105, Tryz.ntmps105
    go_wp2
    go_ret
    exact ⟨by rw [HP.out]; rfl, rfl⟩
  have hpos : 0 < s.size := by omega
  have hl := empty_not s hpos
  have hb0 := bt_at s 0 hpos
  by_cases h1 : bt s 0 = 48 ∧ 1 < s.size
  · have HP := Lib.hid (show plainS s = false by
      have h3 : ¬ s.size ≤ 1 := by omega
      simp [plainS, h1.1, h3])
    have e48 : (bt s 0 == 48) = true := by simp [h1.1]
    obtain ⟨h11, h12⟩ := h1
    clear h11 h0
    go_enter Tryz.func105, Tryz.ntmps105
    go_wp2
    go_ret
    exact ⟨by rw [HP.out]; rfl, rfl⟩
  have HP := Lib.hid (show plainS s = digitsFrom s 0 by
    unfold plainS
    have : (!(bt s 0 == 48) || decide (s.size ≤ 1)) = true := by
      simp only [Bool.or_eq_true, Bool.not_eq_true', beq_eq_false_iff_ne, decide_eq_true_eq]
      omega
    rw [this, decide_eq_true hpos]
    simp)
  have main : Calls Tryz.prog 105 #[.string s] w fun e w' => e = .returned (.bool (digitsFrom s 0)) ∧ w = w' := by
    have hcase : (bt s 0 == 48) = false ∨ ((bt s 0 == 48) = true ∧ ¬ (1 < s.size)) := by
      rcases Nat.lt_or_ge 1 s.size with h2 | h2
      · exact .inl (beq_eq_false_iff_ne.2 (fun h => h1 ⟨h, h2⟩))
      · cases hc : bt s 0 == 48
        · exact .inl rfl
        · exact .inr ⟨rfl, by omega⟩
    clear h1 HP h0
    rcases hcase with hc | ⟨hc, hc2⟩
    all_goals
      go_enter Tryz.func105, Tryz.ntmps105
      go_wp2
      go_loop [3, 18] (fun _ i => ∃ k : Nat, k ≤ s.size ∧ digitsFrom s 0 = digitsFrom s k ∧ i = .int .i64 k) (fun _ i => s.size - (intOf i).toNat)
      case atStart => exact ⟨0, Nat.zero_le _, rfl, rfl⟩
      case round =>
        obtain ⟨k, hk, hd, rfl⟩ := hrel
        have HD := Lib.hid hd
        clear hd hb0 hc
        by_cases hlt : k < s.size
        · have hbk := bt_at s k hlt
          by_cases g1 : bt s k < 48
          · have HN := Lib.hid (digitsFrom_no hlt (.inl g1))
            go_wp2
            go_ret
            exact ⟨by rw [HD.out, HN.out]; rfl, rfl⟩
          · by_cases g2 : 57 < bt s k
            · have HN := Lib.hid (digitsFrom_no hlt (.inr g2))
              go_wp2
              go_ret
              exact ⟨by rw [HD.out, HN.out]; rfl, rfl⟩
            · have HN := Lib.hid (digitsFrom_step (s := s) (k := k) (by omega) (by omega))
              go_wp2
              go_round
              case rel => exact ⟨k + 1, by omega, by rw [HD.out, HN.out], by go_num⟩
              case measure => simp [intOf]; omega
        · obtain rfl : k = s.size := by omega
          have HN := Lib.hid (digitsFrom_end s)
          go_wp2
          go_ret
          exact ⟨by rw [HD.out, HN.out]; rfl, rfl⟩
  exact main.mono fun e w' h => ⟨by rw [HP.out]; exact h.1, h.2⟩
end Go.Proofs.YtoflmheodiajaaaGreatDoor
namespace Go.Proofs.YtoflmheodiajaaaGreatDoor
open Go.RowKit
def OwnI (w : World) (base e : Nat) (k : IntKind) (v : Value) (xs : List Int) : Prop := w.ownsRow base e 1 v xs.length (xs.map (Value.int k))
section
variable {P : Program} {ops : Array Oper} {rest : List Oper} {o : Oper} {a : Act} {Q : Exit → Act → World → Prop}
theorem makeI (w : World) (hg : o.guard = none) (x y : Operand) (t : TypeId) (hop : o.op = Op.makeSlice t x y)
    (base : Nat) (e : TypeId) (k : IntKind) (bytes : Nat) (h1 : P.underlying t = some (.slice e)) (hinfo : (P.info? e).map (fun i => (i.zero, i.size, i.bytes)) = some (some (.int k 0), 1, bytes))
    (L C : Int) (l c : Nat) (hl : a.eval x = .int .i64 L) (hc : a.eval y = .int .i64 C) (hL : L = (l : Int)) (hC : C = (c : Int)) (hlc : l ≤ c) (hb : c * bytes ≤ 281474976710656) (hb0 : 0 < bytes) (hbase : base ≤ w.heap.size)
    (hK : ∀ w', OwnI w' base e k (.slice (some ⟨w.heap.size, 0, none⟩) l c) (List.replicate l 0) → w.grownBy w' none → w'.heap.size = w.heap.size + 1 → wpList P ops Q rest (a.put o.dst (.slice (some ⟨w.heap.size, 0, none⟩) l c)) w') :
    wpList P ops Q (o :: rest) a w := by
  obtain ⟨i0, hi, hzz⟩ := Option.map_eq_some_iff.1 hinfo
  simp only [Prod.mk.injEq] at hzz
  obtain ⟨hz0, hz1, hz2⟩ := hzz
  have hc' : c ≤ 281474976710656 := Nat.le_trans (Nat.le_mul_of_pos_right _ hb0) hb
  have hbb : (i0.bytes : Int) * (c : Int) ≤ 281474976710656 := by
    rw [hz2, ← Int.natCast_mul, Nat.mul_comm]
    exact Int.ofNat_le.2 hb
  have hrun := run_make (P := P) (w := w) t e i0 (.int k 0) h1 hi hz0 .i64 .i64 (l : Int) (c : Int) (by omega) (by omega) hbb (by omega)
  refine wpList_plain hg fun K hK' => ?_
  subst hL
  subst hC
  unfold Oper.wp
  simp only [execOp, hop, hl, hc]
  simp only [Int.toNat_natCast] at hrun
  simp [hrun, Result.andThen]
  refine hK' _ _ (hK _ ?_ (World.grownBy_alloc w _ none) (by simp))
  rw [hz1, Nat.mul_one]
  refine ⟨by simp, .inr ⟨w.heap.size, c, madeCells (Value.int k 0).cells c, by simp, hbase, heap_alloc_new w _, by simp; exact hlc, by unfold maxLen; omega, by simp [madeCells], ?_⟩⟩
  have hcells : (Value.int k 0).cells = #[.int k 0] := rfl
  rw [hcells, toList_madeCells_one]
  simp [List.take_replicate, Nat.min_eq_left hlc]
variable {w : World} {bs e : Nat} {k : IntKind} {xs : List Int}
theorem OwnI.cell {g n c : Nat} (h : OwnI w bs e k (.slice (some ⟨g, 0, none⟩) n c) xs) (j : Nat) (hj : j < xs.length) : w.cell? ⟨g, j, none⟩ = some (.int k (el xs j)) := by
  have hn : n = xs.length := by
    rcases h.2 with ⟨h', _⟩ | ⟨g', cap', cur, h', _⟩
    · simp at h'
    · simp at h'; exact h'.2.1
  subst hn
  rw [World.ownsRow.cellAt h j (by omega)]
  simp [el, hj]
theorem OwnI.frozen {g n c : Nat} (h : OwnI w bs e k (.slice (some ⟨g, 0, none⟩) n c) xs) (j : Nat) : w.frozen? ⟨g, j, none⟩ = false := by
  have hn : n = xs.length := by
    rcases h.2 with ⟨h', _⟩ | ⟨g', cap', cur, h', _⟩
    · simp at h'
    · simp at h'; exact h'.2.1
  subst hn
  exact World.ownsRow.frozenAt h j
theorem OwnI.lies {v : Value} (h : OwnI w bs e k v xs) (b : Nat) (hb : v.ownBlock = some b) : bs ≤ b ∧ b < w.heap.size := by
  rcases h.2 with ⟨rfl, _⟩ | ⟨g, cap, cur, rfl, hbg, hh, _⟩
  · simp [Value.ownBlock] at hb
  · have : g = b := by simpa [Value.ownBlock] using hb
    subst this
    exact ⟨hbg, (Array.getElem?_eq_some_iff.1 hh).1⟩
theorem OwnI.set {g n c : Nat} (h : OwnI w bs e k (.slice (some ⟨g, 0, none⟩) n c) xs) (j : Nat) (y : Int) : OwnI (w.setCell ⟨g, j, none⟩ (.int k y)) bs e k (.slice (some ⟨g, 0, none⟩) n c) (xs.set j y) := by
  have hn : n = xs.length := by
    rcases h.2 with ⟨h', _⟩ | ⟨g', cap', cur, h', _⟩
    · simp at h'
    · simp at h'; exact h'.2.1
  subst hn
  have := (World.ownsRow.stored h j (.int k y)).1
  unfold OwnI
  rw [List.length_set, List.map_set]
  exact this
theorem OwnI.drew {v : Value} (h : OwnI w bs e k v xs) : OwnI w.drew bs e k v xs := World.ownsRow.drew h
theorem OwnI.drewN {v : Value} (h : OwnI w bs e k v xs) (n : Nat) : OwnI (w.drewN n) bs e k v xs := by
  induction n with
  | zero => exact h
  | succ n ih => rw [← World.drew_drewN]; exact ih.drew
theorem OwnI.below {v : Value} (h : OwnI w bs e k v xs) {w1 : World} (hb : Below w.heap.size w w1) : OwnI w1 bs e k v xs := by
  refine ⟨h.1, ?_⟩
  rcases h.2 with h' | ⟨g, cap, cur, rfl, hbg, hh, h1, h2, h3, h4⟩
  · exact .inl h'
  · exact .inr ⟨g, cap, cur, rfl, hbg, by rw [hb.block g (Array.getElem?_eq_some_iff.1 hh).1]; exact hh, h1, h2, h3, h4⟩
theorem OwnI.mono {v : Value} {b : Nat} (h : OwnI w bs e k v xs) (hb : b ≤ bs) : OwnI w b e k v xs := by
  refine ⟨h.1, ?_⟩
  rcases h.2 with h' | ⟨g, cap, cur, rfl, hbg, r⟩
  · exact .inl h'
  · exact .inr ⟨g, cap, cur, rfl, by omega, r⟩
theorem OwnI.rd {v : Value} (Bs : Nat) (h : OwnI w bs e k v xs) : ∃ A c, v = .slice A xs.length c ∧ xs.length ≤ c ∧ c ≤ 9223372036854775807 ∧ Rd Bs w k e A xs := by
  rcases h.2 with ⟨rfl, h0⟩ | ⟨g, cap, cur, rfl, hbg, hh, h1, h2, h3, h4⟩
  · refine ⟨none, 0, by rw [h0], by omega, by omega, fun hp => by omega⟩
  · refine ⟨_, cap, rfl, h1, by unfold maxLen at h2; omega, fun _ => ⟨g, 0, cur, e, (0, 0), rfl, hh, .inr rfl, fun j hj => ?_⟩⟩
    have := OwnI.cell h j hj
    rw [Lib.cell_of_heap hh] at this
    rw [Nat.zero_add]; exact this
theorem appendI {w0 W : World} (base : Nat) (hgd : o.guard = none) (s x : Operand) (t e : TypeId) (k : IntKind) (bytes : Nat)
    (ho : o.op = .call { callee := .builtin .append, args := #[s, x], argTypes := #[t, t] })
    (ht : P.underlying t = some (.slice e)) (hinfo : (P.info? e).map (fun i => (i.zero, i.size, i.bytes)) = some (some (.int k 0), 1, bytes)) (hb0 : 0 < bytes)
    (v : Value) (xs : List Int) (y : Int) (hs : a.eval s = v) (hx : a.eval x = .slice (some ⟨W.heap.size, 0, none⟩) 1 1)
    (HO : OwnI W base e k v xs) (HB : Below base w0 W) (hbase : base ≤ W.heap.size) (hl : (xs.length + 1) * bytes ≤ 140737488355328)
    (h : ∀ v1 w1, OwnI w1 base e k v1 (xs ++ [y]) → Below base w0 w1 → W.grownBy w1 v.ownBlock → base ≤ w1.heap.size → wpList P ops Q rest (a.put o.dst v1) w1) :
    wpList P ops Q (o :: rest) a (W.alloc (.cells #[.int k y] e)) := by
  obtain ⟨i0, hi, hzz⟩ := Option.map_eq_some_iff.1 hinfo
  simp only [Prod.mk.injEq] at hzz
  obtain ⟨hz0, hz1, hz2⟩ := hzz
  have hlen : xs.length + 1 ≤ 140737488355328 := Nat.le_trans (Nat.le_mul_of_pos_right _ hb0) hl
  refine wpList_append_own (W.alloc (.cells #[.int k y] e)) hgd s x t ho base e i0 (.int k 0) 1 bytes ht hi hz0 hz1 hz2 rfl (by omega) v xs.length (xs.map (Value.int k)) hs (World.ownsRow.alloc HO _) ⟨W.heap.size, 0, none⟩ 1 1 [.int k y] hx rfl ?_ ?_ (by unfold maxLen; omega) hl (by simp; omega) ?_
  · exact cell_one_new _ _ _
  · intro u hu
    simp only [List.mem_singleton] at hu
    subst hu
    rfl
  intro v1 w1 hown hg _
  have hg' := World.grownBy.trans (World.grownBy_alloc W _ _) hg
  have hsz := hg.size
  simp at hsz
  refine h v1 w1 (by unfold OwnI; simpa using hown) (HB.grown hg' hbase (fun b hb => (OwnI.lies HO b hb).1)) hg' (by omega)
end
end Go.Proofs.YtoflmheodiajaaaGreatDoor
