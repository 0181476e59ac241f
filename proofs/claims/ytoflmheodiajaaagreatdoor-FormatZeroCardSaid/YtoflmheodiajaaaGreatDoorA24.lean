/- The reader of format: peek, line, exactly, integer, count, where they do not refuse. -/
import Derived.Test.YtoflmheodiajaaaGreatDoorA23
import Derived.Test.YtoflmheodiajaaaGreatDoorB2
import Derived.Test.YtoflmheodiajaaaGreatDoorShelf
namespace Go.Proofs.YtoflmheodiajaaaGreatDoor
open Go.RowKit
set_option linter.unusedVariables false
set_option linter.unusedSimpArgs false

/-- A reader in block b: its lines, each a string, lie in block lb; it stands before line k. -/
structure RdrAt (w : World) (b lb : Nat) (ls : List ByteArray) (k : Nat) : Prop where
  rdr : w.heap[b]? = some (.cells #[.slice (some ⟨lb, 0, none⟩) ls.length ls.length, .int .i64 k] 121 (0, 0))
  lines : w.heap[lb]? = some (.cells (ls.map Value.string).toArray 9 (0, 0))
theorem RdrAt.below {w w1 : World} {b lb : Nat} {ls : List ByteArray} {k : Nat} (h : RdrAt w b lb ls k) (hb : Below w.heap.size w w1) : RdrAt w1 b lb ls k :=
  ⟨(hb.block b (lt_of_heap h.rdr)).trans h.rdr, (hb.block lb (lt_of_heap h.lines)).trans h.lines⟩
theorem RdrAt.ne {w : World} {b lb : Nat} {ls : List ByteArray} {k : Nat} (h : RdrAt w b lb ls k) : b ≠ lb := by
  intro e
  subst e
  have := h.rdr.symm.trans h.lines
  simp at this
theorem RdrAt.next {w : World} {b lb : Nat} {ls : List ByteArray} {k : Nat} (h : RdrAt w b lb ls k) : RdrAt (w.setCell ⟨b, 1, none⟩ (.int .i64 ((k + 1 : Nat) : Int))) b lb ls (k + 1) :=
  ⟨by rw [heap_setCell h.rdr]; rfl, by rw [heap_setCell_other _ _ _ _ (fun e => h.ne e.symm)]; exact h.lines⟩
theorem RdrAt.line {w : World} {b lb : Nat} {ls : List ByteArray} {k : Nat} (h : RdrAt w b lb ls k) (hk : k < ls.length) : w.cell? ⟨lb, k, none⟩ = some (.string (ls.getD k ⟨#[]⟩)) := by
  rw [Lib.cell_of_heap h.lines]
  simp [hk, List.getD]

theorem peek_ok (b lb : Nat) (ls : List ByteArray) (k : Nat) (w : World) (h : RdrAt w b lb ls k) (hk : k < ls.length) (hl : ls.length ≤ 1099511627776) :
    Calls Tryz.prog 62 #[.pointer (some ⟨b, 0, none⟩)] w fun e w' => e = .returned (.string (ls.getD k ⟨#[]⟩)) ∧ ∃ n, w' = w.drewN n := by
  have c0 : w.cell? ⟨b, 0, none⟩ = some (.slice (some ⟨lb, 0, none⟩) ls.length ls.length) := by rw [Lib.cell_of_heap h.rdr]; rfl
  have c1 : w.cell? ⟨b, 1, none⟩ = some (.int .i64 k) := by rw [Lib.cell_of_heap h.rdr]; rfl
  have cl := h.line hk
  have hge : decide ((k : Int) ≥ (ls.length : Int)) = false := by simp; omega
  have hge2 : ¬ (ls.length : Int) ≤ (k : Int) := by omega
  have hk0 : (0 : Int) ≤ (k : Int) := by omega
  have hk1 : (k : Int) < (ls.length : Int) := by omega
  have HK := Lib.hid hk
  clear h hk
  go_enter Tryz.func62, Tryz.ntmps62
  go_wp2
  go_quiet (fail)
  go_wp2
  go_quiet (fail)
  go_wp2
  go_ret
  exact ⟨by simp [List.getD], _, World.drewN_drewN _ _ _⟩

def spS : ByteArray := ⟨#[32]⟩
/-- s is the words ws, spaces between. -/
def Words (s : ByteArray) (ws : List ByteArray) : Prop := Lib.splitB spS 0 (Lib.countB s spS) s = ws ∧ Lib.countB s spS + 1 = ws.length
/-- What the reading of a line leaves: its words in a new block, the reader one line further. -/
def LineOut (w : World) (b k : Nat) (ws : List ByteArray) (w' : World) : Prop :=
  ∃ W, Below w.heap.size w W ∧ W.heap[w.heap.size]? = some (.cells (ws.map Value.string).toArray 9 (0, 0)) ∧ w' = W.setCell ⟨b, 1, none⟩ (.int .i64 ((k + 1 : Nat) : Int))
theorem LineOut.rdr {w w' : World} {b lb k : Nat} {ls ws : List ByteArray} (h : LineOut w b k ws w') (hr : RdrAt w b lb ls k) : RdrAt w' b lb ls (k + 1) := by
  obtain ⟨W, hb, _, rfl⟩ := h
  exact (hr.below hb).next
theorem LineOut.words {w w' : World} {b lb k : Nat} {ls ws : List ByteArray} (h : LineOut w b k ws w') (hr : RdrAt w b lb ls k) : w'.heap[w.heap.size]? = some (.cells (ws.map Value.string).toArray 9 (0, 0)) := by
  obtain ⟨W, hb, hw, rfl⟩ := h
  have := lt_of_heap hr.rdr
  rw [heap_setCell_other _ _ _ _ (by show w.heap.size ≠ b; omega)]
  exact hw
/-- All that was there is as it was, but for block b. -/
structure Besides (b : Nat) (w w' : World) : Prop where
  os : w'.os = w.os
  tape : w'.tape = w.tape
  output : w'.output = w.output
  size : w.heap.size ≤ w'.heap.size
  block : ∀ i, i < w.heap.size → i ≠ b → w'.heap[i]? = w.heap[i]?
theorem Besides.of_below {b : Nat} {w w1 : World} (h : Below w.heap.size w w1) : Besides b w w1 := ⟨h.os, h.tape, h.output, h.size, fun i hi _ => h.block i hi⟩
theorem Besides.trans {b : Nat} {w w1 w2 : World} (h : Besides b w w1) (k : Besides b w1 w2) : Besides b w w2 :=
  ⟨k.os.trans h.os, k.tape.trans h.tape, k.output.trans h.output, Nat.le_trans h.size k.size, fun i hi hb => (k.block i (Nat.lt_of_lt_of_le hi h.size) hb).trans (h.block i hi hb)⟩
theorem Besides.next {b : Nat} {w w1 w2 : World} (h : Besides b w w1) (k : Below w1.heap.size w1 w2) : Besides b w w2 := h.trans (.of_below k)
theorem Besides.alloc {b : Nat} {w w1 : World} (h : Besides b w w1) (o : Obj) : Besides b w (w1.alloc o) := h.next (below_alloc (below_refl _) o)
theorem Besides.set {b : Nat} {w w1 : World} (h : Besides b w w1) {p : Addr} (hp : w.heap.size ≤ p.block ∨ p.block = b) (u : Value) : Besides b w (w1.setCell p u) :=
  ⟨h.os, h.tape, h.output, by simpa using h.size, fun i hi hb => by
    rw [heap_setCell_other _ _ _ _ (by rcases hp with hp | hp <;> omega)]
    exact h.block i hi hb⟩
theorem Besides.below {b B : Nat} {w w1 : World} (h : Besides b w w1) (hB : B ≤ b) (hBw : B ≤ w.heap.size) : Below B w w1 := ⟨h.os, h.tape, h.output, h.size, fun i hi => h.block i (by omega) (by omega)⟩
theorem LineOut.besides {w w' : World} {b k : Nat} {ws : List ByteArray} (h : LineOut w b k ws w') : Besides b w w' := by
  obtain ⟨W, hb, hw, rfl⟩ := h
  exact (Besides.of_below hb).set (b := b) (p := ⟨b, 1, none⟩) (.inr rfl) _
theorem LineOut.below {w w' : World} {b lb k B : Nat} {ls ws : List ByteArray} (h : LineOut w b k ws w') (hB : B ≤ b) (hBw : B ≤ w.heap.size) : Below B w w' := by
  obtain ⟨W, hb, hw, rfl⟩ := h
  exact (⟨hb.os, hb.tape, hb.output, hb.size, fun i hi => hb.block i (by omega)⟩ : Below B w W).setCell (p := ⟨b, 1, none⟩) hB _
theorem LineOut.size {w w' : World} {b k : Nat} {ws : List ByteArray} (h : LineOut w b k ws w') : w.heap.size < w'.heap.size := by
  obtain ⟨W, hb, hw, rfl⟩ := h
  have := lt_of_heap hw
  simpa using this

set_option maxHeartbeats 400000 in
theorem line_ok (b lb : Nat) (ls ws : List ByteArray) (k n : Nat) (m : Int) (word : ByteArray) (w : World) (h : RdrAt w b lb ls k) (hm : w.cell? ⟨0, 0, none⟩ = some (.int .i64 m)) (hk : k < ls.length) (hl : ls.length ≤ 1099511627776)
    (hs : (ls.getD k ⟨#[]⟩).size < 4294967281) (hw : Words (ls.getD k ⟨#[]⟩) ws) (hn : ws.length = n + 1) (hn0 : 0 < n) (hnl : n ≤ 1099511627776) (h0 : ws.getD 0 ⟨#[]⟩ = word) :
    Calls Tryz.prog 42 #[.pointer (some ⟨b, 0, none⟩), .string word] w fun e w' => e = .returned (.slice (some ⟨w.heap.size, 1, none⟩) n n) ∧ LineOut w b k ws w' := by
  have HP := Lib.hid (peek_ok b lb ls k w h hk hl)
  have HS := Lib.hid (fun W hm => Tryz.strings_Split (ls.getD k ⟨#[]⟩) spS m W hs hm (by decide))
  have HR := Lib.hid h
  have HM := Lib.hid hm
  have HW := Lib.hid hw
  have hbw : b < w.heap.size := lt_of_heap h.rdr
  have hkk : k ≤ 1099511627776 := by omega
  obtain ⟨t, ht⟩ : ∃ t, ws = word :: t := by
    cases ws with
    | nil => simp at hn
    | cons a t => exact ⟨t, by simp at h0; rw [h0]⟩
  have HN := Lib.hid hn
  have HT := Lib.hid ht
  clear h hm hw hs hk hl hn h0 ht
  have hn1 : ¬ ((n : Int) + 1 < 1) := by omega
  have hn2 : ¬ ((n : Int) + 1 = 1) := by omega
  go_enter Tryz.func42, Tryz.ntmps42
  go_wp2_with fail
  refine HP.out.mono ?_
  rintro e w1 ⟨rfl, q, rfl⟩
  go_wp2_with fail
  refine (HS.out _ (by simpa using HM.out)).mono ?_
  rintro e w2 ⟨rfl, rfl⟩
  rw [HW.out.2, HW.out.1, HN.out]
  have hR1 := HR.out.below (below_alloc (below_drewN (below_refl w) q) (.cells (ws.map Value.string).toArray 9))
  have c1 : ((w.drewN q).alloc (.cells (ws.map Value.string).toArray 9)).cell? ⟨b, 1, none⟩ = some (.int .i64 k) := by rw [Lib.cell_of_heap hR1.rdr]; rfl
  have z1 := Lib.frozen_of_heap hR1.rdr 1
  have cw : ((w.drewN q).alloc (.cells (ws.map Value.string).toArray 9)).cell? ⟨w.heap.size, 0, none⟩ = some (.string word) := by
    have := heap_alloc_new (w.drewN q) (.cells (ws.map Value.string).toArray 9)
    rw [show w.heap.size = (w.drewN q).heap.size from rfl, Lib.cell_of_heap this, HT.out]
    rfl
  clear hR1
  go_wp2_with fail
  go_ret
  exact ⟨rfl, _, below_alloc (below_drewN (below_refl w) q) _, heap_alloc_new (w.drewN q) _, by rw [Int.natCast_add]; rfl⟩

set_option maxHeartbeats 400000 in
theorem exactly_ok (b lb : Nat) (ls ws : List ByteArray) (k n : Nat) (m : Int) (word : ByteArray) (w : World) (h : RdrAt w b lb ls k) (hm : w.cell? ⟨0, 0, none⟩ = some (.int .i64 m)) (hk : k < ls.length) (hl : ls.length ≤ 1099511627776)
    (hs : (ls.getD k ⟨#[]⟩).size < 4294967281) (hw : Words (ls.getD k ⟨#[]⟩) ws) (hn : ws.length = n + 1) (hn0 : 0 < n) (hnl : n ≤ 1099511627776) (h0 : ws.getD 0 ⟨#[]⟩ = word) :
    Calls Tryz.prog 39 #[.pointer (some ⟨b, 0, none⟩), .string word, .int .i64 n] w fun e w' => e = .returned (.slice (some ⟨w.heap.size, 1, none⟩) n n) ∧ LineOut w b k ws w' := by
  have HL := Lib.hid (line_ok b lb ls ws k n m word w h hm hk hl hs hw hn hn0 hnl h0)
  clear h hm hk hl hs hw hn h0
  go_enter Tryz.func39, Tryz.ntmps39
  go_wp2_with fail
  refine HL.out.mono ?_
  rintro e w1 ⟨rfl, h1⟩
  have H1 := Lib.hid h1
  clear h1
  go_wp2
  go_ret
  exact ⟨rfl, H1.out⟩

/-- strconv.Atoi reads s as v. -/
def Reads (s : ByteArray) (v : Int) : Prop := Lib.atoiAll s.data.toList = .ok v ∧ s.size ≤ 9223372036854775806
theorem integer_ok (s : ByteArray) (v : Int) (w : World) (h : Reads s v) :
    Calls Tryz.prog 40 #[.string s] w (Gives w fun u _ => u = .int .i64 v) := by
  have HA := Lib.hid (fun W => Tryz.strconv_Atoi_ok s h.2 v h.1 W)
  clear h
  go_enter Tryz.func40, Tryz.ntmps40
  go_wp2_with fail
  refine (HA.out _).mono ?_
  rintro e w1 ⟨rfl, h1⟩
  have hb : Below w.heap.size w w1 := by
    rcases h1 with rfl | ⟨t, rfl⟩
    · exact below_refl _
    · exact ⟨rfl, rfl, rfl, by rw [Lib.bytesWorld_size]; omega, fun k hk => Lib.bytesWorld_at_old _ _ _ k hk⟩
  have HB := Lib.hid hb
  clear h1 hb
  go_wp2
  go_ret
  exact ⟨_, rfl, rfl, HB.out⟩
theorem count_ok (b : Value) (s : ByteArray) (v : Int) (w : World) (h : Reads s v) (h0 : 0 ≤ v) (h1 : v ≤ 1048576) :
    Calls Tryz.prog 41 #[b, .string s] w (Gives w fun u _ => u = .int .i64 v) := by
  have HA := Lib.hid (fun W => integer_ok s v W h)
  clear h
  go_enter Tryz.func41, Tryz.ntmps41
  go_wp2_with fail
  refine (HA.out _).mono ?_
  rintro e w1 ⟨_, rfl, rfl, hb⟩
  have HB := Lib.hid hb
  clear hb
  go_wp2
  go_ret
  exact ⟨_, rfl, rfl, HB.out⟩
end Go.Proofs.YtoflmheodiajaaaGreatDoor
