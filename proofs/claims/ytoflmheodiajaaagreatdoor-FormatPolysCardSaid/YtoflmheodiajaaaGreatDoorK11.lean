import Derived.Test.YtoflmheodiajaaaGreatDoorK10
import Derived.Laws.Tables
namespace Go.Proofs.YtoflmheodiajaaaGreatDoor
open Go.RowKit
set_option linter.unusedVariables false
set_option linter.unusedSimpArgs false
variable {Bs : Nat}
def okI (s : ByteArray) : Bool := ofOk (ofNeg s) (ofTail s)
def zI (s : ByteArray) : Bool := decide (dval (ofTail s) = 0)
def domI (s : ByteArray) : Prop := s.size ≤ 536870911 ∧ ∀ i, i < s.size → bt s i ≠ 47
theorem ofSpec_int : OfSpec Bs okI zI domI := by
  intro s w hBs hd
  refine (of_int s w hBs hd.1 hd.2).mono ?_
  rintro e w' ⟨v, rfl, ⟨r, rfl, h0, h1⟩, hb⟩
  refine ⟨_, rfl, ?_, hb⟩
  cases hk : ofOk (ofNeg s) (ofTail s)
  · exact ⟨0, 0, none, by rw [h0 hk]; simp [okI, hk], fun h => by simp [okI, hk] at h⟩
  · rcases h1 hk with ⟨p, q, rfl, hp, _, hn0, _⟩ | ⟨b, nv, dv, xs, ys, rfl, _, _, _, _, _, _, _, hn0, _⟩
    · refine ⟨p, q, none, by simp [okI, hk], fun _ => ?_⟩
      by_cases hz : dval (ofTail s) = 0
      · have : p = 0 := by rw [hp, hz]; simp
        simp [isZ, zI, hz, this]
      · have : p ≠ 0 := by rw [hp, if_neg hz]; split <;> omega
        simp [isZ, zI, hz, this]
    · refine ⟨0, 0, some ⟨b, 0, none⟩, by simp [okI, hk], fun _ => ?_⟩
      have : dval (ofTail s) ≠ 0 := by omega
      simp [isZ, zI, this]
def k2 : ByteArray := ⟨#[50]⟩
def k1 : ByteArray := ⟨#[45, 49]⟩
def knownT (s : Nat) : List TermV := [⟨k2, some ⟨s, 0, none⟩, 2, [1, 1]⟩, ⟨k1, some ⟨s + 1, 0, none⟩, 2, [0, 0]⟩]
theorem knownOk (s : Nat) : polyOk okI zI 2 (knownT s) = true := by kernel_rfl
theorem knownL (s : Nat) : (⟨(polyL 2 (knownT s)).toArray⟩ : ByteArray) = ⟨#[112, 111, 108, 121, 32, 50, 32, 50, 10, 116, 101, 114, 109, 32, 50, 32, 49, 32, 49, 10, 116, 101, 114, 109, 32, 45, 49, 32, 48, 32, 48, 10]⟩ := by kernel_rfl
theorem knownDom (s : Nat) : ∀ i, i < (knownT s).length → domI (tm (knownT s) i).c := by
  intro i hi
  match i, hi with
  | 0, _ => exact (show domI k2 from ⟨by decide, by decide⟩)
  | 1, _ => exact (show domI k1 from ⟨by decide, by decide⟩)
theorem knownEx (s : Nat) : ∀ i, i < (knownT s).length → ∀ j, j < (tm (knownT s) i).xs.length → 0 ≤ el (tm (knownT s) i).xs j ∧ el (tm (knownT s) i).xs j < 100 := by
  intro i hi
  match i, hi with
  | 0, _ => exact (by decide : ∀ j : Nat, j < 2 → 0 ≤ el [1, 1] j ∧ el [1, 1] j < 100)
  | 1, _ => exact (by decide : ∀ j : Nat, j < 2 → 0 ≤ el [0, 0] j ∧ el [0, 0] j < 100)
theorem knownXs (s : Nat) : ∀ i, i < (knownT s).length → (tm (knownT s) i).xs.length ≤ 6 := by
  intro i hi
  match i, hi with
  | 0, _ => exact (by decide : 2 ≤ 6)
  | 1, _ => exact (by decide : 2 ≤ 6)
def knownW (w : World) : World := ((w.alloc (.cells #[.int .i64 1, .int .i64 1] 3)).alloc (.cells #[.int .i64 0, .int .i64 0] 3)).alloc (.cells #[.string k2, .slice (some ⟨w.heap.size, 0, none⟩) 2 2, .string k1, .slice (some ⟨w.heap.size + 1, 0, none⟩) 2 2] 28)
theorem knownRd (w : World) : RdT 0 (knownW w) (some ⟨w.heap.size + 2, 0, none⟩) (knownT w.heap.size) := by
  obtain ⟨h0, h1, h2⟩ := heap_three w (.cells #[.int .i64 1, .int .i64 1] 3) (.cells #[.int .i64 0, .int .i64 0] 3) (.cells #[.string k2, .slice (some ⟨w.heap.size, 0, none⟩) 2 2, .string k1, .slice (some ⟨w.heap.size + 1, 0, none⟩) 2 2] 28)
  refine fun _ => ⟨w.heap.size + 2, 0, _, _, _, rfl, h2, .inr rfl, fun j hj => ?_⟩
  match j, hj with
  | 0, _ =>
    refine ⟨rfl, rfl, fun _ => ⟨w.heap.size, 0, _, _, _, rfl, h0, .inr rfl, fun j hj => ?_⟩, (by decide : 2 ≤ 2), (by decide : 2 ≤ 9223372036854775807)⟩
    match j, hj with
    | 0, _ => rfl
    | 1, _ => rfl
  | 1, _ =>
    refine ⟨rfl, rfl, fun _ => ⟨w.heap.size + 1, 0, _, _, _, rfl, h1, .inr rfl, fun j hj => ?_⟩, (by decide : 2 ≤ 2), (by decide : 2 ≤ 9223372036854775807)⟩
    match j, hj with
    | 0, _ => rfl
    | 1, _ => rfl
theorem known_any (w : World) : Calls Tryz.prog 6 #[] w (Gives w fun v _ => v = .bool true) := by
  have hp := formatPoly_ok okI zI domI (ofSpec_int (Bs := 0)) (some ⟨w.heap.size + 2, 0, none⟩) 2 (knownT w.heap.size) 2 (knownW w) (Nat.zero_le _) (knownRd w) (by decide : 2 ≤ 2) (by decide : 2 < 100) (knownDom _) (by decide) (knownOk _) (knownEx _) (knownXs _) (by
    have : (polyL 2 (knownT w.heap.size)).length = 32 := by kernel_rfl
    omega)
  rw [knownL] at hp
  have HP := Lib.hid hp
  clear hp
  go_enter Tryz.func6, Tryz.ntmps6
  go_wp2_with fail
  refine HP.out.mono ?_
  rintro e w' ⟨_, rfl, rfl, hb⟩
  have HB := Lib.hid (below_then (below_alloc (below_alloc (below_alloc (below_refl w) _) _) _) (by simp; omega) hb)
  clear hb
  go_wp2
  go_ret
  exact ⟨_, rfl, rfl, HB.out⟩
end Go.Proofs.YtoflmheodiajaaaGreatDoor
namespace Go.Proofs.YtoflmheodiajaaaGreatDoor
open Go.RowKit
set_option linter.unusedVariables false
set_option linter.unusedSimpArgs false
variable {Bs : Nat}
def errChain (x : Int) : List PanicEntry := [{ v := .iface 29 (.int .i64 x), recovered := false }]
set_option maxHeartbeats 1000000 in
set_option maxRecDepth 100000 in
theorem writerPoly_bad (okC zC : ByteArray → Bool) (dom : ByteArray → Prop) (HS : OfSpec Bs okC zC dom) (A : Option Addr) (ca : Nat) (ts : List TermV) (vars : Int) (b : Value) (w : World) (hBs : Bs ≤ w.heap.size) (hA : RdT Bs w A ts)
    (hc : ts.length ≤ ca) (hl : ts.length ≤ 9223372036854775807) (hd : ∀ i, i < ts.length → dom (tm ts i).c) (hok : polyOk okC zC vars ts = false) :
    Calls Tryz.prog 15 #[b, .agg #[.int .i64 vars, .slice A ts.length ca]] w fun e w' => e = .panicked (errChain 1) ∧ Below w.heap.size w w' := by
  have HO := Lib.hid (fun W h1 h2 => (polyOf_any okC zC dom HS A ca ts vars W h1 h2 hc hl hd))
  have HA := Lib.hid hA
  have HOK := Lib.hid hok
  clear hA hok HS hd
  go_enter Tryz.func15, Tryz.ntmps15
  go_wp2_with fail
  refine (HO.out _ (by simp; omega) (HA.out.below (below_alloc (below_refl _) _))).mono ?_
  rintro e w1 ⟨_, rfl, ⟨n, A1, l1, c1, rfl⟩, hb1⟩
  rw [HOK.out]
  have HB1 := Lib.hid (below_then (below_alloc (below_refl w) _) (by simp) hb1)
  clear hb1
  go_wp2_with fail
  refine (fail_any 1 _).mono ?_
  rintro e w2 ⟨rfl, rfl⟩
  go_wp2
  simp only [bodyPost]
  exact ⟨trivial, rfl, HB1.out.alloc HB1.out.size _⟩
theorem closurePoly_bad (okC zC : ByteArray → Bool) (dom : ByteArray → Prop) (HS : OfSpec Bs okC zC dom) (A : Option Addr) (ca : Nat) (ts : List TermV) (vars : Int) (b : Value) (pb : Nat) (w : World) (hBs : Bs ≤ w.heap.size) (hA : RdT Bs w A ts)
    (hp0 : w.cell? ⟨pb, 0, none⟩ = some (.int .i64 vars)) (hp1 : w.cell? ⟨pb, 1, none⟩ = some (.slice A ts.length ca))
    (hc : ts.length ≤ ca) (hl : ts.length ≤ 9223372036854775807) (hd : ∀ i, i < ts.length → dom (tm ts i).c) (hok : polyOk okC zC vars ts = false) :
    Calls Tryz.prog 14 #[b, .pointer (some ⟨pb, 0, none⟩)] w fun e w' => e = .panicked (errChain 1) ∧ Below w.heap.size w w' := by
  have HW := Lib.hid (writerPoly_bad okC zC dom HS A ca ts vars b w hBs hA hc hl hd hok)
  clear hA hok HS hd
  go_enter Tryz.func14, Tryz.ntmps14
  go_wp2_with fail
  refine HW.out.mono ?_
  rintro e w' ⟨rfl, hw⟩
  have H1 := Lib.hid hw
  clear hw
  go_wp2
  simp only [bodyPost]
  exact ⟨trivial, trivial, H1.out⟩
set_option maxHeartbeats 1000000 in
set_option maxRecDepth 100000 in
theorem written_bad (q : Addr) (x : Int) (w : World)
    (HC : Calls Tryz.prog 14 #[.pointer (some ⟨w.heap.size + 1, 0, none⟩), .pointer (some q)] ((w.alloc (.cells #[.int .i64 0] 29)).alloc (.cells #[.pointer none, .slice none 0 0] 106))
      fun e w' => e = .panicked (errChain x) ∧ Below ((w.alloc (.cells #[.int .i64 0] 29)).alloc (.cells #[.pointer none, .slice none 0 0] 106)).heap.size ((w.alloc (.cells #[.int .i64 0] 29)).alloc (.cells #[.pointer none, .slice none 0 0] 106)) w') :
    Calls Tryz.prog 13 #[.func (Fn.func 14) #[] #[.pointer (some q)]] w (Gives w fun v _ => v = .tuple #[.string ⟨#[]⟩, .int .i64 x]) := by
  have HC := Lib.hid HC
  go_enter_defers Tryz.func13, Tryz.ntmps13
  go_wp2_with fail
  refine HC.out.mono ?_
  rintro e w1 ⟨rfl, h2⟩
  have hx : w1.heap[w.heap.size]? = some (.cells #[.int .i64 0] 29 (0, 0)) := (h2.block _ (by simp; omega)).trans (heap_two_fst w _ _)
  have x0 : w1.cell? ⟨w.heap.size, 0, none⟩ = some (.int .i64 0) := by rw [Lib.cell_of_heap hx]; rfl
  have xz := Lib.frozen_of_heap hx 0
  have H2 := Lib.hid (below_then (below_alloc (below_alloc (below_refl w) _) _) (by simp; omega) h2)
  have x1 := World.cell?_setCell_same w1 ⟨w.heap.size, 0, none⟩ (.int .i64 x) x0
  clear h2 hx
  go_wp2_with fail
  unfold errChain
  refine leaves_cons (f := 27) (args := #[.pointer (some ⟨w.heap.size, 0, none⟩)]) (by simp) (by simp [go_sem]) ?_
  refine (catch_errno ⟨w.heap.size, 0, none⟩ 0 x [] _ x0 xz).mono ?_
  rintro e u' w'' ⟨rfl, rfl, rfl⟩
  simp [Leaves, settle, results, Tryz.results13, go_sem, x1]
  exact ⟨_, rfl, rfl, H2.out.setCell (p := ⟨w.heap.size, 0, none⟩) (Nat.le_refl _) _⟩
theorem formatPoly_bad (okC zC : ByteArray → Bool) (dom : ByteArray → Prop) (HS : OfSpec Bs okC zC dom) (A : Option Addr) (ca : Nat) (ts : List TermV) (vars : Int) (w : World) (hBs : Bs ≤ w.heap.size) (hA : RdT Bs w A ts)
    (hc : ts.length ≤ ca) (hl : ts.length ≤ 9223372036854775807) (hd : ∀ i, i < ts.length → dom (tm ts i).c) (hok : polyOk okC zC vars ts = false) :
    Calls Tryz.prog 7 #[.agg #[.int .i64 vars, .slice A ts.length ca]] w (Gives w fun v _ => v = .tuple #[.string ⟨#[]⟩, .int .i64 1]) := by
  have hmf : ∀ (fn : Fn) (first cap : Array Value) (w : World), (Instr.makeFunc fn first cap).run Tryz.prog w = .ok (.func fn first cap) w := fun _ _ _ _ => rfl
  have e1 : (w.alloc (.cells #[.int .i64 vars, .slice A ts.length ca] 24)).heap.size = w.heap.size + 1 := by simp
  have hbx := heap_alloc_new w (.cells #[.int .i64 vars, .slice A ts.length ca] 24)
  have hb3 := below_alloc (below_alloc (below_refl (w.alloc (.cells #[.int .i64 vars, .slice A ts.length ca] 24))) (.cells #[.int .i64 0] 29)) (.cells #[.pointer none, .slice none 0 0] 106)
  have hbx3 := (hb3.block w.heap.size (by simp)).trans hbx
  have hclo := closurePoly_bad okC zC dom HS A ca ts vars (.pointer (some ⟨w.heap.size + 2, 0, none⟩)) w.heap.size (((w.alloc (.cells #[.int .i64 vars, .slice A ts.length ca] 24)).alloc (.cells #[.int .i64 0] 29)).alloc (.cells #[.pointer none, .slice none 0 0] 106))
    (by simp; omega) (hA.below (below_alloc (below_alloc (below_alloc (below_refl w) _) _) _)) (by rw [Lib.cell_of_heap hbx3]; rfl) (by rw [Lib.cell_of_heap hbx3]; rfl) hc hl hd hok
  have hwr := written_bad ⟨w.heap.size, 0, none⟩ 1 (w.alloc (.cells #[.int .i64 vars, .slice A ts.length ca] 24)) (by rw [e1]; exact hclo)
  have HWR := Lib.hid hwr
  clear hwr hclo hbx3 hb3 hbx hA hok HS hd e1
  go_enter Tryz.func7, Tryz.ntmps7
  go_wp2_with fail
  refine HWR.out.mono ?_
  rintro e w' ⟨_, rfl, rfl, hb⟩
  have HB := Lib.hid (below_then (below_alloc (below_refl w) _) (by simp) hb)
  clear hb
  go_wp2
  go_ret2
  exact ⟨_, rfl, rfl, HB.out⟩
end Go.Proofs.YtoflmheodiajaaaGreatDoor
namespace Go.Proofs.YtoflmheodiajaaaGreatDoor
open Go.RowKit
set_option linter.unusedVariables false
set_option linter.unusedSimpArgs false
structure Besides (b : Nat) (w w' : World) : Prop where
  os : w'.os = w.os
  tape : w'.tape = w.tape
  output : w'.output = w.output
  size : w.heap.size ≤ w'.heap.size
  block : ∀ i, i < w.heap.size → i ≠ b → w'.heap[i]? = w.heap[i]?
theorem Besides.of_below {b : Nat} {w w1 : World} (h : Below w.heap.size w w1) : Besides b w w1 := ⟨h.os, h.tape, h.output, h.size, fun i hi _ => h.block i hi⟩
theorem Besides.trans {b : Nat} {w w1 w2 : World} (h : Besides b w w1) (k : Besides b w1 w2) : Besides b w w2 :=
  ⟨k.os.trans h.os, k.tape.trans h.tape, k.output.trans h.output, Nat.le_trans h.size k.size, fun i hi hb => (k.block i (Nat.lt_of_lt_of_le hi h.size) hb).trans (h.block i hi hb)⟩
theorem Besides.next {b : Nat} {w w1 w2 : World} (h : Besides b w w1) (k : Below w1.heap.size w1 w2) : Besides b w w2 := h.trans (.of_below k)
theorem Besides.alloc {b : Nat} {w w1 : World} (h : Besides b w w1) (o : Obj) : Besides b w (w1.alloc o) := h.next (below_alloc (below_refl _) o)
theorem Besides.set {b : Nat} {w w1 : World} (h : Besides b w w1) {p : Addr} (hp : w.heap.size ≤ p.block ∨ p.block = b) (u : Value) : Besides b w (w1.setCell p u) :=
  ⟨h.os, h.tape, h.output, by simpa using h.size, fun i hi hb => by
    rw [heap_setCell_other _ _ _ _ (by rcases hp with hp | hp <;> omega)]
    exact h.block i hi hb⟩
theorem Besides.below {b B : Nat} {w w1 : World} (h : Besides b w w1) (hB : B ≤ b) (hBw : B ≤ w.heap.size) : Below B w w1 := ⟨h.os, h.tape, h.output, h.size, fun i hi => h.block i (by omega) (by omega)⟩
theorem Besides.refl (b : Nat) (w : World) : Besides b w w := .of_below (below_refl w)
theorem Besides.drewN {b : Nat} {w w1 : World} (h : Besides b w w1) (q : Nat) : Besides b w (w1.drewN q) := ⟨h.os, h.tape, h.output, h.size, h.block⟩
theorem Besides.cell {b g o : Nat} {w w1 : World} (h : Besides b w w1) (hg : g < w.heap.size) (hb : g ≠ b) : w1.cell? ⟨g, o, none⟩ = w.cell? ⟨g, o, none⟩ := by
  unfold World.cell?
  simp only [h.block g hg hb]
end Go.Proofs.YtoflmheodiajaaaGreatDoor
namespace Go.Proofs.YtoflmheodiajaaaGreatDoor
open Go.RowKit
set_option linter.unusedVariables false
set_option linter.unusedSimpArgs false
structure RdrAt (w : World) (b lb : Nat) (ls : List ByteArray) (k : Nat) : Prop where
  rdr : w.heap[b]? = some (.cells #[.slice (some ⟨lb, 0, none⟩) ls.length ls.length, .int .i64 k] 121 (0, 0))
  lines : w.heap[lb]? = some (.cells (ls.map Value.string).toArray 9 (0, 0))
theorem RdrAt.below {w w1 : World} {b lb : Nat} {ls : List ByteArray} {k : Nat} (h : RdrAt w b lb ls k) (hb : Below w.heap.size w w1) : RdrAt w1 b lb ls k :=
  ⟨(hb.block b (lt_of_heap h.rdr)).trans h.rdr, (hb.block lb (lt_of_heap h.lines)).trans h.lines⟩
theorem RdrAt.ne {w : World} {b lb : Nat} {ls : List ByteArray} {k : Nat} (h : RdrAt w b lb ls k) : b ≠ lb := by
  intro e
  subst e
  have := h.rdr.symm.trans h.lines
  simp at this
theorem RdrAt.next {w : World} {b lb : Nat} {ls : List ByteArray} {k : Nat} (h : RdrAt w b lb ls k) : RdrAt (w.setCell ⟨b, 1, none⟩ (.int .i64 ((k + 1 : Nat) : Int))) b lb ls (k + 1) :=
  ⟨by rw [heap_setCell h.rdr]; rfl, by rw [heap_setCell_other _ _ _ _ (fun e => h.ne e.symm)]; exact h.lines⟩
theorem RdrAt.line {w : World} {b lb : Nat} {ls : List ByteArray} {k : Nat} (h : RdrAt w b lb ls k) (hk : k < ls.length) : w.cell? ⟨lb, k, none⟩ = some (.string (ls.getD k ⟨#[]⟩)) := by
  rw [Lib.cell_of_heap h.lines]
  simp [hk, List.getD]
theorem peek_ok (b lb : Nat) (ls : List ByteArray) (k : Nat) (w : World) (h : RdrAt w b lb ls k) (hk : k < ls.length) (hl : ls.length ≤ 1099511627776) :
    Calls Tryz.prog 62 #[.pointer (some ⟨b, 0, none⟩)] w fun e w' => e = .returned (.string (ls.getD k ⟨#[]⟩)) ∧ ∃ n, w' = w.drewN n := by
  have c0 : w.cell? ⟨b, 0, none⟩ = some (.slice (some ⟨lb, 0, none⟩) ls.length ls.length) := by rw [Lib.cell_of_heap h.rdr]; rfl
  have c1 : w.cell? ⟨b, 1, none⟩ = some (.int .i64 k) := by rw [Lib.cell_of_heap h.rdr]; rfl
  have cl := h.line hk
  have hge : decide ((k : Int) ≥ (ls.length : Int)) = false := by simp; omega
  have hge2 : ¬ (ls.length : Int) ≤ (k : Int) := by omega
  have hk0 : (0 : Int) ≤ (k : Int) := by omega
  have hk1 : (k : Int) < (ls.length : Int) := by omega
  have HK := Lib.hid hk
  clear h hk
  go_enter Tryz.func62, Tryz.ntmps62
  go_wp2
  go_quiet (fail)
  go_wp2
  go_quiet (fail)
  go_wp2
  go_ret
  exact ⟨by simp [List.getD], _, World.drewN_drewN _ _ _⟩
def spS : ByteArray := ⟨#[32]⟩
def Words (s : ByteArray) (ws : List ByteArray) : Prop := Lib.splitB spS 0 (Lib.countB s spS) s = ws ∧ Lib.countB s spS + 1 = ws.length
def LineOut (w : World) (b k : Nat) (ws : List ByteArray) (w' : World) : Prop :=
  ∃ W, Below w.heap.size w W ∧ W.heap[w.heap.size]? = some (.cells (ws.map Value.string).toArray 9 (0, 0)) ∧ w' = W.setCell ⟨b, 1, none⟩ (.int .i64 ((k + 1 : Nat) : Int))
theorem LineOut.rdr {w w' : World} {b lb k : Nat} {ls ws : List ByteArray} (h : LineOut w b k ws w') (hr : RdrAt w b lb ls k) : RdrAt w' b lb ls (k + 1) := by
  obtain ⟨W, hb, _, rfl⟩ := h
  exact (hr.below hb).next
theorem LineOut.words {w w' : World} {b lb k : Nat} {ls ws : List ByteArray} (h : LineOut w b k ws w') (hr : RdrAt w b lb ls k) : w'.heap[w.heap.size]? = some (.cells (ws.map Value.string).toArray 9 (0, 0)) := by
  obtain ⟨W, hb, hw, rfl⟩ := h
  have := lt_of_heap hr.rdr
  rw [heap_setCell_other _ _ _ _ (by show w.heap.size ≠ b; omega)]
  exact hw
theorem LineOut.besides {w w' : World} {b k : Nat} {ws : List ByteArray} (h : LineOut w b k ws w') : Besides b w w' := by
  obtain ⟨W, hb, hw, rfl⟩ := h
  exact (Besides.of_below hb).set (b := b) (p := ⟨b, 1, none⟩) (.inr rfl) _
theorem LineOut.size {w w' : World} {b k : Nat} {ws : List ByteArray} (h : LineOut w b k ws w') : w.heap.size < w'.heap.size := by
  obtain ⟨W, hb, hw, rfl⟩ := h
  have := lt_of_heap hw
  simpa using this
set_option maxHeartbeats 400000 in
theorem line_ok (b lb : Nat) (ls ws : List ByteArray) (k n : Nat) (m : Int) (word : ByteArray) (w : World) (h : RdrAt w b lb ls k) (hm : w.cell? ⟨0, 0, none⟩ = some (.int .i64 m)) (hk : k < ls.length) (hl : ls.length ≤ 1099511627776)
    (hs : (ls.getD k ⟨#[]⟩).size < 4294967281) (hw : Words (ls.getD k ⟨#[]⟩) ws) (hn : ws.length = n + 1) (hn0 : 0 < n) (hnl : n ≤ 1099511627776) (h0 : ws.getD 0 ⟨#[]⟩ = word) :
    Calls Tryz.prog 42 #[.pointer (some ⟨b, 0, none⟩), .string word] w fun e w' => e = .returned (.slice (some ⟨w.heap.size, 1, none⟩) n n) ∧ LineOut w b k ws w' := by
  have HP := Lib.hid (peek_ok b lb ls k w h hk hl)
  have HS := Lib.hid (fun W hm => Tryz.strings_Split (ls.getD k ⟨#[]⟩) spS m W hs hm (by decide))
  have HR := Lib.hid h
  have HM := Lib.hid hm
  have HW := Lib.hid hw
  have hbw : b < w.heap.size := lt_of_heap h.rdr
  have hkk : k ≤ 1099511627776 := by omega
  obtain ⟨t, ht⟩ : ∃ t, ws = word :: t := by
    cases ws with
    | nil => simp at hn
    | cons a t => exact ⟨t, by simp at h0; rw [h0]⟩
  have HN := Lib.hid hn
  have HT := Lib.hid ht
  clear h hm hw hs hk hl hn h0 ht
  have hn1 : ¬ ((n : Int) + 1 < 1) := by omega
  have hn2 : ¬ ((n : Int) + 1 = 1) := by omega
  go_enter Tryz.func42, Tryz.ntmps42
  go_wp2_with fail
  refine HP.out.mono ?_
  rintro e w1 ⟨rfl, q, rfl⟩
  go_wp2_with fail
  refine (HS.out _ (by simpa using HM.out)).mono ?_
  rintro e w2 ⟨rfl, rfl⟩
  rw [HW.out.2, HW.out.1, HN.out]
  have hR1 := HR.out.below (below_alloc (below_drewN (below_refl w) q) (.cells (ws.map Value.string).toArray 9))
  have c1 : ((w.drewN q).alloc (.cells (ws.map Value.string).toArray 9)).cell? ⟨b, 1, none⟩ = some (.int .i64 k) := by rw [Lib.cell_of_heap hR1.rdr]; rfl
  have z1 := Lib.frozen_of_heap hR1.rdr 1
  have cw : ((w.drewN q).alloc (.cells (ws.map Value.string).toArray 9)).cell? ⟨w.heap.size, 0, none⟩ = some (.string word) := by
    have := heap_alloc_new (w.drewN q) (.cells (ws.map Value.string).toArray 9)
    rw [show w.heap.size = (w.drewN q).heap.size from rfl, Lib.cell_of_heap this, HT.out]
    rfl
  clear hR1
  go_wp2_with fail
  go_ret
  exact ⟨rfl, _, below_alloc (below_drewN (below_refl w) q) _, heap_alloc_new (w.drewN q) _, by rw [Int.natCast_add]; rfl⟩
set_option maxHeartbeats 400000 in
theorem exactly_ok (b lb : Nat) (ls ws : List ByteArray) (k n : Nat) (m : Int) (word : ByteArray) (w : World) (h : RdrAt w b lb ls k) (hm : w.cell? ⟨0, 0, none⟩ = some (.int .i64 m)) (hk : k < ls.length) (hl : ls.length ≤ 1099511627776)
    (hs : (ls.getD k ⟨#[]⟩).size < 4294967281) (hw : Words (ls.getD k ⟨#[]⟩) ws) (hn : ws.length = n + 1) (hn0 : 0 < n) (hnl : n ≤ 1099511627776) (h0 : ws.getD 0 ⟨#[]⟩ = word) :
    Calls Tryz.prog 39 #[.pointer (some ⟨b, 0, none⟩), .string word, .int .i64 n] w fun e w' => e = .returned (.slice (some ⟨w.heap.size, 1, none⟩) n n) ∧ LineOut w b k ws w' := by
  have HL := Lib.hid (line_ok b lb ls ws k n m word w h hm hk hl hs hw hn hn0 hnl h0)
  clear h hm hk hl hs hw hn h0
  go_enter Tryz.func39, Tryz.ntmps39
  go_wp2_with fail
  refine HL.out.mono ?_
  rintro e w1 ⟨rfl, h1⟩
  have H1 := Lib.hid h1
  clear h1
  go_wp2
  go_ret
  exact ⟨rfl, H1.out⟩
def Reads (s : ByteArray) (v : Int) : Prop := Lib.atoiAll s.data.toList = .ok v ∧ s.size ≤ 9223372036854775806
theorem integer_ok (s : ByteArray) (v : Int) (w : World) (h : Reads s v) :
    Calls Tryz.prog 40 #[.string s] w (Gives w fun u _ => u = .int .i64 v) := by
  have HA := Lib.hid (fun W => Tryz.strconv_Atoi_ok s h.2 v h.1 W)
  clear h
  go_enter Tryz.func40, Tryz.ntmps40
  go_wp2_with fail
  refine (HA.out _).mono ?_
  rintro e w1 ⟨rfl, h1⟩
  have hb : Below w.heap.size w w1 := by
    rcases h1 with rfl | ⟨t, rfl⟩
    · exact below_refl _
    · exact ⟨rfl, rfl, rfl, by rw [Lib.bytesWorld_size]; omega, fun k hk => Lib.bytesWorld_at_old _ _ _ k hk⟩
  have HB := Lib.hid hb
  clear h1 hb
  go_wp2
  go_ret
  exact ⟨_, rfl, rfl, HB.out⟩
theorem count_ok (b : Value) (s : ByteArray) (v : Int) (w : World) (h : Reads s v) (h0 : 0 ≤ v) (h1 : v ≤ 1048576) :
    Calls Tryz.prog 41 #[b, .string s] w (Gives w fun u _ => u = .int .i64 v) := by
  have HA := Lib.hid (fun W => integer_ok s v W h)
  clear h
  go_enter Tryz.func41, Tryz.ntmps41
  go_wp2_with fail
  refine (HA.out _).mono ?_
  rintro e w1 ⟨_, rfl, rfl, hb⟩
  have HB := Lib.hid hb
  clear hb
  go_wp2
  go_ret
  exact ⟨_, rfl, rfl, HB.out⟩
end Go.Proofs.YtoflmheodiajaaaGreatDoor
namespace Go.Proofs.YtoflmheodiajaaaGreatDoor
open Go.RowKit
set_option linter.unusedVariables false
set_option linter.unusedSimpArgs false
theorem LineOut.other {w w' : World} {b k g : Nat} {ws : List ByteArray} (h : LineOut w b k ws w') (hg : g < w.heap.size) (hb : g ≠ b) : w'.heap[g]? = w.heap[g]? := by
  obtain ⟨W, hW, hw, rfl⟩ := h
  rw [heap_setCell_other _ _ _ _ (by show g ≠ b; exact hb)]
  exact hW.block g hg
theorem max_below {B : Nat} {w w1 : World} {u : Value} (hb : Below B w w1) (hB : 0 < B) (hm : w.cell? ⟨0, 0, none⟩ = some u) : w1.cell? ⟨0, 0, none⟩ = some u := (hb.cell (p := ⟨0, 0, none⟩) hB).trans hm
end Go.Proofs.YtoflmheodiajaaaGreatDoor
