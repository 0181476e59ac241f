import Derived.Test.YtoflmheodiajaaaGreatDoorK13
namespace Go.Proofs.YtoflmheodiajaaaGreatDoor
open Go.RowKit
set_option linter.unusedVariables false
set_option linter.unusedSimpArgs false
structure TmIn (T0 : World) (c : ByteArray) (v : Value) (xs : List Int) (W : World) : Prop where
  box : W.heap[T0.heap.size]? = some (.cells #[.string c, v] 28 (0, 0))
  own : OwnI W (T0.heap.size + 1) 3 .i64 v xs
  below : Below T0.heap.size T0 W
  size : T0.heap.size + 1 ≤ W.heap.size
theorem TmIn.since {T0 W W1 : World} {c : ByteArray} {v : Value} {xs : List Int} (h : TmIn T0 c v xs W) (hb : Below W.heap.size W W1) : TmIn T0 c v xs W1 :=
  ⟨(hb.block _ (by have := h.size; omega)).trans h.box, h.own.below hb, below_then h.below (by have := h.size; omega) hb, by have := h.size; have := hb.size; omega⟩
theorem TmIn.start (T0 : World) (c : ByteArray) : TmIn T0 c (.slice none 0 0) [] (T0.alloc (.cells #[.string c, .slice none 0 0] 28)) :=
  ⟨heap_alloc_new T0 _, World.ownsRow_nil _ _ _ _, below_alloc (below_refl T0) _, by simp⟩
theorem TmIn.step {T0 W W1 : World} {c : ByteArray} {v v1 : Value} {xs ys : List Int} (h : TmIn T0 c v xs W) (hb : Below (T0.heap.size + 1) W W1) (hs : W.heap.size ≤ W1.heap.size) (ho : OwnI W1 (T0.heap.size + 1) 3 .i64 v1 ys) :
    TmIn T0 c v1 ys (W1.setCell ⟨T0.heap.size, 1, none⟩ v1) := by
  have hx := (hb.block T0.heap.size (by omega)).trans h.box
  refine ⟨by rw [heap_setCell hx]; rfl, ho.below' (Keeps.setCell hx (Nat.zero_le _) (by decide) _), (below_mix h.below (Nat.le_succ _) hb).setCell (p := ⟨T0.heap.size, 1, none⟩) (Nat.le_refl _) _, by have := h.size; simp; omega⟩
structure RpIn (w : World) (b lb : Nat) (ls : List ByteArray) (r vars : Nat) (ts : List TermV) (pb k : Nat) (tv : Value) (tk : List TermV) (W : World) : Prop where
  bes : Besides b w W
  res : W.heap[w.heap.size]? = some (.cells #[.int .i64 0, .slice none 0 0] 24 (0, 0))
  poly : W.heap[pb]? = some (.cells #[.int .i64 vars, tv] 24 (0, 0))
  row : TRow W (w.heap.size + 1) tv tk
  rdr : RdrAt W b lb ls r
  bare : tk.map bare = (ts.take k).map bare
  size : w.heap.size + 1 ≤ W.heap.size
theorem RpIn.since {w : World} {b lb : Nat} {ls : List ByteArray} {r vars : Nat} {ts : List TermV} {pb k : Nat} {tv : Value} {tk : List TermV} {W W1 : World} (h : RpIn w b lb ls r vars ts pb k tv tk W) (hb : Below W.heap.size W W1) : RpIn w b lb ls r vars ts pb k tv tk W1 :=
  ⟨h.bes.next hb, (hb.block _ (lt_of_heap h.res)).trans h.res, (hb.block _ (lt_of_heap h.poly)).trans h.poly, h.row.below hb, h.rdr.below hb, h.bare, Nat.le_trans h.size hb.size⟩
theorem RpIn.line {w : World} {b lb : Nat} {ls ws : List ByteArray} {r vars : Nat} {ts : List TermV} {pb k : Nat} {tv : Value} {tk : List TermV} {W W1 : World} (h : RpIn w b lb ls r vars ts pb k tv tk W) (hb : b < w.heap.size) (hp : w.heap.size < pb) (hlo : LineOut W b r ws W1) : RpIn w b lb ls (r + 1) vars ts pb k tv tk W1 := by
  have hk : Keeps 0 [28, 3] W W1 := by
    intro i cs t fr hi hT
    have hne : i ≠ b := by
      intro e
      subst e
      rw [h.rdr.rdr] at hi
      simp only [Option.some.injEq, Obj.cells.injEq] at hi
      obtain ⟨_, rfl, _⟩ := hi
      simp at hT
    rw [hlo.other (lt_of_heap hi) hne]; exact hi
  exact ⟨h.bes.trans hlo.besides, (hlo.other (lt_of_heap h.res) (by omega)).trans h.res, (hlo.other (lt_of_heap h.poly) (by omega)).trans h.poly, h.row.keeps hk, hlo.rdr h.rdr, h.bare, by have := h.size; have := hlo.size; omega⟩
theorem RpIn.grow {w : World} {b lb : Nat} {ls : List ByteArray} {r vars : Nat} {ts : List TermV} {pb k : Nat} {tv v1 : Value} {tk : List TermV} {t : TermV} {W W1 : World} (h : RpIn w b lb ls r vars ts pb k tv tk W) (hb : b < w.heap.size) (hp : w.heap.size < pb)
    (hk : Keeps 0 [3, 24, 121, 9] W W1) (hB : Below (w.heap.size + 1) W W1) (hs : W.heap.size ≤ W1.heap.size) (hr : TRow W1 (w.heap.size + 1) v1 (tk ++ [t])) (ht : Go.Proofs.YtoflmheodiajaaaGreatDoor.bare t = Go.Proofs.YtoflmheodiajaaaGreatDoor.bare (tm ts k)) (hkl : k < ts.length) :
    RpIn w b lb ls r vars ts pb (k + 1) v1 (tk ++ [t]) (W1.setCell ⟨pb, 1, none⟩ v1) := by
  have hx := hk pb _ _ _ h.poly (.inr (by simp))
  have hl := hk lb _ _ _ h.rdr.lines (.inr (by simp))
  have hbb := hk b _ _ _ h.rdr.rdr (.inr (by simp))
  have hne : lb ≠ pb := by
    intro e
    subst e
    rw [hl] at hx
    simp at hx
  refine ⟨?_, ?_, by rw [heap_setCell hx]; rfl, hr.set hx (by decide) _, ⟨?_, ?_⟩, ?_, by have := h.size; simp; omega⟩
  · exact (⟨hB.os.trans h.bes.os, hB.tape.trans h.bes.tape, hB.output.trans h.bes.output, Nat.le_trans h.bes.size hs, fun i hi hne => (hB.block i (by omega)).trans (h.bes.block i hi hne)⟩ : Besides b w W1).set (p := ⟨pb, 1, none⟩) (.inl (Nat.le_of_lt hp)) _
  · exact heap_far (hk _ _ _ _ h.res (.inr (by simp))) (by omega) _
  · exact heap_far hbb (by omega) _
  · exact heap_far hl (fun e => hne e.symm) _
  · rw [List.map_append, h.bare, List.take_succ_eq_append_getElem hkl, List.map_append, List.map_singleton, List.map_singleton, ht, tm_at]
def RpRel (w : World) (b lb : Nat) (ls : List ByteArray) (k0 vars : Nat) (ts : List TermV) (pb : Nat) (i : Value) (W : World) : Prop := ∃ (k : Nat) (tv : Value) (tk : List TermV), i = .int .i64 k ∧ k ≤ ts.length ∧ RpIn w b lb ls (k0 + 1 + k) vars ts pb k tv tk W
def ExRel (T0 : World) (c : ByteArray) (xs : List Int) (i : Value) (W : World) : Prop := ∃ (j : Nat) (v : Value), i = .int .i64 j ∧ j ≤ xs.length ∧ TmIn T0 c v (xs.take j) W
set_option maxHeartbeats 2000000 in
set_option maxRecDepth 100000 in
theorem readerPoly_any (b lb : Nat) (ls : List ByteArray) (vars : Nat) (ts : List TermV) (k0 : Nat) (m : Int) (w : World) (h : RdrAt w b lb ls k0) (hm : w.cell? ⟨0, 0, none⟩ = some (.int .i64 m)) (h0 : 0 < b) (hk : k0 + 1 + ts.length ≤ ls.length) (hl : ls.length ≤ 1099511627776)
    (hs : ∀ k, (ls.getD k ⟨#[]⟩).size < 4294967281) (hw : Words (ls.getD k0 ⟨#[]⟩) [polyS, decS vars, decS ts.length]) (hwt : ∀ i, i < ts.length → Words (ls.getD (k0 + 1 + i) ⟨#[]⟩) (termW (tm ts i))) (hv : Reads (decS vars) vars) (hn : Reads (decS ts.length) ts.length) (hn1 : ts.length ≤ 1000000)
    (hex : ∀ i, i < ts.length → ∀ j, j < (tm ts i).xs.length → Reads (decS (el (tm ts i).xs j).toNat) (el (tm ts i).xs j)) (hxl : ∀ i, i < ts.length → (tm ts i).xs.length ≤ 1000) :
    Calls Tryz.prog 20 #[.pointer (some ⟨b, 0, none⟩)] w fun e w' => ∃ A c tk, e = .returned (.agg #[.int .i64 vars, .slice A ts.length c]) ∧ tk.map bare = ts.map bare ∧ ts.length ≤ c ∧ RdT 0 w' A tk ∧ RdrAt w' b lb ls (k0 + 1 + ts.length) ∧ Besides b w w' := by
  have hR0 := h.below (below_alloc (below_refl w) (.cells #[.int .i64 0, .slice none 0 0] 24))
  have hbw : b < w.heap.size := lt_of_heap h.rdr
  have HE := Lib.hid (exactly_ok b lb ls [polyS, decS vars, decS ts.length] k0 2 m polyS (w.alloc (.cells #[.int .i64 0, .slice none 0 0] 24)) hR0 (max_below (below_alloc (below_refl w) _) (by omega) hm) (by omega) hl (hs _) hw rfl (by decide) (by decide) rfl)
  have HR0 := Lib.hid hR0
  have HV := Lib.hid (fun W => integer_ok (decS vars) vars W hv)
  have HN := Lib.hid (fun W => fun b => count_ok b (decS ts.length) ts.length W hn (by omega) (by omega))
  have HX := Lib.hid (fun i hi j hj W => integer_ok (decS (el (tm ts i).xs j).toNat) (el (tm ts i).xs j) W (hex i hi j hj))
  have HXL := Lib.hid hxl
  have HL := Lib.hid (fun i (hi : i < ts.length) W hR hm => line_ok b lb ls (termW (tm ts i)) (k0 + 1 + i) ((tm ts i).xs.length + 1) m termS W hR hm (by omega) hl (hs _) (hwt i hi) (by simp [termW]) (by omega) (by have := hxl i hi; omega) rfl)
  have HM := Lib.hid hm
  clear h hm hk hl hs hw hv hn hR0 hwt hex hxl
  go_enter Tryz.func20, Tryz.ntmps20
  go_wp2_with fail
  refine HE.out.mono ?_
  rintro e w1 ⟨rfl, hlo⟩
  rw [show (w.alloc (.cells #[.int .i64 0, .slice none 0 0] 24)).heap.size = w.heap.size + 1 by simp]
  have hwd := hlo.words HR0.out
  rw [show (w.alloc (.cells #[.int .i64 0, .slice none 0 0] 24)).heap.size = w.heap.size + 1 by simp] at hwd
  have hs1 := hlo.size
  have hb1 := hlo.besides
  have hr1 := (hlo.other (g := w.heap.size) (by simp) (by omega)).trans (heap_alloc_new w _)
  have HRD := Lib.hid (hlo.rdr HR0.out)
  simp at hs1
  have hr := Lib.hid hr1
  have cw1 : w1.cell? ⟨w.heap.size + 1, 1, none⟩ = some (.string (decS vars)) := by rw [Lib.cell_of_heap hwd]; rfl
  have HB1 := Lib.hid ((Besides.of_below (b := b) (below_alloc (below_refl w) (.cells #[.int .i64 0, .slice none 0 0] 24))).trans hb1)
  have HW := Lib.hid hwd
  clear hwd hlo hb1 hr1
  go_wp2_with fail
  refine (HV.out _).mono ?_
  rintro e w2 ⟨_, rfl, rfl, hb2⟩
  have hwd2 := (hb2.block _ (lt_of_heap HW.out)).trans HW.out
  have hr2 := (hb2.block _ (lt_of_heap hr.out)).trans hr.out
  have hs2 := Nat.lt_of_lt_of_le hs1 hb2.size
  have HRD2 := Lib.hid (HRD.out.below hb2)
  have HR2 := Lib.hid hr2
  have HB2 := Lib.hid (HB1.out.next hb2)
  have HW2 := Lib.hid hwd2
  have cw2 : w2.cell? ⟨w.heap.size + 1, 2, none⟩ = some (.string (decS ts.length)) := by rw [Lib.cell_of_heap hwd2]; rfl
  clear hb2 cw1 hwd2 hr2 hs1 HW
  go_wp2_with fail
  refine (HN.out _ _).mono ?_
  rintro e w3 ⟨_, rfl, rfl, hb3⟩
  have hr3 := (hb3.block w.heap.size (by simp; omega)).trans ((heap_alloc_old _ _ (by omega)).trans HR2.out)
  have hp3 := (hb3.block w2.heap.size (by simp)).trans (heap_alloc_new w2 _)
  have hrd3 := (HRD2.out.below (below_alloc (below_refl w2) (.cells #[.int .i64 vars, .slice none 0 0] 24))).below hb3
  have HB3 := Lib.hid ((HB2.out.alloc (.cells #[.int .i64 vars, .slice none 0 0] 24)).next hb3)
  have HIN := Lib.hid (show RpIn w b lb ls (k0 + 1 + 0) vars ts w2.heap.size 0 (.slice none 0 0) [] w3 from ⟨HB3.out, hr3, hp3, ⟨[], World.ownsRow_nil _ _ _ _, fun i hi => by simp at hi⟩, hrd3, by simp, by have := hb3.size; simp at this; omega⟩)
  obtain ⟨PB, hPB⟩ : ∃ PB, w2.heap.size = PB := ⟨_, rfl⟩
  rw [hPB] at HIN ⊢
  have hPB2 : w.heap.size + 1 < PB := by omega
  clear hb3 cw2 hr3 hp3 hrd3 hs2 HR2 HB2 HB1 HB3 HRD HRD2 HW2 hr HE HV HN HR0 hPB
  go_wp2_with fail
  go_loopw [21] (fun i W => RpRel w b lb ls k0 vars ts PB i W) (fun i _ => ts.length - (intOf i).toNat)
  case atStart => exact ⟨0, _, _, rfl, by omega, HIN.out⟩
  case round =>
    rename World => W0
    obtain ⟨k, tv, tk, rfl, hk, hin⟩ := hrel
    have HK := Lib.hid hin
    clear hin
    by_cases hlt : k < ts.length
    · have HLI := Lib.hid (HL.out k hlt W0 HK.out.rdr ((HK.out.bes.cell (g := 0) (o := 0) (by omega) (by omega)).trans HM.out))
      obtain ⟨xs, hxs⟩ : ∃ xs, (tm ts k).xs = xs := ⟨_, rfl⟩
      have hxl := HXL.out k hlt
      rw [hxs] at HLI hxl
      rcases Decidable.em (xs = []) with hx0 | hx0
      · subst hx0
        simp only [List.length_nil, Nat.zero_add] at HLI
        go_wp2_with fail
        refine HLI.out.mono ?_
        rintro e w4 ⟨rfl, hlo⟩
        have HKL := Lib.hid (HK.out.line hbw (by omega) hlo)
        have hwd := hlo.words HK.out.rdr
        have cw4 : w4.cell? ⟨W0.heap.size, 1, none⟩ = some (.string (tm ts k).c) := by rw [Lib.cell_of_heap hwd]; rfl
        have HWD := Lib.hid hwd
        have HT0 := Lib.hid (TmIn.start w4 (tm ts k).c)
        clear hlo hwd HLI
        go_wp2_with fail
        go_loop [36] (fun i => i = .int .i64 0) (fun _ => 0)
        case atStart => rfl
        case round =>
          subst hrel
          have HJ := HT0
          generalize (w4.alloc (.cells #[.string (tm ts k).c, .slice none 0 0] 28)) = W1 at HJ ⊢
          have hc1 : ([] : List Int).length ≤ 0 := Nat.le_refl _
          have hc2 : 0 ≤ 9223372036854775807 := Nat.zero_le _
          have hrd1 : Rd 0 W1 .i64 3 none [] := fun h => absurd h (by simp)
          have HKJ := Lib.hid (HKL.out.since HJ.out.below)
          have ca := HJ.out.box
          have c0 : W1.cell? ⟨w4.heap.size, 0, none⟩ = some (.string (tm ts k).c) := by rw [Lib.cell_of_heap ca]; rfl
          have c1' : W1.cell? ⟨w4.heap.size, 1, none⟩ = some (.slice none 0 0) := by rw [Lib.cell_of_heap ca]; rfl
          have p1 : W1.cell? ⟨PB, 1, none⟩ = some tv := by rw [Lib.cell_of_heap HKJ.out.poly]; rfl
          have hs9 := HKJ.out.size
          have hlk : tk.length = k := by have := congrArg List.length HKJ.out.bare; simp at this; omega
          have HTT := Lib.hid (show TermOk 0 W1 ⟨(tm ts k).c, none, 0, []⟩ from ⟨hrd1, hc1, hc2⟩)
          have HBT := Lib.hid (show bare ⟨(tm ts k).c, none, 0, []⟩ = bare (tm ts k) by simp [bare, hxs])
          clear hrd1 ca
          go_wp2_with (at_builtin; refine appendApi (W := W1) (w0 := W1) (w.heap.size + 1) rfl (.tmp 49) (.tmp 51) rfl tv tk ⟨(tm ts k).c, none, 0, []⟩ none 0 0 rfl rfl rfl rfl rfl HKJ.out.row HTT.out (Below.refl _ _) hs9 (by omega) ?_)
          intro v5 w5 hr5 hk5 hb5 hs5
          have z5 : ∀ i, w5.frozen? ⟨PB, i, none⟩ = false := fun i => Lib.frozen_of_heap (hk5 PB _ _ _ HKJ.out.poly (.inr (by simp))) i
          have q5 : w5.cell? ⟨PB, 1, none⟩ = some tv := by rw [Lib.cell_of_heap (hk5 PB _ _ _ HKJ.out.poly (.inr (by simp)))]; rfl
          obtain ⟨A5, n5, rfl⟩ := hr5.shape
          have HN5 := Lib.hid (HKJ.out.grow hbw (by omega) hk5 hb5 hs5 hr5 HBT.out hlt)
          have e5 : (tk ++ [(⟨(tm ts k).c, none, 0, []⟩ : TermV)]).length = k + 1 := by simp [hlk]
          rw [e5] at HN5
          clear hr5 hk5 hb5
          go_wp2
          go_roundw
          case rel => exact ⟨k + 1, _, _, by go_num, by omega, HN5.out⟩
          case measure => simp [intOf]; omega
      · have hx1 : xs.length ≠ 0 := by simpa using hx0
        have HXK := Lib.hid (HX.out k hlt)
        rw [hxs] at HXK
        go_wp2_with fail
        refine HLI.out.mono ?_
        rintro e w4 ⟨rfl, hlo⟩
        have HKL := Lib.hid (HK.out.line hbw (by omega) hlo)
        have hwd := hlo.words HK.out.rdr
        have cw4 : w4.cell? ⟨W0.heap.size, 1, none⟩ = some (.string (tm ts k).c) := by rw [Lib.cell_of_heap hwd]; rfl
        have HWD := Lib.hid hwd
        have HT0 := Lib.hid (TmIn.start w4 (tm ts k).c)
        clear hlo hwd HLI
        go_wp2_with fail
        go_loopw [36] (fun i W => ExRel w4 (tm ts k).c xs i W) (fun i _ => xs.length - (intOf i).toNat)
        case atStart => exact ⟨0, _, rfl, by omega, by rw [List.take_zero]; exact HT0.out⟩
        case round =>
          rename World => W1
          obtain ⟨j, v, rfl, hj, hin⟩ := hrel
          have HJ := Lib.hid hin
          clear hin
          by_cases hjl : j < xs.length
          · have hel : j < (tm ts k).xs.length := by rw [hxs]; exact hjl
            have HI := Lib.hid (fun W => HXK.out j hjl W)
            have cw : W1.cell? ⟨W0.heap.size, 2 + j, none⟩ = some (.string (decS (el xs j).toNat)) := by
              rw [Lib.cell_of_heap ((HJ.out.below.block _ (lt_of_heap HWD.out)).trans HWD.out)]
              simp [termW, hxs, Nat.add_comm 2 j, hjl, el_at]
            obtain ⟨A1, c1, rfl, hc1, hc2, _⟩ := OwnI.rd 0 HJ.out.own
            have hlj : (xs.take j).length = j := by simp; omega
            have c6 : W1.cell? ⟨w4.heap.size, 1, none⟩ = some (.slice A1 (xs.take j).length c1) := by rw [Lib.cell_of_heap HJ.out.box]; rfl
            rw [hlj] at c6
            have HJD := Lib.hid (HJ.out.since (below_drew (below_refl W1)))
            rw [hlj] at HJD
            go_wp2_with fail
            go_region_law (first | (refine stepAppendI (W := w6) (w0 := w6) rfl (w4.heap.size + 1) rfl (.tmp 41) (.tmp 44) rfl (.slice A1 j c1) (xs.take j) (el xs j) (by simp [Act.eval, Act.put]) (by simp [Act.eval, Act.put]) HJ6.out.own (Below.refl _ _) HJ6.out.size (by omega) ?_; intro v9 w7 ho7 hb7 hs7; have z7 : ∀ i, w7.frozen? ⟨w4.heap.size, i, none⟩ = false := (fun i => Lib.frozen_of_heap ((hb7.block _ (Nat.lt_succ_self _)).trans HJ6.out.box) i); have c7 : w7.cell? ⟨w4.heap.size, 1, none⟩ = some (.slice A1 j c1) := (by rw [Lib.cell_of_heap ((hb7.block _ (Nat.lt_succ_self _)).trans HJ6.out.box)]; rfl); have HN7 := Lib.hid (HJ6.out.step hb7 hs7 ho7); obtain ⟨A7, c8, rfl, _, _, _⟩ := OwnI.rd 0 ho7; rw [show (xs.take j ++ [el xs j]).length = j + 1 by simp [hlj]] at HN7; clear ho7 hb7) | (go_simp; go_at_call 40; refine (HI.out _).mono ?_; rintro e w6 ⟨_, rfl, rfl, hb6⟩; have HJ6 := Lib.hid (HJD.out.since hb6); have c9 : w6.cell? ⟨w4.heap.size, 1, none⟩ = some (.slice A1 j c1) := (by rw [Lib.cell_of_heap HJ6.out.box]; rfl); have c10 : (w6.alloc (.cells #[.int .i64 (el xs j)] 3)).cell? ⟨w4.heap.size, 1, none⟩ = some (.slice A1 j c1) := (by rw [Lib.cell_of_heap (HJ6.out.since (below_alloc (below_refl w6) _)).box]; rfl); clear hb6))
            all_goals
              go_wp2
              go_roundw
              case rel => exact ⟨j + 1, _, by go_num, by omega, by rw [List.take_succ_eq_append_getElem hjl, el_at _ _ hjl]; exact HN7.out⟩
              case measure => simp [intOf]; omega
          · obtain rfl : j = xs.length := by omega
            rw [List.take_length] at HJ
            obtain ⟨A1, c1, rfl, hc1, hc2, hrd1⟩ := OwnI.rd 0 HJ.out.own
            have HKJ := Lib.hid (HKL.out.since HJ.out.below)
            have ca := HJ.out.box
            have c0 : W1.cell? ⟨w4.heap.size, 0, none⟩ = some (.string (tm ts k).c) := by rw [Lib.cell_of_heap ca]; rfl
            have c1' : W1.cell? ⟨w4.heap.size, 1, none⟩ = some (.slice A1 xs.length c1) := by rw [Lib.cell_of_heap ca]; rfl
            have p1 : W1.cell? ⟨PB, 1, none⟩ = some tv := by rw [Lib.cell_of_heap HKJ.out.poly]; rfl
            have hs9 := HKJ.out.size
            have hlk : tk.length = k := by have := congrArg List.length HKJ.out.bare; simp at this; omega
            have HTT := Lib.hid (show TermOk 0 W1 ⟨(tm ts k).c, A1, c1, xs⟩ from ⟨hrd1, hc1, hc2⟩)
            have HBT := Lib.hid (show bare ⟨(tm ts k).c, A1, c1, xs⟩ = bare (tm ts k) by simp [bare, hxs])
            clear hrd1 ca
            go_wp2_with (at_builtin; refine appendApi (W := W1) (w0 := W1) (w.heap.size + 1) rfl (.tmp 49) (.tmp 51) rfl tv tk ⟨(tm ts k).c, A1, c1, xs⟩ A1 xs.length c1 rfl rfl rfl rfl rfl HKJ.out.row HTT.out (Below.refl _ _) hs9 (by omega) ?_)
            intro v5 w5 hr5 hk5 hb5 hs5
            have z5 : ∀ i, w5.frozen? ⟨PB, i, none⟩ = false := fun i => Lib.frozen_of_heap (hk5 PB _ _ _ HKJ.out.poly (.inr (by simp))) i
            have q5 : w5.cell? ⟨PB, 1, none⟩ = some tv := by rw [Lib.cell_of_heap (hk5 PB _ _ _ HKJ.out.poly (.inr (by simp)))]; rfl
            obtain ⟨A5, n5, rfl⟩ := hr5.shape
            have HN5 := Lib.hid (HKJ.out.grow hbw (by omega) hk5 hb5 hs5 hr5 HBT.out hlt)
            have e5 : (tk ++ [(⟨(tm ts k).c, A1, c1, xs⟩ : TermV)]).length = k + 1 := by simp [hlk]
            rw [e5] at HN5
            clear hr5 hk5 hb5
            go_wp2
            go_roundw
            case rel => exact ⟨k + 1, _, _, by go_num, by omega, HN5.out⟩
            case measure => simp [intOf]; omega
    · obtain rfl : k = ts.length := by omega
      obtain ⟨A5, c5, rfl, hc5, hrt⟩ := HK.out.row.rdT
      have hlk : tk.length = ts.length := by have := congrArg List.length HK.out.bare; simpa using this
      rw [hlk] at hc5
      have HRT := Lib.hid hrt
      have o0 : W0.cell? ⟨w.heap.size, 0, none⟩ = some (.int .i64 0) := by rw [Lib.cell_of_heap HK.out.res]; rfl
      have o1 : W0.cell? ⟨w.heap.size, 1, none⟩ = some (.slice none 0 0) := by rw [Lib.cell_of_heap HK.out.res]; rfl
      have oz := fun i => Lib.frozen_of_heap HK.out.res i
      have p0 : W0.cell? ⟨PB, 0, none⟩ = some (.int .i64 vars) := by rw [Lib.cell_of_heap HK.out.poly]; rfl
      have p1 : W0.cell? ⟨PB, 1, none⟩ = some (.slice A5 tk.length c5) := by rw [Lib.cell_of_heap HK.out.poly]; rfl
      rw [hlk] at p1
      clear hrt
      go_wp2_with fail
      refine bodyPost_ret (v := .agg #[.int .i64 vars, .slice A5 ts.length c5]) (by simp [results, Tryz.results20, go_sem, o0, o1]) rfl ⟨A5, c5, tk, rfl, by rw [HK.out.bare, List.take_length], hc5, ?_, ?_, ?_⟩
      · exact HRT.out.keeps ((Keeps.setCell HK.out.res (Nat.zero_le _) (by decide) _).trans (Keeps.setCell (heap_setCell HK.out.res _) (Nat.zero_le _) (by decide) _))
      · have hl := HK.out.rdr.lines
        have hne : lb ≠ w.heap.size := by
          intro e
          subst e
          rw [HK.out.res] at hl
          simp at hl
        exact ⟨heap_far (heap_far HK.out.rdr.rdr (by omega) _) (by omega) _, heap_far (heap_far hl (fun e => hne e.symm) _) (fun e => hne e.symm) _⟩
      · exact (HK.out.bes.set (p := ⟨w.heap.size, 0, none⟩) (.inl (Nat.le_refl _)) _).set (p := ⟨w.heap.size, 1, none⟩) (.inl (Nat.le_refl _)) _
end Go.Proofs.YtoflmheodiajaaaGreatDoor
namespace Go.Proofs.YtoflmheodiajaaaGreatDoor
set_option linter.unusedVariables false
set_option linter.unusedSimpArgs false
def cmpI (a b : Int) : Int := if a < b then -1 else if b < a then 1 else 0
theorem vt_lt_of_top {xs ys : List Int} (wx : InW xs) (k : Nat) (h : el xs k < el ys k) (hy : InW ys) : vt xs (k + 1) < vt ys (k + 1) := by
  have h1 := (vt_nonneg wx k).2
  have h2 := (vt_nonneg hy k).1
  have hp := pw_pos k
  simp only [vt]
  have : (el xs k + 1) * pw k ≤ el ys k * pw k := Int.mul_le_mul_of_nonneg_right (by omega) (by omega)
  rw [Int.add_mul] at this
  omega
theorem vt_up {xs ys : List Int} {k : Nat} : ∀ {n : Nat}, k ≤ n → (∀ j, k ≤ j → j < n → el xs j = el ys j) → vt xs n - vt ys n = vt xs k - vt ys k
  | n, hk, h => by
    induction n with
    | zero => have : k = 0 := by omega
              subst this; rfl
    | succ n ih =>
      rcases Nat.eq_or_lt_of_le hk with e | hlt
      · subst e; rfl
      · have := ih (by omega) (fun j hj hn => h j hj (by omega))
        simp only [vt]
        rw [h n (by omega) (by omega)]
        omega
theorem cmp_len {xs ys : List Int} (wx : InW xs) (wy : InW ys) (ty : Trim ys) (h : xs.length < ys.length) : val xs < val ys := by
  have h1 := (vt_nonneg wx xs.length).2
  have h2 := ty.ge wy (by omega)
  have : pw xs.length ≤ pw (ys.length - 1) := by
    obtain ⟨d, hd⟩ : ∃ d, ys.length - 1 = xs.length + d := ⟨ys.length - 1 - xs.length, by omega⟩
    rw [hd, pw_add]
    have := pw_pos d
    have := pw_pos xs.length
    have h3 : pw xs.length * 1 ≤ pw xs.length * pw d := Int.mul_le_mul_of_nonneg_left (by omega) (by omega)
    omega
  unfold val at *
  omega
theorem cmp_at {xs ys : List Int} (wx : InW xs) (wy : InW ys) (hl : xs.length = ys.length) {k : Nat} (hk : k < xs.length) (heq : ∀ j, k < j → j < xs.length → el xs j = el ys j) (h : el xs k < el ys k) : val xs < val ys := by
  have h1 := vt_lt_of_top wx k h wy
  have h2 := vt_up (xs := xs) (ys := ys) (k := k + 1) (n := xs.length) (by omega) (fun j hj hn => heq j (by omega) hn)
  unfold val
  rw [← hl]
  omega
theorem vcmp_eq {xs ys : List Int} (hl : xs.length = ys.length) (heq : ∀ j, j < xs.length → el xs j = el ys j) : val xs = val ys := by
  unfold val
  rw [← hl]
  exact vt_congr heq
theorem cmpI_lt {a b : Int} (h : a < b) : cmpI a b = -1 := by unfold cmpI; rw [if_pos h]
theorem cmpI_gt {a b : Int} (h : b < a) : cmpI a b = 1 := by unfold cmpI; rw [if_neg (by omega), if_pos h]
theorem cmpI_eq {a b : Int} (h : a = b) : cmpI a b = 0 := by unfold cmpI; rw [if_neg (by omega), if_neg (by omega)]
end Go.Proofs.YtoflmheodiajaaaGreatDoor
