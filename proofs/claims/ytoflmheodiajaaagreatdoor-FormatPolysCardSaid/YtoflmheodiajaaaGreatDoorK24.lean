import Derived.Test.YtoflmheodiajaaaGreatDoorK23
import Derived.Lib.AtoiAll
namespace Go.Proofs.YtoflmheodiajaaaGreatDoor
open Go.RowKit
set_option linter.unusedVariables false
set_option linter.unusedSimpArgs false
theorem bare_len {ts tk : List TermV} (h : tk.map bare = ts.map bare) : tk.length = ts.length := by simpa using congrArg List.length h
theorem bare_tm {ts tk : List TermV} (h : tk.map bare = ts.map bare) (i : Nat) : (tm tk i).c = (tm ts i).c ∧ (tm tk i).xs = (tm ts i).xs := by
  have := congrArg (fun l => tm l i) h
  simp only [tm_bare, bare, TermV.mk.injEq, true_and] at this
  exact ⟨this.1, this.2⟩
theorem polyOk_bare {okC zC : ByteArray → Bool} {V : Int} {ts tk : List TermV} (h : tk.map bare = ts.map bare) : polyOk okC zC V tk = polyOk okC zC V ts := by
  have e1 := bare_len h
  have e2 := fun i => (bare_tm h i).1
  have e3 := fun i => (bare_tm h i).2
  have e4 : tOk okC zC V tk = tOk okC zC V ts := funext fun i => by
    have e5 : ∀ i, exF (tm tk i) = exF (tm ts i) := fun i => funext fun j => by unfold exF; rw [e3]
    simp only [tOk, e2, e3, e5]
  have e6 : wfFrom okC zC V tk 0 = wfFrom okC zC V ts 0 := by
    unfold wfFrom
    rw [decide_eq_decide, e1, e4]
  have e7 : degOf tk = degOf ts := by
    unfold degOf
    rw [e1, e3]
  unfold polyOk wfOk fitsOf
  rw [e6, e7, e1]
theorem polyL_bare {V : Nat} {ts tk : List TermV} (h : tk.map bare = ts.map bare) : polyL V tk = polyL V ts := by
  have e1 := bare_len h
  have e2 : ∀ i, termW (tm tk i) = termW (tm ts i) := fun i => by simp only [termW, (bare_tm h i).1, (bare_tm h i).2]
  have e3 : ∀ k, termsTo tk k = termsTo ts k := fun k => by
    induction k with
    | zero => rfl
    | succ k ih => simp only [termsTo, ih, e2]
  simp only [polyL, e1, e3]
def linesW (V : Nat) (ts : List TermV) : List (List ByteArray) := [polyS, decS V, decS ts.length] :: ts.map termW
def lineW (ws : List ByteArray) : List UInt8 := Lib.join (ws.map (·.data.toList)) [32]
theorem lineOf_eq (ws : List ByteArray) : lineOf ws = lineW ws ++ [10] := rfl
theorem termsTo_flat (ts : List TermV) : ∀ k, k ≤ ts.length → termsTo ts k = (((ts.take k).map termW).map (fun ws => lineW ws ++ [10])).flatten
  | 0, _ => rfl
  | k + 1, h => by
    rw [termsTo, termsTo_flat ts k (by omega), List.take_succ_eq_append_getElem (by omega), tm_at]
    simp [lineOf_eq]
theorem join_flat : ∀ (xs : List (List UInt8)), xs ≠ [] → Lib.join xs [10] ++ [10] = (xs.map (· ++ [10])).flatten
  | [], h => absurd rfl h
  | [x], _ => by simp [Lib.join_one]
  | x :: y :: r, _ => by
    have ih := join_flat (y :: r) (by simp)
    rw [Lib.join_cons, show Lib.joinTail [10] (y :: r) = 10 :: (y ++ Lib.joinTail [10] r) by simp [Lib.joinTail], ← Lib.join_cons]
    rw [List.map_cons, List.flatten_cons, ← ih]
    simp
def textL (V : Nat) (ts : List TermV) : List UInt8 := Lib.join ((linesW V ts).map lineW) [10]
theorem polyL_eq (V : Nat) (ts : List TermV) : polyL V ts = textL V ts ++ [10] := by
  rw [textL, join_flat _ (by simp [linesW]), polyL, termsTo_flat ts _ (Nat.le_refl _), List.take_length]
  simp [linesW, headL, lineOf_eq, Function.comp_def]
theorem words_line {ws : List ByteArray} (h : ws ≠ []) (hw : ∀ x ∈ ws, (32 : UInt8) ∉ x.data.toList) : Words (ofL (lineW ws)) ws := by
  obtain ⟨h1, h2⟩ := splitB_eq 32 (ofL (lineW ws))
  have e : splitL 32 (ofL (lineW ws)).data.toList = ws.map (·.data.toList) := by
    rw [ofL_data, lineW]
    exact splitL_join (by simpa using h) (fun x hx => by
      obtain ⟨y, hy, rfl⟩ := List.mem_map.1 hx
      exact hw y hy)
  rw [e] at h1 h2
  refine ⟨h1.trans ?_, by rw [List.length_map] at h2; exact h2⟩
  rw [List.map_map]
  have : (ofL ∘ fun x : ByteArray => x.data.toList) = id := funext fun x => ofL_eq x
  rw [this, List.map_id]
theorem mem_join {c : UInt8} {sep : List UInt8} : ∀ {xs : List (List UInt8)}, c ∈ Lib.join xs sep → c ∈ sep ∨ ∃ x ∈ xs, c ∈ x
  | [], h => by simp [Lib.join_nil] at h
  | x :: r, h => by
    rw [Lib.join_cons, List.mem_append] at h
    rcases h with h | h
    · exact .inr ⟨x, by simp, h⟩
    · simp only [Lib.joinTail, List.mem_flatten, List.mem_map] at h
      obtain ⟨l, ⟨y, hy, rfl⟩, hc⟩ := h
      rw [List.mem_append] at hc
      exact hc.elim .inl (fun hc => .inr ⟨y, by simp [hy], hc⟩)
theorem text_lines {V : Nat} {ts : List TermV} (h : ∀ ws ∈ linesW V ts, ∀ x ∈ ws, (10 : UInt8) ∉ x.data.toList) :
    Lib.splitB ⟨#[10]⟩ 0 (Lib.countB (ofL (textL V ts)) ⟨#[10]⟩) (ofL (textL V ts)) = (linesW V ts).map (fun ws => ofL (lineW ws)) ∧ Lib.countB (ofL (textL V ts)) ⟨#[10]⟩ + 1 = ((linesW V ts).map (fun ws => ofL (lineW ws))).length := by
  obtain ⟨h1, h2⟩ := splitB_eq 10 (ofL (textL V ts))
  have e : splitL 10 (ofL (textL V ts)).data.toList = (linesW V ts).map lineW := by
    rw [ofL_data, textL]
    exact splitL_join (by simp [linesW]) (fun x hx => by
      obtain ⟨ws, hws, rfl⟩ := List.mem_map.1 hx
      intro hc
      rcases mem_join hc with hc | ⟨y, hy, hc⟩
      · simp at hc
      · obtain ⟨z, hz, rfl⟩ := List.mem_map.1 hy
        exact h ws hws z hz hc)
  rw [e] at h1 h2
  exact ⟨by rw [h1, List.map_map]; rfl, by rw [h2]; simp⟩
theorem join_le : ∀ {xs : List (List UInt8)} {x : List UInt8} {sep : List UInt8}, x ∈ xs → x.length ≤ (Lib.join xs sep).length
  | [], x, _, h => by simp at h
  | y :: r, x, sep, h => by
    rw [Lib.join_cons, List.length_append]
    rcases List.mem_cons.1 h with rfl | h
    · omega
    · have : x.length ≤ (Lib.joinTail sep r).length := by
        unfold Lib.joinTail
        have := (List.sublist_flatten_of_mem (L := List.map (fun x => sep ++ x) r) (List.mem_map.2 ⟨x, h, rfl⟩)).length_le
        simp only [List.length_append] at this
        omega
      omega
theorem cut_text (l : List UInt8) : Lib.trimSuffix (l ++ [10]) [10] = l ∧ Lib.hasSuffix (l ++ [10]) [10] = true := by
  have h : Lib.hasSuffix (l ++ [10]) [10] = true := by simp [Lib.hasSuffix]
  exact ⟨by rw [Lib.trimSuffix, h]; simp, h⟩
theorem okF_chars {s : ByteArray} (h : okF s = true) : ∀ c ∈ s.data.toList, 45 ≤ c.toNat := by
  intro c hc
  rw [(text_of_ok h).1, textF, List.mem_append] at hc
  rcases hc with hc | hc
  · split at hc
    · simp at hc; subst hc; decide
    · simp at hc
  · rw [List.mem_append] at hc
    rcases hc with hc | hc
    · have := dec_dig _ c hc; omega
    · split at hc
      · simp at hc
      · rcases List.mem_cons.1 hc with rfl | hc
        · decide
        · have := dec_dig _ c hc; omega
theorem decS_chars (n : Nat) : ∀ c ∈ (decS n).data.toList, 45 ≤ c.toNat := fun c hc => by
  have : (decS n).data.toList = Lib.decDigits n := by simp [decS]
  rw [this] at hc
  have := dec_dig _ c hc
  omega
theorem reads_all : ((List.range 100).all fun i => decide (Lib.atoiAll (decS i).data.toList = .ok i ∧ (decS i).size ≤ 9223372036854775806)) = true := by kernel_rfl
theorem reads_small {i : Nat} (h : i < 100) : Reads (decS i) i := by
  have := (List.all_eq_true.1 reads_all) i (List.mem_range.2 h)
  have h2 := of_decide_eq_true this
  exact ⟨h2.1, h2.2⟩
theorem words_high {V : Nat} {ts : List TermV} (h : ∀ i, i < ts.length → okF (tm ts i).c = true) : ∀ ws ∈ linesW V ts, ∀ x ∈ ws, ∀ c ∈ x.data.toList, 45 ≤ c.toNat := by
  intro ws hws x hx c hc
  rcases List.mem_cons.1 hws with rfl | hws
  · simp only [List.mem_cons, List.not_mem_nil, or_false] at hx
    rcases hx with rfl | rfl | rfl
    · simp [polyS] at hc
      rcases hc with rfl | rfl | rfl | rfl <;> decide
    · exact decS_chars _ c hc
    · exact decS_chars _ c hc
  · obtain ⟨t, ht, rfl⟩ := List.mem_map.1 hws
    obtain ⟨i, hi, rfl⟩ := List.mem_iff_getElem.1 ht
    rw [tm_at] at hx
    simp only [termW, List.mem_cons, List.mem_map] at hx
    rcases hx with rfl | rfl | ⟨y, _, rfl⟩
    · simp [termS] at hc
      rcases hc with rfl | rfl | rfl | rfl <;> decide
    · exact okF_chars (h i hi) c hc
    · exact decS_chars _ c hc
end Go.Proofs.YtoflmheodiajaaaGreatDoor
namespace Go.Proofs.YtoflmheodiajaaaGreatDoor
open Go.RowKit
set_option linter.unusedVariables false
set_option linter.unusedSimpArgs false
theorem heap_four (w : World) (a b c d : Obj) : ((((w.alloc a).alloc b).alloc c).alloc d).heap[w.heap.size]? = some a ∧ ((((w.alloc a).alloc b).alloc c).alloc d).heap[w.heap.size + 1]? = some b ∧
    ((((w.alloc a).alloc b).alloc c).alloc d).heap[w.heap.size + 1 + 1]? = some c ∧ ((((w.alloc a).alloc b).alloc c).alloc d).heap[w.heap.size + 1 + 1 + 1]? = some d := by
  obtain ⟨h1, h2, h3⟩ := heap_three w a b c
  have hs : (((w.alloc a).alloc b).alloc c).heap.size = w.heap.size + 1 + 1 + 1 := by simp
  refine ⟨(heap_alloc_old _ _ (by omega)).trans h1, (heap_alloc_old _ _ (by omega)).trans h2, (heap_alloc_old _ _ (by omega)).trans h3, ?_⟩
  have := heap_alloc_new (((w.alloc a).alloc b).alloc c) d
  rwa [hs] at this
def nlS : ByteArray := ⟨#[10]⟩
end Go.Proofs.YtoflmheodiajaaaGreatDoor
namespace Go.Proofs.YtoflmheodiajaaaGreatDoor
open Go.RowKit
set_option linter.unusedVariables false
set_option linter.unusedSimpArgs false
structure LinesOf (ls : List ByteArray) (vars : Nat) (ts : List TermV) : Prop where
  hk : 0 + 1 + ts.length ≤ ls.length
  hl : ls.length ≤ 1099511627776
  hs : ∀ k, (ls.getD k ⟨#[]⟩).size < 4294967281
  hw : Words (ls.getD 0 ⟨#[]⟩) [polyS, decS vars, decS ts.length]
  hwt : ∀ i, i < ts.length → Words (ls.getD (0 + 1 + i) ⟨#[]⟩) (termW (tm ts i))
  hv : Reads (decS vars) vars
  hn : Reads (decS ts.length) ts.length
  hn1 : ts.length ≤ 1000000
  hex : ∀ i, i < ts.length → ∀ j, j < (tm ts i).xs.length → Reads (decS (el (tm ts i).xs j).toNat) (el (tm ts i).xs j)
  hxl : ∀ i, i < ts.length → (tm ts i).xs.length ≤ 1000
theorem closureRead_any (b lb : Nat) (ls : List ByteArray) (vars : Nat) (ts : List TermV) (m : Int) (w : World) (h : RdrAt w b lb ls 0) (hm : w.cell? ⟨0, 0, none⟩ = some (.int .i64 m)) (h0 : 0 < b) (H : LinesOf ls vars ts) :
    Calls Tryz.prog 19 #[.pointer (some ⟨b, 0, none⟩)] w fun e w' => ∃ A c tk, e = .returned (.agg #[.int .i64 vars, .slice A ts.length c]) ∧ tk.map bare = ts.map bare ∧ ts.length ≤ c ∧ RdT 0 w' A tk ∧ Besides b w w' := by
  have hbw : b < w.heap.size := lt_of_heap h.rdr
  have hR0 := h.below (below_alloc (below_refl w) (.cells #[.int .i64 0, .slice none 0 0] 24))
  have HP := Lib.hid (readerPoly_any b lb ls vars ts 0 m (w.alloc (.cells #[.int .i64 0, .slice none 0 0] 24)) hR0 (max_below (below_alloc (below_refl w) _) (by omega) hm) h0 H.hk H.hl H.hs H.hw H.hwt H.hv H.hn H.hn1 H.hex H.hxl)
  clear h hm H hR0
  go_enter Tryz.func19, Tryz.ntmps19
  go_wp2_with fail
  refine HP.out.mono ?_
  rintro e w1 ⟨A, c, tk, rfl, htk, hc, hrt, _, hb⟩
  have hx := (hb.block w.heap.size (by simp) (by omega)).trans (heap_alloc_new w _)
  have r0 : w1.cell? ⟨w.heap.size, 0, none⟩ = some (.int .i64 0) := by rw [Lib.cell_of_heap hx]; rfl
  have r1 : w1.cell? ⟨w.heap.size, 1, none⟩ = some (.slice none 0 0) := by rw [Lib.cell_of_heap hx]; rfl
  have rz := fun i => Lib.frozen_of_heap hx i
  have HB := Lib.hid ((Besides.of_below (b := b) (below_alloc (below_refl w) (.cells #[.int .i64 0, .slice none 0 0] 24))).trans hb)
  have HRT := Lib.hid hrt
  have HX := Lib.hid hx
  have HT := Lib.hid htk
  clear hb hx hrt htk
  go_wp2
  refine bodyPost_ret (v := .agg #[.int .i64 vars, .slice A ts.length c]) (by simp [results, Tryz.results19, go_sem, r0, r1]) rfl ⟨A, c, tk, rfl, HT.out, hc, ?_, ?_⟩
  · exact HRT.out.keeps ((Keeps.setCell HX.out (Nat.zero_le _) (by decide) _).trans (Keeps.setCell (heap_setCell HX.out _) (Nat.zero_le _) (by decide) _))
  · exact (HB.out.set (p := ⟨w.heap.size, 0, none⟩) (.inl (Nat.le_refl _)) _).set (p := ⟨w.heap.size, 1, none⟩) (.inl (Nat.le_refl _)) _
structure PolyFit (vars : Nat) (ts : List TermV) : Prop where
  hl : ts.length < 100
  hd : ∀ i, i < ts.length → domF (tm ts i).c
  hv : vars ≤ 6
  hok : polyOk okF zF vars ts = true
  hex : ∀ i, i < ts.length → ∀ j, j < (tm ts i).xs.length → 0 ≤ el (tm ts i).xs j ∧ el (tm ts i).xs j < 100
  hxs : ∀ i, i < ts.length → (tm ts i).xs.length ≤ 6
  hlen : (polyL vars ts).length ≤ 1048576
theorem PolyFit.bare {vars : Nat} {ts tk : List TermV} (H : PolyFit vars ts) (h : tk.map bare = ts.map bare) : PolyFit vars tk :=
  ⟨by rw [bare_len h]; exact H.hl, fun i hi => by rw [(bare_tm h i).1]; exact H.hd i (by rwa [← bare_len h]), H.hv, by rw [polyOk_bare h]; exact H.hok, fun i hi => by rw [(bare_tm h i).2]; exact H.hex i (by rwa [← bare_len h]),
   fun i hi => by rw [(bare_tm h i).2]; exact H.hxs i (by rwa [← bare_len h]), by rw [polyL_bare h]; exact H.hlen⟩
theorem PolyFit.okC {vars : Nat} {ts : List TermV} (H : PolyFit vars ts) (i : Nat) (hi : i < ts.length) : okF (tm ts i).c = true := by
  have h := H.hok
  simp only [polyOk, wfOk, Bool.and_eq_true] at h
  have h2 := of_decide_eq_true h.2.1.2 i hi (Nat.zero_le _)
  simp only [tOk, Bool.and_eq_true] at h2
  exact h2.1
theorem PolyFit.lines {vars : Nat} {ts : List TermV} (H : PolyFit vars ts) : LinesOf ((linesW vars ts).map fun ws => ofL (lineW ws)) vars ts := by
  have hhi := words_high (V := vars) H.okC
  have hlow : ∀ ws ∈ linesW vars ts, ∀ x ∈ ws, (32 : UInt8) ∉ x.data.toList := fun ws hws x hx hc => absurd (hhi ws hws x hx _ hc) (by decide)
  have hl1 : (linesW vars ts).length = 1 + ts.length := by simp [linesW, Nat.add_comm]
  have hget : ∀ k (h : k < (linesW vars ts).length), ((linesW vars ts).map fun ws => ofL (lineW ws)).getD k ⟨#[]⟩ = ofL (lineW (linesW vars ts)[k]) := fun k h => by simp [List.getD, h]
  have hterm : ∀ i (h : i < ts.length), (linesW vars ts)[0 + 1 + i]'(by omega) = termW (tm ts i) := fun i h => by simp [linesW, Nat.add_comm 1 i, tm_at]
  have hl9 := H.hl
  have hv9 := H.hv
  refine ⟨by simp [hl1], by simp [hl1]; omega, fun k => ?_, ?_, fun i hi => ?_, reads_small (by omega), reads_small H.hl, by omega, fun i hi j hj => ?_, fun i hi => Nat.le_trans (H.hxs i hi) (by omega)⟩
  · by_cases hk : k < (linesW vars ts).length
    · rw [hget k hk, ofL_size]
      have h1 : (lineW (linesW vars ts)[k]).length ≤ (textL vars ts).length := join_le (List.mem_map.2 ⟨_, List.getElem_mem hk, rfl⟩)
      have h2 := H.hlen
      rw [polyL_eq, List.length_append] at h2
      omega
    · have : ((linesW vars ts).map fun ws => ofL (lineW ws)).getD k ⟨#[]⟩ = ⟨#[]⟩ := by simp [List.getD, hk]
      rw [this]
      decide
  · rw [hget 0 (by omega)]
    exact words_line (by simp [linesW]) (hlow _ (List.getElem_mem _))
  · rw [hget (0 + 1 + i) (by omega)]
    have hm := hlow _ (List.getElem_mem (l := linesW vars ts) (n := 0 + 1 + i) (by omega))
    rw [hterm i hi] at hm ⊢
    exact words_line (by simp [termW]) hm
  · obtain ⟨h1, h2⟩ := H.hex i hi j hj
    have h3 := reads_small (i := (el (tm ts i).xs j).toNat) (by omega)
    rwa [Int.toNat_of_nonneg h1] at h3
set_option maxHeartbeats 1000000 in
theorem parsedPoly_any (s : ByteArray) (vars : Nat) (ts : List TermV) (m : Int) (w : World) (hm : w.cell? ⟨0, 0, none⟩ = some (.int .i64 m)) (h0 : 0 < w.heap.size) (H : PolyFit vars ts) (he : (⟨(polyL vars ts).toArray⟩ : ByteArray) = s) :
    Calls Tryz.prog 18 #[.string s, .func (Fn.func 19) #[] #[], .func (Fn.func 7) #[] #[]] w (Gives w fun v w' => ∃ A c tk, v = .tuple #[.agg #[.int .i64 vars, .slice A ts.length c], .int .i64 0] ∧ tk.map bare = ts.map bare ∧ ts.length ≤ c ∧ RdT 0 w' A tk) := by
  have hsz : s.size ≤ 1048576 := by
    have : s.size = (polyL vars ts).length := by rw [← he]; simp [ByteArray.size]
    have := H.hlen
    omega
  have hsl : s.data.toList = textL vars ts ++ [10] := by rw [← he, ← polyL_eq]
  have htz : (ofL (textL vars ts)).size ≤ 1048576 := by
    have h2 := H.hlen
    rw [polyL_eq, List.length_append] at h2
    rw [ofL_size]
    omega
  have hs2 : ¬ (1048576 : Int) < (s.size : Int) := by omega
  have hhi := words_high (V := vars) H.okC
  have hlow : ∀ ws ∈ linesW vars ts, ∀ x ∈ ws, (10 : UInt8) ∉ x.data.toList := fun ws hws x hx hc => absurd (hhi ws hws x hx _ hc) (by decide)
  have HC := Lib.hid (fun W => ((Tryz.strings_CutSuffix s ⟨#[10]⟩ W (by omega)).mono (R' := fun e w' => e = .returned (.tuple #[.string (ofL (textL vars ts)), .bool true]) ∧ w' = W) (by
    rintro e w' ⟨rfl, rfl⟩
    have e1 : Lib.trimSuffix s.data.toList (⟨#[10]⟩ : ByteArray).data.toList = textL vars ts := by rw [hsl]; exact (cut_text _).1
    have e2 : Lib.hasSuffix s.data.toList (⟨#[10]⟩ : ByteArray).data.toList = true := by rw [hsl]; exact (cut_text _).2
    rw [e1, e2]
    exact ⟨rfl, rfl⟩)))
  have HSP := Lib.hid (fun W hm => Tryz.strings_Split (ofL (textL vars ts)) nlS m W (by omega) hm (by decide))
  have HE := Lib.hid (show Lib.splitB nlS 0 (Lib.countB (ofL (textL vars ts)) nlS) (ofL (textL vars ts)) = (linesW vars ts).map (fun ws => ofL (lineW ws)) ∧ Lib.countB (ofL (textL vars ts)) nlS + 1 = ((linesW vars ts).map (fun ws => ofL (lineW ws))).length from text_lines hlow)
  obtain ⟨ls, hls⟩ : ∃ ls, ((linesW vars ts).map fun ws => ofL (lineW ws)) = ls := ⟨_, rfl⟩
  have HL := Lib.hid H.lines
  rw [hls] at HE HL
  have HCL := Lib.hid (fun b lb W (h : RdrAt W b lb ls 0) hm h0 => closureRead_any b lb ls vars ts m W h hm h0 HL.out)
  have hF : ∀ (tk : List TermV) (htk : tk.map bare = ts.map bare) A c W (hrt : RdT 0 W A tk) (hc : ts.length ≤ c), Calls Tryz.prog 7 #[.agg #[.int .i64 vars, .slice A ts.length c]] W (Gives W fun v _ => v = .tuple #[.string ⟨(polyL vars ts).toArray⟩, .int .i64 0]) := by
    intro tk htk A c W hrt hc
    have K := H.bare htk
    have h9 := formatPoly_ok okF zF domF (ofSpec_all (Bs := 0)) A c tk vars W (Nat.zero_le _) hrt (by rw [bare_len htk]; exact hc) K.hl K.hd K.hv K.hok K.hex K.hxs K.hlen
    rw [bare_len htk, polyL_bare htk] at h9
    exact h9
  have HF := Lib.hid hF
  have HEQ := Lib.hid he
  have HM := Lib.hid hm
  clear hF H he hm hsl hhi hlow hls HL hsz htz
  go_enter_defers Tryz.func18, Tryz.ntmps18
  go_wp2_with fail
  refine (HC.out _).mono ?_
  rintro e w' ⟨rfl, rfl⟩
  go_wp2_with fail
  refine (HSP.out _ (max_below (below_alloc (below_alloc (below_refl w) _) _) h0 HM.out)).mono ?_
  rintro e w1 ⟨rfl, rfl⟩
  rw [HE.out.2, HE.out.1]
  go_wp2_with fail
  obtain ⟨f0, f1, f2, f3⟩ := heap_four w (.cells #[.int .i64 0, .slice none 0 0] 24) (.cells #[.int .i64 0] 29) (.cells (ls.map Value.string).toArray 9) (.cells #[.slice (some ⟨w.heap.size + 1 + 1, 0, none⟩) ls.length ls.length, .int .i64 0] 121)
  have hb4 := below_alloc (below_alloc (below_alloc (below_alloc (below_refl w) (.cells #[.int .i64 0, .slice none 0 0] 24)) (.cells #[.int .i64 0] 29)) (.cells (ls.map Value.string).toArray 9)) (.cells #[.slice (some ⟨w.heap.size + 1 + 1, 0, none⟩) ls.length ls.length, .int .i64 0] 121)
  refine (HCL.out (w.heap.size + 1 + 1 + 1) (w.heap.size + 1 + 1) _ ⟨f3, f2⟩ (max_below hb4 h0 HM.out) (by omega)).mono ?_
  rintro e w3 ⟨A, c, tk, rfl, htk, hc, hrt, hb3⟩
  have g0 := (hb3.block w.heap.size (by simp <;> omega) (by omega)).trans f0
  have g1 := (hb3.block (w.heap.size + 1) (by simp <;> omega) (by omega)).trans f1
  have hz3 : w.heap.size + 1 + 1 + 1 < w3.heap.size := by have := hb3.size; simp at this; omega
  have HB3 := Lib.hid (hb4.trans (hb3.below (B := w.heap.size) (by omega) (by simp <;> omega)))
  have G0 := Lib.hid g0
  have G1 := Lib.hid g1
  have HT := Lib.hid htk
  have HRT := Lib.hid (hrt.below (below_alloc (below_refl w3) (.cells #[.int .i64 vars, .slice A ts.length c] 24)))
  have HFF := Lib.hid (HF.out tk htk A c _ HRT.out hc)
  clear f0 f1 f2 f3 hb4 hb3 g0 g1 hrt htk
  go_wp2_with fail
  refine HFF.out.mono ?_
  rintro e w5 ⟨_, rfl, rfl, hb5⟩
  rw [HEQ.out]
  have k0 := (hb5.block w.heap.size (by simp; omega)).trans ((heap_alloc_old _ _ (by omega)).trans G0.out)
  have k1 := (hb5.block (w.heap.size + 1) (by simp; omega)).trans ((heap_alloc_old _ _ (by omega)).trans G1.out)
  have kp := (hb5.block w3.heap.size (by simp)).trans (heap_alloc_new w3 _)
  have a0 : w5.cell? ⟨w.heap.size, 0, none⟩ = some (.int .i64 0) := by rw [Lib.cell_of_heap k0]; rfl
  have a1 : w5.cell? ⟨w.heap.size, 1, none⟩ = some (.slice none 0 0) := by rw [Lib.cell_of_heap k0]; rfl
  have az := fun i => Lib.frozen_of_heap k0 i
  have e0 : w5.cell? ⟨w.heap.size + 1, 0, none⟩ = some (.int .i64 0) := by rw [Lib.cell_of_heap k1]; rfl
  have ez := fun i => Lib.frozen_of_heap k1 i
  have p0 : w5.cell? ⟨w3.heap.size, 0, none⟩ = some (.int .i64 vars) := by rw [Lib.cell_of_heap kp]; rfl
  have p1 : w5.cell? ⟨w3.heap.size, 1, none⟩ = some (.slice A ts.length c) := by rw [Lib.cell_of_heap kp]; rfl
  have HB5 := Lib.hid (below_then (HB3.out.alloc HB3.out.size (.cells #[.int .i64 vars, .slice A ts.length c] 24)) (by simp; omega) hb5)
  have HR5 := Lib.hid (HRT.out.below hb5)
  have K0 := Lib.hid k0
  have K1 := Lib.hid k1
  clear k0 k1 kp hb5
  go_wp2_with fail
  refine leaves_cons (f := 27) (args := #[.pointer (some ⟨w.heap.size + 1, 0, none⟩)]) (by simp) (by simp [go_sem]) ?_
  refine (catch_idle ⟨w.heap.size + 1, 0, none⟩ _).mono ?_
  rintro e u' w'' ⟨rfl, rfl, rfl⟩
  simp [Leaves, settle, results, Tryz.results18, go_sem, a0, a1, e0]
  refine ⟨_, rfl, ⟨A, c, rfl, tk, HT.out, hc, ?_⟩, ((HB5.out.setCell (p := ⟨w.heap.size, 0, none⟩) (Nat.le_refl _) _).setCell (p := ⟨w.heap.size, 1, none⟩) (Nat.le_refl _) _).setCell (p := ⟨w.heap.size + 1, 0, none⟩) (Nat.le_succ _) _⟩
  exact HR5.out.keeps (((Keeps.setCell K0.out (Nat.zero_le _) (by decide) _).trans (Keeps.setCell (heap_setCell K0.out _) (Nat.zero_le _) (by decide) _)).trans (Keeps.setCell (heap_far (heap_far K1.out (by omega) _) (by omega) _) (Nat.zero_le _) (by decide) _))
theorem parsePoly_any (s : ByteArray) (vars : Nat) (ts : List TermV) (m : Int) (w : World) (hm : w.cell? ⟨0, 0, none⟩ = some (.int .i64 m)) (h0 : 0 < w.heap.size) (H : PolyFit vars ts) (he : (⟨(polyL vars ts).toArray⟩ : ByteArray) = s) :
    Calls Tryz.prog 9 #[.string s] w (Gives w fun v w' => ∃ A c tk, v = .tuple #[.agg #[.int .i64 vars, .slice A ts.length c], .int .i64 0] ∧ tk.map bare = ts.map bare ∧ ts.length ≤ c ∧ RdT 0 w' A tk) := by
  have hp := parsedPoly_any s vars ts m (w.alloc (.cells #[.int .i64 0, .slice none 0 0] 24)) (max_below (below_alloc (below_refl w) _) h0 hm) (by simp) H he
  have HP := Lib.hid hp
  clear hp hm H he
  go_enter Tryz.func9, Tryz.ntmps9
  go_wp2_with fail
  refine HP.out.mono ?_
  rintro e w' ⟨_, rfl, ⟨A, c, tk, rfl, htk, hc, hrt⟩, hb⟩
  have ho := (box_heap hb)
  have HO := Lib.hid ho
  have HR := Lib.hid hrt
  have HT := Lib.hid htk
  have HB := Lib.hid (below_then (below_alloc (below_refl w) _) (by simp) hb)
  have o0 : w'.cell? ⟨w.heap.size, 0, none⟩ = some (.int .i64 0) := by rw [Lib.cell_of_heap ho]; rfl
  have o1 : w'.cell? ⟨w.heap.size, 1, none⟩ = some (.slice none 0 0) := by rw [Lib.cell_of_heap ho]; rfl
  have oz := fun i => Lib.frozen_of_heap ho i
  clear ho hb hrt htk
  go_wp2
  refine bodyPost_ret (v := .tuple #[.agg #[.int .i64 vars, .slice A ts.length c], .int .i64 0]) (by simp [results, Tryz.results9, go_sem, o0, o1]) rfl ⟨_, rfl, ⟨A, c, tk, rfl, HT.out, hc, ?_⟩, ?_⟩
  · exact HR.out.keeps ((Keeps.setCell HO.out (Nat.zero_le _) (by decide) _).trans (Keeps.setCell (heap_setCell HO.out _) (Nat.zero_le _) (by decide) _))
  · exact (HB.out.setCell (p := ⟨w.heap.size, 0, none⟩) (Nat.le_refl _) _).setCell (p := ⟨w.heap.size, 1, none⟩) (Nat.le_refl _) _
end Go.Proofs.YtoflmheodiajaaaGreatDoor
