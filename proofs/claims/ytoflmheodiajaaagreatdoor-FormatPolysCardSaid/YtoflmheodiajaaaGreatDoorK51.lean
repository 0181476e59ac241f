import Derived.Test.YtoflmheodiajaaaGreatDoorK50
import Derived.ProofKit
import Derived.OpenShut
import Derived.Deep.SlicePairs
import Derived.Lib.SmallJoins
namespace Go.Proofs.YtoflmheodiajaaaGreatDoor
open Go.RowKit
set_option linter.unusedVariables false
set_option linter.unusedSimpArgs false
variable {Bs : Nat}
theorem IsR.bad {bad : Bool} {B b : Nat} {l : List UInt8} {w : World} (h : IsR bad B b l w) : w.cell? ⟨b, 2, none⟩ = some (.bool bad) := by
  obtain ⟨p, _, hBb, v, hbk, _⟩ := h
  rw [Lib.cell_of_heap hbk]; rfl
theorem isR_new (w : World) : IsR false w.heap.size w.heap.size [] (w.alloc (.cells #[.pointer none, .slice none 0 0, .bool false] 84)) :=
  ⟨.pointer none, .inl rfl, Nat.le_refl _, .slice none 0 0, heap_alloc_new w _, World.ownsRow_nil _ _ _ _, by simp [Value.ownBlock]⟩
theorem refEnd_bad (b : Nat) (w : World) (h : w.cell? ⟨b, 2, none⟩ = some (.bool true)) :
    Calls Tryz.prog 17 #[.pointer (some ⟨b, 0, none⟩)] w fun e w' => e = .returned (.tuple #[.string ⟨#[]⟩, .int .i64 1]) ∧ w' = w := by
  go_enter Tryz.func17, Tryz.ntmps17
  go_wp2
  go_ret2
  exact ⟨rfl, rfl⟩
theorem refEnd_ok (B b : Nat) (l : List UInt8) (w : World) (h : IsR false B b l w) (hl : l ≠ []) (hm : l.length ≤ 1048576) :
    Calls Tryz.prog 17 #[.pointer (some ⟨b, 0, none⟩)] w fun e w' => e = .returned (.tuple #[.string ⟨l.toArray⟩, .int .i64 0]) ∧ Below B w w' := by
  have hc := h.bad
  have hm2 : ¬ (1048576 < (l.length : Int)) := by omega
  have H1 := Lib.hid h
  clear h
  go_enter Tryz.func17, Tryz.ntmps17
  go_wp2_with fail
  refine (len_any (T := 84) (ext := [.bool false]) _ _ _ _ H1.out).mono ?_
  rintro e w' ⟨rfl, rfl⟩
  rw [Lib.byteCells_length]
  go_wp2_with fail
  refine (string_any (T := 84) (ext := [.bool false]) _ _ _ _ H1.out hl).mono ?_
  rintro e w2 ⟨rfl, hb2⟩
  have HB2 := Lib.hid hb2
  clear hb2
  go_wp2
  go_ret2
  exact ⟨rfl, HB2.out⟩
set_option maxHeartbeats 1000000 in
set_option maxRecDepth 100000 in
theorem writerPolyRef_bad (A : Option Addr) (ca : Nat) (ts : List TermV) (vars : Int) (b : Nat) (w : World) (hBs : Bs ≤ w.heap.size) (hA : RdT Bs w A ts) (hb : b < w.heap.size)
    (hsh : w.heap[b]? = some (.cells #[.pointer none, .slice none 0 0, .bool false] 84 (0, 0)))
    (hc : ts.length ≤ ca) (hl : ts.length < 100) (hd : ∀ i, i < ts.length → (tm ts i).c.size ≤ 1000000) (hok : polyOk okF zF vars ts = false) :
    Calls Tryz.prog 16 #[.pointer (some ⟨b, 0, none⟩), .agg #[.int .i64 vars, .slice A ts.length ca]] w fun e w' => e = .returned (.tuple #[]) ∧ w'.cell? ⟨b, 2, none⟩ = some (.bool true) ∧ Below b w w' := by
  have HO := Lib.hid (fun W h1 h2 => (refValid_any (Bs := Bs) A ca ts vars W h1 h2 hc (by omega) hd))
  have HA := Lib.hid hA
  have HH := Lib.hid hsh
  have HOK := Lib.hid hok
  clear hA hok hd hsh
  go_enter Tryz.func16, Tryz.ntmps16
  go_wp2_with fail
  refine (HO.out _ (by simp; omega) (HA.out.below (below_alloc (below_refl _) _))).mono ?_
  rintro e w1 ⟨_, rfl, rfl, hb1⟩
  rw [HOK.out]
  have hB1 : Below w.heap.size w w1 := below_then (below_alloc (below_refl w) _) (by simp) hb1
  have hx := (hB1.block b hb).trans HH.out
  have HXX := Lib.hid hx
  have x2 : w1.cell? ⟨b, 2, none⟩ = some (.bool false) := by rw [Lib.cell_of_heap hx]; rfl
  have xf := fun i => Lib.frozen_of_heap hx i
  have hlt : b < w1.heap.size := by have := hB1.size; omega
  have HB1 := Lib.hid hB1
  clear hb1 hB1 hx
  go_wp2
  refine bodyPost_ret (v := .tuple #[]) (by simp [results, Tryz.results16, go_sem]) rfl ⟨rfl, ?_, ?_⟩
  · rw [Lib.cell_of_heap (heap_setCell HXX.out _)]; rfl
  · exact (HB1.out.mono (Nat.le_of_lt hb)).setCell (p := ⟨b, 2, none⟩) (Nat.le_refl _) _
set_option maxHeartbeats 1000000 in
set_option maxRecDepth 100000 in
theorem polyText_ok (A : Option Addr) (ca : Nat) (ts : List TermV) (vars : Nat) (w : World) (hBs : Bs ≤ w.heap.size) (hA : RdT Bs w A ts)
    (hc : ts.length ≤ ca) (hl : ts.length < 100) (hd : ∀ i, i < ts.length → (tm ts i).c.size ≤ 1000000) (hv : vars ≤ 6) (hok : polyOk okF zF vars ts = true) (hex : ∀ i, i < ts.length → ∀ j, j < (tm ts i).xs.length → 0 ≤ el (tm ts i).xs j ∧ el (tm ts i).xs j < 100)
    (hxs : ∀ i, i < ts.length → (tm ts i).xs.length ≤ 6) (hlen : (polyL vars ts).length ≤ 1048576) :
    Calls Tryz.prog 8 #[.agg #[.int .i64 vars, .slice A ts.length ca]] w (Gives w fun v _ => v = .tuple #[.string ⟨(polyL vars ts).toArray⟩, .int .i64 0]) := by
  have hne : polyL vars ts ≠ [] := by simp [polyL, headL, lineOf]
  have hnew := isR_new (w.alloc (.cells #[.int .i64 vars, .slice A ts.length ca] 24))
  rw [show (w.alloc (.cells #[.int .i64 vars, .slice A ts.length ca] 24)).heap.size = w.heap.size + 1 by simp] at hnew
  have hwp := writerPolyRef_any A ca ts vars (w.heap.size + 1) (w.heap.size + 1) [] ((w.alloc (.cells #[.int .i64 vars, .slice A ts.length ca] 24)).alloc (.cells #[.pointer none, .slice none 0 0, .bool false] 84))
    (by omega) (by simp) (hA.below (below_alloc (below_alloc (below_refl w) _) _)) hc hl hd hv hok hex hxs (by simpa using Nat.le_trans hlen (by omega)) hnew
  rw [List.nil_append] at hwp
  have HW := Lib.hid hwp
  have hbx := (heap_alloc_old (w.alloc (.cells #[.int .i64 vars, .slice A ts.length ca] 24)) (.cells #[.pointer none, .slice none 0 0, .bool false] 84) (by simp)).trans (heap_alloc_new w (.cells #[.int .i64 vars, .slice A ts.length ca] 24))
  have HN := Lib.hid hne
  have HLEN := Lib.hid hlen
  clear hwp hnew hA hex hxs hlen hok hd hne
  go_enter Tryz.func8, Tryz.ntmps8
  go_wp2_with fail
  refine HW.out.mono ?_
  rintro e w1 ⟨rfl, h1, h2⟩
  have HE := Lib.hid (refEnd_ok _ _ _ _ h1 HN.out HLEN.out)
  have H2 := Lib.hid h2
  clear h1 h2 hbx
  go_wp2_with fail
  refine HE.out.mono ?_
  rintro e w2 ⟨rfl, hb2⟩
  have HB2 := Lib.hid hb2
  clear hb2
  go_wp2
  go_ret2
  exact ⟨_, rfl, rfl, below_mix (below_mix (below_alloc (below_alloc (below_refl w) _) _) (Nat.le_succ _) H2.out.1) (Nat.le_succ _) HB2.out⟩
set_option maxHeartbeats 1000000 in
set_option maxRecDepth 100000 in
theorem polyText_bad (A : Option Addr) (ca : Nat) (ts : List TermV) (vars : Int) (w : World) (hBs : Bs ≤ w.heap.size) (hA : RdT Bs w A ts)
    (hc : ts.length ≤ ca) (hl : ts.length < 100) (hd : ∀ i, i < ts.length → (tm ts i).c.size ≤ 1000000) (hok : polyOk okF zF vars ts = false) :
    Calls Tryz.prog 8 #[.agg #[.int .i64 vars, .slice A ts.length ca]] w (Gives w fun v _ => v = .tuple #[.string ⟨#[]⟩, .int .i64 1]) := by
  have hnew := heap_alloc_new (w.alloc (.cells #[.int .i64 vars, .slice A ts.length ca] 24)) (.cells #[.pointer none, .slice none 0 0, .bool false] 84)
  rw [show (w.alloc (.cells #[.int .i64 vars, .slice A ts.length ca] 24)).heap.size = w.heap.size + 1 by simp] at hnew
  have hwp := writerPolyRef_bad A ca ts vars (w.heap.size + 1) ((w.alloc (.cells #[.int .i64 vars, .slice A ts.length ca] 24)).alloc (.cells #[.pointer none, .slice none 0 0, .bool false] 84))
    (by simp; omega) (hA.below (below_alloc (below_alloc (below_refl w) _) _)) (by simp) hnew hc hl hd hok
  have HW := Lib.hid hwp
  have hbx := (heap_alloc_old (w.alloc (.cells #[.int .i64 vars, .slice A ts.length ca] 24)) (.cells #[.pointer none, .slice none 0 0, .bool false] 84) (by simp)).trans (heap_alloc_new w (.cells #[.int .i64 vars, .slice A ts.length ca] 24))
  clear hwp hnew hA hok hd
  go_enter Tryz.func8, Tryz.ntmps8
  go_wp2_with fail
  refine HW.out.mono ?_
  rintro e w1 ⟨rfl, h1, h2⟩
  have HE := Lib.hid (refEnd_bad _ _ h1)
  have H2 := Lib.hid h2
  clear h1 h2 hbx
  go_wp2_with fail
  refine HE.out.mono ?_
  rintro e w2 ⟨rfl, rfl⟩
  go_wp2
  go_ret2
  exact ⟨_, rfl, rfl, below_mix (below_alloc (below_alloc (below_refl w) _) _) (Nat.le_succ _) H2.out⟩
end Go.Proofs.YtoflmheodiajaaaGreatDoor
namespace Go.Proofs.YtoflmheodiajaaaGreatDoor
open Go.RowKit
set_option linter.unusedVariables false
set_option linter.unusedSimpArgs false
variable {Bs : Nat}
def SmallTo (ts : List TermV) (k : Nat) : Prop := ∀ i, i < k → (tm ts i).c.size ≤ 100 ∧ (tm ts i).xs.length ≤ 10
def LawRel (w : World) (ts : List TermV) (i : Value) (W : World) : Prop := ∃ k : Nat, i = .int .i64 k ∧ k ≤ ts.length ∧ SmallTo ts k ∧ Below w.heap.size w W
theorem formatPolys_any (A : Option Addr) (ca : Nat) (ts : List TermV) (V : Int) (m : Int) (w : World) (hm : w.cell? ⟨0, 0, none⟩ = some (.int .i64 m)) (h0 : 0 < w.heap.size) (hBs : Bs ≤ w.heap.size) (hA : RdT Bs w A ts) (hc : ts.length ≤ ca) (hc2 : ts.length ≤ 9223372036854775807) :
    Calls Tryz.prog 3 #[.agg #[.int .i64 V, .slice A ts.length ca]] w (Gives w fun v _ => v = .bool true) := by
  have HA := Lib.hid hA
  have HM := Lib.hid hm
  have hbx := heap_alloc_new w (.cells #[.int .i64 V, .slice A ts.length ca] 24)
  have HBX := Lib.hid hbx
  clear hA hm hbx
  by_cases hlen : ts.length ≤ 12
  · have hl1 : ¬ ((12 : Int) < (ts.length : Int)) := by omega
    go_enter Tryz.func3, Tryz.ntmps3
    go_wp2_with fail
    go_loopw [19] (fun i W => LawRel (w.alloc (.cells #[.int .i64 V, .slice A ts.length ca] 24)) ts i W) (fun i _ => ts.length - (intOf i).toNat)
    case atStart => exact ⟨0, rfl, by omega, fun i hi => by omega, below_refl _⟩
    case round =>
      rename World => W
      obtain ⟨k, rfl, hk, hsm, hb⟩ := hrel
      have HB := Lib.hid hb
      have HS := Lib.hid hsm
      have hx1 := (hb.block w.heap.size (by simp)).trans HBX.out
      have HX1 := Lib.hid hx1
      have b0 : W.cell? ⟨w.heap.size, 0, none⟩ = some (.int .i64 V) := by rw [Lib.cell_of_heap hx1]; rfl
      have b1 : W.cell? ⟨w.heap.size, 1, none⟩ = some (.slice A ts.length ca) := by rw [Lib.cell_of_heap hx1]; rfl
      have hBW := Lib.hid (below_then (below_alloc (below_refl w) (.cells #[.int .i64 V, .slice A ts.length ca] 24)) (by simp) hb)
      clear hb hsm hx1
      by_cases hlt : k < ts.length
      · obtain ⟨ab, ao, rfl, hab, hcA⟩ := (HA.out.below hBW.out).plain (by omega)
        obtain ⟨hA1, hA2, hT1, hT2, hT3⟩ := hcA k hlt
        rw [show 2 * k = k * 2 by omega] at hA1 hA2
        obtain ⟨XA, hXA⟩ : ∃ XA, (tm ts k).A = XA := ⟨_, rfl⟩
        rw [hXA] at hA2
        clear hT1 hXA hcA
        by_cases hcs : (tm ts k).c.size ≤ 100
        · have q1 : ¬ ((100 : Int) < ((tm ts k).c.size : Int)) := by omega
          by_cases hxs : (tm ts k).xs.length ≤ 10
          · have q2 : ¬ ((10 : Int) < ((tm ts k).xs.length : Int)) := by omega
            go_wp2
            go_roundw
            case rel => exact ⟨k + 1, by go_num, by omega, fun i hi => (Nat.lt_succ_iff_lt_or_eq.1 hi).elim (HS.out i) (fun e => by rw [e]; exact ⟨hcs, hxs⟩), HB.out.alloc HB.out.size _⟩
            case measure => simp [intOf]; omega
          · have q2 : (10 : Int) < ((tm ts k).xs.length : Int) := by omega
            go_wp2_with fail
            refine (known_any _).mono ?_
            rintro e w2 ⟨_, rfl, rfl, hb2⟩
            have HB2 := Lib.hid (below_then (hBW.out.alloc hBW.out.size _) (by have := hBW.out.size; simp; omega) hb2)
            clear hb2
            go_wp2
            go_ret
            exact ⟨_, rfl, rfl, HB2.out⟩
        · have q1 : (100 : Int) < ((tm ts k).c.size : Int) := by omega
          go_wp2_with fail
          refine (known_any _).mono ?_
          rintro e w2 ⟨_, rfl, rfl, hb2⟩
          have HB2 := Lib.hid (below_then (hBW.out.alloc hBW.out.size _) (by have := hBW.out.size; simp; omega) hb2)
          clear hb2
          go_wp2
          go_ret
          exact ⟨_, rfl, rfl, HB2.out⟩
      · obtain rfl : k = ts.length := by omega
        have hbs : Bs ≤ W.heap.size := Nat.le_trans hBs hBW.out.size
        have hdom : ∀ i, i < ts.length → domF (tm ts i).c := fun i hi => Nat.le_trans (HS.out i hi).1 (by omega)
        have hd6 : ∀ i, i < ts.length → (tm ts i).c.size ≤ 1000000 := fun i hi => Nat.le_trans (HS.out i hi).1 (by omega)
        have hAW := HA.out.below hBW.out
        by_cases hok : polyOk okF zF V ts = true
        · obtain ⟨v, rfl, H⟩ := fit_of_ok hlen (fun i hi => (HS.out i hi).1) hok
          have HF := Lib.hid (formatPoly_ok okF zF domF (ofSpec_all (Bs := Bs)) A ca ts v W hbs hAW hc H.hl H.hd H.hv H.hok H.hex H.hxs H.hlen)
          have HT := Lib.hid (fun W' hb' => polyText_ok (Bs := Bs) A ca ts v W' (Nat.le_trans hbs (Below.size hb')) (hAW.below hb') hc H.hl hd6 H.hv H.hok H.hex H.hxs H.hlen)
          have HP := Lib.hid (fun W' hm' h0' => parsePoly_any ⟨(polyL v ts).toArray⟩ v ts m W' hm' h0' H rfl)
          have HAW := Lib.hid hAW
          have HH := Lib.hid H
          clear hAW H hok hdom hd6
          go_wp2_with fail
          refine HF.out.mono ?_
          rintro e w3 ⟨_, rfl, rfl, hb3⟩
          have HB3 := Lib.hid hb3
          have hx3 := (hb3.block w.heap.size (lt_of_heap HX1.out)).trans HX1.out
          have c30 : w3.cell? ⟨w.heap.size, 0, none⟩ = some (.int .i64 (v : Int)) := by rw [Lib.cell_of_heap hx3]; rfl
          have c31 : w3.cell? ⟨w.heap.size, 1, none⟩ = some (.slice A ts.length ca) := by rw [Lib.cell_of_heap hx3]; rfl
          clear hb3 hx3
          go_wp2_with fail
          refine (HT.out _ HB3.out).mono ?_
          rintro e w4 ⟨_, rfl, rfl, hb4⟩
          have hb4' := below_then HB3.out HB3.out.size hb4
          have HB4 := Lib.hid hb4'
          clear hb4 c30 c31
          have h04 : 0 < w4.heap.size := by have := hBW.out.size; have := hb4'.size; omega
          clear hb4'
          go_wp2_with fail
          refine (HP.out _ (max_below (below_then hBW.out hBW.out.size HB4.out) h0 HM.out) h04).mono ?_
          rintro e w5 ⟨_, rfl, ⟨A5, c5, tk, rfl, htk, hc5, hrt⟩, hb5⟩
          have HB5 := Lib.hid (below_then HB4.out HB4.out.size hb5)
          have HRT := Lib.hid hrt
          have HTK := Lib.hid htk
          have hs5 : W.heap.size ≤ w5.heap.size := HB5.out.size
          have hk5 : w.heap.size < w5.heap.size := by have := lt_of_heap HX1.out; omega
          clear hb5 hrt htk
          go_wp2_with fail
          refine (known_any _).mono ?_
          rintro e w6 ⟨_, rfl, rfl, hb6⟩
          have hq6 := (hb6.block w5.heap.size (by simp)).trans (heap_alloc_new w5 (.cells #[.int .i64 (v : Int), .slice A5 ts.length c5] 24))
          have hb6' := below_then (HB5.out.alloc HB5.out.size (.cells #[.int .i64 (v : Int), .slice A5 ts.length c5] 24)) (by simp; omega) hb6
          have hx6 := (hb6'.block w.heap.size (lt_of_heap HX1.out)).trans HX1.out
          have c60 : w6.cell? ⟨w.heap.size, 0, none⟩ = some (.int .i64 (v : Int)) := by rw [Lib.cell_of_heap hx6]; rfl
          have c61 : w6.cell? ⟨w.heap.size, 1, none⟩ = some (.slice A ts.length ca) := by rw [Lib.cell_of_heap hx6]; rfl
          have d60 : w6.cell? ⟨w5.heap.size, 0, none⟩ = some (.int .i64 (v : Int)) := by rw [Lib.cell_of_heap hq6]; rfl
          have d61 : w6.cell? ⟨w5.heap.size, 1, none⟩ = some (.slice A5 ts.length c5) := by rw [Lib.cell_of_heap hq6]; rfl
          have HS6 := Lib.hid (samePoly_any (Bs := Bs) v A ca ts A5 c5 tk w6 (HAW.out.below hb6') ((HRT.out.below (below_alloc (below_refl w5) _)).below hb6) hc hc5 (by omega) (fun i hi => Nat.le_trans (HS.out i hi).2 (by omega)) HTK.out)
          have HB6 := Lib.hid hb6'
          clear hb6 hb6' hq6 hx6
          go_wp2_with fail
          refine HS6.out.mono ?_
          rintro e w7 ⟨rfl, hb7⟩
          have HB7 := Lib.hid (below_then HB6.out HB6.out.size hb7)
          clear hb7
          go_wp2
          go_ret
          exact ⟨_, rfl, rfl, below_then hBW.out hBW.out.size HB7.out⟩
        · have hok' : polyOk okF zF V ts = false := by simpa using hok
          have HF := Lib.hid (formatPoly_bad okF zF domF (ofSpec_all (Bs := Bs)) A ca ts V W hbs hAW hc (by omega) hdom hok')
          have HT := Lib.hid (fun W' hb' => polyText_bad (Bs := Bs) A ca ts V W' (Nat.le_trans hbs (Below.size hb')) (hAW.below hb') hc (by omega) hd6 hok')
          clear hAW hok hok' hdom hd6
          go_wp2_with fail
          refine HF.out.mono ?_
          rintro e w3 ⟨_, rfl, rfl, hb3⟩
          have HB3 := Lib.hid hb3
          have hx3 := (hb3.block w.heap.size (lt_of_heap HX1.out)).trans HX1.out
          have c30 : w3.cell? ⟨w.heap.size, 0, none⟩ = some (.int .i64 V) := by rw [Lib.cell_of_heap hx3]; rfl
          have c31 : w3.cell? ⟨w.heap.size, 1, none⟩ = some (.slice A ts.length ca) := by rw [Lib.cell_of_heap hx3]; rfl
          clear hb3 hx3
          go_wp2_with fail
          refine (HT.out _ HB3.out).mono ?_
          rintro e w4 ⟨_, rfl, rfl, hb4⟩
          have HB4 := Lib.hid (below_then HB3.out HB3.out.size hb4)
          clear hb4 c30 c31
          go_wp2_with fail
          refine (known_any _).mono ?_
          rintro e w5 ⟨_, rfl, rfl, hb5⟩
          have HB5 := Lib.hid (below_then HB4.out HB4.out.size hb5)
          clear hb5
          go_wp2
          go_ret
          exact ⟨_, rfl, rfl, below_then hBW.out hBW.out.size HB5.out⟩
  · have hl1 : (12 : Int) < (ts.length : Int) := by omega
    go_enter Tryz.func3, Tryz.ntmps3
    go_wp2_with fail
    refine (known_any _).mono ?_
    rintro e w2 ⟨_, rfl, rfl, hb2⟩
    have HB2 := Lib.hid (below_then (below_alloc (below_refl w) _) (by simp) hb2)
    clear hb2
    go_wp2
    go_ret
    exact ⟨_, rfl, rfl, HB2.out⟩
end Go.Proofs.YtoflmheodiajaaaGreatDoor
namespace Go.Proofs.YtoflmheodiajaaaGreatDoor
open Go.ChangeShapes Go.WideShapes Go.ChangeAt Go.RowKit
set_option linter.unusedVariables false
set_option linter.unusedSimpArgs false
theorem cell_open {w : World} {b off : Nat} {x : Value} (h : w.cell? ⟨b, off, none⟩ = some x) : ∃ cs t fr, w.heap[b]? = some (.cells cs t fr) ∧ cs[off]? = some x := by
  unfold World.cell? at h
  simp only at h
  cases hb : w.heap[b]? with
  | none => rw [hb] at h; cases h
  | some o =>
    rw [hb] at h
    cases o with
    | cells cs t fr => exact ⟨cs, t, fr, rfl, by simpa using h⟩
    | _ => simp at h
section
variable {H : Type} {enc : TypeId × Value → H} {W : World} {base fuel : Nat} {spare : Nat → Bool} {held : Bool}
theorem openInts {v : Value} {y : DataW H × List MemPlace} (h : DataW.trod enc Tryz.prog W base spare held fuel 26 [v] = some y) : ∃ A c xs, v = .slice A xs.length c ∧ xs.length ≤ c ∧ c ≤ 9223372036854775807 ∧ Rd W.heap.size W .i64 3 A xs := by
  rcases open_ints Tryz.underlying26 Tryz.underlying3 (by kernel_rfl) h with ⟨hcs, _⟩ | ⟨a, len, cap, zs, hcs, _, hl, hm, hz, _, hc, _⟩
  · simp only [List.cons.injEq, and_true] at hcs
    exact ⟨none, 0, [], hcs, Nat.le_refl _, by omega, fun h => by simp at h⟩
  · simp only [List.cons.injEq, and_true] at hcs
    have hlz : len ≤ zs.length := by rw [hz]; split <;> omega
    have hlt : (zs.take len).length = len := by simp; omega
    refine ⟨some a, cap, zs.take len, by rw [hlt]; exact hcs, by omega, by unfold maxLen at hm; omega, fun h0 => ?_⟩
    obtain ⟨b, off, rfl, hk⟩ := ints_at hc (by omega)
    obtain ⟨cs, t, fr, hb, _⟩ := cell_open (hk 0 (by omega))
    refine ⟨b, off, cs, t, fr, rfl, hb, .inl (lt_of_heap hb), fun j hj => ?_⟩
    have h2 := hk j (by omega)
    rw [Lib.cell_of_heap hb] at h2
    rw [h2]
    have : el (zs.take len) j = zs.getD j 0 := by
      simp [el, List.getD, List.getElem?_take, show j < len by omega]
    rw [this]
theorem openTerms {v : Value} {y : DataW H × List MemPlace} (h : DataW.trod enc Tryz.prog W base spare held fuel 22 [v] = some y) : ∃ A c ts, v = .slice A ts.length c ∧ ts.length ≤ c ∧ c ≤ 9223372036854775807 ∧ RdT W.heap.size W A ts := by
  rcases Deep.open_slice_pairs Tryz.underlying22 Tryz.underlying28 (by kernel_rfl) rfl rfl (by kernel_rfl) (by kernel_rfl) h with ⟨hcs, _⟩ | ⟨a, len, cap, m, n, V0, V1, D0, D1, P0, P1, hcs, _, hl, hm, hmm, _, hx⟩
  · simp only [List.cons.injEq, and_true] at hcs
    exact ⟨none, 0, [], hcs, Nat.le_refl _, by omega, fun h => by simp at h⟩
  · simp only [List.cons.injEq, and_true] at hcs
    have hlm : len ≤ m := by rw [hmm]; split <;> omega
    have each : ∀ i, i < len → ∃ t : TermV, W.cell? (a.add (i * 2)) = some (.string t.c) ∧ W.cell? (a.add (i * 2 + 1)) = some (.slice t.A t.xs.length t.cap) ∧ TermOk W.heap.size W t := by
      intro i hi
      obtain ⟨h1, h2, h3, h4⟩ := hx i (by omega)
      obtain ⟨s, e3, _, _⟩ := DataW.trod_string Tryz.underlying9 h3
      obtain ⟨A, c, xs, e4, g1, g2, g3⟩ := openInts h4
      simp only [List.cons.injEq, and_true] at e3
      rw [e3] at h1
      rw [e4] at h2
      exact ⟨⟨s, A, c, xs⟩, h1, h2, g3, g1, g2⟩
    haveI : Inhabited TermV := ⟨noTerm⟩
    obtain ⟨T, hT⟩ := Deep.choose_lt (α := TermV) each
    have hlt : ((List.range len).map T).length = len := by simp
    have htm : ∀ i, i < len → tm ((List.range len).map T) i = T i := fun i hi => by simp [tm, hi]
    refine ⟨some a, cap, (List.range len).map T, by rw [hlt]; exact hcs, by omega, by unfold maxLen at hm; omega, fun h0 => ?_⟩
    rw [hlt] at h0 ⊢
    obtain ⟨b, off, spot⟩ := a
    have hspot : spot = none := by simpa [Addr.add] using World.cell?_spot (hT 0 h0).1
    subst hspot
    have h1 := (hT 0 h0).1
    rw [add_plain] at h1
    obtain ⟨cs, t, fr, hb, _⟩ := cell_open h1
    refine ⟨b, off, cs, t, fr, rfl, hb, .inl (lt_of_heap hb), fun j hj => ?_⟩
    obtain ⟨g1, g2, g3⟩ := hT j hj
    rw [add_plain, Lib.cell_of_heap hb] at g1 g2
    rw [htm j hj, Nat.mul_comm 2 j]
    exact ⟨g1, g2, g3⟩
set_option maxRecDepth 100000 in
theorem openPoly {r : Reach} {b0 : Nat} {v : Value} {d : DataW H} {p : List MemPlace} (hv : Value.okWide Tryz.prog W r b0 24 v) (h : DataW.Trod enc Tryz.prog W base spare held 24 v d p) :
    ∃ V A c ts, v = .agg #[.int .i64 V, .slice A ts.length c] ∧ ts.length ≤ c ∧ c ≤ 9223372036854775807 ∧ RdT W.heap.size W A ts := by
  obtain ⟨v0, v1, y0, y1, n, rfl, _, _, h0, h1⟩ := Joins.open_agg2 Tryz.underlying24 (by kernel_rfl) (by kernel_rfl) hv h
  obtain ⟨V, e0, _⟩ := DataW.trod_int Tryz.underlying3 h0
  obtain ⟨A, c, ts, e1, g1, g2, g3⟩ := openTerms h1
  simp only [List.cons.injEq, and_true] at e0
  subst e0
  subst e1
  exact ⟨V, A, c, ts, rfl, g1, g2, g3⟩
end
end Go.Proofs.YtoflmheodiajaaaGreatDoor
