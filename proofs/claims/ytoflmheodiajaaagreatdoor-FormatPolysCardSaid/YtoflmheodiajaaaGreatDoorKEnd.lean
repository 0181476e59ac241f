/-
  FormatPolys: whatever the polynomial is, the law returns true. Where it has at most 12 terms, coefficients of at most 100 bytes and at most 10 exponents a term, Poly returns what the reference writes: the text if the polynomial is one of ours (its variables at most 6, its coefficients numbers in lowest terms and not zero, its terms in order, its degree at most 24), ErrInvalid with an empty text if not; and ParsePoly reads the text as a polynomial that SamePoly finds equal. The check of the chapter's example, known, is true in every memory.
  Conditions: none beyond the card's own: the listed package-level variables start as the program's text lays them.
-/
import Derived.Test.YtoflmheodiajaaaGreatDoorK51
import Derived.Test.YtoflmheodiajaaaGreatDoorCards
import Derived.Test.YtoflmheodiajaaaGreatDoorTie
import Derived.ProofKit
import Derived.OpenShut
import Derived.Lay
import Derived.SevenTiedAt
import Derived.Deep.DeepHandedRow
import Derived.Shelf.Vars
import Derived.Carry
import Derived.Below
set_option linter.unusedVariables false
namespace Go.Proofs.YtoflmheodiajaaaGreatDoor
open Go.ChangeShapes Go.WideShapes Go.ChangeAt Go.RowKit
theorem laidOut : laidOutB Tryz.prog = true := by kernel_rfl
theorem ownKnobNone : ownKnob Tryz.prog.godebug = none := by kernel_rfl
theorem maxLenCell {W : World} (h : W.ShapedOpen Tryz.prog) : ∃ m, W.cell? ⟨0, 0, none⟩ = some (.int .i64 m) :=
  cell_of_shapedOpen_int (g := 0) (t := 3) (zero := #[.int .i64 0]) h (of_decide_eq_true (by kernel_rfl)) (by kernel_rfl) rfl (by kernel_rfl) (by kernel_rfl) Tryz.underlying3
set_option maxRecDepth 100000 in
theorem formatPolys_lifted (os : Os) (started : os.Started) (H : Type) (enc : TypeId × Value → H) (F : Stop.Interp) :
    ReturnsInHanded {} Tryz.checked os 3 .any ((OpenSpec.ofChange Rows.formatPolysSpec).preRow enc Tryz.prog Tryz.f3 Rows.formatPolysRow.domain false Rows.formatPolysRow.laid)
      (((OpenSpec.ofChange Rows.formatPolysSpec).at F).post enc Tryz.prog Tryz.f3 false true false false) := by
  refine returnsInHanded_of_row (C := Tryz.checked) (s := OpenSpec.ofChange Rows.formatPolysSpec) ownKnobNone started (by kernel_rfl) Tryz.func3
    (ChangeSpec.witness_shaped (enc := enc) (C := Tryz.checked) (os := os) (s := Rows.formatPolysSpec) (X := fun w _ => laidMetH Tryz.prog Rows.formatPolysRow.laid w) false (World.laidAll Tryz.prog os Rows.formatPolysRow.laid) #[.agg #[.int .i64 0, .slice none 0 0]] 8 (World.laidAll_os _ _ _)
      (World.shaped_of_ZipB (by kernel_rfl) (by kernel_rfl)) (by kernel_rfl) (by kernel_rfl) (by kernel_rfl)
      (by rw [MakeChecks.laidMetH_plain _ _ _ (by kernel_rfl)]; exact laidMet_laidAll _ (by kernel_rfl) (by kernel_rfl))) ?_
  intro W base args ds gs before hval0 hW _ _ _ _ hsh _
  have hval : ∀ (j : Nat) t v, Tryz.f3.params[j]? = some t → args[j]? = some v → Value.okWide Tryz.prog W .any base t v := hval0
  have hW' := hW
  obtain ⟨p, q, hA0, hV, rfl, _, _⟩ := hW
  have hA : DataW.TrodAll enc Tryz.prog W 0 (fun _ => true) true Tryz.f3.params.toList args.toList ds p := hA0
  rw [Tryz.params3] at hA hval
  obtain ⟨v0, d0, rfl, rfl, h0⟩ := trodAll_one hA
  obtain ⟨rfl, rfl⟩ := trodVars_none hV
  have k0 := h0
  have lt0 : ∀ x ∈ p, x.block < W.heap.size := by obtain ⟨m, hm⟩ := k0; exact DataW.trod_lt m _ _ _ hm
  obtain ⟨V, A, c, ts, rfl, hc, hcm, hrd⟩ := openPoly (hval 0 24 v0 rfl rfl) h0
  simp only [List.append_nil] at hW'
  obtain ⟨m, hm⟩ := maxLenCell hsh
  refine (formatPolys_any A c ts V m W hm (World.block_lt_of_cell? W _ hm) (Nat.le_refl _) hrd hc (by omega)).mono fun e W' he => ?_
  obtain ⟨v, rfl, rfl, hb⟩ := he
  exact ⟨_, rfl, _, _, _, [], _, [], hW', trodAll_mk1 (shut_bool Tryz.underlying4 _), trodAll_mk1 (Below.trod laidOut (by kernel_rfl) (of_decide_eq_true (by kernel_rfl)) k0 hb lt0), rfl, hb.frame _, fun h => by cases h⟩
theorem formatPolys_said : Rows.FormatPolysSaid :=
  OpenClaim.holds_of_cond 3 Tryz.f3 rfl rfl rfl rfl rfl rfl rfl ⟨rfl, rfl, rfl, rfl, rfl⟩ rfl rfl rfl rfl rfl (by kernel_rfl) Tryz.func3 (by kernel_rfl)
    (of_decide_eq_true (by kernel_rfl)) (by unfold Func.isWrapper; first | (rw [if_pos (by decide +kernel)]; kernel_rfl) | (rw [if_neg (by decide +kernel)]; exact ⟨rfl, rfl⟩))
    (fun os started H enc _ F => by rw [OpenClaim.pre_eq_preRow]; exact formatPolys_lifted os started H enc F)
theorem formatPolys_card : Rows.FormatPolysCardSaid :=
  Claim7.holds_tied_plain_at .later [] _ _ _ _ formatPolys_said (fun _ h => by cases h) (by kernel_rfl) (fun _ h => by cases h) formatPolys_row_tie rfl ⟨rfl, rfl⟩ (by kernel_rfl) rfl
    (fun f fn hf hfn => by
      obtain rfl : f = 3 := Option.some.inj ((show Tryz.prog.funcNamed "sosopt/sosoptlaw42.FormatPolys" = some 3 by kernel_rfl).symm.trans hf) |>.symm
      obtain rfl : fn = Tryz.f3 := (Option.some.inj (Tryz.func3.symm.trans hfn)).symm
      exact ⟨by kernel_rfl, fun j t ht => by
        rw [Tryz.params3] at ht
        have hm : t ∈ [24] := by simpa using Array.mem_of_getElem? ht
        have hall : ([24].all fun u => !Tryz.prog.wantsStandIn u) = true := by kernel_rfl
        exact (show Tryz.prog.wantsStandIn t = false by simpa using List.all_eq_true.1 hall t hm)⟩)
    (by kernel_rfl)
#print axioms formatPolys_card
end Go.Proofs.YtoflmheodiajaaaGreatDoor
