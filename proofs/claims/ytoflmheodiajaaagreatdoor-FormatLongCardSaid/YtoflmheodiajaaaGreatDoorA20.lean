/- parsed[Claim] and ParseClaim, where a text is refused ahead of its reading. -/
import Derived.Test.YtoflmheodiajaaaGreatDoorA21
import Derived.Test.YtoflmheodiajaaaGreatDoorB2
namespace Go.Proofs.YtoflmheodiajaaaGreatDoor
open Go.RowKit
set_option linter.unusedVariables false
set_option linter.unusedSimpArgs false

/-- The zero claim. -/
def zClaim : Array Value := #[.int .i64 0, .string ⟨#[]⟩, .string ⟨#[]⟩, .int .i64 0, .int .i64 0, .slice none 0 0, .slice none 0 0, .int .i64 0, .slice none 0 0, .slice none 0 0, .slice none 0 0, .string ⟨#[]⟩, .string ⟨#[]⟩, .slice none 0 0, .slice none 0 0, .slice none 0 0,
  .string ⟨#[]⟩, .string ⟨#[]⟩, .int .i64 0, .int .i64 0, .slice none 0 0, .slice none 0 0, .int .i64 0, .slice none 0 0, .int .i64 0, .slice none 0 0, .slice none 0 0, .slice none 0 0, .string ⟨#[]⟩, .slice none 0 0]
theorem zeroClaim (w : World) : (zeroValue 71).run Tryz.prog w = .ok (.agg zClaim) w := by kernel_rfl
theorem infoClaim : (Tryz.prog.info? 71).map (·.size) = some zClaim.size := by kernel_rfl
theorem oneClaim : zClaim.all (·.oneCell') = true := by kernel_rfl
theorem underClaim : ∃ fs, Tryz.prog.underlying 71 = some (.struct fs) := ⟨_, Tryz.underlying71⟩
theorem loadErrno (b : Nat) (w : World) (x : Int) (h : w.cell? ⟨b, 0, none⟩ = some (.int .i64 x)) : (loadVar 29 ⟨b, 0, none⟩).run Tryz.prog w = .ok (.int .i64 x) w := by
  simp [go_sem, loadVar, h]
set_option maxRecDepth 100000 in
theorem parsedClaim_long (s : ByteArray) (w : World) (hs : 1048576 < s.size) (f g : Value) :
    Calls Tryz.prog 23 #[.string s, f, g] w (Gives w fun v _ => v = .tuple #[.agg zClaim, .int .i64 2]) := by
  have hs2 : (1048576 : Int) < (s.size : Int) := by omega
  obtain ⟨d, hu⟩ := underClaim
  have HU := Lib.hid hu
  clear hu
  go_enter_defers Tryz.func23, Tryz.ntmps23
  go_wp2_with (first
    | (with_reducible refine alloc_agg (o := ⟨some 6, _, _, _, _, _⟩) rfl 71 rfl zClaim (zeroClaim _) ?_)
    | ((with_reducible refine load_struct (o := ⟨some 16, _, _, _, _, _⟩) rfl 71 _ rfl w.heap.size ?_ 71 zClaim (0, 0) ?_ HU.out infoClaim ?_); rfl; exact heap_alloc2_old _ _ _)
    | ((with_reducible refine store_same (o := ⟨none, .store 71 _ _, _, _, _, _⟩) rfl 71 _ _ rfl w.heap.size zClaim ?_ ?_ 71 ?_ infoClaim oneClaim ?_); rfl; rfl; exact heap_alloc2_old _ _ _))
  simp only [bodyPostD, Leaves]
  refine ⟨_, results_two (fs := d) Tryz.results23 _ _ w.heap.size (w.heap.size + 1) _ zClaim (0, 0) (.int .i64 2) rfl (heap_alloc2_old _ _ _) HU.out infoClaim rfl (loadErrno _ _ _ ?_), _, rfl, rfl, below_alloc (below_alloc (below_refl _) _) _⟩
  rw [cell_of_row _ _ _ _ _ _ (heap_alloc2_new _ _ _)]
  rfl
set_option maxRecDepth 100000 in
theorem parsedClaim_noline (s : ByteArray) (w : World) (hs : s.size ≤ 1048576) (f g : Value) (hc : ∀ W, Calls Tryz.prog 37 #[.string s, .string ⟨#[10]⟩] W fun e w' => e = .returned (.tuple #[.string s, .bool false]) ∧ w' = W) :
    Calls Tryz.prog 23 #[.string s, f, g] w (Gives w fun v _ => v = .tuple #[.agg zClaim, .int .i64 6]) := by
  have hs2 : ¬ (1048576 : Int) < (s.size : Int) := by omega
  have HC := Lib.hid hc
  clear hc
  obtain ⟨d, hu⟩ := underClaim
  have HU := Lib.hid hu
  clear hu
  go_enter_defers Tryz.func23, Tryz.ntmps23
  go_wp2_with (with_reducible refine alloc_agg (o := ⟨some 6, _, _, _, _, _⟩) rfl 71 rfl zClaim (zeroClaim _) ?_)
  refine (HC.out _).mono ?_
  rintro e w' ⟨rfl, rfl⟩
  go_wp2_with (first
    | ((with_reducible refine load_struct (o := ⟨some 24, _, _, _, _, _⟩) rfl 71 _ rfl w.heap.size ?_ 71 zClaim (0, 0) ?_ HU.out infoClaim ?_); rfl; exact heap_alloc2_old _ _ _)
    | ((with_reducible refine store_same (o := ⟨none, .store 71 _ _, _, _, _, _⟩) rfl 71 _ _ rfl w.heap.size zClaim ?_ ?_ 71 ?_ infoClaim oneClaim ?_); rfl; rfl; exact heap_alloc2_old _ _ _))
  refine leaves_cons (f := 27) (args := #[.pointer (some ⟨w.heap.size + 1, 0, none⟩)]) (by simp) (by simp [go_sem]) ?_
  refine (catch_idle ⟨w.heap.size + 1, 0, none⟩ _).mono ?_
  rintro e u' w'' ⟨rfl, rfl, rfl⟩
  simp only [Leaves, settle]
  refine ⟨_, results_two (fs := d) Tryz.results23 _ _ w.heap.size (w.heap.size + 1) _ zClaim (0, 0) (.int .i64 6) rfl (heap_alloc2_old _ _ _) HU.out infoClaim rfl (loadErrno _ _ _ ?_), _, rfl, rfl, below_alloc (below_alloc (below_refl _) _) _⟩
  rw [cell_of_row _ _ _ _ _ _ (heap_alloc2_new _ _ _)]
  rfl
set_option maxRecDepth 100000 in
theorem parseClaim_refused (s : ByteArray) (w : World) (x : Int) (hx : s.size ≤ 1048576 ∧ noLine s ∧ x = 6 ∨ 1048576 < s.size ∧ x = 2) :
    Calls Tryz.prog 12 #[.string s] w (Gives w fun v _ => v = .tuple #[.agg zClaim, .int .i64 x]) := by
  have hp : ∀ W f g, Calls Tryz.prog 23 #[.string s, f, g] W (Gives W fun v _ => v = .tuple #[.agg zClaim, .int .i64 x]) := by
    intro W f g
    rcases hx with ⟨h1, h2, rfl⟩ | ⟨h1, rfl⟩
    · exact parsedClaim_noline s W h1 f g (cut_noline s h1 h2)
    · exact parsedClaim_long s W h1 f g
  have HP := Lib.hid hp
  clear hp hx
  obtain ⟨d, hu⟩ := underClaim
  have HU := Lib.hid hu
  clear hu
  go_enter Tryz.func12, Tryz.ntmps12
  go_wp2_with (with_reducible refine alloc_agg (o := ⟨some 2, _, _, _, _, _⟩) rfl 71 rfl zClaim (zeroClaim _) ?_)
  refine (HP.out _ _ _).mono ?_
  rintro e w' ⟨_, rfl, rfl, hb⟩
  have HO := Lib.hid (box_heap hb)
  have HB := Lib.hid (below_then (below_alloc (below_refl w) _) (by simp) hb)
  clear hb
  go_wp2_with ((with_reducible refine store_same (o := ⟨none, .store 71 _ _, _, _, _, _⟩) rfl 71 _ _ rfl w.heap.size zClaim ?_ ?_ 71 ?_ infoClaim oneClaim ?_); rfl; rfl; exact HO.out)
  exact bodyPost_ret (v := .tuple #[.agg zClaim, .int .i64 x]) (results_cell_tmp (fs := d) Tryz.results12 _ _ w.heap.size _ zClaim (0, 0) _ rfl HO.out HU.out infoClaim rfl) rfl ⟨_, rfl, rfl, HB.out⟩
end Go.Proofs.YtoflmheodiajaaaGreatDoor
