import Derived.Test.YtoflmheodiajaaaGreatDoorK40
import Derived.Test.YtoflmheodiajaaaGreatDoorProg
import Derived.Below
import Derived.Deep.Draws
import Derived.Deep.AppendLies
import Derived.Maps.AppendAt
import Derived.OwnWalk
import Derived.Laws.BytesArg
import Derived.Laws.MakeOwn
import Derived.Laws.OwnMore
import Derived.Deep.OwnRows
import Derived.Tactics
import Derived.Lib.ConvBytes
import Derived.Laws.Slices
import Derived.WalkKit
import Derived.KernelRfl
import Derived.RowKit3
import Derived.Deep.LoopGhost
import Derived.Deep.QuietTactic
import Derived.BigQuiet
import Derived.WideLaws
import Derived.Deep.DeepCutAuto
import Derived.Deep.CutBlock
import Derived.Deep.RegionHeld3
import Derived.Laws.Rows
import Derived.Lib.AppendStr
import Derived.ArgAppend
import Derived.Laws.IdiomCopy
import Derived.OrdersHeld
import Derived.Laws.BitsLemmas
import Derived.RowKit
namespace Go.Proofs.YtoflmheodiajaaaGreatDoor.G
open Go.RowKit Go.Proofs.YtoflmheodiajaaaGreatDoor.H
def nFr.f (a0_0 : Bool) (l0_1 : List Int) (a1_0 : Bool) (l1_1 : List Int) : Option (Bool × List Int × Bool × List Int) := fracF a0_0 l0_1 a1_0 l1_1
section
open Go.Proofs.YW.PrintWords
theorem nFr.calls (a0_0 : Bool) (P0_1_ : Nat → Prop) (A0_1 : Option Addr) (c0_1 : Nat) (l0_1 : List Int) (a1_0 : Bool) (P1_1_ : Nat → Prop) (A1_1 : Option Addr) (c1_1 : Nat) (l1_1 : List Int) (r1 : Bool) (r2 : List Int) (r3 : Bool) (r4 : List Int) (w : World)
    (hs0_1 : Kd.V (Kd.int .u32) 143 w w.heap.size (fun k_ => P0_1_ k_) (.slice A0_1 l0_1.length c0_1) l0_1) (hs1_1 : Kd.V (Kd.int .u32) 143 w w.heap.size (fun k_ => P1_1_ k_) (.slice A1_1 l1_1.length c1_1) l1_1) (h : nFr.f a0_0 l0_1 a1_0 l1_1 = some (r1, r2, r3, r4)) :
    Calls Tryz.prog 140 #[.agg #[.bool a0_0, .slice A0_1 l0_1.length c0_1], .agg #[.bool a1_0, .slice A1_1 l1_1.length c1_1]] w fun e w' => ∃ v1_ v3_ : Value, e = .returned (.agg #[.bool r1, v1_, .bool r3, v3_]) ∧
      Kd.V (Kd.int .u32) 143 w' w.heap.size (fun k_ => ((P0_1_ k_ ∨ P1_1_ k_) ∨ w.heap.size ≤ k_)) v1_ r2 ∧ Kd.V (Kd.int .u32) 143 w' w.heap.size (fun k_ => ((P0_1_ k_ ∨ P1_1_ k_) ∨ w.heap.size ≤ k_)) v3_ r4 ∧ Below w.heap.size w w' :=
  fracG a0_0 P0_1_ A0_1 c0_1 l0_1 a1_0 P1_1_ A1_1 c1_1 l1_1 r1 r2 r3 r4 w hs0_1 hs1_1 h
end
theorem frac_cn {a : Bool} {n d : Nat} (hn : Sz n) (hd : Sz d) (h0 : 0 < d) (ha : a = true → 0 < n) : nFr.f a (cn n) false (cn d) = some (a, cn (n / Nat.gcd n d), false, if d / Nat.gcd n d = 1 then [] else cn (d / Nat.gcd n d)) := by
  unfold nFr.f fracF
  rw [val_cn, val_cn, if_pos ⟨okN_iff.2 ⟨cn_inW _, cn_trim _⟩, okN_iff.2 ⟨cn_inW _, cn_trim _⟩, ⟨hn, hd⟩, rfl, by omega, fun h => by have := ha h; omega⟩, Int.toNat_natCast, Int.toNat_natCast]
end Go.Proofs.YtoflmheodiajaaaGreatDoor.G
namespace Go.Proofs.YQ.PR
open Go.RowKit Go.Proofs.YtoflmheodiajaaaGreatDoor.G Go.Proofs.YW.PrintWords Go.Proofs.YW.PrintLast Go.Proofs.YW.PrintMore
attribute [local go_sem] max2_int min2_int max_two min_two max_three min_three max_four min_four
set_option linter.unusedVariables false
set_option linter.unusedSimpArgs false
def errW : Option Int → Value
  | none => .nilIface
  | some c => .iface 0 (.int .i64 c)
theorem errW_none : errW none = .nilIface := rfl
theorem errW_some (c : Int) : errW (some c) = .iface 0 (.int .i64 c) := rfl
theorem info5 : (Tryz.prog.info? 5).map (fun i => (i.zero, i.size, i.bytes)) = some (some (.int .u8 0), 1, 1) := by kernel_rfl
theorem info143 : (Tryz.prog.info? 143).map (fun i => (i.zero, i.size, i.bytes)) = some (some (.int .u32 0), 1, 4) := by kernel_rfl
structure S28 where
  f0 : ByteArray
  f1 : (List Int)
def z28 : S28 := ⟨(⟨#[]⟩ : ByteArray), ([] : List Int)⟩
def k28 : Kd S28 := Kd.iso (Kd.pair Kd.string (Kd.slice 3 (Kd.int .i64))) (fun x : S28 => (x.f0, x.f1))
theorem k28_open {w : World} {x : S28} {cs : List Value} (h : k28.K w x cs) : ∃ A1 c1, cs = [.string x.f0, .slice A1 x.f1.length c1] ∧ x.f1.length ≤ c1 ∧ (Kd.int .i64).C w A1 x.f1.length x.f1 := by
  obtain ⟨_, _, rfl, rfl, ⟨A1, c1, rfl, l1, g1⟩⟩ := h
  exact ⟨A1, c1, rfl, l1, g1⟩
theorem k28_mk (w : World) (x : S28) {A1 : Option Addr} {c1 : Nat} (l1 : x.f1.length ≤ c1) (g1 : (Kd.int .i64).C w A1 x.f1.length x.f1) : k28.K w x [.string x.f0, .slice A1 x.f1.length c1] := ⟨[.string x.f0], [.slice A1 x.f1.length c1], rfl, rfl, ⟨A1, c1, rfl, l1, g1⟩⟩
def rd_T28 (xs : List S28) (i : Int) : S28 := xs.getD i.toNat z28
theorem at_T28 {w : World} {A : Option Addr} {n : Nat} {xs : List S28} (h : Kd.C k28 w A n xs) (i : Int) (h0 : 0 ≤ i) (h1 : i < n) : ∃ ad A1 c1, A = some ad ∧ w.cell? (ad.add (i.toNat * 2)) = some (.string (rd_T28 xs i).f0) ∧ w.cell? ⟨(ad.add (i.toNat * 2)).block, (ad.add (i.toNat * 2)).off + 1, none⟩ = some (.slice A1 (rd_T28 xs i).f1.length c1) ∧ (rd_T28 xs i).f1.length ≤ c1 ∧ (Kd.int .i64).C w A1 (rd_T28 xs i).f1.length (rd_T28 xs i).f1 := by
  obtain ⟨ad, c, e, _, hK, hc0⟩ := Kd.C_get h z28 i h0 h1
  have hc : ∀ j u, c[j]? = some u → w.cell? (ad.add (i.toNat * 2 + j)) = some u := hc0
  obtain ⟨A1, c1, rfl, l1, g1⟩ := k28_open hK
  exact ⟨ad, A1, c1, e, hc 0 _ rfl, by rw [← add_field _ _ 1 (by omega)]; exact hc 1 _ rfl, l1, g1⟩
end Go.Proofs.YQ.PR
