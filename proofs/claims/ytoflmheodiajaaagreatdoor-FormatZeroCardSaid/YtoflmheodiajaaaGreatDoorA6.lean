/- num.lowest: what it returns; how a fraction lies in memory. -/
import Derived.Test.YtoflmheodiajaaaGreatDoorA5
import Derived.RegionTactic
import Derived.BigRegion
import Derived.ChangeAlike
namespace Go.Proofs.YtoflmheodiajaaaGreatDoor
open Go.RowKit
set_option linter.unusedVariables false
set_option linter.unusedSimpArgs false
variable {Bs : Nat}

theorem heap_two (w : World) (o1 o2 : Obj) : ((w.alloc o1).alloc o2).heap[w.heap.size + 1]? = some o2 := by
  have h := heap_alloc_new (w.alloc o1) o2
  simpa using h
/-- The fraction n / d, negated if neg, as num.Rat holds it. -/
def RatAt (Bs : Nat) (w : World) (v : Value) (neg : Bool) (n d : Int) : Prop :=
  (∃ p q : Int, v = .agg #[.int .i64 p, .int .i64 q, .pointer none] ∧ p = (if neg then -n else n) ∧ (q = d ∨ (q = 0 ∧ d = 1)) ∧ 0 ≤ n ∧ n < 2147483648 ∧ 1 ≤ d ∧ d < 2147483648 ∧ (n = 0 → neg = false)) ∨
  (∃ b nv dv xs ys, v = .agg #[.int .i64 0, .int .i64 0, .pointer (some ⟨b, 0, none⟩)] ∧ w.heap[b]? = some (.cells #[.bool neg, nv, dv] 230 (0, 0)) ∧
    Nat64 Bs w nv xs ∧ Nat64 Bs w dv ys ∧ Trim xs ∧ Trim ys ∧ val xs = n ∧ val ys = d ∧ 0 < n ∧ 0 < d ∧ (2147483648 ≤ n ∨ 2147483648 ≤ d))

theorem lowest_zero (neg : Bool) (nv dv : Value) (ys : List Int) (w : World) (hn : Nat64 Bs w nv []) (hd : Nat64 Bs w dv ys) :
    Calls Tryz.prog 109 #[.bool neg, nv, dv] w (Gives w fun v w' => RatAt Bs w' v false 0 1) := by
  obtain ⟨⟨A, ca, rfl, h1, h2, h3⟩, h4⟩ := hn
  obtain ⟨⟨B, cb, rfl, k1, k2, k3⟩, k4⟩ := hd
  clear h3 h4 k3 k4
  go_enter Tryz.func109, Tryz.ntmps109
  go_wp2
  refine bodyPost_ret (v := .agg #[.int .i64 0, .int .i64 0, .pointer none]) (by simp [results, Tryz.results109, go_sem]) rfl ⟨_, rfl, .inl ⟨0, 0, rfl, by simp, .inr ⟨rfl, rfl⟩, by omega, by omega, by omega, by omega, fun _ => rfl⟩, below_alloc (below_refl _) _⟩

theorem lowest_small (neg : Bool) (nv dv : Value) (x y : Int) (w : World) (hn : Nat64 Bs w nv [x]) (hd : Nat64 Bs w dv [y]) (hx : x < 2147483648) (hy : y < 2147483648) (hx0 : 0 < x) (hy0 : 0 < y) :
    Calls Tryz.prog 109 #[.bool neg, nv, dv] w (Gives w fun v w' => RatAt Bs w' v neg x y) := by
  obtain ⟨⟨A, ca, rfl, h1, h2, h3⟩, h4⟩ := hn
  obtain ⟨⟨B, cb, rfl, k1, k2, k3⟩, k4⟩ := hd
  obtain ⟨ab, ao, rfl, hab, hc⟩ := h3.plain (by simp)
  obtain ⟨bb, bo, rfl, hbb, hcb⟩ := k3.plain (by simp)
  have hA : w.cell? ⟨ab, ao, none⟩ = some (.int .u64 x) := hc 0 (by simp)
  have hB : w.cell? ⟨bb, bo, none⟩ = some (.int .u64 y) := hcb 0 (by simp)
  clear hc hcb h3 h4 k3 k4
  cases neg
  all_goals
    go_enter Tryz.func109, Tryz.ntmps109
    go_wp2
    go_region
    go_wp2
    first
      | refine bodyPost_ret (v := .agg #[.int .i64 x, .int .i64 y, .pointer none]) (by simp [results, Tryz.results109, go_sem]) rfl ⟨_, rfl, .inl ⟨x, y, rfl, rfl, .inl rfl, by omega, hx, by omega, hy, fun _ => rfl⟩, below_drew (below_alloc (below_alloc (below_refl _) _) _)⟩
      | refine bodyPost_ret (v := .agg #[.int .i64 (-x), .int .i64 y, .pointer none]) (by simp [results, Tryz.results109, go_sem]) rfl ⟨_, rfl, .inl ⟨-x, y, rfl, rfl, .inl rfl, by omega, hx, by omega, hy, fun h => by omega⟩, below_drew (below_alloc (below_alloc (below_refl _) _) _)⟩

/-- The four ways in which a fraction is too great for small numbers. -/
def BigWay (w : World) (A B : Option Addr) (xs ys : List Int) : Prop :=
  ((xs.length : Int) == 1) = false ∨ (((xs.length : Int) == 1) = true ∧ ((ys.length : Int) == 1) = false) ∨
  (∃ b o x, A = some ⟨b, o, none⟩ ∧ b < w.heap.size ∧ w.cell? ⟨b, o, none⟩ = some (.int .u64 x) ∧ ((xs.length : Int) == 1) = true ∧ ((ys.length : Int) == 1) = true ∧ 2147483648 ≤ x) ∨
  (∃ b o x c p y, A = some ⟨b, o, none⟩ ∧ b < w.heap.size ∧ w.cell? ⟨b, o, none⟩ = some (.int .u64 x) ∧ B = some ⟨c, p, none⟩ ∧ c < w.heap.size ∧ w.cell? ⟨c, p, none⟩ = some (.int .u64 y) ∧ ((xs.length : Int) == 1) = true ∧ ((ys.length : Int) == 1) = true ∧ x < 2147483648 ∧ 2147483648 ≤ y)

theorem lowest_big_raw (neg : Bool) (A B : Option Addr) (ca cb : Nat) (xs ys : List Int) (w : World) (h0 : 0 < xs.length) (hy0 : 0 < ys.length) (hlen : xs.length ≤ 1099511627776) (hw : BigWay w A B xs ys) :
    Calls Tryz.prog 109 #[.bool neg, .slice A xs.length ca, .slice B ys.length cb] w (Gives w fun v w' => ∃ b, v = .agg #[.int .i64 0, .int .i64 0, .pointer (some ⟨b, 0, none⟩)] ∧ w'.heap[b]? = some (.cells #[.bool neg, .slice A xs.length ca, .slice B ys.length cb] 230 (0, 0))) := by
  have b0 : ((xs.length : Int) == 0) = false := beq_eq_false_iff_ne.2 (by omega)
  rcases hw with hw | ⟨hw1, hw2⟩ | ⟨b, o, x, rfl, hb, hc, hw1, hw2, hx⟩ | ⟨b, o, x, c, p, y, rfl, hb, hc, rfl, hcs, hc2, hw1, hw2, hx, hy⟩
  all_goals
    go_enter Tryz.func109, Tryz.ntmps109
    go_wp2
    refine bodyPost_ret (v := .agg #[.int .i64 0, .int .i64 0, .pointer (some ⟨w.heap.size + 1, 0, none⟩)]) (by simp [results, Tryz.results109, go_sem]) rfl ⟨_, rfl, ⟨w.heap.size + 1, rfl, heap_two w _ _⟩, below_alloc (below_alloc (below_refl _) _) _⟩

theorem pw_one : pw 1 = 18446744073709551616 := by rfl
theorem pw_ge {k : Nat} (h : 1 ≤ k) : 18446744073709551616 ≤ pw k := by
  obtain ⟨j, rfl⟩ : ∃ j, k = j + 1 := ⟨k - 1, by omega⟩
  rw [pw_succ]
  have := pw_pos j
  omega
theorem val_len1 {xs : List Int} (h : xs.length = 1) : xs = [el xs 0] ∧ val xs = el xs 0 := by
  match xs, h with
  | [x], _ => exact ⟨rfl, val_one x⟩

/-- The fraction with numerator and denominator in lowest terms (any two numbers of which the second is not 0). -/
theorem lowest_any (neg : Bool) (nv dv : Value) (xs ys : List Int) (w : World) (hn : Nat64 Bs w nv xs) (hd : Nat64 Bs w dv ys) (tn : Trim xs) (td : Trim ys) (hd0 : 0 < val ys) (hlen : xs.length ≤ 1099511627776) :
    Calls Tryz.prog 109 #[.bool neg, nv, dv] w (Gives w fun v w' => RatAt Bs w' v (if xs = [] then false else neg) (val xs) (if xs = [] then 1 else val ys)) := by
  by_cases hx : xs = []
  · subst hx
    refine (lowest_zero neg nv dv ys w hn hd).mono ?_
    rintro e w' h
    simpa [val_nil] using h
  rw [if_neg hx, if_neg hx]
  have hxp : 0 < xs.length := by
    rcases Nat.eq_zero_or_pos xs.length with h | h
    · exact absurd (List.eq_nil_of_length_eq_zero h) hx
    · exact h
  have hyp : 0 < ys.length := by
    rcases Nat.eq_zero_or_pos ys.length with h | h
    · rw [List.eq_nil_of_length_eq_zero h] at hd0; simp [val_nil] at hd0
    · exact h
  have hvx : 0 < val xs := by have := tn.ge hn.inw hxp; have := pw_pos (xs.length - 1); omega
  by_cases hs : xs.length = 1 ∧ ys.length = 1 ∧ val xs < 2147483648 ∧ val ys < 2147483648
  · obtain ⟨h1, h2, h3, h4⟩ := hs
    obtain ⟨e1, e2⟩ := val_len1 h1
    obtain ⟨e3, e4⟩ := val_len1 h2
    rw [e2] at h3 hvx ⊢
    rw [e4] at h4 hd0 ⊢
    exact lowest_small neg nv dv _ _ w (e1 ▸ hn) (e3 ▸ hd) h3 h4 hvx hd0
  · have hn' := hn
    have hd' := hd
    obtain ⟨⟨A, ca, rfl, h1, h2, h3⟩, h4⟩ := hn
    obtain ⟨⟨B, cb, rfl, k1, k2, k3⟩, k4⟩ := hd
    have hbig : 2147483648 ≤ val xs ∨ 2147483648 ≤ val ys := by
      by_cases hl1 : xs.length = 1
      · by_cases hl2 : ys.length = 1
        · omega
        · right
          have := td.ge k4 hyp
          have := pw_ge (k := ys.length - 1) (by omega)
          omega
      · left
        have := tn.ge h4 hxp
        have := pw_ge (k := xs.length - 1) (by omega)
        omega
    have hw : BigWay w A B xs ys := by
      unfold BigWay
      by_cases hl1 : xs.length = 1
      · by_cases hl2 : ys.length = 1
        · right; right
          obtain ⟨e1, e2⟩ := val_len1 hl1
          obtain ⟨e3, e4⟩ := val_len1 hl2
          obtain ⟨ab, ao, rfl, hab, hc⟩ := h3.plain hxp
          obtain ⟨bb, bo, rfl, hbb, hcb⟩ := k3.plain hyp
          have cA := hc 0 hxp
          have cB := hcb 0 hyp
          rw [Nat.add_zero] at cA cB
          by_cases hs1 : 2147483648 ≤ val xs
          · left
            exact ⟨ab, ao, el xs 0, rfl, hab, cA, beq_iff_eq.2 (by omega), beq_iff_eq.2 (by omega), by omega⟩
          · right
            exact ⟨ab, ao, el xs 0, bb, bo, el ys 0, rfl, hab, cA, rfl, hbb, cB, beq_iff_eq.2 (by omega), beq_iff_eq.2 (by omega), by omega, by omega⟩
        · right; left
          exact ⟨beq_iff_eq.2 (by omega), beq_eq_false_iff_ne.2 (by omega)⟩
      · left
        exact beq_eq_false_iff_ne.2 (by omega)
    refine (lowest_big_raw neg A B ca cb xs ys w hxp hyp hlen hw).mono ?_
    rintro e w' ⟨v, rfl, ⟨b, rfl, hb⟩, hB⟩
    exact ⟨_, rfl, .inr ⟨b, _, _, xs, ys, rfl, hb, hn'.below hB, hd'.below hB, tn, td, rfl, rfl, hvx, hd0, hbig⟩, hB⟩
end Go.Proofs.YtoflmheodiajaaaGreatDoor
