import Derived.Test.YtoflmheodiajaaaGreatDoorK4
import Derived.RegionTactic
import Derived.BigRegion
import Derived.ChangeAlike
namespace Go.Proofs.YtoflmheodiajaaaGreatDoor
open Go.RowKit
set_option linter.unusedVariables false
set_option linter.unusedSimpArgs false
variable {Bs : Nat}
theorem heap_two (w : World) (o1 o2 : Obj) : ((w.alloc o1).alloc o2).heap[w.heap.size + 1]? = some o2 := by
  have h := heap_alloc_new (w.alloc o1) o2
  simpa using h
def RatAt (Bs : Nat) (w : World) (v : Value) (neg : Bool) (n d : Int) : Prop :=
  (∃ p q : Int, v = .agg #[.int .i64 p, .int .i64 q, .pointer none] ∧ p = (if neg then -n else n) ∧ (q = d ∨ (q = 0 ∧ d = 1)) ∧ 0 ≤ n ∧ n < 2147483648 ∧ 1 ≤ d ∧ d < 2147483648 ∧ (n = 0 → neg = false)) ∨
  (∃ b nv dv xs ys, v = .agg #[.int .i64 0, .int .i64 0, .pointer (some ⟨b, 0, none⟩)] ∧ w.heap[b]? = some (.cells #[.bool neg, nv, dv] 230 (0, 0)) ∧
    Nat64 Bs w nv xs ∧ Nat64 Bs w dv ys ∧ Trim xs ∧ Trim ys ∧ val xs = n ∧ val ys = d ∧ 0 < n ∧ 0 < d ∧ (2147483648 ≤ n ∨ 2147483648 ≤ d))
theorem lowest_zero (neg : Bool) (nv dv : Value) (ys : List Int) (w : World) (hn : Nat64 Bs w nv []) (hd : Nat64 Bs w dv ys) :
    Calls Tryz.prog 109 #[.bool neg, nv, dv] w (Gives w fun v w' => RatAt Bs w' v false 0 1) := by
  obtain ⟨⟨A, ca, rfl, h1, h2, h3⟩, h4⟩ := hn
  obtain ⟨⟨B, cb, rfl, k1, k2, k3⟩, k4⟩ := hd
  clear h3 h4 k3 k4
  go_enter Tryz.func109, Tryz.ntmps109
  go_wp2
  refine bodyPost_ret (v := .agg #[.int .i64 0, .int .i64 0, .pointer none]) (by simp [results, Tryz.results109, go_sem]) rfl ⟨_, rfl, .inl ⟨0, 0, rfl, by simp, .inr ⟨rfl, rfl⟩, by omega, by omega, by omega, by omega, fun _ => rfl⟩, below_alloc (below_refl _) _⟩
theorem lowest_small (neg : Bool) (nv dv : Value) (x y : Int) (w : World) (hn : Nat64 Bs w nv [x]) (hd : Nat64 Bs w dv [y]) (hx : x < 2147483648) (hy : y < 2147483648) (hx0 : 0 < x) (hy0 : 0 < y) :
    Calls Tryz.prog 109 #[.bool neg, nv, dv] w (Gives w fun v w' => RatAt Bs w' v neg x y) := by
  obtain ⟨⟨A, ca, rfl, h1, h2, h3⟩, h4⟩ := hn
  obtain ⟨⟨B, cb, rfl, k1, k2, k3⟩, k4⟩ := hd
  obtain ⟨ab, ao, rfl, hab, hc⟩ := h3.plain (by simp)
  obtain ⟨bb, bo, rfl, hbb, hcb⟩ := k3.plain (by simp)
  have hA : w.cell? ⟨ab, ao, none⟩ = some (.int .u64 x) := hc 0 (by simp)
  have hB : w.cell? ⟨bb, bo, none⟩ = some (.int .u64 y) := hcb 0 (by simp)
  clear hc hcb h3 h4 k3 k4
  cases neg
  all_goals
    go_enter Tryz.func109, Tryz.ntmps109
    go_wp2
    go_region
    go_wp2
    first
      | refine bodyPost_ret (v := .agg #[.int .i64 x, .int .i64 y, .pointer none]) (by simp [results, Tryz.results109, go_sem]) rfl ⟨_, rfl, .inl ⟨x, y, rfl, rfl, .inl rfl, by omega, hx, by omega, hy, fun _ => rfl⟩, below_drew (below_alloc (below_alloc (below_refl _) _) _)⟩
      | refine bodyPost_ret (v := .agg #[.int .i64 (-x), .int .i64 y, .pointer none]) (by simp [results, Tryz.results109, go_sem]) rfl ⟨_, rfl, .inl ⟨-x, y, rfl, rfl, .inl rfl, by omega, hx, by omega, hy, fun h => by omega⟩, below_drew (below_alloc (below_alloc (below_refl _) _) _)⟩
def BigWay (w : World) (A B : Option Addr) (xs ys : List Int) : Prop :=
  ((xs.length : Int) == 1) = false ∨ (((xs.length : Int) == 1) = true ∧ ((ys.length : Int) == 1) = false) ∨
  (∃ b o x, A = some ⟨b, o, none⟩ ∧ b < w.heap.size ∧ w.cell? ⟨b, o, none⟩ = some (.int .u64 x) ∧ ((xs.length : Int) == 1) = true ∧ ((ys.length : Int) == 1) = true ∧ 2147483648 ≤ x) ∨
  (∃ b o x c p y, A = some ⟨b, o, none⟩ ∧ b < w.heap.size ∧ w.cell? ⟨b, o, none⟩ = some (.int .u64 x) ∧ B = some ⟨c, p, none⟩ ∧ c < w.heap.size ∧ w.cell? ⟨c, p, none⟩ = some (.int .u64 y) ∧ ((xs.length : Int) == 1) = true ∧ ((ys.length : Int) == 1) = true ∧ x < 2147483648 ∧ 2147483648 ≤ y)
theorem lowest_big_raw (neg : Bool) (A B : Option Addr) (ca cb : Nat) (xs ys : List Int) (w : World) (h0 : 0 < xs.length) (hy0 : 0 < ys.length) (hlen : xs.length ≤ 1099511627776) (hw : BigWay w A B xs ys) :
    Calls Tryz.prog 109 #[.bool neg, .slice A xs.length ca, .slice B ys.length cb] w (Gives w fun v w' => ∃ b, v = .agg #[.int .i64 0, .int .i64 0, .pointer (some ⟨b, 0, none⟩)] ∧ w'.heap[b]? = some (.cells #[.bool neg, .slice A xs.length ca, .slice B ys.length cb] 230 (0, 0))) := by
  have b0 : ((xs.length : Int) == 0) = false := beq_eq_false_iff_ne.2 (by omega)
  rcases hw with hw | ⟨hw1, hw2⟩ | ⟨b, o, x, rfl, hb, hc, hw1, hw2, hx⟩ | ⟨b, o, x, c, p, y, rfl, hb, hc, rfl, hcs, hc2, hw1, hw2, hx, hy⟩
  all_goals
    go_enter Tryz.func109, Tryz.ntmps109
    go_wp2
    refine bodyPost_ret (v := .agg #[.int .i64 0, .int .i64 0, .pointer (some ⟨w.heap.size + 1, 0, none⟩)]) (by simp [results, Tryz.results109, go_sem]) rfl ⟨_, rfl, ⟨w.heap.size + 1, rfl, heap_two w _ _⟩, below_alloc (below_alloc (below_refl _) _) _⟩
theorem pw_ge {k : Nat} (h : 1 ≤ k) : 18446744073709551616 ≤ pw k := by
  obtain ⟨j, rfl⟩ : ∃ j, k = j + 1 := ⟨k - 1, by omega⟩
  rw [pw_succ]
  have := pw_pos j
  omega
theorem val_len1 {xs : List Int} (h : xs.length = 1) : xs = [el xs 0] ∧ val xs = el xs 0 := by
  match xs, h with
  | [x], _ => exact ⟨rfl, val_one x⟩
theorem lowest_any (neg : Bool) (nv dv : Value) (xs ys : List Int) (w : World) (hn : Nat64 Bs w nv xs) (hd : Nat64 Bs w dv ys) (tn : Trim xs) (td : Trim ys) (hd0 : 0 < val ys) (hlen : xs.length ≤ 1099511627776) :
    Calls Tryz.prog 109 #[.bool neg, nv, dv] w (Gives w fun v w' => RatAt Bs w' v (if xs = [] then false else neg) (val xs) (if xs = [] then 1 else val ys)) := by
  by_cases hx : xs = []
  · subst hx
    refine (lowest_zero neg nv dv ys w hn hd).mono ?_
    rintro e w' h
    simpa [val_nil] using h
  rw [if_neg hx, if_neg hx]
  have hxp : 0 < xs.length := by
    rcases Nat.eq_zero_or_pos xs.length with h | h
    · exact absurd (List.eq_nil_of_length_eq_zero h) hx
    · exact h
  have hyp : 0 < ys.length := by
    rcases Nat.eq_zero_or_pos ys.length with h | h
    · rw [List.eq_nil_of_length_eq_zero h] at hd0; simp [val_nil] at hd0
    · exact h
  have hvx : 0 < val xs := by have := tn.ge hn.inw hxp; have := pw_pos (xs.length - 1); omega
  by_cases hs : xs.length = 1 ∧ ys.length = 1 ∧ val xs < 2147483648 ∧ val ys < 2147483648
  · obtain ⟨h1, h2, h3, h4⟩ := hs
    obtain ⟨e1, e2⟩ := val_len1 h1
    obtain ⟨e3, e4⟩ := val_len1 h2
    rw [e2] at h3 hvx ⊢
    rw [e4] at h4 hd0 ⊢
    exact lowest_small neg nv dv _ _ w (e1 ▸ hn) (e3 ▸ hd) h3 h4 hvx hd0
  · have hn' := hn
    have hd' := hd
    obtain ⟨⟨A, ca, rfl, h1, h2, h3⟩, h4⟩ := hn
    obtain ⟨⟨B, cb, rfl, k1, k2, k3⟩, k4⟩ := hd
    have hbig : 2147483648 ≤ val xs ∨ 2147483648 ≤ val ys := by
      by_cases hl1 : xs.length = 1
      · by_cases hl2 : ys.length = 1
        · omega
        · right
          have := td.ge k4 hyp
          have := pw_ge (k := ys.length - 1) (by omega)
          omega
      · left
        have := tn.ge h4 hxp
        have := pw_ge (k := xs.length - 1) (by omega)
        omega
    have hw : BigWay w A B xs ys := by
      unfold BigWay
      by_cases hl1 : xs.length = 1
      · by_cases hl2 : ys.length = 1
        · right; right
          obtain ⟨e1, e2⟩ := val_len1 hl1
          obtain ⟨e3, e4⟩ := val_len1 hl2
          obtain ⟨ab, ao, rfl, hab, hc⟩ := h3.plain hxp
          obtain ⟨bb, bo, rfl, hbb, hcb⟩ := k3.plain hyp
          have cA := hc 0 hxp
          have cB := hcb 0 hyp
          rw [Nat.add_zero] at cA cB
          by_cases hs1 : 2147483648 ≤ val xs
          · left
            exact ⟨ab, ao, el xs 0, rfl, hab, cA, beq_iff_eq.2 (by omega), beq_iff_eq.2 (by omega), by omega⟩
          · right
            exact ⟨ab, ao, el xs 0, bb, bo, el ys 0, rfl, hab, cA, rfl, hbb, cB, beq_iff_eq.2 (by omega), beq_iff_eq.2 (by omega), by omega, by omega⟩
        · right; left
          exact ⟨beq_iff_eq.2 (by omega), beq_eq_false_iff_ne.2 (by omega)⟩
      · left
        exact beq_eq_false_iff_ne.2 (by omega)
    refine (lowest_big_raw neg A B ca cb xs ys w hxp hyp hlen hw).mono ?_
    rintro e w' ⟨v, rfl, ⟨b, rfl, hb⟩, hB⟩
    exact ⟨_, rfl, .inr ⟨b, _, _, xs, ys, rfl, hb, hn'.below hB, hd'.below hB, tn, td, rfl, rfl, hvx, hd0, hbig⟩, hB⟩
end Go.Proofs.YtoflmheodiajaaaGreatDoor
namespace Go.Proofs.YtoflmheodiajaaaGreatDoor
open Go.RowKit
set_option linter.unusedVariables false
set_option linter.unusedSimpArgs false
theorem heap_setCell {w : World} {g i : Nat} {cs : Array Value} {t : TypeId} {fr : Nat × Nat} (hg : w.heap[g]? = some (.cells cs t fr)) (v : Value) :
    (w.setCell ⟨g, i, none⟩ v).heap[g]? = some (.cells (cs.setIfInBounds i v) t fr) := by
  unfold World.setCell
  simp [Array.getElem?_modify, hg]
theorem box_heap {w w1 : World} {o : Obj} (hb : Below (w.alloc o).heap.size (w.alloc o) w1) : w1.heap[w.heap.size]? = some o := by
  rw [hb.block w.heap.size (by simp)]
  exact heap_alloc_new w o
theorem Keeps.set3 {Bs : Nat} {T : List TypeId} {w : World} {g : Nat} {cs : Array Value} {t : TypeId} {fr : Nat × Nat} (hg : w.heap[g]? = some (.cells cs t fr)) (hB : Bs ≤ g) (ht : t ∉ T) (a b c : Value) :
    Keeps Bs T w (((w.setCell ⟨g, 0, none⟩ a).setCell ⟨g, 1, none⟩ b).setCell ⟨g, 2, none⟩ c) :=
  ((Keeps.setCell hg hB ht a).trans (Keeps.setCell (heap_setCell hg a) hB ht b)).trans (Keeps.setCell (heap_setCell (heap_setCell hg a) b) hB ht c)
theorem below_set3 {B : Nat} {w w1 : World} {g : Nat} (h : Below B w w1) (hg : B ≤ g) (a b c : Value) :
    Below B w (((w1.setCell ⟨g, 0, none⟩ a).setCell ⟨g, 1, none⟩ b).setCell ⟨g, 2, none⟩ c) :=
  ((h.setCell (p := ⟨g, 0, none⟩) hg a).setCell (p := ⟨g, 1, none⟩) hg b).setCell (p := ⟨g, 2, none⟩) hg c
end Go.Proofs.YtoflmheodiajaaaGreatDoor
namespace Go.Proofs.YtoflmheodiajaaaGreatDoor
open Go.RowKit
set_option linter.unusedVariables false
set_option linter.unusedSimpArgs false
variable {Bs : Nat}
abbrev one1 : ByteArray := { data := #[49] }
theorem bt_one : bt one1 0 = 49 := by decide
theorem plain_one : plainS one1 = true := by
  have h : digitsFrom one1 0 = true := by
    unfold digitsFrom
    rw [decide_eq_true_iff]
    intro i hi _
    have : i = 0 := by have : one1.size = 1 := rfl; omega
    subst this
    rw [bt_one]; omega
  unfold plainS
  rw [h, bt_one]
  rfl
theorem digits_one : isDigits one1 := by
  intro i hi
  have : i = 0 := by have : one1.size = 1 := rfl; omega
  subst this
  rw [bt_one]; omega
theorem dval_one : dval one1 = 1 := by
  have : one1.size = 1 := rfl
  unfold dval
  rw [this]
  simp only [dch, Nat.zero_add]
  rw [bt_one]
  rfl
def isZero (t : ByteArray) : Bool := t.toList == [48]
def ofOk (neg : Bool) (t : ByteArray) : Bool := plainS t && !(neg && isZero t)
theorem plain_digits {t : ByteArray} (h : plainS t = true) : isDigits t := by
  unfold plainS at h
  simp only [Bool.and_eq_true] at h
  exact isDigits_of t h.2
theorem dval_nonneg {t : ByteArray} (h : isDigits t) : 0 ≤ dval t := (dch_range h 0 t.size (by omega)).1
theorem RatAt.shape {w : World} {v : Value} {neg : Bool} {n d : Int} (h : RatAt Bs w v neg n d) : ∃ p q a, v = .agg #[.int .i64 p, .int .i64 q, .pointer a] := by
  rcases h with ⟨p, q, rfl, _⟩ | ⟨b, nv, dv, xs, ys, rfl, _⟩
  · exact ⟨_, _, _, rfl⟩
  · exact ⟨_, _, _, rfl⟩
theorem Nat64.keeps {w w1 : World} {v : Value} {xs : List Int} {T : List TypeId} (h : Nat64 Bs w v xs) (hk : Keeps Bs T w w1) (hT : 191 ∈ T) : Nat64 Bs w1 v xs := by
  obtain ⟨⟨A, c, e, h1, h2, h3⟩, h4⟩ := h
  exact ⟨⟨A, c, e, h1, h2, h3.keeps (hk.sub (by simpa using hT))⟩, h4⟩
theorem RatAt.keeps {w w1 : World} {v : Value} {neg : Bool} {n d : Int} {T : List TypeId} (h : RatAt Bs w v neg n d) (hk : Keeps Bs T w w1) (hT : 191 ∈ T) (hT2 : 230 ∈ T) : RatAt Bs w1 v neg n d := by
  rcases h with h | ⟨b, nv, dv, xs, ys, e, hb, h1, h2, h3⟩
  · exact .inl h
  · exact .inr ⟨b, nv, dv, xs, ys, e, hk b _ _ _ hb (.inr hT2), h1.keeps hk hT, h2.keeps hk hT, h3⟩
def OfPost (Bs : Nat) (neg : Bool) (t : ByteArray) (v : Value) (w' : World) : Prop :=
  ∃ r, v = .tuple #[r, .bool (ofOk neg t)] ∧ (ofOk neg t = false → r = .agg #[.int .i64 0, .int .i64 0, .pointer none]) ∧
    (ofOk neg t = true → RatAt Bs w' r (if dval t = 0 then false else neg) (dval t) 1)
theorem of_end {w' : World} {r : Value} {neg : Bool} {t : ByteArray} {xs ys : List Int} (hok : ofOk neg t = true) (hv : val xs = dval t) (ht : Trim xs) (hw : InW xs) (hy : val ys = dval one1)
    (h : RatAt Bs w' r (if xs = [] then false else neg) (val xs) (if xs = [] then 1 else val ys)) : OfPost Bs neg t (.tuple #[r, .bool true]) w' := by
  refine ⟨r, by rw [hok], (fun h => by rw [hok] at h; cases h), fun _ => ?_⟩
  have hz := ht.zero hw
  rw [hy, dval_one, hv] at h
  by_cases hx : xs = []
  · have hd : dval t = 0 := by rw [← hv]; exact hz.2 hx
    rw [if_pos hx, if_pos hx] at h
    rw [if_pos hd]; exact h
  · have hd : dval t ≠ 0 := fun h' => hx (hz.1 (by rw [hv]; exact h'))
    rw [if_neg hx, if_neg hx] at h
    rw [if_neg hd]; exact h
def OfRel (T : ByteArray) (a b c i : Value) : Prop := a = .string T ∧ b = .string one1 ∧ c = .bool false ∧ ∃ k : Nat, k ≤ T.size ∧ i = .int .i64 k
set_option maxRecDepth 100000 in
set_option maxHeartbeats 1000000 in
theorem of_nat (T : ByteArray) (w : World) (hBs : Bs ≤ w.heap.size) (hs : T.size ≤ 536870911) (hnos : ∀ i, i < T.size → bt T i ≠ 47) (h45 : (bt T 0 == 45) = false) (hp : 0 < T.size) :
    Calls Tryz.prog 80 #[.string T] w (Gives w fun v w' => OfPost Bs false T v w') := by
    have HNS := Lib.hid hnos
    clear hnos
    have hb := bt_at T 0 hp
    have hT2 : T.size ≤ 9223372036854775807 := by omega
    go_enter Tryz.func80, Tryz.ntmps80
    go_wp2_with fail
    go_loop [6, 7, 8, 9, 26] (fun a b c _ i => OfRel T a b c i) (fun _ _ _ _ i => T.size - (intOf i).toNat)
    case atStart => exact ⟨rfl, rfl, rfl, 0, Nat.zero_le _, rfl⟩
    case round =>
      obtain ⟨rfl, rfl, rfl, k, hk, rfl⟩ := hrel
      by_cases hlt : k < T.size
      · have hbk := bt_at T k hlt
        have h47 : (bt T k == 47) = false := beq_eq_false_iff_ne.2 (HNS.out k hlt)
        go_wp2_with fail
        go_round
        case rel => exact ⟨rfl, rfl, rfl, k + 1, by omega, by go_num⟩
        case measure => simp [intOf]; omega
      · obtain rfl : T.size = k := by omega
        cases hP : plainS T
        · have HP := Lib.hid hP
          have HOK := Lib.hid (show ofOk false T = false by simp [ofOk, hP])
          clear hP
          go_wp2_with fail
          refine (plain_any T _ hT2).mono ?_
          rw [HP.out]
          rintro e w' ⟨rfl, rfl⟩
          go_wp2_with fail
          refine bodyPost_ret (v := .tuple #[.agg #[.int .i64 0, .int .i64 0, .pointer none], .bool false]) (by simp [results, Tryz.results80, go_sem]) rfl ⟨_, rfl, ⟨_, by rw [HOK.out], fun _ => rfl, (fun h => by rw [HOK.out] at h; cases h)⟩, below_alloc (below_refl _) _⟩
        · have HP := Lib.hid hP
          clear hP
          go_wp2_with fail
          refine (plain_any T _ hT2).mono ?_
          rw [HP.out]
          rintro e w' ⟨rfl, rfl⟩
          go_wp2_with fail
          refine (plain_any one1 _ (by have : one1.size = 1 := rfl; omega)).mono ?_
          rw [plain_one]
          rintro e w' ⟨rfl, rfl⟩
          have HOK := Lib.hid (show ofOk false T = true by simp [ofOk, HP.out])
          go_wp2_with fail
          refine (digits_any (Bs := Bs) T _ (by omega) (plain_digits HP.out)).mono ?_
          rintro e w2 ⟨v1, rfl, ⟨xs, hx1, hx2, hx3, hx4⟩, hB2⟩
          have H1 := Lib.hid hx1
          have H2 := Lib.hid hx2
          have H3 := Lib.hid hx3
          have HB2 := Lib.hid hB2
          clear hx1 hx2 hx3 hB2
          go_wp2_with fail
          refine (digits_any (Bs := Bs) one1 _ (by have : one1.size = 1 := rfl; omega) digits_one).mono ?_
          rintro e w3 ⟨v2, rfl, ⟨ys, hy1, hy2, hy3, hy4⟩, hB3⟩
          have K1 := Lib.hid hy1
          have K2 := Lib.hid hy2
          have K3 := Lib.hid hy3
          have HB3 := Lib.hid hB3
          clear hy1 hy2 hy3 hB3
          go_wp2_with fail
          refine (lowest_any _ _ _ xs ys _ (H1.out.below HB3.out) K1.out H3.out K3.out (by rw [K2.out, dval_one]; omega) (by omega)).mono ?_
          rintro e w4 ⟨r, rfl, hr, hB4⟩
          obtain ⟨p, q, a, rfl⟩ := hr.shape
          have HR := Lib.hid hr
          have hbl := below_then (below_then HB2.out HB2.out.size HB3.out) (Nat.le_trans HB2.out.size HB3.out.size) hB4
          obtain ⟨hc, hf, hsz⟩ := box_kept hbl
          have c0 := hc 0
          have c1 := hc 1
          have c2 := hc 2
          have f0 := hf 0
          have f1 := hf 1
          have f2 := hf 2
          have HB4 := Lib.hid hbl
          clear hr hB4 hbl hc hf
          go_wp2
          refine bodyPost_ret (v := .tuple #[.agg #[.int .i64 p, .int .i64 q, .pointer a], .bool true]) (by simp [results, Tryz.results80, go_sem, c0, c1, c2, hsz]) rfl ⟨_, rfl, of_end HOK.out H2.out H3.out H1.out.inw K2.out ?_, below_set3 (below_then (below_alloc (below_refl _) _) (by simp) HB4.out) (Nat.le_refl _) _ _ _⟩
          exact (HR.out).keeps (T := [191, 230]) (Keeps.set3 (box_heap HB4.out) hBs (by decide) _ _ _) (by simp) (by simp)
set_option maxRecDepth 100000 in
set_option maxHeartbeats 1000000 in
theorem of_neg (s T : ByteArray) (w : World) (hBs : Bs ≤ w.heap.size) (hs : T.size ≤ 536870911) (hnos : ∀ i, i < T.size → bt T i ≠ 47) (h45 : (bt s 0 == 45) = true) (hp : 0 < s.size) (hss : s.size ≤ 536870911) (hTe : s.extract 1 s.size = T) :
    Calls Tryz.prog 80 #[.string s] w (Gives w fun v w' => OfPost Bs true T v w') := by
    have HNS := Lib.hid hnos
    clear hnos
    have hb := bt_at s 0 hp
    have hT2 : T.size ≤ 9223372036854775807 := by omega
    go_enter Tryz.func80, Tryz.ntmps80
    go_wp2_with fail
    go_loop [6, 7, 8, 9, 26] (fun a b c _ i => OfRel T a b c i) (fun _ _ _ _ i => T.size - (intOf i).toNat)
    case atStart => exact ⟨rfl, rfl, rfl, 0, Nat.zero_le _, rfl⟩
    case round =>
      obtain ⟨rfl, rfl, rfl, k, hk, rfl⟩ := hrel
      by_cases hlt : k < T.size
      · have hbk := bt_at T k hlt
        have h47 : (bt T k == 47) = false := beq_eq_false_iff_ne.2 (HNS.out k hlt)
        go_wp2_with fail
        go_round
        case rel => exact ⟨rfl, rfl, rfl, k + 1, by omega, by go_num⟩
        case measure => simp [intOf]; omega
      · obtain rfl : T.size = k := by omega
        cases hP : plainS T
        · have HP := Lib.hid hP
          have HOK := Lib.hid (show ofOk true T = false by simp [ofOk, hP])
          clear hP
          go_wp2_with fail
          refine (plain_any T _ hT2).mono ?_
          rw [HP.out]
          rintro e w' ⟨rfl, rfl⟩
          go_wp2_with fail
          refine bodyPost_ret (v := .tuple #[.agg #[.int .i64 0, .int .i64 0, .pointer none], .bool false]) (by simp [results, Tryz.results80, go_sem]) rfl ⟨_, rfl, ⟨_, by rw [HOK.out], fun _ => rfl, (fun h => by rw [HOK.out] at h; cases h)⟩, below_alloc (below_refl _) _⟩
        · have HP := Lib.hid hP
          clear hP
          go_wp2_with fail
          refine (plain_any T _ hT2).mono ?_
          rw [HP.out]
          rintro e w' ⟨rfl, rfl⟩
          go_wp2_with fail
          refine (plain_any one1 _ (by have : one1.size = 1 := rfl; omega)).mono ?_
          rw [plain_one]
          rintro e w' ⟨rfl, rfl⟩
          cases hz : (T.toList == [48])
          case true =>
            have HOK := Lib.hid (show ofOk true T = false by simp only [ofOk, isZero, hz]; simp)
            go_wp2_with fail
            refine bodyPost_ret (v := .tuple #[.agg #[.int .i64 0, .int .i64 0, .pointer none], .bool false]) (by simp [results, Tryz.results80, go_sem]) rfl ⟨_, rfl, ⟨_, by rw [HOK.out], fun _ => rfl, (fun h => by rw [HOK.out] at h; cases h)⟩, below_alloc (below_refl _) _⟩
          have HOK := Lib.hid (show ofOk true T = true by simp only [ofOk, isZero, hz, HP.out]; simp)
          go_wp2_with fail
          refine (digits_any (Bs := Bs) T _ (by omega) (plain_digits HP.out)).mono ?_
          rintro e w2 ⟨v1, rfl, ⟨xs, hx1, hx2, hx3, hx4⟩, hB2⟩
          have H1 := Lib.hid hx1
          have H2 := Lib.hid hx2
          have H3 := Lib.hid hx3
          have HB2 := Lib.hid hB2
          clear hx1 hx2 hx3 hB2
          go_wp2_with fail
          refine (digits_any (Bs := Bs) one1 _ (by have : one1.size = 1 := rfl; omega) digits_one).mono ?_
          rintro e w3 ⟨v2, rfl, ⟨ys, hy1, hy2, hy3, hy4⟩, hB3⟩
          have K1 := Lib.hid hy1
          have K2 := Lib.hid hy2
          have K3 := Lib.hid hy3
          have HB3 := Lib.hid hB3
          clear hy1 hy2 hy3 hB3
          go_wp2_with fail
          refine (lowest_any _ _ _ xs ys _ (H1.out.below HB3.out) K1.out H3.out K3.out (by rw [K2.out, dval_one]; omega) (by omega)).mono ?_
          rintro e w4 ⟨r, rfl, hr, hB4⟩
          obtain ⟨p, q, a, rfl⟩ := hr.shape
          have HR := Lib.hid hr
          have hbl := below_then (below_then HB2.out HB2.out.size HB3.out) (Nat.le_trans HB2.out.size HB3.out.size) hB4
          obtain ⟨hc, hf, hsz⟩ := box_kept hbl
          have c0 := hc 0
          have c1 := hc 1
          have c2 := hc 2
          have f0 := hf 0
          have f1 := hf 1
          have f2 := hf 2
          have HB4 := Lib.hid hbl
          clear hr hB4 hbl hc hf
          go_wp2
          refine bodyPost_ret (v := .tuple #[.agg #[.int .i64 p, .int .i64 q, .pointer a], .bool true]) (by simp [results, Tryz.results80, go_sem, c0, c1, c2, hsz]) rfl ⟨_, rfl, of_end HOK.out H2.out H3.out H1.out.inw K2.out ?_, below_set3 (below_then (below_alloc (below_refl _) _) (by simp) HB4.out) (Nat.le_refl _) _ _ _⟩
          exact (HR.out).keeps (T := [191, 230]) (Keeps.set3 (box_heap HB4.out) hBs (by decide) _ _ _) (by simp) (by simp)
theorem of_empty (s : ByteArray) (w : World) (h0 : s.size = 0) :
    Calls Tryz.prog 80 #[.string s] w (Gives w fun v w' => OfPost Bs false s v w') := by
    have HP := Lib.hid (show plainS s = false by simp [plainS, h0])
    have HOK := Lib.hid (show ofOk false s = false by simp [ofOk, HP.out])
    have hs0 : ¬ (0 < s.size) := by omega
    have hs1 : s.size ≤ 9223372036854775807 := by omega
    clear h0
    go_enter Tryz.func80, Tryz.ntmps80
    go_wp2_with fail
    go_loop [6, 7, 8, 9, 26] (fun a b c _ i => OfRel s a b c i) (fun _ _ _ _ i => s.size - (intOf i).toNat)
    case atStart => exact ⟨rfl, rfl, rfl, 0, Nat.zero_le _, rfl⟩
    case round =>
      obtain ⟨rfl, rfl, rfl, k, hk, rfl⟩ := hrel
      have hlt : ¬ (k < s.size) := by omega
      go_wp2_with fail
      refine (plain_any s _ hs1).mono ?_
      rw [HP.out]
      rintro e w' ⟨rfl, rfl⟩
      go_wp2_with fail
      refine bodyPost_ret (v := .tuple #[.agg #[.int .i64 0, .int .i64 0, .pointer none], .bool false]) (by simp [results, Tryz.results80, go_sem]) rfl ⟨_, rfl, ⟨_, by rw [HOK.out], fun _ => rfl, (fun h => by rw [HOK.out] at h; cases h)⟩, below_alloc (below_refl _) _⟩
def ofNeg (s : ByteArray) : Bool := decide (0 < s.size) && (bt s 0 == 45)
def ofTail (s : ByteArray) : ByteArray := if ofNeg s then s.extract 1 s.size else s
theorem of_int (s : ByteArray) (w : World) (hBs : Bs ≤ w.heap.size) (hs : s.size ≤ 536870911) (hnos : ∀ i, i < s.size → bt s i ≠ 47) :
    Calls Tryz.prog 80 #[.string s] w (Gives w fun v w' => OfPost Bs (ofNeg s) (ofTail s) v w') := by
  by_cases h0 : s.size = 0
  · have e : ofNeg s = false := by simp [ofNeg, h0]
    have e2 : ofTail s = s := by simp [ofTail, e]
    rw [e, e2]
    exact of_empty s w h0
  · cases hb : (bt s 0 == 45)
    · have e : ofNeg s = false := by simp [ofNeg, hb]
      have e2 : ofTail s = s := by simp [ofTail, e]
      rw [e, e2]
      exact of_nat s w hBs hs hnos hb (by omega)
    · have e : ofNeg s = true := by
        have : 0 < s.size := by omega
        simp [ofNeg, hb, this]
      have e2 : ofTail s = s.extract 1 s.size := by simp [ofTail, e]
      rw [e, e2]
      exact of_neg s _ w hBs (by simp; omega) (fun i hi => by
        have hi' : i < s.size - 1 := by simpa using hi
        rw [bt_extract s 1 i (by omega)]; exact hnos _ (by omega)) hb (by omega) hs rfl
end Go.Proofs.YtoflmheodiajaaaGreatDoor
