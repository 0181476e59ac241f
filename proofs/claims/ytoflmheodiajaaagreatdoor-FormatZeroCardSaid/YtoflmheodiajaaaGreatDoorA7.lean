/- num.Of at texts without a slash: what it returns. -/
import Derived.Test.YtoflmheodiajaaaGreatDoorA6
import Derived.Test.YtoflmheodiajaaaGreatDoorB0
namespace Go.Proofs.YtoflmheodiajaaaGreatDoor
open Go.RowKit
set_option linter.unusedVariables false
set_option linter.unusedSimpArgs false
variable {Bs : Nat}

abbrev one1 : ByteArray := { data := #[49] }
theorem bt_one : bt one1 0 = 49 := by decide
theorem plain_one : plainS one1 = true := by
  have h : digitsFrom one1 0 = true := by
    unfold digitsFrom
    rw [decide_eq_true_iff]
    intro i hi _
    have : i = 0 := by have : one1.size = 1 := rfl; omega
    subst this
    rw [bt_one]; omega
  unfold plainS
  rw [h, bt_one]
  rfl
theorem digits_one : isDigits one1 := by
  intro i hi
  have : i = 0 := by have : one1.size = 1 := rfl; omega
  subst this
  rw [bt_one]; omega
theorem dval_one : dval one1 = 1 := by
  have : one1.size = 1 := rfl
  unfold dval
  rw [this]
  simp only [dch, Nat.zero_add]
  rw [bt_one]
  rfl
def isZero (t : ByteArray) : Bool := t.toList == [48]
def ofOk (neg : Bool) (t : ByteArray) : Bool := plainS t && !(neg && isZero t)
theorem plain_digits {t : ByteArray} (h : plainS t = true) : isDigits t := by
  unfold plainS at h
  simp only [Bool.and_eq_true] at h
  exact isDigits_of t h.2
theorem dval_nonneg {t : ByteArray} (h : isDigits t) : 0 ≤ dval t := (dch_range h 0 t.size (by omega)).1

theorem RatAt.shape {w : World} {v : Value} {neg : Bool} {n d : Int} (h : RatAt Bs w v neg n d) : ∃ p q a, v = .agg #[.int .i64 p, .int .i64 q, .pointer a] := by
  rcases h with ⟨p, q, rfl, _⟩ | ⟨b, nv, dv, xs, ys, rfl, _⟩
  · exact ⟨_, _, _, rfl⟩
  · exact ⟨_, _, _, rfl⟩
theorem Nat64.keeps {w w1 : World} {v : Value} {xs : List Int} {T : List TypeId} (h : Nat64 Bs w v xs) (hk : Keeps Bs T w w1) (hT : 191 ∈ T) : Nat64 Bs w1 v xs := by
  obtain ⟨⟨A, c, e, h1, h2, h3⟩, h4⟩ := h
  exact ⟨⟨A, c, e, h1, h2, h3.keeps (hk.sub (by simpa using hT))⟩, h4⟩
theorem RatAt.keeps {w w1 : World} {v : Value} {neg : Bool} {n d : Int} {T : List TypeId} (h : RatAt Bs w v neg n d) (hk : Keeps Bs T w w1) (hT : 191 ∈ T) (hT2 : 230 ∈ T) : RatAt Bs w1 v neg n d := by
  rcases h with h | ⟨b, nv, dv, xs, ys, e, hb, h1, h2, h3⟩
  · exact .inl h
  · exact .inr ⟨b, nv, dv, xs, ys, e, hk b _ _ _ hb (.inr hT2), h1.keeps hk hT, h2.keeps hk hT, h3⟩
theorem RatAt.below {w w1 : World} {v : Value} {neg : Bool} {n d : Int} (h : RatAt Bs w v neg n d) (hb : Below w.heap.size w w1) : RatAt Bs w1 v neg n d :=
  h.keeps (T := [191, 230]) (Keeps.of_below hb) (by simp) (by simp)
/-- What Of returns at such a text. -/
def OfPost (Bs : Nat) (neg : Bool) (t : ByteArray) (v : Value) (w' : World) : Prop :=
  ∃ r, v = .tuple #[r, .bool (ofOk neg t)] ∧ (ofOk neg t = false → r = .agg #[.int .i64 0, .int .i64 0, .pointer none]) ∧
    (ofOk neg t = true → RatAt Bs w' r (if dval t = 0 then false else neg) (dval t) 1)

theorem of_end {w' : World} {r : Value} {neg : Bool} {t : ByteArray} {xs ys : List Int} (hok : ofOk neg t = true) (hv : val xs = dval t) (ht : Trim xs) (hw : InW xs) (hy : val ys = dval one1)
    (h : RatAt Bs w' r (if xs = [] then false else neg) (val xs) (if xs = [] then 1 else val ys)) : OfPost Bs neg t (.tuple #[r, .bool true]) w' := by
  refine ⟨r, by rw [hok], (fun h => by rw [hok] at h; cases h), fun _ => ?_⟩
  have hz := ht.zero hw
  rw [hy, dval_one, hv] at h
  by_cases hx : xs = []
  · have hd : dval t = 0 := by rw [← hv]; exact hz.2 hx
    rw [if_pos hx, if_pos hx] at h
    rw [if_pos hd]; exact h
  · have hd : dval t ≠ 0 := fun h' => hx (hz.1 (by rw [hv]; exact h'))
    rw [if_neg hx, if_neg hx] at h
    rw [if_neg hd]; exact h

/-- Behind k bytes without a slash. -/
def OfRel (T : ByteArray) (a b c i : Value) : Prop := a = .string T ∧ b = .string one1 ∧ c = .bool false ∧ ∃ k : Nat, k ≤ T.size ∧ i = .int .i64 k
set_option maxRecDepth 100000 in
set_option maxHeartbeats 1000000 in
theorem of_nat (T : ByteArray) (w : World) (hBs : Bs ≤ w.heap.size) (hs : T.size ≤ 536870911) (hnos : ∀ i, i < T.size → bt T i ≠ 47) (h45 : (bt T 0 == 45) = false) (hp : 0 < T.size) :
    Calls Tryz.prog 80 #[.string T] w (Gives w fun v w' => OfPost Bs false T v w') := by
    have HNS := Lib.hid hnos
    clear hnos
    have hb := bt_at T 0 hp
    have hT2 : T.size ≤ 9223372036854775807 := by omega
    go_enter Tryz.func80, Tryz.ntmps80
    go_wp2_with fail
    go_loop [6, 7, 8, 9, 26] (fun a b c _ i => OfRel T a b c i) (fun _ _ _ _ i => T.size - (intOf i).toNat)
    case atStart => exact ⟨rfl, rfl, rfl, 0, Nat.zero_le _, rfl⟩
    case round =>
      obtain ⟨rfl, rfl, rfl, k, hk, rfl⟩ := hrel
      by_cases hlt : k < T.size
      · have hbk := bt_at T k hlt
        have h47 : (bt T k == 47) = false := beq_eq_false_iff_ne.2 (HNS.out k hlt)
        go_wp2_with fail
        go_round
        case rel => exact ⟨rfl, rfl, rfl, k + 1, by omega, by go_num⟩
        case measure => simp [intOf]; omega
      · obtain rfl : T.size = k := by omega
        cases hP : plainS T
        · have HP := Lib.hid hP
          have HOK := Lib.hid (show ofOk false T = false by simp [ofOk, hP])
          clear hP
          go_wp2_with fail
          refine (plain_any T _ hT2).mono ?_
          rw [HP.out]
          rintro e w' ⟨rfl, rfl⟩
          go_wp2_with fail
          refine bodyPost_ret (v := .tuple #[.agg #[.int .i64 0, .int .i64 0, .pointer none], .bool false]) (by simp [results, Tryz.results80, go_sem]) rfl ⟨_, rfl, ⟨_, by rw [HOK.out], fun _ => rfl, (fun h => by rw [HOK.out] at h; cases h)⟩, below_alloc (below_refl _) _⟩
        · have HP := Lib.hid hP
          clear hP
          go_wp2_with fail
          refine (plain_any T _ hT2).mono ?_
          rw [HP.out]
          rintro e w' ⟨rfl, rfl⟩
          go_wp2_with fail
          refine (plain_any one1 _ (by have : one1.size = 1 := rfl; omega)).mono ?_
          rw [plain_one]
          rintro e w' ⟨rfl, rfl⟩
          have HOK := Lib.hid (show ofOk false T = true by simp [ofOk, HP.out])
          go_wp2_with fail
          refine (digits_any (Bs := Bs) T _ (by omega) (plain_digits HP.out)).mono ?_
          rintro e w2 ⟨v1, rfl, ⟨xs, hx1, hx2, hx3, hx4⟩, hB2⟩
          have H1 := Lib.hid hx1
          have H2 := Lib.hid hx2
          have H3 := Lib.hid hx3
          have HB2 := Lib.hid hB2
          clear hx1 hx2 hx3 hB2
          go_wp2_with fail
          refine (digits_any (Bs := Bs) one1 _ (by have : one1.size = 1 := rfl; omega) digits_one).mono ?_
          rintro e w3 ⟨v2, rfl, ⟨ys, hy1, hy2, hy3, hy4⟩, hB3⟩
          have K1 := Lib.hid hy1
          have K2 := Lib.hid hy2
          have K3 := Lib.hid hy3
          have HB3 := Lib.hid hB3
          clear hy1 hy2 hy3 hB3
          go_wp2_with fail
          refine (lowest_any _ _ _ xs ys _ (H1.out.below HB3.out) K1.out H3.out K3.out (by rw [K2.out, dval_one]; omega) (by omega)).mono ?_
          rintro e w4 ⟨r, rfl, hr, hB4⟩
          obtain ⟨p, q, a, rfl⟩ := hr.shape
          have HR := Lib.hid hr
          have hbl := below_then (below_then HB2.out HB2.out.size HB3.out) (Nat.le_trans HB2.out.size HB3.out.size) hB4
          obtain ⟨hc, hf, hsz⟩ := box_kept hbl
          have c0 := hc 0
          have c1 := hc 1
          have c2 := hc 2
          have f0 := hf 0
          have f1 := hf 1
          have f2 := hf 2
          have HB4 := Lib.hid hbl
          clear hr hB4 hbl hc hf
          go_wp2
          refine bodyPost_ret (v := .tuple #[.agg #[.int .i64 p, .int .i64 q, .pointer a], .bool true]) (by simp [results, Tryz.results80, go_sem, c0, c1, c2, hsz]) rfl ⟨_, rfl, of_end HOK.out H2.out H3.out H1.out.inw K2.out ?_, below_set3 (below_then (below_alloc (below_refl _) _) (by simp) HB4.out) (Nat.le_refl _) _ _ _⟩
          exact (HR.out).keeps (T := [191, 230]) (Keeps.set3 (box_heap HB4.out) hBs (by decide) _ _ _) (by simp) (by simp)
set_option maxRecDepth 100000 in
set_option maxHeartbeats 1000000 in
theorem of_neg (s T : ByteArray) (w : World) (hBs : Bs ≤ w.heap.size) (hs : T.size ≤ 536870911) (hnos : ∀ i, i < T.size → bt T i ≠ 47) (h45 : (bt s 0 == 45) = true) (hp : 0 < s.size) (hss : s.size ≤ 536870911) (hTe : s.extract 1 s.size = T) :
    Calls Tryz.prog 80 #[.string s] w (Gives w fun v w' => OfPost Bs true T v w') := by
    have HNS := Lib.hid hnos
    clear hnos
    have hb := bt_at s 0 hp
    have hT2 : T.size ≤ 9223372036854775807 := by omega
    go_enter Tryz.func80, Tryz.ntmps80
    go_wp2_with fail
    go_loop [6, 7, 8, 9, 26] (fun a b c _ i => OfRel T a b c i) (fun _ _ _ _ i => T.size - (intOf i).toNat)
    case atStart => exact ⟨rfl, rfl, rfl, 0, Nat.zero_le _, rfl⟩
    case round =>
      obtain ⟨rfl, rfl, rfl, k, hk, rfl⟩ := hrel
      by_cases hlt : k < T.size
      · have hbk := bt_at T k hlt
        have h47 : (bt T k == 47) = false := beq_eq_false_iff_ne.2 (HNS.out k hlt)
        go_wp2_with fail
        go_round
        case rel => exact ⟨rfl, rfl, rfl, k + 1, by omega, by go_num⟩
        case measure => simp [intOf]; omega
      · obtain rfl : T.size = k := by omega
        cases hP : plainS T
        · have HP := Lib.hid hP
          have HOK := Lib.hid (show ofOk true T = false by simp [ofOk, hP])
          clear hP
          go_wp2_with fail
          refine (plain_any T _ hT2).mono ?_
          rw [HP.out]
          rintro e w' ⟨rfl, rfl⟩
          go_wp2_with fail
          refine bodyPost_ret (v := .tuple #[.agg #[.int .i64 0, .int .i64 0, .pointer none], .bool false]) (by simp [results, Tryz.results80, go_sem]) rfl ⟨_, rfl, ⟨_, by rw [HOK.out], fun _ => rfl, (fun h => by rw [HOK.out] at h; cases h)⟩, below_alloc (below_refl _) _⟩
        · have HP := Lib.hid hP
          clear hP
          go_wp2_with fail
          refine (plain_any T _ hT2).mono ?_
          rw [HP.out]
          rintro e w' ⟨rfl, rfl⟩
          go_wp2_with fail
          refine (plain_any one1 _ (by have : one1.size = 1 := rfl; omega)).mono ?_
          rw [plain_one]
          rintro e w' ⟨rfl, rfl⟩
          cases hz : (T.toList == [48])
          case true =>
            have HOK := Lib.hid (show ofOk true T = false by simp only [ofOk, isZero, hz]; simp)
            go_wp2_with fail
            refine bodyPost_ret (v := .tuple #[.agg #[.int .i64 0, .int .i64 0, .pointer none], .bool false]) (by simp [results, Tryz.results80, go_sem]) rfl ⟨_, rfl, ⟨_, by rw [HOK.out], fun _ => rfl, (fun h => by rw [HOK.out] at h; cases h)⟩, below_alloc (below_refl _) _⟩
          have HOK := Lib.hid (show ofOk true T = true by simp only [ofOk, isZero, hz, HP.out]; simp)
          go_wp2_with fail
          refine (digits_any (Bs := Bs) T _ (by omega) (plain_digits HP.out)).mono ?_
          rintro e w2 ⟨v1, rfl, ⟨xs, hx1, hx2, hx3, hx4⟩, hB2⟩
          have H1 := Lib.hid hx1
          have H2 := Lib.hid hx2
          have H3 := Lib.hid hx3
          have HB2 := Lib.hid hB2
          clear hx1 hx2 hx3 hB2
          go_wp2_with fail
          refine (digits_any (Bs := Bs) one1 _ (by have : one1.size = 1 := rfl; omega) digits_one).mono ?_
          rintro e w3 ⟨v2, rfl, ⟨ys, hy1, hy2, hy3, hy4⟩, hB3⟩
          have K1 := Lib.hid hy1
          have K2 := Lib.hid hy2
          have K3 := Lib.hid hy3
          have HB3 := Lib.hid hB3
          clear hy1 hy2 hy3 hB3
          go_wp2_with fail
          refine (lowest_any _ _ _ xs ys _ (H1.out.below HB3.out) K1.out H3.out K3.out (by rw [K2.out, dval_one]; omega) (by omega)).mono ?_
          rintro e w4 ⟨r, rfl, hr, hB4⟩
          obtain ⟨p, q, a, rfl⟩ := hr.shape
          have HR := Lib.hid hr
          have hbl := below_then (below_then HB2.out HB2.out.size HB3.out) (Nat.le_trans HB2.out.size HB3.out.size) hB4
          obtain ⟨hc, hf, hsz⟩ := box_kept hbl
          have c0 := hc 0
          have c1 := hc 1
          have c2 := hc 2
          have f0 := hf 0
          have f1 := hf 1
          have f2 := hf 2
          have HB4 := Lib.hid hbl
          clear hr hB4 hbl hc hf
          go_wp2
          refine bodyPost_ret (v := .tuple #[.agg #[.int .i64 p, .int .i64 q, .pointer a], .bool true]) (by simp [results, Tryz.results80, go_sem, c0, c1, c2, hsz]) rfl ⟨_, rfl, of_end HOK.out H2.out H3.out H1.out.inw K2.out ?_, below_set3 (below_then (below_alloc (below_refl _) _) (by simp) HB4.out) (Nat.le_refl _) _ _ _⟩
          exact (HR.out).keeps (T := [191, 230]) (Keeps.set3 (box_heap HB4.out) hBs (by decide) _ _ _) (by simp) (by simp)
theorem of_empty (s : ByteArray) (w : World) (h0 : s.size = 0) :
    Calls Tryz.prog 80 #[.string s] w (Gives w fun v w' => OfPost Bs false s v w') := by
    have HP := Lib.hid (show plainS s = false by simp [plainS, h0])
    have HOK := Lib.hid (show ofOk false s = false by simp [ofOk, HP.out])
    have hs0 : ¬ (0 < s.size) := by omega
    have hs1 : s.size ≤ 9223372036854775807 := by omega
    clear h0
    go_enter Tryz.func80, Tryz.ntmps80
    go_wp2_with fail
    go_loop [6, 7, 8, 9, 26] (fun a b c _ i => OfRel s a b c i) (fun _ _ _ _ i => s.size - (intOf i).toNat)
    case atStart => exact ⟨rfl, rfl, rfl, 0, Nat.zero_le _, rfl⟩
    case round =>
      obtain ⟨rfl, rfl, rfl, k, hk, rfl⟩ := hrel
      have hlt : ¬ (k < s.size) := by omega
      go_wp2_with fail
      refine (plain_any s _ hs1).mono ?_
      rw [HP.out]
      rintro e w' ⟨rfl, rfl⟩
      go_wp2_with fail
      refine bodyPost_ret (v := .tuple #[.agg #[.int .i64 0, .int .i64 0, .pointer none], .bool false]) (by simp [results, Tryz.results80, go_sem]) rfl ⟨_, rfl, ⟨_, by rw [HOK.out], fun _ => rfl, (fun h => by rw [HOK.out] at h; cases h)⟩, below_alloc (below_refl _) _⟩
def ofNeg (s : ByteArray) : Bool := decide (0 < s.size) && (bt s 0 == 45)
def ofTail (s : ByteArray) : ByteArray := if ofNeg s then s.extract 1 s.size else s
/-- Of at a text without a slash. -/
theorem of_int (s : ByteArray) (w : World) (hBs : Bs ≤ w.heap.size) (hs : s.size ≤ 536870911) (hnos : ∀ i, i < s.size → bt s i ≠ 47) :
    Calls Tryz.prog 80 #[.string s] w (Gives w fun v w' => OfPost Bs (ofNeg s) (ofTail s) v w') := by
  by_cases h0 : s.size = 0
  · have e : ofNeg s = false := by simp [ofNeg, h0]
    have e2 : ofTail s = s := by simp [ofTail, e]
    rw [e, e2]
    exact of_empty s w h0
  · cases hb : (bt s 0 == 45)
    · have e : ofNeg s = false := by simp [ofNeg, hb]
      have e2 : ofTail s = s := by simp [ofTail, e]
      rw [e, e2]
      exact of_nat s w hBs hs hnos hb (by omega)
    · have e : ofNeg s = true := by
        have : 0 < s.size := by omega
        simp [ofNeg, hb, this]
      have e2 : ofTail s = s.extract 1 s.size := by simp [ofTail, e]
      rw [e, e2]
      exact of_neg s _ w hBs (by simp; omega) (fun i hi => by
        have hi' : i < s.size - 1 := by simpa using hi
        rw [bt_extract s 1 i (by omega)]; exact hnos _ (by omega)) hb (by omega) hs rfl
end Go.Proofs.YtoflmheodiajaaaGreatDoor
