import Derived.Test.YtoflmheodiajaaaGreatDoorK42
namespace Go.Proofs.YQ.PR
open Go.RowKit Go.Proofs.YtoflmheodiajaaaGreatDoor.G Go.Proofs.YW.PrintWords Go.Proofs.YW.PrintLast Go.Proofs.YW.PrintMore
attribute [local go_sem] max2_int min2_int max_two min_two max_three min_three max_four min_four
set_option linter.unusedVariables false
set_option linter.unusedSimpArgs false
mutual
def nRd.j0 : Nat → ByteArray → ByteArray → Bool → Option (Bool × List Int × Bool × List Int × Bool)
  | 0, _, _, _ => none
  | k + 1, x0, x4, x5 => if x5 = true then (if 1 ≤ (x4.size : Int) then (nRd.j1 k x0 (x4.extract 1 x4.size) x5) else (none)) else (nRd.j1 k x0 x4 x5)
def nRd.j1 : Nat → ByteArray → ByteArray → Bool → Option (Bool × List Int × Bool × List Int × Bool)
  | 0, _, _, _ => none
  | k + 1, x0, x4, x5 => nRd.l0 k x0 x4 x5 (x4.size : Int) 0
def nRd.j3 : Nat → ByteArray → ByteArray → Bool → Int → Option (Bool × List Int × Bool × List Int × Bool)
  | 0, _, _, _, _ => none
  | k + 1, x0, x4, x5, x6 => if 0 ≤ x6 then (if x6 ≤ (x4.size : Int) then ((nFD.f k (x4.extract 0 (x6 : Int).toNat)).bind fun bt148 => (if bt148.2.2 = true then ((nM1.f x5 bt148.2.1).bind fun bt154 => (if x6 < (x4.size : Int) then (if 0 ≤ (wrap64 (x6 + 1)) then (if (wrap64 (x6 + 1)) ≤ (x4.size : Int) then ((nFD.f k (x4.extract ((wrap64 (x6 + 1)) : Int).toNat x4.size)).bind fun bt159 => (if bt159.2.2 = true then ((sosoptnum_Sign.f bt159.1 bt159.2.1).bind fun t165 => (nRd.j4 k x0 (t165 == 0) bt154.1 bt154.2 false bt159.1 bt159.2.1)) else (nRd.j4 k x0 true bt154.1 bt154.2 false bt159.1 bt159.2.1))) else (none)) else (none)) else ((nTx.f k bt154.1 bt154.2 false ([] : List Int)).bind fun t175 => (some (bt154.1, bt154.2, false, ([] : List Int), (t175.toList == x0.toList)))))) else (some (false, ([] : List Int), false, ([] : List Int), false)))) else (none)) else (none)
def nRd.j4 : Nat → ByteArray → Bool → Bool → List Int → Bool → Bool → List Int → Option (Bool × List Int × Bool × List Int × Bool)
  | 0, _, _, _, _, _, _, _ => none
  | k + 1, x0, x71, x159000, x159001, x159002, x165000, x165001 => if x71 = true then (some (false, ([] : List Int), false, ([] : List Int), false)) else ((nFr.f x159000 x159001 x165000 x165001).bind fun bt166 => ((nTx.f k bt166.1 bt166.2.1 bt166.2.2.1 bt166.2.2.2).bind fun t174 => (some (bt166.1, bt166.2.1, bt166.2.2.1, bt166.2.2.2, (t174.toList == x0.toList)))))
def nRd.l0 : Nat → ByteArray → ByteArray → Bool → Int → Int → Option (Bool × List Int × Bool × List Int × Bool)
  | 0, _, _, _, _, _ => none
  | k + 1, x0, x4, x5, x6, x7 => if x7 < (x4.size : Int) then (if 0 ≤ x7 then (if (bt x4 x7) = 47 then (nRd.j3 k x0 x4 x5 x7) else (nRd.l0 k x0 x4 x5 x6 (wrap64 (x7 + 1)))) else (none)) else (nRd.j3 k x0 x4 x5 x6)
end
def nRd.f (k : Nat) (a0 : ByteArray) : Option (Bool × List Int × Bool × List Int × Bool) := if (a0.size : Int) > 0 then (if 0 < (a0.size : Int) then (nRd.j0 k a0 a0 ((bt a0 0) == 45)) else (none)) else (nRd.j0 k a0 a0 false)
set_option maxHeartbeats 8000000 in
set_option maxRecDepth 100000 in
theorem nRd.calls (k : Nat) (a0 : ByteArray) (r1 : Bool) (r2 : List Int) (r3 : Bool) (r4 : List Int) (r5 : Bool) (w : World) (h : nRd.f k a0 = some (r1, r2, r3, r4, r5)) :
    Calls Tryz.prog 114 #[.string a0] w fun e w' => ∃ v1_ v3_ : Value, e = .returned (.tuple #[.agg #[.bool r1, v1_, .bool r3, v3_], .bool r5]) ∧ Kd.V (Kd.int .u32) 143 w' w.heap.size (fun k_ => (w.heap.size ≤ k_)) v1_ r2 ∧ Kd.V (Kd.int .u32) 143 w' w.heap.size (fun k_ => (w.heap.size ≤ k_)) v3_ r4 ∧ Below w.heap.size w w' := by
  have hu96 := Tryz.underlying96
  have hu94 := Tryz.underlying94
  have HB := As0.mk (Below.refl w.heap.size w)
  have H : (if (a0.size : Int) > 0 then (if 0 < (a0.size : Int) then (nRd.j0 k a0 a0 ((bt a0 0) == 45)) else (none)) else (nRd.j0 k a0 a0 false)) = some (r1, r2, r3, r4, r5) := h
  clear h
  have HC2 := As0.mk H
  clear H
  go_enter Tryz.func114, Tryz.ntmps114
  go_upto_region 2 with (first | ((with_reducible refine gate_dst (N := 2) rfl ?_); refine box_event ?hg (N := 2) ?hd (cs := #[.bool false, .slice none 0 0, .bool false, .slice none 0 0]) (t := 96) ?hr ?_; (case hd => rfl); (case hg => rfl); (case hr => first | (go_simp; done) | (go_simp; rfl)); intro gb147 hg w3 hbox hb; have n0_ := As0.mk (bsp (by repeat (first | (with_reducible first | exact HB.out | apply below_alloc | apply pbn | apply bd1) | exact HB.out)) hb); have n1_ := As0.mk (hbox); have n2_ := As0.mk ((by rw [hg]; exact (bsz (by repeat (first | (with_reducible first | exact HB.out | apply below_alloc | apply pbn | apply bd1) | exact HB.out))) : w.heap.size ≤ gb147)); have n3_ := As0.mk ((by rw [hg]; exact (bsz (by repeat (first | (with_reducible first | exact HB.out | apply below_alloc | apply pbn | apply bd1) | exact HB.out))) : w.heap.size ≤ gb147)); clear HB; have HB := n0_; have BK147 := n1_; have GW147 := n2_; have GE147 := n3_; clear n0_ n1_ n2_ n3_; clear hb hbox hg))
  (try simp only [Act.put, List.setIfInBounds_toArray, List.set_cons_zero, List.set_cons_succ])
  go_cut [5] (fun v5 wc => ∃ (kq : Nat) (x5_1 : Bool), v5 = .bool x5_1 ∧ As0 (nRd.j0 kq a0 a0 x5_1 = some (r1, r2, r3, r4, r5)) ∧ As0 (kq ≤ k) ∧ As0 (wc.heap[gb147]? = some (.cells #[.bool false, (.slice none 0 0), .bool false, (.slice none 0 0)] 96 (0, 0))) ∧ As0 (Below w.heap.size w wc))
  case first =>
    have H := HC2.out
    clear HC2
    by_cases c4 : (a0.size : Int) > 0
    · rw [if_pos c4] at H
      have c4b0 : decide (0 < (a0.size : Int)) = true := decide_eq_true c4
      have c4b1 : decide (0 < a0.size) = true := decide_eq_true (by omega)
      clear c4
      (first | rw [c4b0] | (simp only [i64_w, i32_w]; rw [c4b0]) | skip)
      by_cases c5 : 0 < (a0.size : Int)
      · rw [if_pos c5] at H
        have c5b0 : decide (0 < (a0.size : Int)) = true := decide_eq_true c5
        have c5b1 : decide (0 < a0.size) = true := decide_eq_true (by omega)
        clear c5
        have H' := As0.mk H
        clear H
        have p6 : 0 ≤ (0 : Int) := (by omega)
        have q6 : 0 < a0.size := (by have : (0 : Int) < (a0.size : Int) := of_decide_eq_true (by first | (with_reducible assumption) | assumption); omega)
        have hx6 : ∀ h : 0 < a0.size, ((a0[0]'h).toNat : Int) = bt a0 0 := bt_at a0 0
        clear p6
        have qi6 : (0 < (a0.size : Int)) = True := eq_true (of_decide_eq_true (by first | (with_reducible assumption) | assumption))
        replace q6 := eq_true q6
        go_wp2
        go_meet
        case rel => exact ⟨_, (((bt a0 0) == 45)), (by first | rfl | (simp; done) | (simp [*]; done)), H', ⟨by first | omega | exact Nat.le_refl _⟩, ⟨by (with_reducible repeat (first | refine kdn ?_ _ | refine kdw ?_ | refine kal ?_ _)); exact BK147.out⟩, ⟨by repeat (first | (with_reducible first | exact HB.out | apply below_alloc | apply pbn | apply bd1 | refine bst ?_ GE147.out) | exact HB.out)⟩⟩
      · rw [if_neg c5] at H
        exact absurd H (by simp)
    · rw [if_neg c4] at H
      have c4b0 : decide (0 < (a0.size : Int)) = false := decide_eq_false c4
      have c4b1 : decide (0 < a0.size) = false := decide_eq_false (by omega)
      clear c4
      (first | rw [c4b0] | (simp only [i64_w, i32_w]; rw [c4b0]) | skip)
      have H' := As0.mk H
      clear H
      go_wp2
      go_meet
      case rel => exact ⟨_, (false), (by first | rfl | (simp; done) | (simp [*]; done)), H', ⟨by first | omega | exact Nat.le_refl _⟩, ⟨by (with_reducible repeat (first | refine kdn ?_ _ | refine kdw ?_ | refine kal ?_ _)); exact BK147.out⟩, ⟨by repeat (first | (with_reducible first | exact HB.out | apply below_alloc | apply pbn | apply bd1 | refine bst ?_ GE147.out) | exact HB.out)⟩⟩
  case rest =>
    clear HC2
    try clear c1
    try clear p2
    try clear c4
    try clear c4b0
    try clear c4b1
    try clear c5
    try clear c5b0
    try clear c5b1
    try clear p6
    try clear q6
    try clear hx6
    try clear qi6
    try clear p6
    try clear q6
    obtain ⟨kq, x5_1, rfl, HA, HJ1, BK147, HB⟩ := hcut
    cases kq with
    | zero => exact absurd HA.out (by simp [nRd.j0])
    | succ kj1 =>
      have H := HA.out
      clear HA
      simp only [nRd.j0] at H
      have HC7 := As0.mk H
      clear H
      go_upto_if 22 with (fail)
      go_cut [4] (fun v4 wc => ∃ (kq : Nat) (x4_6 : ByteArray), v4 = .string x4_6 ∧ As0 (nRd.j1 kq a0 x4_6 x5_1 = some (r1, r2, r3, r4, r5)) ∧ As0 (kq ≤ kj1) ∧ As0 (wc.heap[gb147]? = some (.cells #[.bool false, (.slice none 0 0), .bool false, (.slice none 0 0)] 96 (0, 0))) ∧ As0 (Below w.heap.size w wc))
      case first =>
        have H := HC7.out
        clear HC7
        by_cases c8 : x5_1 = true
        · subst c8
          have H1 : (if 1 ≤ (a0.size : Int) then (nRd.j1 kj1 a0 (a0.extract 1 a0.size) true) else (none)) = some (r1, r2, r3, r4, r5) := by rw [if_pos rfl] at H; exact H
          clear H
          have H := H1
          clear H1
          by_cases c9 : 1 ≤ (a0.size : Int)
          · rw [if_pos c9] at H
            have c9b0 := eq_true c9
            have c9b1 : decide (1 ≤ (a0.size : Int)) = true := decide_eq_true c9
            clear c9
            have H' := As0.mk H
            clear H
            go_wp2
            go_meet
            case rel => exact ⟨_, (a0.extract 1 a0.size), (by first | rfl | (simp; done) | (simp [*]; done)), H', ⟨by have := HJ1.out; first | omega | exact Nat.le_refl _⟩, ⟨by (with_reducible repeat (first | refine kdn ?_ _ | refine kdw ?_ | refine kal ?_ _)); exact BK147.out⟩, ⟨by repeat (first | (with_reducible first | exact HB.out | apply below_alloc | apply pbn | apply bd1 | refine bst ?_ GE147.out) | exact HB.out)⟩⟩
          · rw [if_neg c9] at H
            exact absurd H (by simp)
        · replace c8 := Bool.eq_false_iff.mpr c8
          subst c8
          have H1 : (nRd.j1 kj1 a0 a0 false) = some (r1, r2, r3, r4, r5) := by rw [if_neg (show ¬ (false = true) by decide)] at H; exact H
          clear H
          have H := H1
          clear H1
          have H' := As0.mk H
          clear H
          go_wp2
          go_meet
          case rel => exact ⟨_, (a0), (by first | rfl | (simp; done) | (simp [*]; done)), H', ⟨by have := HJ1.out; first | omega | exact Nat.le_refl _⟩, ⟨by (with_reducible repeat (first | refine kdn ?_ _ | refine kdw ?_ | refine kal ?_ _)); exact BK147.out⟩, ⟨by repeat (first | (with_reducible first | exact HB.out | apply below_alloc | apply pbn | apply bd1 | refine bst ?_ GE147.out) | exact HB.out)⟩⟩
      case rest =>
        clear HC7
        try clear c1
        try clear p2
        try clear c4
        try clear c4b0
        try clear c4b1
        try clear c5
        try clear c5b0
        try clear c5b1
        try clear p6
        try clear q6
        try clear hx6
        try clear qi6
        try clear c8
        try clear c9
        try clear c9b0
        try clear c9b1
        try clear p2
        try clear p6
        try clear q6
        obtain ⟨kq, x4_6, rfl, HA, HJ6, BK147, HB⟩ := hcut
        cases kq with
        | zero => exact absurd HA.out (by simp [nRd.j1])
        | succ kj6 =>
          have H := HA.out
          clear HA
          simp only [nRd.j1] at H
          have HC10 := As0.mk H
          clear H
          go_upto_block 0 with (fail)
          go_cut [6] (fun v6 wc => ∃ (kq : Nat) (x6_9 : Int), v6 = .int .i64 x6_9 ∧ As0 (nRd.j3 kq a0 x4_6 x5_1 x6_9 = some (r1, r2, r3, r4, r5)) ∧ As0 (kq ≤ kj6) ∧ As0 (wc.heap[gb147]? = some (.cells #[.bool false, (.slice none 0 0), .bool false, (.slice none 0 0)] 96 (0, 0))) ∧ As0 (Below w.heap.size w wc))
          case first =>
            have H := HC10.out
            clear HC10
            have H' := As0.mk H
            clear H
            go_wp2
            go_loopg [6, 7] kj6 (fun kq v6 v7 w' => ∃ (x6_3 : Int) (x7_3 : Int), v6 = .int .i64 x6_3 ∧ v7 = .int .i64 x7_3 ∧ As0 (nRd.l0 kq a0 x4_6 x5_1 x6_3 x7_3 = some (r1, r2, r3, r4, r5)) ∧ As0 (kq ≤ kj6) ∧ As0 (w'.heap[gb147]? = some (.cells #[.bool false, (.slice none 0 0), .bool false, (.slice none 0 0)] 96 (0, 0))) ∧ As0 (Below w.heap.size w w'))
            case atStart => exact ⟨((x4_6.size : Int)), (0), (by first | rfl | (simp; done) | (simp [*]; done)), (by first | rfl | (simp; done) | (simp [*]; done)), H', ⟨Nat.le_refl _⟩, ⟨by (with_reducible repeat (first | refine kdn ?_ _ | refine kdw ?_ | refine kal ?_ _)); exact BK147.out⟩, ⟨by repeat (first | (with_reducible first | exact HB.out | apply below_alloc | apply pbn | apply bd1 | refine bst ?_ GE147.out) | exact HB.out)⟩⟩
            case round =>
              clear H'
              try clear c1
              try clear p2
              try clear c4
              try clear c4b0
              try clear c4b1
              try clear c5
              try clear c5b0
              try clear c5b1
              try clear p6
              try clear q6
              try clear hx6
              try clear qi6
              try clear c8
              try clear c9
              try clear c9b0
              try clear c9b1
              try clear p2
              try clear p6
              try clear q6
              obtain ⟨x6_3, x7_3, rfl, rfl, HA, HK3, BK147, HB⟩ := hrel
              cases gk with
              | zero => exact absurd HA.out (by simp [nRd.l0])
              | succ k3 =>
                have H := HA.out
                clear HA
                simp only [nRd.l0] at H
                by_cases c11 : x7_3 < (x4_6.size : Int)
                · rw [if_pos c11] at H
                  have c11b0 : decide (x7_3 < (x4_6.size : Int)) = true := decide_eq_true c11
                  clear c11
                  (first | rw [c11b0] | (simp only [i64_w, i32_w]; rw [c11b0]) | skip)
                  by_cases c12 : 0 ≤ x7_3
                  · rw [if_pos c12] at H
                    have c12b0 : decide (0 ≤ x7_3) = true := decide_eq_true c12
                    clear c12
                    by_cases c14 : (bt x4_6 x7_3) = 47
                    · rw [if_pos c14] at H
                      have c14b0 : ((bt x4_6 x7_3) == 47) = true := beq_iff_eq.mpr c14
                      have c14b1 : ((bt x4_6 x7_3) != 47) = false := bne_eq_false_iff_eq.mpr c14
                      clear c14
                      have H' := As0.mk H
                      clear H
                      have p13 : 0 ≤ (x7_3 : Int) := of_decide_eq_true (by first | (with_reducible assumption) | assumption)
                      have q13 : x7_3 < (x4_6.size : Int) := of_decide_eq_true (by first | (with_reducible assumption) | assumption)
                      have hx13 := bt_at x4_6 x7_3
                      replace p13 := eq_true p13
                      replace q13 := eq_true q13
                      go_wp2
                      go_meet
                      case rel => exact ⟨_, (x7_3), (by first | rfl | (simp; done) | (simp [*]; done)), H', ⟨by have := HJ1.out; have := HJ6.out; have := HK3.out; first | omega | exact Nat.le_refl _⟩, ⟨by (with_reducible repeat (first | refine kdn ?_ _ | refine kdw ?_ | refine kal ?_ _)); exact BK147.out⟩, ⟨by repeat (first | (with_reducible first | exact HB.out | apply below_alloc | apply pbn | apply bd1 | refine bst ?_ GE147.out) | exact HB.out)⟩⟩
                    · rw [if_neg c14] at H
                      have c14b0 : ((bt x4_6 x7_3) == 47) = false := beq_eq_false_iff_ne.mpr c14
                      have c14b1 : ((bt x4_6 x7_3) != 47) = true := bne_iff_ne.mpr c14
                      have H' := As0.mk H
                      clear H
                      have p13 : 0 ≤ (x7_3 : Int) := of_decide_eq_true (by first | (with_reducible assumption) | assumption)
                      have q13 : x7_3 < (x4_6.size : Int) := of_decide_eq_true (by first | (with_reducible assumption) | assumption)
                      have hx13 := bt_at x4_6 x7_3
                      replace p13 := eq_true p13
                      replace q13 := eq_true q13
                      go_wp2
                      go_roundg k3
                      case measure => have := HJ1.out; have := HJ6.out; have := HK3.out; omega
                      case rel => exact ⟨(x6_3), (wrap64 (x7_3 + 1)), (by first | rfl | (simp; done) | (simp [*]; done)), (by first | rfl | (simp; done) | (simp [*]; done)), H', ⟨by have := HJ1.out; have := HJ6.out; have := HK3.out; omega⟩, ⟨by (with_reducible repeat (first | refine kdn ?_ _ | refine kdw ?_ | refine kal ?_ _)); exact BK147.out⟩, ⟨by repeat (first | (with_reducible first | exact HB.out | apply below_alloc | apply pbn | apply bd1 | refine bst ?_ GE147.out) | exact HB.out)⟩⟩
                  · rw [if_neg c12] at H
                    exact absurd H (by simp)
                · rw [if_neg c11] at H
                  have c11b0 : decide (x7_3 < (x4_6.size : Int)) = false := decide_eq_false c11
                  clear c11
                  (first | rw [c11b0] | (simp only [i64_w, i32_w]; rw [c11b0]) | skip)
                  have H' := As0.mk H
                  clear H
                  go_wp2
                  go_meet
                  case rel => exact ⟨_, (x6_3), (by first | rfl | (simp; done) | (simp [*]; done)), H', ⟨by have := HJ1.out; have := HJ6.out; have := HK3.out; first | omega | exact Nat.le_refl _⟩, ⟨by (with_reducible repeat (first | refine kdn ?_ _ | refine kdw ?_ | refine kal ?_ _)); exact BK147.out⟩, ⟨by repeat (first | (with_reducible first | exact HB.out | apply below_alloc | apply pbn | apply bd1 | refine bst ?_ GE147.out) | exact HB.out)⟩⟩
          case rest =>
            clear HC10
            try clear c1
            try clear p1
            try clear q1
            try clear hx1
            try clear p2
            try clear c4
            try clear c4b0
            try clear c4b1
            try clear c5
            try clear c5b0
            try clear c5b1
            try clear p6
            try clear q6
            try clear hx6
            try clear qi6
            try clear c8
            try clear c9
            try clear c9b0
            try clear c9b1
            try clear c11
            try clear c11b0
            try clear c12
            try clear c12b0
            try clear p13
            try clear q13
            try clear hx13
            try clear c14
            try clear c14b0
            try clear c14b1
            try clear p13
            try clear p2
            try clear p6
            try clear q13
            try clear q6
            obtain ⟨kq, x6_9, rfl, HA, HJ9, BK147, HB⟩ := hcut
            cases kq with
            | zero => exact absurd HA.out (by simp [nRd.j3])
            | succ kj9 =>
              have H := HA.out
              clear HA
              simp only [nRd.j3] at H
              by_cases c15 : 0 ≤ x6_9
              · rw [if_pos c15] at H
                have c15b0 := eq_true c15
                have c15b1 : decide (0 ≤ x6_9) = true := decide_eq_true c15
                clear c15
                by_cases c16 : x6_9 ≤ (x4_6.size : Int)
                · rw [if_pos c16] at H
                  have c16b0 := eq_true c16
                  have c16b1 : decide (x6_9 ≤ (x4_6.size : Int)) = true := decide_eq_true c16
                  clear c16
                  replace H := Option.bind_eq_some_iff.mp H
                  obtain ⟨⟨t148, t149, t152⟩, A170, H⟩ := H
                  replace H : (if t152 = true then ((nM1.f x5_1 t149).bind fun bt154 => (if x6_9 < (x4_6.size : Int) then (if 0 ≤ (wrap64 (x6_9 + 1)) then (if (wrap64 (x6_9 + 1)) ≤ (x4_6.size : Int) then ((nFD.f kj9 (x4_6.extract ((wrap64 (x6_9 + 1)) : Int).toNat x4_6.size)).bind fun bt159 => (if bt159.2.2 = true then ((sosoptnum_Sign.f bt159.1 bt159.2.1).bind fun t165 => (nRd.j4 kj9 a0 (t165 == 0) bt154.1 bt154.2 false bt159.1 bt159.2.1)) else (nRd.j4 kj9 a0 true bt154.1 bt154.2 false bt159.1 bt159.2.1))) else (none)) else (none)) else ((nTx.f kj9 bt154.1 bt154.2 false ([] : List Int)).bind fun t175 => (some (bt154.1, bt154.2, false, ([] : List Int), (t175.toList == a0.toList)))))) else (some (false, ([] : List Int), false, ([] : List Int), false))) = some (r1, r2, r3, r4, r5) := H
                  have A17 := As0.mk A170
                  clear A170
                  by_cases c18 : t152 = true
                  · subst c18
                    have H1 : ((nM1.f x5_1 t149).bind fun bt154 => (if x6_9 < (x4_6.size : Int) then (if 0 ≤ (wrap64 (x6_9 + 1)) then (if (wrap64 (x6_9 + 1)) ≤ (x4_6.size : Int) then ((nFD.f kj9 (x4_6.extract ((wrap64 (x6_9 + 1)) : Int).toNat x4_6.size)).bind fun bt159 => (if bt159.2.2 = true then ((sosoptnum_Sign.f bt159.1 bt159.2.1).bind fun t165 => (nRd.j4 kj9 a0 (t165 == 0) bt154.1 bt154.2 false bt159.1 bt159.2.1)) else (nRd.j4 kj9 a0 true bt154.1 bt154.2 false bt159.1 bt159.2.1))) else (none)) else (none)) else ((nTx.f kj9 bt154.1 bt154.2 false ([] : List Int)).bind fun t175 => (some (bt154.1, bt154.2, false, ([] : List Int), (t175.toList == a0.toList)))))) = some (r1, r2, r3, r4, r5) := by rw [if_pos rfl] at H; exact H
                    clear H
                    have H := H1
                    clear H1
                    replace H := Option.bind_eq_some_iff.mp H
                    obtain ⟨⟨t154, t155⟩, A190, H⟩ := H
                    replace H : (if x6_9 < (x4_6.size : Int) then (if 0 ≤ (wrap64 (x6_9 + 1)) then (if (wrap64 (x6_9 + 1)) ≤ (x4_6.size : Int) then ((nFD.f kj9 (x4_6.extract ((wrap64 (x6_9 + 1)) : Int).toNat x4_6.size)).bind fun bt159 => (if bt159.2.2 = true then ((sosoptnum_Sign.f bt159.1 bt159.2.1).bind fun t165 => (nRd.j4 kj9 a0 (t165 == 0) t154 t155 false bt159.1 bt159.2.1)) else (nRd.j4 kj9 a0 true t154 t155 false bt159.1 bt159.2.1))) else (none)) else (none)) else ((nTx.f kj9 t154 t155 false ([] : List Int)).bind fun t175 => (some (t154, t155, false, ([] : List Int), (t175.toList == a0.toList))))) = some (r1, r2, r3, r4, r5) := H
                    have A19 := As0.mk A190
                    clear A190
                    by_cases c20 : x6_9 < (x4_6.size : Int)
                    · rw [if_pos c20] at H
                      have c20b0 : decide (x6_9 < (x4_6.size : Int)) = true := decide_eq_true c20
                      clear c20
                      obtain ⟨ji21, hji21⟩ : ∃ j_ : Int, (wrap64 (x6_9 + 1)) = j_ := ⟨_, rfl⟩
                      replace H : (if 0 ≤ (ji21) then (if (ji21) ≤ (x4_6.size : Int) then ((nFD.f kj9 (x4_6.extract ((ji21) : Int).toNat x4_6.size)).bind fun bt159 => (if bt159.2.2 = true then ((sosoptnum_Sign.f bt159.1 bt159.2.1).bind fun t165 => (nRd.j4 kj9 a0 (t165 == 0) t154 t155 false bt159.1 bt159.2.1)) else (nRd.j4 kj9 a0 true t154 t155 false bt159.1 bt159.2.1))) else (none)) else (none)) = some (r1, r2, r3, r4, r5) := by first | (rw [hji21] at H; exact H) | (simp only [hji21] at H ⊢; exact H)
                      (try rw [hji21] at A17)
                      (try rw [hji21] at A19)
                      have hji21w : (IntKind.i64.wrap (x6_9 + 1)) = ji21 := (i64_w _).trans hji21
                      by_cases c22 : 0 ≤ (ji21)
                      · rw [if_pos c22] at H
                        have c22b0 := eq_true c22
                        have c22b1 : decide (0 ≤ (ji21)) = true := decide_eq_true c22
                        clear c22
                        by_cases c23 : (ji21) ≤ (x4_6.size : Int)
                        · rw [if_pos c23] at H
                          have c23b0 := eq_true c23
                          have c23b1 : decide ((ji21) ≤ (x4_6.size : Int)) = true := decide_eq_true c23
                          clear c23
                          replace H := Option.bind_eq_some_iff.mp H
                          obtain ⟨⟨t159, t160, t163⟩, A240, H⟩ := H
                          replace H : (if t163 = true then ((sosoptnum_Sign.f t159 t160).bind fun t165 => (nRd.j4 kj9 a0 (t165 == 0) t154 t155 false t159 t160)) else (nRd.j4 kj9 a0 true t154 t155 false t159 t160)) = some (r1, r2, r3, r4, r5) := H
                          have A24 := As0.mk A240
                          clear A240
                          have HC25 := As0.mk H
                          clear H
                          go_upto_region 17 with (first | ((with_reducible refine gate_callee (f := 137) rfl ?_); refine goesL_ (some 42) rfl rfl Tryz.func137 (by kernel_rfl) rfl #[.string (x4_6.extract 0 (x6_9 : Int).toNat)] rfl (by (try simp only [List.map_toArray, List.map_cons, List.map_nil]); first | done | rfl | (simp only [List.length_drop, List.length_take]; rfl)) ?_; (with_reducible refine (nFD.calls kj9 (x4_6.extract 0 (x6_9 : Int).toNat) t148 t149 true _ A17.out).mono ?_); rintro e w26 ⟨v150, rfl, ho0, hb⟩; refine ⟨_, rfl, ?_⟩; have n0_ := As0.mk (Kd.V_lower (Kd.V_mono (ok' := fun k_ => (w.heap.size ≤ k_) ∧ k_ ≠ gb147) ho0 (fun k_ hk_ => ⟨(Nat.le_trans (bsz (by repeat (first | (with_reducible first | exact HB.out | apply below_alloc | apply pbn | apply bd1 | refine bst ?_ GE147.out) | exact HB.out))) hk_), (Kd.freshB (g := gb147) (o := .cells #[.bool false, .slice none 0 0, .bool false, .slice none 0 0] 96 (0, 0)) (by (with_reducible repeat (first | refine kdn ?_ _ | refine kdw ?_ | refine kal ?_ _)); exact BK147.out) k_ hk_)⟩)) (bsz (by repeat (first | (with_reducible first | exact HB.out | apply below_alloc | apply pbn | apply bd1 | refine bst ?_ GE147.out) | exact HB.out)))); have n1_ := As0.mk (blk_below (g := gb147) (o := .cells #[.bool false, .slice none 0 0, .bool false, .slice none 0 0] 96 (0, 0)) (by (with_reducible repeat (first | refine kdn ?_ _ | refine kdw ?_ | refine kal ?_ _)); exact BK147.out) hb); have n2_ := As0.mk (bsp (by repeat (first | (with_reducible first | exact HB.out | apply below_alloc | apply pbn | apply bd1 | refine bst ?_ GE147.out) | exact HB.out)) hb); clear BK147; clear HB; have HO151 := n0_; have BK147 := n1_; have HB := n2_; clear n0_ n1_ n2_; (try clear hb); (try clear hb2); (try clear hk); (try clear hi); (try clear ho0)) | ((with_reducible refine gate_dst (N := 8) rfl ?_); refine box_event ?hg (N := 8) ?hd (cs := #[.bool false, .slice none 0 0]) (t := 94) ?hr ?_; (case hd => rfl); (case hg => rfl); (case hr => first | (go_simp; done) | (go_simp; rfl)); intro gb153 hg w27 hbox hb; have n0_ := As0.mk (Kd.V_below (Kd.V_elderB (by (with_reducible repeat (first | apply Kd.V_alloc | apply Kd.V_drewN | apply Kd.V_drew)); exact HO151.out) gb153 (Nat.le_of_eq hg.symm)) hb); have n1_ := As0.mk (blk_below (g := gb147) (o := .cells #[.bool false, .slice none 0 0, .bool false, .slice none 0 0] 96 (0, 0)) (by (with_reducible repeat (first | refine kdn ?_ _ | refine kdw ?_ | refine kal ?_ _)); exact BK147.out) hb); have n2_ := As0.mk (bsp (by repeat (first | (with_reducible first | exact HB.out | apply below_alloc | apply pbn | apply bd1 | refine bst ?_ GE147.out) | exact HB.out)) hb); have n3_ := As0.mk (hbox); have n4_ := As0.mk ((by rw [hg]; exact (bsz (by repeat (first | (with_reducible first | exact HB.out | apply below_alloc | apply pbn | apply bd1 | refine bst ?_ GE147.out) | exact HB.out))) : w.heap.size ≤ gb153)); have n5_ := As0.mk ((by rw [hg]; exact (bsz (by repeat (first | (with_reducible first | exact HB.out | apply below_alloc | apply pbn | apply bd1 | refine bst ?_ GE147.out) | exact HB.out))) : w.heap.size ≤ gb153)); have n6_ := As0.mk ((by rw [hg]; exact Nat.ne_of_lt (blk_lt (g := gb147) (o := .cells #[.bool false, .slice none 0 0, .bool false, .slice none 0 0] 96 (0, 0)) (by (with_reducible repeat (first | refine kdn ?_ _ | refine kdw ?_ | refine kal ?_ _)); exact BK147.out)) : gb147 ≠ gb153)); have n7_ := As0.mk ((by rw [hg]; exact Nat.ne_of_gt (blk_lt (g := gb147) (o := .cells #[.bool false, .slice none 0 0, .bool false, .slice none 0 0] 96 (0, 0)) (by (with_reducible repeat (first | refine kdn ?_ _ | refine kdw ?_ | refine kal ?_ _)); exact BK147.out)) : gb153 ≠ gb147)); clear HO151; clear BK147; clear HB; have HO151 := n0_; have BK147 := n1_; have HB := n2_; have BK153 := n3_; have GW153 := n4_; have GE153 := n5_; have NB147_153 := n6_; have NB153_147 := n7_; clear n0_ n1_ n2_ n3_ n4_ n5_ n6_ n7_; clear hb hbox hg; have hnb28 := NB153_147.out; have hnc28 := NB147_153.out; have hcz29_0 : w27.cell? ⟨gb153, 0, none⟩ = some (.bool false) := (blk_cell BK153.out 0).trans rfl; have hcz29_1 : w27.cell? ⟨gb153, 1, none⟩ = some (.slice none 0 0) := (blk_cell BK153.out 1).trans rfl; have hfz29_0 := kfz BK153.out 0; have hfz29_1 := kfz BK153.out 1; obtain ⟨Ao30, co30, eo30⟩ := Kd.V_slice HO151.out; subst eo30) | ((with_reducible refine gate_store (t := 94) (p := 8) rfl ?_); refine store_event (t := 94) (p := 8) (v := ?vo_w31) (w1 := ((w27.setCell ⟨gb153, 0, none⟩ (.bool t148)).setCell ⟨gb153, 1, none⟩ (.slice Ao30 t149.length co30))) ?hg ?ho ?hn ?hr ?_; (case ho => rfl); (case hg => rfl); (case hn => rfl); (case hr => first | (go_simp; done) | (go_simp; rfl)); intro w31 hw; have n0_ : As0 (Kd.V (Kd.int .u32) 143 w31 w.heap.size (fun k_ => (w.heap.size ≤ k_) ∧ k_ ≠ gb147 ∧ k_ ≠ gb153) (.slice Ao30 t149.length co30) t149) := ⟨(by rw [hw]; exact (by (with_reducible repeat (first | apply Kd.V_alloc | apply Kd.V_drewN | apply Kd.V_drew)); exact Kd.V_mono (Kd.V_far (p := ⟨gb153, 1, none⟩) (Kd.V_far (p := ⟨gb153, 0, none⟩) (Kd.V_mono HO151.out (fun k_ hk => (⟨hk, hk.2⟩ : _ ∧ k_ ≠ gb153))) (fun _ hk => hk.2) (.bool t148)) (fun _ hk => hk.2) (.slice Ao30 t149.length co30)) (fun _ hk => ⟨hk.1.1.1, ⟨hk.1.1.2, hk.1.2⟩⟩)))⟩; have n1_ : As0 (w31.heap[gb147]? = some (.cells #[.bool false, .slice none 0 0, .bool false, .slice none 0 0] 96 (0, 0))) := ⟨(by rw [hw]; exact (by (with_reducible repeat (first | refine kdn ?_ _ | refine kdw ?_ | refine kal ?_ _)); refine blk_far ?_ NB147_153.out _; (with_reducible repeat (first | refine kdn ?_ _ | refine kdw ?_ | refine kal ?_ _)); refine blk_far ?_ NB147_153.out _; (with_reducible repeat (first | refine kdn ?_ _ | refine kdw ?_ | refine kal ?_ _)); exact BK147.out))⟩; have n2_ : As0 (w31.heap[gb153]? = some (.cells #[.bool t148, .slice Ao30 t149.length co30] 94 (0, 0))) := ⟨(by rw [hw]; exact (by (with_reducible repeat (first | refine kdn ?_ _ | refine kdw ?_ | refine kal ?_ _)); refine blk_put (cs := #[.bool t148, .slice none 0 0]) ?_ 1 _ rfl; (with_reducible repeat (first | refine kdn ?_ _ | refine kdw ?_ | refine kal ?_ _)); refine blk_put (cs := #[.bool false, .slice none 0 0]) ?_ 0 _ rfl; (with_reducible repeat (first | refine kdn ?_ _ | refine kdw ?_ | refine kal ?_ _)); exact BK153.out))⟩; have n3_ : As0 (Below w.heap.size w w31) := ⟨(by rw [hw]; exact (by repeat (first | (with_reducible first | exact HB.out | apply below_alloc | apply pbn | apply bd1 | refine bst ?_ GE147.out | refine bst ?_ GE153.out) | exact HB.out)))⟩; clear hw; clear HO151; clear BK147; clear BK153; clear HB; have HO151 := n0_; have BK147 := n1_; have BK153 := n2_; have HB := n3_; clear n0_ n1_ n2_ n3_; have hcz32_0 : w31.cell? ⟨gb153, 0, none⟩ = some (.bool t148) := (blk_cell BK153.out 0).trans rfl; have hcz32_1 : w31.cell? ⟨gb153, 1, none⟩ = some (.slice Ao30 t149.length co30) := (blk_cell BK153.out 1).trans rfl; have hfz32_0 := kfz BK153.out 0; have hfz32_1 := kfz BK153.out 1) | ((with_reducible refine gate_callee (f := 138) rfl ?_); refine goesL_ (some 51) rfl rfl Tryz.func138 (by kernel_rfl) rfl #[.bool x5_1, .slice Ao30 t149.length co30] rfl (by (try simp only [List.map_toArray, List.map_cons, List.map_nil]); first | done | rfl | (simp only [List.length_drop, List.length_take]; rfl)) ?_; (with_reducible refine (nM1.calls x5_1 (fun k_ => ((w.heap.size ≤ k_) ∧ (k_ ≠ gb147 ∧ k_ ≠ gb153))) _ _ t149 t154 t155 _ ?side1 A19.out).mono ?_); (case side1 => exact HO151.out); rintro e w33 ⟨v156, rfl, ho0, hb⟩; refine ⟨_, rfl, ?_⟩; have n0_ := As0.mk (Kd.V_below (by (with_reducible repeat (first | apply Kd.V_alloc | apply Kd.V_drewN | apply Kd.V_drew)); exact HO151.out) hb); have n1_ := As0.mk (Kd.V_lower (Kd.V_mono (ok' := fun k_ => (w.heap.size ≤ k_) ∧ k_ ≠ gb147 ∧ k_ ≠ gb153) ho0 (fun k_ hk_ => ⟨Or.elim hk_ (fun hs_ => hs_.1) (fun hn_ => (Nat.le_trans (bsz (by repeat (first | (with_reducible first | exact HB.out | apply below_alloc | apply pbn | apply bd1 | refine bst ?_ GE147.out | refine bst ?_ GE153.out) | exact HB.out))) hn_)), Or.elim hk_ (fun hs_ => hs_.2.1) (fun hn_ => (Kd.freshB (g := gb147) (o := .cells #[.bool false, .slice none 0 0, .bool false, .slice none 0 0] 96 (0, 0)) (by (with_reducible repeat (first | refine kdn ?_ _ | refine kdw ?_ | refine kal ?_ _)); exact BK147.out) k_ hn_)), Or.elim hk_ (fun hs_ => hs_.2.2) (fun hn_ => (Kd.freshB (g := gb153) (o := .cells #[.bool t148, .slice Ao30 t149.length co30] 94 (0, 0)) (by (with_reducible repeat (first | refine kdn ?_ _ | refine kdw ?_ | refine kal ?_ _)); exact BK153.out) k_ hn_))⟩)) (bsz (by repeat (first | (with_reducible first | exact HB.out | apply below_alloc | apply pbn | apply bd1 | refine bst ?_ GE147.out | refine bst ?_ GE153.out) | exact HB.out)))); have n2_ := As0.mk (blk_below (g := gb147) (o := .cells #[.bool false, .slice none 0 0, .bool false, .slice none 0 0] 96 (0, 0)) (by (with_reducible repeat (first | refine kdn ?_ _ | refine kdw ?_ | refine kal ?_ _)); exact BK147.out) hb); have n3_ := As0.mk (blk_below (g := gb153) (o := .cells #[.bool t148, .slice Ao30 t149.length co30] 94 (0, 0)) (by (with_reducible repeat (first | refine kdn ?_ _ | refine kdw ?_ | refine kal ?_ _)); exact BK153.out) hb); have n4_ := As0.mk (bsp (by repeat (first | (with_reducible first | exact HB.out | apply below_alloc | apply pbn | apply bd1 | refine bst ?_ GE147.out | refine bst ?_ GE153.out) | exact HB.out)) hb); clear HO151; clear BK147; clear BK153; clear HB; have HO151 := n0_; have HO157 := n1_; have BK147 := n2_; have BK153 := n3_; have HB := n4_; clear n0_ n1_ n2_ n3_ n4_; (try clear hb); (try clear hb2); (try clear hk); (try clear hi); (try clear ho0); obtain ⟨Ao34, co34, eo34⟩ := Kd.V_slice HO157.out; subst eo34) | ((with_reducible refine gate_dst (N := 10) rfl ?_); refine box_event ?hg (N := 10) ?hd (cs := #[.bool false, .slice none 0 0, .bool false, .slice none 0 0]) (t := 96) ?hr ?_; (case hd => rfl); (case hg => rfl); (case hr => first | (go_simp; done) | (go_simp; rfl)); intro gb158 hg w35 hbox hb; have n0_ := As0.mk (Kd.V_below (Kd.V_elderB (by (with_reducible repeat (first | apply Kd.V_alloc | apply Kd.V_drewN | apply Kd.V_drew)); exact HO151.out) gb158 (Nat.le_of_eq hg.symm)) hb); have n1_ := As0.mk (Kd.V_below (Kd.V_elderB (by (with_reducible repeat (first | apply Kd.V_alloc | apply Kd.V_drewN | apply Kd.V_drew)); exact HO157.out) gb158 (Nat.le_of_eq hg.symm)) hb); have n2_ := As0.mk (blk_below (g := gb147) (o := .cells #[.bool false, .slice none 0 0, .bool false, .slice none 0 0] 96 (0, 0)) (by (with_reducible repeat (first | refine kdn ?_ _ | refine kdw ?_ | refine kal ?_ _)); exact BK147.out) hb); have n3_ := As0.mk (blk_below (g := gb153) (o := .cells #[.bool t148, .slice Ao30 t149.length co30] 94 (0, 0)) (by (with_reducible repeat (first | refine kdn ?_ _ | refine kdw ?_ | refine kal ?_ _)); exact BK153.out) hb); have n4_ := As0.mk (bsp (by repeat (first | (with_reducible first | exact HB.out | apply below_alloc | apply pbn | apply bd1 | refine bst ?_ GE147.out | refine bst ?_ GE153.out) | exact HB.out)) hb); have n5_ := As0.mk (hbox); have n6_ := As0.mk ((by rw [hg]; exact (bsz (by repeat (first | (with_reducible first | exact HB.out | apply below_alloc | apply pbn | apply bd1 | refine bst ?_ GE147.out | refine bst ?_ GE153.out) | exact HB.out))) : w.heap.size ≤ gb158)); have n7_ := As0.mk ((by rw [hg]; exact (bsz (by repeat (first | (with_reducible first | exact HB.out | apply below_alloc | apply pbn | apply bd1 | refine bst ?_ GE147.out | refine bst ?_ GE153.out) | exact HB.out))) : w.heap.size ≤ gb158)); have n8_ := As0.mk ((by rw [hg]; exact Nat.ne_of_lt (blk_lt (g := gb147) (o := .cells #[.bool false, .slice none 0 0, .bool false, .slice none 0 0] 96 (0, 0)) (by (with_reducible repeat (first | refine kdn ?_ _ | refine kdw ?_ | refine kal ?_ _)); exact BK147.out)) : gb147 ≠ gb158)); have n9_ := As0.mk ((by rw [hg]; exact Nat.ne_of_gt (blk_lt (g := gb147) (o := .cells #[.bool false, .slice none 0 0, .bool false, .slice none 0 0] 96 (0, 0)) (by (with_reducible repeat (first | refine kdn ?_ _ | refine kdw ?_ | refine kal ?_ _)); exact BK147.out)) : gb158 ≠ gb147)); have n10_ := As0.mk ((by rw [hg]; exact Nat.ne_of_lt (blk_lt (g := gb153) (o := .cells #[.bool t148, .slice Ao30 t149.length co30] 94 (0, 0)) (by (with_reducible repeat (first | refine kdn ?_ _ | refine kdw ?_ | refine kal ?_ _)); exact BK153.out)) : gb153 ≠ gb158)); have n11_ := As0.mk ((by rw [hg]; exact Nat.ne_of_gt (blk_lt (g := gb153) (o := .cells #[.bool t148, .slice Ao30 t149.length co30] 94 (0, 0)) (by (with_reducible repeat (first | refine kdn ?_ _ | refine kdw ?_ | refine kal ?_ _)); exact BK153.out)) : gb158 ≠ gb153)); clear HO151; clear HO157; clear BK147; clear BK153; clear HB; have HO151 := n0_; have HO157 := n1_; have BK147 := n2_; have BK153 := n3_; have HB := n4_; have BK158 := n5_; have GW158 := n6_; have GE158 := n7_; have NB147_158 := n8_; have NB158_147 := n9_; have NB153_158 := n10_; have NB158_153 := n11_; clear n0_ n1_ n2_ n3_ n4_ n5_ n6_ n7_ n8_ n9_ n10_ n11_; clear hb hbox hg; have hnb36 := NB158_147.out; have hnc36 := NB147_158.out; have hnb37 := NB158_153.out; have hnc37 := NB153_158.out; have hcz38_0 : w35.cell? ⟨gb158, 0, none⟩ = some (.bool false) := (blk_cell BK158.out 0).trans rfl; have hcz38_1 : w35.cell? ⟨gb158, 1, none⟩ = some (.slice none 0 0) := (blk_cell BK158.out 1).trans rfl; have hcz38_2 : w35.cell? ⟨gb158, 2, none⟩ = some (.bool false) := (blk_cell BK158.out 2).trans rfl; have hcz38_3 : w35.cell? ⟨gb158, 3, none⟩ = some (.slice none 0 0) := (blk_cell BK158.out 3).trans rfl; have hfz38_0 := kfz BK158.out 0; have hfz38_1 := kfz BK158.out 1; have hfz38_2 := kfz BK158.out 2; have hfz38_3 := kfz BK158.out 3) | ((with_reducible refine gate_callee (f := 137) rfl ?_); refine goesL_ (some 62) rfl rfl Tryz.func137 (by kernel_rfl) rfl #[.string (x4_6.extract ((ji21) : Int).toNat x4_6.size)] rfl (by (try simp only [List.map_toArray, List.map_cons, List.map_nil]); first | done | (simp only [hji21]; rfl) | rfl | (simp only [List.length_drop, List.length_take]; rfl)) ?_; (with_reducible refine (nFD.calls kj9 (x4_6.extract ((ji21) : Int).toNat x4_6.size) t159 t160 t163 _ A24.out).mono ?_); rintro e w39 ⟨v161, rfl, ho0, hb⟩; refine ⟨_, rfl, ?_⟩; have n0_ := As0.mk (Kd.V_below (by (with_reducible repeat (first | apply Kd.V_alloc | apply Kd.V_drewN | apply Kd.V_drew)); exact (Kd.V_mono (Kd.V_far (p := ⟨gb158, 3, none⟩) (Kd.V_far (p := ⟨gb158, 2, none⟩) (Kd.V_far (p := ⟨gb158, 1, none⟩) (Kd.V_far (p := ⟨gb158, 0, none⟩) (Kd.V_mono HO151.out (fun k_ hk => (⟨hk, hk.2⟩ : _ ∧ k_ ≠ gb158))) (fun _ hk => hk.2) (.bool t154)) (fun _ hk => hk.2) (.slice Ao34 t155.length co34)) (fun _ hk => hk.2) (.bool false)) (fun _ hk => hk.2) (.slice none 0 0)) (fun _ h_ => h_.1))) hb); have n1_ := As0.mk (Kd.V_below (by (with_reducible repeat (first | apply Kd.V_alloc | apply Kd.V_drewN | apply Kd.V_drew)); exact (Kd.V_mono (Kd.V_far (p := ⟨gb158, 3, none⟩) (Kd.V_far (p := ⟨gb158, 2, none⟩) (Kd.V_far (p := ⟨gb158, 1, none⟩) (Kd.V_far (p := ⟨gb158, 0, none⟩) (Kd.V_mono HO157.out (fun k_ hk => (⟨hk, hk.2⟩ : _ ∧ k_ ≠ gb158))) (fun _ hk => hk.2) (.bool t154)) (fun _ hk => hk.2) (.slice Ao34 t155.length co34)) (fun _ hk => hk.2) (.bool false)) (fun _ hk => hk.2) (.slice none 0 0)) (fun _ h_ => h_.1))) hb); have n2_ := As0.mk (Kd.V_lower (Kd.V_mono (ok' := fun k_ => (w.heap.size ≤ k_) ∧ k_ ≠ gb147 ∧ k_ ≠ gb153 ∧ k_ ≠ gb158) ho0 (fun k_ hk_ => ⟨(Nat.le_trans (bsz (by repeat (first | (with_reducible first | exact HB.out | apply below_alloc | apply pbn | apply bd1 | refine bst ?_ GE147.out | refine bst ?_ GE153.out | refine bst ?_ GE158.out) | exact HB.out))) hk_), (Kd.freshB (g := gb147) (o := .cells #[.bool false, .slice none 0 0, .bool false, .slice none 0 0] 96 (0, 0)) (by (with_reducible repeat (first | refine kdn ?_ _ | refine kdw ?_ | refine kal ?_ _)); refine blk_far ?_ NB147_158.out _; (with_reducible repeat (first | refine kdn ?_ _ | refine kdw ?_ | refine kal ?_ _)); refine blk_far ?_ NB147_158.out _; (with_reducible repeat (first | refine kdn ?_ _ | refine kdw ?_ | refine kal ?_ _)); refine blk_far ?_ NB147_158.out _; (with_reducible repeat (first | refine kdn ?_ _ | refine kdw ?_ | refine kal ?_ _)); refine blk_far ?_ NB147_158.out _; (with_reducible repeat (first | refine kdn ?_ _ | refine kdw ?_ | refine kal ?_ _)); exact BK147.out) k_ hk_), (Kd.freshB (g := gb153) (o := .cells #[.bool t148, .slice Ao30 t149.length co30] 94 (0, 0)) (by (with_reducible repeat (first | refine kdn ?_ _ | refine kdw ?_ | refine kal ?_ _)); refine blk_far ?_ NB153_158.out _; (with_reducible repeat (first | refine kdn ?_ _ | refine kdw ?_ | refine kal ?_ _)); refine blk_far ?_ NB153_158.out _; (with_reducible repeat (first | refine kdn ?_ _ | refine kdw ?_ | refine kal ?_ _)); refine blk_far ?_ NB153_158.out _; (with_reducible repeat (first | refine kdn ?_ _ | refine kdw ?_ | refine kal ?_ _)); refine blk_far ?_ NB153_158.out _; (with_reducible repeat (first | refine kdn ?_ _ | refine kdw ?_ | refine kal ?_ _)); exact BK153.out) k_ hk_), (Kd.freshB (g := gb158) (o := .cells #[.bool t154, .slice Ao34 t155.length co34, .bool false, .slice none 0 0] 96 (0, 0)) (by (with_reducible repeat (first | refine kdn ?_ _ | refine kdw ?_ | refine kal ?_ _)); refine blk_put (cs := #[.bool t154, .slice Ao34 t155.length co34, .bool false, .slice none 0 0]) ?_ 3 _ rfl; (with_reducible repeat (first | refine kdn ?_ _ | refine kdw ?_ | refine kal ?_ _)); refine blk_put (cs := #[.bool t154, .slice Ao34 t155.length co34, .bool false, .slice none 0 0]) ?_ 2 _ rfl; (with_reducible repeat (first | refine kdn ?_ _ | refine kdw ?_ | refine kal ?_ _)); refine blk_put (cs := #[.bool t154, .slice none 0 0, .bool false, .slice none 0 0]) ?_ 1 _ rfl; (with_reducible repeat (first | refine kdn ?_ _ | refine kdw ?_ | refine kal ?_ _)); refine blk_put (cs := #[.bool false, .slice none 0 0, .bool false, .slice none 0 0]) ?_ 0 _ rfl; (with_reducible repeat (first | refine kdn ?_ _ | refine kdw ?_ | refine kal ?_ _)); exact BK158.out) k_ hk_)⟩)) (bsz (by repeat (first | (with_reducible first | exact HB.out | apply below_alloc | apply pbn | apply bd1 | refine bst ?_ GE147.out | refine bst ?_ GE153.out | refine bst ?_ GE158.out) | exact HB.out)))); have n3_ := As0.mk (blk_below (g := gb147) (o := .cells #[.bool false, .slice none 0 0, .bool false, .slice none 0 0] 96 (0, 0)) (by (with_reducible repeat (first | refine kdn ?_ _ | refine kdw ?_ | refine kal ?_ _)); refine blk_far ?_ NB147_158.out _; (with_reducible repeat (first | refine kdn ?_ _ | refine kdw ?_ | refine kal ?_ _)); refine blk_far ?_ NB147_158.out _; (with_reducible repeat (first | refine kdn ?_ _ | refine kdw ?_ | refine kal ?_ _)); refine blk_far ?_ NB147_158.out _; (with_reducible repeat (first | refine kdn ?_ _ | refine kdw ?_ | refine kal ?_ _)); refine blk_far ?_ NB147_158.out _; (with_reducible repeat (first | refine kdn ?_ _ | refine kdw ?_ | refine kal ?_ _)); exact BK147.out) hb); have n4_ := As0.mk (blk_below (g := gb153) (o := .cells #[.bool t148, .slice Ao30 t149.length co30] 94 (0, 0)) (by (with_reducible repeat (first | refine kdn ?_ _ | refine kdw ?_ | refine kal ?_ _)); refine blk_far ?_ NB153_158.out _; (with_reducible repeat (first | refine kdn ?_ _ | refine kdw ?_ | refine kal ?_ _)); refine blk_far ?_ NB153_158.out _; (with_reducible repeat (first | refine kdn ?_ _ | refine kdw ?_ | refine kal ?_ _)); refine blk_far ?_ NB153_158.out _; (with_reducible repeat (first | refine kdn ?_ _ | refine kdw ?_ | refine kal ?_ _)); refine blk_far ?_ NB153_158.out _; (with_reducible repeat (first | refine kdn ?_ _ | refine kdw ?_ | refine kal ?_ _)); exact BK153.out) hb); have n5_ := As0.mk (blk_below (g := gb158) (o := .cells #[.bool t154, .slice Ao34 t155.length co34, .bool false, .slice none 0 0] 96 (0, 0)) (by (with_reducible repeat (first | refine kdn ?_ _ | refine kdw ?_ | refine kal ?_ _)); refine blk_put (cs := #[.bool t154, .slice Ao34 t155.length co34, .bool false, .slice none 0 0]) ?_ 3 _ rfl; (with_reducible repeat (first | refine kdn ?_ _ | refine kdw ?_ | refine kal ?_ _)); refine blk_put (cs := #[.bool t154, .slice Ao34 t155.length co34, .bool false, .slice none 0 0]) ?_ 2 _ rfl; (with_reducible repeat (first | refine kdn ?_ _ | refine kdw ?_ | refine kal ?_ _)); refine blk_put (cs := #[.bool t154, .slice none 0 0, .bool false, .slice none 0 0]) ?_ 1 _ rfl; (with_reducible repeat (first | refine kdn ?_ _ | refine kdw ?_ | refine kal ?_ _)); refine blk_put (cs := #[.bool false, .slice none 0 0, .bool false, .slice none 0 0]) ?_ 0 _ rfl; (with_reducible repeat (first | refine kdn ?_ _ | refine kdw ?_ | refine kal ?_ _)); exact BK158.out) hb); have n6_ := As0.mk (bsp (by repeat (first | (with_reducible first | exact HB.out | apply below_alloc | apply pbn | apply bd1 | refine bst ?_ GE147.out | refine bst ?_ GE153.out | refine bst ?_ GE158.out) | exact HB.out)) hb); clear HO151; clear HO157; clear BK147; clear BK153; clear BK158; clear HB; have HO151 := n0_; have HO157 := n1_; have HO162 := n2_; have BK147 := n3_; have BK153 := n4_; have BK158 := n5_; have HB := n6_; clear n0_ n1_ n2_ n3_ n4_ n5_ n6_; (try clear hb); (try clear hb2); (try clear hk); (try clear hi); (try clear ho0)) | ((with_reducible refine gate_dst (N := 11) rfl ?_); refine box_event ?hg (N := 11) ?hd (cs := #[.bool false, .slice none 0 0]) (t := 94) ?hr ?_; (case hd => rfl); (case hg => rfl); (case hr => first | (go_simp; done) | (go_simp; rfl)); intro gb164 hg w40 hbox hb; have n0_ := As0.mk (Kd.V_below (Kd.V_elderB (by (with_reducible repeat (first | apply Kd.V_alloc | apply Kd.V_drewN | apply Kd.V_drew)); exact HO151.out) gb164 (Nat.le_of_eq hg.symm)) hb); have n1_ := As0.mk (Kd.V_below (Kd.V_elderB (by (with_reducible repeat (first | apply Kd.V_alloc | apply Kd.V_drewN | apply Kd.V_drew)); exact HO157.out) gb164 (Nat.le_of_eq hg.symm)) hb); have n2_ := As0.mk (Kd.V_below (Kd.V_elderB (by (with_reducible repeat (first | apply Kd.V_alloc | apply Kd.V_drewN | apply Kd.V_drew)); exact HO162.out) gb164 (Nat.le_of_eq hg.symm)) hb); have n3_ := As0.mk (blk_below (g := gb147) (o := .cells #[.bool false, .slice none 0 0, .bool false, .slice none 0 0] 96 (0, 0)) (by (with_reducible repeat (first | refine kdn ?_ _ | refine kdw ?_ | refine kal ?_ _)); exact BK147.out) hb); have n4_ := As0.mk (blk_below (g := gb153) (o := .cells #[.bool t148, .slice Ao30 t149.length co30] 94 (0, 0)) (by (with_reducible repeat (first | refine kdn ?_ _ | refine kdw ?_ | refine kal ?_ _)); exact BK153.out) hb); have n5_ := As0.mk (blk_below (g := gb158) (o := .cells #[.bool t154, .slice Ao34 t155.length co34, .bool false, .slice none 0 0] 96 (0, 0)) (by (with_reducible repeat (first | refine kdn ?_ _ | refine kdw ?_ | refine kal ?_ _)); exact BK158.out) hb); have n6_ := As0.mk (bsp (by repeat (first | (with_reducible first | exact HB.out | apply below_alloc | apply pbn | apply bd1 | refine bst ?_ GE147.out | refine bst ?_ GE153.out | refine bst ?_ GE158.out) | exact HB.out)) hb); have n7_ := As0.mk (hbox); have n8_ := As0.mk ((by rw [hg]; exact (bsz (by repeat (first | (with_reducible first | exact HB.out | apply below_alloc | apply pbn | apply bd1 | refine bst ?_ GE147.out | refine bst ?_ GE153.out | refine bst ?_ GE158.out) | exact HB.out))) : w.heap.size ≤ gb164)); have n9_ := As0.mk ((by rw [hg]; exact (bsz (by repeat (first | (with_reducible first | exact HB.out | apply below_alloc | apply pbn | apply bd1 | refine bst ?_ GE147.out | refine bst ?_ GE153.out | refine bst ?_ GE158.out) | exact HB.out))) : w.heap.size ≤ gb164)); have n10_ := As0.mk ((by rw [hg]; exact Nat.ne_of_lt (blk_lt (g := gb147) (o := .cells #[.bool false, .slice none 0 0, .bool false, .slice none 0 0] 96 (0, 0)) (by (with_reducible repeat (first | refine kdn ?_ _ | refine kdw ?_ | refine kal ?_ _)); exact BK147.out)) : gb147 ≠ gb164)); have n11_ := As0.mk ((by rw [hg]; exact Nat.ne_of_gt (blk_lt (g := gb147) (o := .cells #[.bool false, .slice none 0 0, .bool false, .slice none 0 0] 96 (0, 0)) (by (with_reducible repeat (first | refine kdn ?_ _ | refine kdw ?_ | refine kal ?_ _)); exact BK147.out)) : gb164 ≠ gb147)); have n12_ := As0.mk ((by rw [hg]; exact Nat.ne_of_lt (blk_lt (g := gb153) (o := .cells #[.bool t148, .slice Ao30 t149.length co30] 94 (0, 0)) (by (with_reducible repeat (first | refine kdn ?_ _ | refine kdw ?_ | refine kal ?_ _)); exact BK153.out)) : gb153 ≠ gb164)); have n13_ := As0.mk ((by rw [hg]; exact Nat.ne_of_gt (blk_lt (g := gb153) (o := .cells #[.bool t148, .slice Ao30 t149.length co30] 94 (0, 0)) (by (with_reducible repeat (first | refine kdn ?_ _ | refine kdw ?_ | refine kal ?_ _)); exact BK153.out)) : gb164 ≠ gb153)); have n14_ := As0.mk ((by rw [hg]; exact Nat.ne_of_lt (blk_lt (g := gb158) (o := .cells #[.bool t154, .slice Ao34 t155.length co34, .bool false, .slice none 0 0] 96 (0, 0)) (by (with_reducible repeat (first | refine kdn ?_ _ | refine kdw ?_ | refine kal ?_ _)); exact BK158.out)) : gb158 ≠ gb164)); have n15_ := As0.mk ((by rw [hg]; exact Nat.ne_of_gt (blk_lt (g := gb158) (o := .cells #[.bool t154, .slice Ao34 t155.length co34, .bool false, .slice none 0 0] 96 (0, 0)) (by (with_reducible repeat (first | refine kdn ?_ _ | refine kdw ?_ | refine kal ?_ _)); exact BK158.out)) : gb164 ≠ gb158)); clear HO151; clear HO157; clear HO162; clear BK147; clear BK153; clear BK158; clear HB; have HO151 := n0_; have HO157 := n1_; have HO162 := n2_; have BK147 := n3_; have BK153 := n4_; have BK158 := n5_; have HB := n6_; have BK164 := n7_; have GW164 := n8_; have GE164 := n9_; have NB147_164 := n10_; have NB164_147 := n11_; have NB153_164 := n12_; have NB164_153 := n13_; have NB158_164 := n14_; have NB164_158 := n15_; clear n0_ n1_ n2_ n3_ n4_ n5_ n6_ n7_ n8_ n9_ n10_ n11_ n12_ n13_ n14_ n15_; clear hb hbox hg; have hnb41 := NB164_147.out; have hnc41 := NB147_164.out; have hnb42 := NB164_153.out; have hnc42 := NB153_164.out; have hnb43 := NB164_158.out; have hnc43 := NB158_164.out; have hcz44_0 : w40.cell? ⟨gb164, 0, none⟩ = some (.bool false) := (blk_cell BK164.out 0).trans rfl; have hcz44_1 : w40.cell? ⟨gb164, 1, none⟩ = some (.slice none 0 0) := (blk_cell BK164.out 1).trans rfl; have hfz44_0 := kfz BK164.out 0; have hfz44_1 := kfz BK164.out 1; obtain ⟨Ao45, co45, eo45⟩ := Kd.V_slice HO162.out; subst eo45))
                          (try simp only [Act.put, List.setIfInBounds_toArray, List.set_cons_zero, List.set_cons_succ])
                          go_cut [71] (fun v71 wc => ∃ (kq : Nat) (x71_24 : Bool), v71 = .bool x71_24 ∧ As0 (nRd.j4 kq a0 x71_24 t154 t155 false t159 t160 = some (r1, r2, r3, r4, r5)) ∧ As0 (kq ≤ kj9) ∧ As0 (Kd.V (Kd.int .u32) 143 wc w.heap.size (fun k_ => (w.heap.size ≤ k_) ∧ k_ ≠ gb147 ∧ k_ ≠ gb153 ∧ k_ ≠ gb158 ∧ k_ ≠ gb164) (.slice Ao30 t149.length co30) t149) ∧ As0 (Kd.V (Kd.int .u32) 143 wc w.heap.size (fun k_ => (w.heap.size ≤ k_) ∧ k_ ≠ gb147 ∧ k_ ≠ gb153 ∧ k_ ≠ gb158 ∧ k_ ≠ gb164) (.slice Ao34 t155.length co34) t155) ∧ As0 (Kd.V (Kd.int .u32) 143 wc w.heap.size (fun k_ => (w.heap.size ≤ k_) ∧ k_ ≠ gb147 ∧ k_ ≠ gb153 ∧ k_ ≠ gb158 ∧ k_ ≠ gb164) (.slice Ao45 t160.length co45) t160) ∧ As0 (wc.heap[gb147]? = some (.cells #[.bool false, (.slice none 0 0), .bool false, (.slice none 0 0)] 96 (0, 0))) ∧ As0 (wc.heap[gb153]? = some (.cells #[.bool t148, (.slice Ao30 t149.length co30)] 94 (0, 0))) ∧ As0 (wc.heap[gb158]? = some (.cells #[.bool t154, (.slice Ao34 t155.length co34), .bool false, (.slice none 0 0)] 96 (0, 0))) ∧ As0 (wc.heap[gb164]? = some (.cells #[.bool t159, (.slice Ao45 t160.length co45)] 94 (0, 0))) ∧ As0 (Below w.heap.size w wc))
                          case first =>
                            have H := HC25.out
                            clear HC25
                            by_cases c46 : t163 = true
                            · subst c46
                              have H1 : ((sosoptnum_Sign.f t159 t160).bind fun t165 => (nRd.j4 kj9 a0 (t165 == 0) t154 t155 false t159 t160)) = some (r1, r2, r3, r4, r5) := by rw [if_pos rfl] at H; exact H
                              clear H
                              have H := H1
                              clear H1
                              replace H := Option.bind_eq_some_iff.mp H
                              obtain ⟨t165, A470, H⟩ := H
                              replace H : (nRd.j4 kj9 a0 (t165 == 0) t154 t155 false t159 t160) = some (r1, r2, r3, r4, r5) := H
                              have A47 := As0.mk A470
                              clear A470
                              have H' := As0.mk H
                              clear H
                              have hnb48 := NB164_147.out
                              have hnc48 := NB147_164.out
                              have hnb49 := NB164_153.out
                              have hnc49 := NB153_164.out
                              have hnb50 := NB164_158.out
                              have hnc50 := NB158_164.out
                              have hcz51_0 : w40.cell? ⟨gb164, 0, none⟩ = some (.bool false) := (blk_cell BK164.out 0).trans rfl
                              have hcz51_1 : w40.cell? ⟨gb164, 1, none⟩ = some (.slice none 0 0) := (blk_cell BK164.out 1).trans rfl
                              have hfz51_0 := kfz BK164.out 0
                              have hfz51_1 := kfz BK164.out 1
                              go_wp2_with (first | (go_at_call 139; (with_reducible refine (sosoptnum_Sign.calls t159 _ _ t160 t165 _ ?side1 ?side2 A47.out).mono ?_); (case side1 => refine (Kd.V_reads' (e := 143) (base := w.heap.size) (ok := fun k_ => (((w.heap.size ≤ k_) ∧ (k_ ≠ gb147 ∧ (k_ ≠ gb153 ∧ k_ ≠ gb158))) ∧ k_ ≠ gb164)) (n := t160.length) (c := co45) ?_).2.2; exact (by (with_reducible repeat (first | apply Kd.V_alloc | apply Kd.V_drewN | apply Kd.V_drew)); exact (Kd.V_mono (Kd.V_far (p := ⟨gb164, 1, none⟩) (Kd.V_far (p := ⟨gb164, 0, none⟩) (Kd.V_mono HO162.out (fun k_ hk => (⟨hk, hk.2⟩ : _ ∧ k_ ≠ gb164))) (fun _ hk => hk.2) (.bool t159)) (fun _ hk => hk.2) (.slice Ao45 t160.length co45)) (fun _ h_ => h_.1)))); (case side2 => exact (Kd.V_reads' HO162.out).2.1); rintro e w52 ⟨rfl, hb⟩; have n0_ := As0.mk (Kd.V_below (by (with_reducible repeat (first | apply Kd.V_alloc | apply Kd.V_drewN | apply Kd.V_drew)); exact (Kd.V_mono (Kd.V_far (p := ⟨gb164, 1, none⟩) (Kd.V_far (p := ⟨gb164, 0, none⟩) (Kd.V_mono HO151.out (fun k_ hk => (⟨hk, hk.2⟩ : _ ∧ k_ ≠ gb164))) (fun _ hk => hk.2) (.bool t159)) (fun _ hk => hk.2) (.slice Ao45 t160.length co45)) (fun _ h_ => h_.1))) hb); have n1_ := As0.mk (Kd.V_below (by (with_reducible repeat (first | apply Kd.V_alloc | apply Kd.V_drewN | apply Kd.V_drew)); exact (Kd.V_mono (Kd.V_far (p := ⟨gb164, 1, none⟩) (Kd.V_far (p := ⟨gb164, 0, none⟩) (Kd.V_mono HO157.out (fun k_ hk => (⟨hk, hk.2⟩ : _ ∧ k_ ≠ gb164))) (fun _ hk => hk.2) (.bool t159)) (fun _ hk => hk.2) (.slice Ao45 t160.length co45)) (fun _ h_ => h_.1))) hb); have n2_ := As0.mk (Kd.V_below (by (with_reducible repeat (first | apply Kd.V_alloc | apply Kd.V_drewN | apply Kd.V_drew)); exact (Kd.V_mono (Kd.V_far (p := ⟨gb164, 1, none⟩) (Kd.V_far (p := ⟨gb164, 0, none⟩) (Kd.V_mono HO162.out (fun k_ hk => (⟨hk, hk.2⟩ : _ ∧ k_ ≠ gb164))) (fun _ hk => hk.2) (.bool t159)) (fun _ hk => hk.2) (.slice Ao45 t160.length co45)) (fun _ h_ => h_.1))) hb); have n3_ := As0.mk (blk_below (g := gb147) (o := .cells #[.bool false, .slice none 0 0, .bool false, .slice none 0 0] 96 (0, 0)) (by (with_reducible repeat (first | refine kdn ?_ _ | refine kdw ?_ | refine kal ?_ _)); refine blk_far ?_ NB147_164.out _; (with_reducible repeat (first | refine kdn ?_ _ | refine kdw ?_ | refine kal ?_ _)); refine blk_far ?_ NB147_164.out _; (with_reducible repeat (first | refine kdn ?_ _ | refine kdw ?_ | refine kal ?_ _)); exact BK147.out) hb); have n4_ := As0.mk (blk_below (g := gb153) (o := .cells #[.bool t148, .slice Ao30 t149.length co30] 94 (0, 0)) (by (with_reducible repeat (first | refine kdn ?_ _ | refine kdw ?_ | refine kal ?_ _)); refine blk_far ?_ NB153_164.out _; (with_reducible repeat (first | refine kdn ?_ _ | refine kdw ?_ | refine kal ?_ _)); refine blk_far ?_ NB153_164.out _; (with_reducible repeat (first | refine kdn ?_ _ | refine kdw ?_ | refine kal ?_ _)); exact BK153.out) hb); have n5_ := As0.mk (blk_below (g := gb158) (o := .cells #[.bool t154, .slice Ao34 t155.length co34, .bool false, .slice none 0 0] 96 (0, 0)) (by (with_reducible repeat (first | refine kdn ?_ _ | refine kdw ?_ | refine kal ?_ _)); refine blk_far ?_ NB158_164.out _; (with_reducible repeat (first | refine kdn ?_ _ | refine kdw ?_ | refine kal ?_ _)); refine blk_far ?_ NB158_164.out _; (with_reducible repeat (first | refine kdn ?_ _ | refine kdw ?_ | refine kal ?_ _)); exact BK158.out) hb); have n6_ := As0.mk (blk_below (g := gb164) (o := .cells #[.bool t159, .slice Ao45 t160.length co45] 94 (0, 0)) (by (with_reducible repeat (first | refine kdn ?_ _ | refine kdw ?_ | refine kal ?_ _)); refine blk_put (cs := #[.bool t159, .slice none 0 0]) ?_ 1 _ rfl; (with_reducible repeat (first | refine kdn ?_ _ | refine kdw ?_ | refine kal ?_ _)); refine blk_put (cs := #[.bool false, .slice none 0 0]) ?_ 0 _ rfl; (with_reducible repeat (first | refine kdn ?_ _ | refine kdw ?_ | refine kal ?_ _)); exact BK164.out) hb); have n7_ := As0.mk (bsp (by repeat (first | (with_reducible first | exact HB.out | apply below_alloc | apply pbn | apply bd1 | refine bst ?_ GE147.out | refine bst ?_ GE153.out | refine bst ?_ GE158.out | refine bst ?_ GE164.out) | exact HB.out)) hb); clear HO151; clear HO157; clear HO162; clear BK147; clear BK153; clear BK158; clear BK164; clear HB; have HO151 := n0_; have HO157 := n1_; have HO162 := n2_; have BK147 := n3_; have BK153 := n4_; have BK158 := n5_; have BK164 := n6_; have HB := n7_; clear n0_ n1_ n2_ n3_ n4_ n5_ n6_ n7_; (try clear hb); (try clear hb2); (try clear hk); (try clear hi)))
                              go_meet
                              case rel => exact ⟨_, ((t165 == 0)), (by first | rfl | (simp; done) | (simp [*]; done)), H', ⟨by have := HJ1.out; have := HJ6.out; have := HJ9.out; first | omega | exact Nat.le_refl _⟩, ⟨by (with_reducible repeat (first | apply Kd.V_alloc | apply Kd.V_drewN | apply Kd.V_drew)); exact Kd.V_mono HO151.out (fun _ hk => ⟨hk.1.1.1, ⟨hk.1.1.2.1, ⟨hk.1.1.2.2, ⟨hk.1.2, hk.2⟩⟩⟩⟩)⟩, ⟨by (with_reducible repeat (first | apply Kd.V_alloc | apply Kd.V_drewN | apply Kd.V_drew)); exact Kd.V_mono HO157.out (fun _ hk => ⟨hk.1.1.1, ⟨hk.1.1.2.1, ⟨hk.1.1.2.2, ⟨hk.1.2, hk.2⟩⟩⟩⟩)⟩, ⟨by (with_reducible repeat (first | apply Kd.V_alloc | apply Kd.V_drewN | apply Kd.V_drew)); exact Kd.V_mono HO162.out (fun _ hk => ⟨hk.1.1, ⟨hk.1.2.1, ⟨hk.1.2.2.1, ⟨hk.1.2.2.2, hk.2⟩⟩⟩⟩)⟩, ⟨by (with_reducible repeat (first | refine kdn ?_ _ | refine kdw ?_ | refine kal ?_ _)); exact BK147.out⟩, ⟨by (with_reducible repeat (first | refine kdn ?_ _ | refine kdw ?_ | refine kal ?_ _)); exact BK153.out⟩, ⟨by (with_reducible repeat (first | refine kdn ?_ _ | refine kdw ?_ | refine kal ?_ _)); exact BK158.out⟩, ⟨by (with_reducible repeat (first | refine kdn ?_ _ | refine kdw ?_ | refine kal ?_ _)); exact BK164.out⟩, ⟨by repeat (first | (with_reducible first | exact HB.out | apply below_alloc | apply pbn | apply bd1 | refine bst ?_ GE147.out | refine bst ?_ GE153.out | refine bst ?_ GE158.out | refine bst ?_ GE164.out) | exact HB.out)⟩⟩
                            · replace c46 := Bool.eq_false_iff.mpr c46
                              subst c46
                              have H1 : (nRd.j4 kj9 a0 true t154 t155 false t159 t160) = some (r1, r2, r3, r4, r5) := by rw [if_neg (show ¬ (false = true) by decide)] at H; exact H
                              clear H
                              have H := H1
                              clear H1
                              have H' := As0.mk H
                              clear H
                              go_wp2
                              go_meet
                              case rel => exact ⟨_, (true), (by first | rfl | (simp; done) | (simp [*]; done)), H', ⟨by have := HJ1.out; have := HJ6.out; have := HJ9.out; first | omega | exact Nat.le_refl _⟩, ⟨by (with_reducible repeat (first | apply Kd.V_alloc | apply Kd.V_drewN | apply Kd.V_drew)); exact Kd.V_mono (Kd.V_far (p := ⟨gb164, 1, none⟩) (Kd.V_far (p := ⟨gb164, 0, none⟩) (Kd.V_mono HO151.out (fun k_ hk => (⟨hk, hk.2⟩ : _ ∧ k_ ≠ gb164))) (fun _ hk => hk.2) (.bool t159)) (fun _ hk => hk.2) (.slice Ao45 t160.length co45)) (fun _ hk => ⟨hk.1.1.1.1, ⟨hk.1.1.1.2.1, ⟨hk.1.1.1.2.2, ⟨hk.1.1.2, hk.1.2⟩⟩⟩⟩)⟩, ⟨by (with_reducible repeat (first | apply Kd.V_alloc | apply Kd.V_drewN | apply Kd.V_drew)); exact Kd.V_mono (Kd.V_far (p := ⟨gb164, 1, none⟩) (Kd.V_far (p := ⟨gb164, 0, none⟩) (Kd.V_mono HO157.out (fun k_ hk => (⟨hk, hk.2⟩ : _ ∧ k_ ≠ gb164))) (fun _ hk => hk.2) (.bool t159)) (fun _ hk => hk.2) (.slice Ao45 t160.length co45)) (fun _ hk => ⟨hk.1.1.1.1, ⟨hk.1.1.1.2.1, ⟨hk.1.1.1.2.2, ⟨hk.1.1.2, hk.1.2⟩⟩⟩⟩)⟩, ⟨by (with_reducible repeat (first | apply Kd.V_alloc | apply Kd.V_drewN | apply Kd.V_drew)); exact Kd.V_mono (Kd.V_far (p := ⟨gb164, 1, none⟩) (Kd.V_far (p := ⟨gb164, 0, none⟩) (Kd.V_mono HO162.out (fun k_ hk => (⟨hk, hk.2⟩ : _ ∧ k_ ≠ gb164))) (fun _ hk => hk.2) (.bool t159)) (fun _ hk => hk.2) (.slice Ao45 t160.length co45)) (fun _ hk => ⟨hk.1.1.1, ⟨hk.1.1.2.1, ⟨hk.1.1.2.2.1, ⟨hk.1.1.2.2.2, hk.1.2⟩⟩⟩⟩)⟩, ⟨by (with_reducible repeat (first | refine kdn ?_ _ | refine kdw ?_ | refine kal ?_ _)); refine blk_far ?_ NB147_164.out _; (with_reducible repeat (first | refine kdn ?_ _ | refine kdw ?_ | refine kal ?_ _)); refine blk_far ?_ NB147_164.out _; (with_reducible repeat (first | refine kdn ?_ _ | refine kdw ?_ | refine kal ?_ _)); exact BK147.out⟩, ⟨by (with_reducible repeat (first | refine kdn ?_ _ | refine kdw ?_ | refine kal ?_ _)); refine blk_far ?_ NB153_164.out _; (with_reducible repeat (first | refine kdn ?_ _ | refine kdw ?_ | refine kal ?_ _)); refine blk_far ?_ NB153_164.out _; (with_reducible repeat (first | refine kdn ?_ _ | refine kdw ?_ | refine kal ?_ _)); exact BK153.out⟩, ⟨by (with_reducible repeat (first | refine kdn ?_ _ | refine kdw ?_ | refine kal ?_ _)); refine blk_far ?_ NB158_164.out _; (with_reducible repeat (first | refine kdn ?_ _ | refine kdw ?_ | refine kal ?_ _)); refine blk_far ?_ NB158_164.out _; (with_reducible repeat (first | refine kdn ?_ _ | refine kdw ?_ | refine kal ?_ _)); exact BK158.out⟩, ⟨by (with_reducible repeat (first | refine kdn ?_ _ | refine kdw ?_ | refine kal ?_ _)); refine blk_put (cs := #[.bool t159, .slice none 0 0]) ?_ 1 _ rfl; (with_reducible repeat (first | refine kdn ?_ _ | refine kdw ?_ | refine kal ?_ _)); refine blk_put (cs := #[.bool false, .slice none 0 0]) ?_ 0 _ rfl; (with_reducible repeat (first | refine kdn ?_ _ | refine kdw ?_ | refine kal ?_ _)); exact BK164.out⟩, ⟨by repeat (first | (with_reducible first | exact HB.out | apply below_alloc | apply pbn | apply bd1 | refine bst ?_ GE147.out | refine bst ?_ GE153.out | refine bst ?_ GE158.out | refine bst ?_ GE164.out) | exact HB.out)⟩⟩
                          case rest =>
                            clear HC25
                            try clear c1
                            try clear p1
                            try clear q1
                            try clear hx1
                            try clear c2
                            try clear p2
                            try clear c3
                            try clear c4
                            try clear c4b0
                            try clear c4b1
                            try clear c5
                            try clear c5b0
                            try clear c5b1
                            try clear p6
                            try clear q6
                            try clear hx6
                            try clear qi6
                            try clear c8
                            try clear c9
                            try clear c9b0
                            try clear c9b1
                            try clear c11
                            try clear c11b0
                            try clear c12
                            try clear c12b0
                            try clear c13
                            try clear p13
                            try clear q13
                            try clear hx13
                            try clear c14
                            try clear c14b0
                            try clear c14b1
                            try clear c15
                            try clear c15b0
                            try clear c15b1
                            try clear c16
                            try clear c16b0
                            try clear c16b1
                            try clear c18
                            try clear c20
                            try clear c20b0
                            try clear c22
                            try clear c22b0
                            try clear c22b1
                            try clear c23
                            try clear c23b0
                            try clear c23b1
                            try clear c28
                            try clear c36
                            try clear c37
                            try clear c41
                            try clear c42
                            try clear c43
                            try clear c46
                            try clear c48
                            try clear c49
                            try clear c50
                            try clear hcz29_0
                            try clear hcz29_1
                            try clear hcz32_0
                            try clear hcz32_1
                            try clear hcz38_0
                            try clear hcz38_1
                            try clear hcz38_2
                            try clear hcz38_3
                            try clear hcz44_0
                            try clear hcz44_1
                            try clear hcz51_0
                            try clear hcz51_1
                            try clear hfz29_0
                            try clear hfz29_1
                            try clear hfz32_0
                            try clear hfz32_1
                            try clear hfz38_0
                            try clear hfz38_1
                            try clear hfz38_2
                            try clear hfz38_3
                            try clear hfz44_0
                            try clear hfz44_1
                            try clear hfz51_0
                            try clear hfz51_1
                            try clear p1
                            try clear p13
                            try clear p2
                            try clear p6
                            try clear q1
                            try clear q13
                            try clear q6
                            obtain ⟨kq, x71_24, rfl, HA, HJ24, HO_154001, HO_159001, HO_165001, BK147, BK153, BK158, BK164, HB⟩ := hcut
                            cases kq with
                            | zero => exact absurd HA.out (by simp [nRd.j4])
                            | succ kj24 =>
                              have H := HA.out
                              clear HA
                              simp only [nRd.j4] at H
                              by_cases c53 : x71_24 = true
                              · subst c53
                                have H1 : (some (false, ([] : List Int), false, ([] : List Int), false)) = some (r1, r2, r3, r4, r5) := by rw [if_pos rfl] at H; exact H
                                clear H
                                have H := H1
                                clear H1
                                simp only [Option.some.injEq, Prod.mk.injEq] at H
                                obtain ⟨rfl, rfl, rfl, rfl, rfl⟩ := H
                                have hnb54 := NB147_153.out
                                have hnc54 := NB153_147.out
                                have hnb55 := NB147_158.out
                                have hnc55 := NB158_147.out
                                have hnb56 := NB147_164.out
                                have hnc56 := NB164_147.out
                                have hcz57_0 : wc.cell? ⟨gb147, 0, none⟩ = some (.bool false) := (blk_cell BK147.out 0).trans rfl
                                have hcz57_1 : wc.cell? ⟨gb147, 1, none⟩ = some (.slice none 0 0) := (blk_cell BK147.out 1).trans rfl
                                have hcz57_2 : wc.cell? ⟨gb147, 2, none⟩ = some (.bool false) := (blk_cell BK147.out 2).trans rfl
                                have hcz57_3 : wc.cell? ⟨gb147, 3, none⟩ = some (.slice none 0 0) := (blk_cell BK147.out 3).trans rfl
                                have hfz57_0 := kfz BK147.out 0
                                have hfz57_1 := kfz BK147.out 1
                                have hfz57_2 := kfz BK147.out 2
                                have hfz57_3 := kfz BK147.out 3
                                go_wp2
                                refine bodyPost_ret (results_ct rfl _ _ gb147 96 #[.bool false, .slice none 0 0, .bool false, .slice none 0 0] (0, 0) _ rfl (by (with_reducible repeat (first | refine kdn ?_ _ | refine kdw ?_ | refine kal ?_ _)); refine blk_put (cs := #[.bool false, .slice none 0 0, .bool false, .slice none 0 0]) ?_ 3 _ rfl; (with_reducible repeat (first | refine kdn ?_ _ | refine kdw ?_ | refine kal ?_ _)); refine blk_put (cs := #[.bool false, .slice none 0 0, .bool false, .slice none 0 0]) ?_ 2 _ rfl; (with_reducible repeat (first | refine kdn ?_ _ | refine kdw ?_ | refine kal ?_ _)); refine blk_put (cs := #[.bool false, .slice none 0 0, .bool false, .slice none 0 0]) ?_ 1 _ rfl; (with_reducible repeat (first | refine kdn ?_ _ | refine kdw ?_ | refine kal ?_ _)); refine blk_put (cs := #[.bool false, .slice none 0 0, .bool false, .slice none 0 0]) ?_ 0 _ rfl; (with_reducible repeat (first | refine kdn ?_ _ | refine kdw ?_ | refine kal ?_ _)); exact BK147.out) Tryz.underlying96 rfl (by kernel_rfl)) rfl ?_
                                exact ⟨_, _, by first | rfl | (simp [errW_none, errW_some] <;> rfl) | (simp only [← hji21]; first | rfl | (simp [errW_none, errW_some] <;> rfl)) | (simp [*, errW_none, errW_some] <;> rfl), (Kd.V_nil _ _ _ _ _), (Kd.V_nil _ _ _ _ _), by repeat (first | (with_reducible first | exact HB.out | apply below_alloc | apply pbn | apply bd1 | refine bst ?_ GE147.out | refine bst ?_ GE153.out | refine bst ?_ GE158.out | refine bst ?_ GE164.out) | exact HB.out)⟩
                              · replace c53 := Bool.eq_false_iff.mpr c53
                                subst c53
                                have H1 : ((nFr.f t154 t155 t159 t160).bind fun bt166 => ((nTx.f kj24 bt166.1 bt166.2.1 bt166.2.2.1 bt166.2.2.2).bind fun t174 => (some (bt166.1, bt166.2.1, bt166.2.2.1, bt166.2.2.2, (t174.toList == a0.toList))))) = some (r1, r2, r3, r4, r5) := by rw [if_neg (show ¬ (false = true) by decide)] at H; exact H
                                clear H
                                have H := H1
                                clear H1
                                replace H := Option.bind_eq_some_iff.mp H
                                obtain ⟨⟨t166, t167, t170, t171⟩, A580, H⟩ := H
                                replace H : ((nTx.f kj24 t166 t167 t170 t171).bind fun t174 => (some (t166, t167, t170, t171, (t174.toList == a0.toList)))) = some (r1, r2, r3, r4, r5) := H
                                have A58 := As0.mk A580
                                clear A580
                                replace H := Option.bind_eq_some_iff.mp H
                                obtain ⟨t174, A590, H⟩ := H
                                replace H : (some (t166, t167, t170, t171, (t174.toList == a0.toList))) = some (r1, r2, r3, r4, r5) := H
                                have A59 := As0.mk A590
                                clear A590
                                simp only [Option.some.injEq, Prod.mk.injEq] at H
                                obtain ⟨rfl, rfl, rfl, rfl, rfl⟩ := H
                                have hnb60 := NB158_147.out
                                have hnc60 := NB147_158.out
                                have hnb61 := NB158_153.out
                                have hnc61 := NB153_158.out
                                have hnb62 := NB158_164.out
                                have hnc62 := NB164_158.out
                                have hcz63_0 : wc.cell? ⟨gb158, 0, none⟩ = some (.bool t154) := (blk_cell BK158.out 0).trans rfl
                                have hcz63_1 : wc.cell? ⟨gb158, 1, none⟩ = some (.slice Ao34 t155.length co34) := (blk_cell BK158.out 1).trans rfl
                                have hcz63_2 : wc.cell? ⟨gb158, 2, none⟩ = some (.bool false) := (blk_cell BK158.out 2).trans rfl
                                have hcz63_3 : wc.cell? ⟨gb158, 3, none⟩ = some (.slice none 0 0) := (blk_cell BK158.out 3).trans rfl
                                have hfz63_0 := kfz BK158.out 0
                                have hfz63_1 := kfz BK158.out 1
                                have hfz63_2 := kfz BK158.out 2
                                have hfz63_3 := kfz BK158.out 3
                                have hnb64 := NB164_147.out
                                have hnc64 := NB147_164.out
                                have hnb65 := NB164_153.out
                                have hnc65 := NB153_164.out
                                have hcz66_0 : wc.cell? ⟨gb164, 0, none⟩ = some (.bool t159) := (blk_cell BK164.out 0).trans rfl
                                have hcz66_1 : wc.cell? ⟨gb164, 1, none⟩ = some (.slice Ao45 t160.length co45) := (blk_cell BK164.out 1).trans rfl
                                have hfz66_0 := kfz BK164.out 0
                                have hfz66_1 := kfz BK164.out 1
                                try go_wp2_with (first | ((with_reducible refine gate_callee (f := 140) rfl ?_); refine goesL_ (some 76) rfl rfl Tryz.func140 (by kernel_rfl) rfl #[.agg #[.bool t154, .slice Ao34 t155.length co34], .agg #[.bool t159, .slice Ao45 t160.length co45]] rfl (by (try simp only [List.map_toArray, List.map_cons, List.map_nil]); first | done | rfl | (simp only [List.length_drop, List.length_take]; rfl)) ?_; (with_reducible refine (nFr.calls t154 (fun k_ => ((w.heap.size ≤ k_) ∧ (k_ ≠ gb147 ∧ (k_ ≠ gb153 ∧ (k_ ≠ gb158 ∧ k_ ≠ gb164))))) _ _ t155 t159 (fun k_ => ((w.heap.size ≤ k_) ∧ (k_ ≠ gb147 ∧ (k_ ≠ gb153 ∧ (k_ ≠ gb158 ∧ k_ ≠ gb164))))) _ _ t160 t166 t167 t170 t171 _ ?side1 ?side2 A58.out).mono ?_); (case side1 => exact HO_159001.out); (case side2 => exact HO_165001.out); rintro e w67 ⟨v168, v172, rfl, ho0, ho1, hb⟩; refine ⟨_, rfl, ?_⟩; have n0_ := As0.mk (Kd.V_below (by (with_reducible repeat (first | apply Kd.V_alloc | apply Kd.V_drewN | apply Kd.V_drew)); exact HO_154001.out) hb); have n1_ := As0.mk (Kd.V_below (by (with_reducible repeat (first | apply Kd.V_alloc | apply Kd.V_drewN | apply Kd.V_drew)); exact HO_159001.out) hb); have n2_ := As0.mk (Kd.V_below (by (with_reducible repeat (first | apply Kd.V_alloc | apply Kd.V_drewN | apply Kd.V_drew)); exact HO_165001.out) hb); have n3_ := As0.mk (Kd.V_lower (Kd.V_mono (ok' := fun k_ => (w.heap.size ≤ k_) ∧ k_ ≠ gb147 ∧ k_ ≠ gb153 ∧ k_ ≠ gb158 ∧ k_ ≠ gb164) ho0 (fun k_ hk_ => ⟨Or.elim hk_ (fun hs_ => Or.elim hs_ (fun hs_ => hs_.1) (fun hs_ => hs_.1)) (fun hn_ => (Nat.le_trans (bsz (by repeat (first | (with_reducible first | exact HB.out | apply below_alloc | apply pbn | apply bd1 | refine bst ?_ GE147.out | refine bst ?_ GE153.out | refine bst ?_ GE158.out | refine bst ?_ GE164.out) | exact HB.out))) hn_)), Or.elim hk_ (fun hs_ => Or.elim hs_ (fun hs_ => hs_.2.1) (fun hs_ => hs_.2.1)) (fun hn_ => (Kd.freshB (g := gb147) (o := .cells #[.bool false, .slice none 0 0, .bool false, .slice none 0 0] 96 (0, 0)) (by (with_reducible repeat (first | refine kdn ?_ _ | refine kdw ?_ | refine kal ?_ _)); exact BK147.out) k_ hn_)), Or.elim hk_ (fun hs_ => Or.elim hs_ (fun hs_ => hs_.2.2.1) (fun hs_ => hs_.2.2.1)) (fun hn_ => (Kd.freshB (g := gb153) (o := .cells #[.bool t148, .slice Ao30 t149.length co30] 94 (0, 0)) (by (with_reducible repeat (first | refine kdn ?_ _ | refine kdw ?_ | refine kal ?_ _)); exact BK153.out) k_ hn_)), Or.elim hk_ (fun hs_ => Or.elim hs_ (fun hs_ => hs_.2.2.2.1) (fun hs_ => hs_.2.2.2.1)) (fun hn_ => (Kd.freshB (g := gb158) (o := .cells #[.bool t154, .slice Ao34 t155.length co34, .bool false, .slice none 0 0] 96 (0, 0)) (by (with_reducible repeat (first | refine kdn ?_ _ | refine kdw ?_ | refine kal ?_ _)); exact BK158.out) k_ hn_)), Or.elim hk_ (fun hs_ => Or.elim hs_ (fun hs_ => hs_.2.2.2.2) (fun hs_ => hs_.2.2.2.2)) (fun hn_ => (Kd.freshB (g := gb164) (o := .cells #[.bool t159, .slice Ao45 t160.length co45] 94 (0, 0)) (by (with_reducible repeat (first | refine kdn ?_ _ | refine kdw ?_ | refine kal ?_ _)); exact BK164.out) k_ hn_))⟩)) (bsz (by repeat (first | (with_reducible first | exact HB.out | apply below_alloc | apply pbn | apply bd1 | refine bst ?_ GE147.out | refine bst ?_ GE153.out | refine bst ?_ GE158.out | refine bst ?_ GE164.out) | exact HB.out)))); have n4_ := As0.mk (Kd.V_lower (Kd.V_mono (ok' := fun k_ => (w.heap.size ≤ k_) ∧ k_ ≠ gb147 ∧ k_ ≠ gb153 ∧ k_ ≠ gb158 ∧ k_ ≠ gb164) ho1 (fun k_ hk_ => ⟨Or.elim hk_ (fun hs_ => Or.elim hs_ (fun hs_ => hs_.1) (fun hs_ => hs_.1)) (fun hn_ => (Nat.le_trans (bsz (by repeat (first | (with_reducible first | exact HB.out | apply below_alloc | apply pbn | apply bd1 | refine bst ?_ GE147.out | refine bst ?_ GE153.out | refine bst ?_ GE158.out | refine bst ?_ GE164.out) | exact HB.out))) hn_)), Or.elim hk_ (fun hs_ => Or.elim hs_ (fun hs_ => hs_.2.1) (fun hs_ => hs_.2.1)) (fun hn_ => (Kd.freshB (g := gb147) (o := .cells #[.bool false, .slice none 0 0, .bool false, .slice none 0 0] 96 (0, 0)) (by (with_reducible repeat (first | refine kdn ?_ _ | refine kdw ?_ | refine kal ?_ _)); exact BK147.out) k_ hn_)), Or.elim hk_ (fun hs_ => Or.elim hs_ (fun hs_ => hs_.2.2.1) (fun hs_ => hs_.2.2.1)) (fun hn_ => (Kd.freshB (g := gb153) (o := .cells #[.bool t148, .slice Ao30 t149.length co30] 94 (0, 0)) (by (with_reducible repeat (first | refine kdn ?_ _ | refine kdw ?_ | refine kal ?_ _)); exact BK153.out) k_ hn_)), Or.elim hk_ (fun hs_ => Or.elim hs_ (fun hs_ => hs_.2.2.2.1) (fun hs_ => hs_.2.2.2.1)) (fun hn_ => (Kd.freshB (g := gb158) (o := .cells #[.bool t154, .slice Ao34 t155.length co34, .bool false, .slice none 0 0] 96 (0, 0)) (by (with_reducible repeat (first | refine kdn ?_ _ | refine kdw ?_ | refine kal ?_ _)); exact BK158.out) k_ hn_)), Or.elim hk_ (fun hs_ => Or.elim hs_ (fun hs_ => hs_.2.2.2.2) (fun hs_ => hs_.2.2.2.2)) (fun hn_ => (Kd.freshB (g := gb164) (o := .cells #[.bool t159, .slice Ao45 t160.length co45] 94 (0, 0)) (by (with_reducible repeat (first | refine kdn ?_ _ | refine kdw ?_ | refine kal ?_ _)); exact BK164.out) k_ hn_))⟩)) (bsz (by repeat (first | (with_reducible first | exact HB.out | apply below_alloc | apply pbn | apply bd1 | refine bst ?_ GE147.out | refine bst ?_ GE153.out | refine bst ?_ GE158.out | refine bst ?_ GE164.out) | exact HB.out)))); have n5_ := As0.mk (blk_below (g := gb147) (o := .cells #[.bool false, .slice none 0 0, .bool false, .slice none 0 0] 96 (0, 0)) (by (with_reducible repeat (first | refine kdn ?_ _ | refine kdw ?_ | refine kal ?_ _)); exact BK147.out) hb); have n6_ := As0.mk (blk_below (g := gb153) (o := .cells #[.bool t148, .slice Ao30 t149.length co30] 94 (0, 0)) (by (with_reducible repeat (first | refine kdn ?_ _ | refine kdw ?_ | refine kal ?_ _)); exact BK153.out) hb); have n7_ := As0.mk (blk_below (g := gb158) (o := .cells #[.bool t154, .slice Ao34 t155.length co34, .bool false, .slice none 0 0] 96 (0, 0)) (by (with_reducible repeat (first | refine kdn ?_ _ | refine kdw ?_ | refine kal ?_ _)); exact BK158.out) hb); have n8_ := As0.mk (blk_below (g := gb164) (o := .cells #[.bool t159, .slice Ao45 t160.length co45] 94 (0, 0)) (by (with_reducible repeat (first | refine kdn ?_ _ | refine kdw ?_ | refine kal ?_ _)); exact BK164.out) hb); have n9_ := As0.mk (bsp (by repeat (first | (with_reducible first | exact HB.out | apply below_alloc | apply pbn | apply bd1 | refine bst ?_ GE147.out | refine bst ?_ GE153.out | refine bst ?_ GE158.out | refine bst ?_ GE164.out) | exact HB.out)) hb); clear HO_154001; clear HO_159001; clear HO_165001; clear BK147; clear BK153; clear BK158; clear BK164; clear HB; have HO_154001 := n0_; have HO_159001 := n1_; have HO_165001 := n2_; have HO169 := n3_; have HO173 := n4_; have BK147 := n5_; have BK153 := n6_; have BK158 := n7_; have BK164 := n8_; have HB := n9_; clear n0_ n1_ n2_ n3_ n4_ n5_ n6_ n7_ n8_ n9_; (try clear hb); (try clear hb2); (try clear hk); (try clear hi); (try clear ho0); (try clear ho1); have hcz68_0 : w67.cell? ⟨gb158, 0, none⟩ = some (.bool t154) := (blk_cell BK158.out 0).trans rfl; have hcz68_1 : w67.cell? ⟨gb158, 1, none⟩ = some (.slice Ao34 t155.length co34) := (blk_cell BK158.out 1).trans rfl; have hcz68_2 : w67.cell? ⟨gb158, 2, none⟩ = some (.bool false) := (blk_cell BK158.out 2).trans rfl; have hcz68_3 : w67.cell? ⟨gb158, 3, none⟩ = some (.slice none 0 0) := (blk_cell BK158.out 3).trans rfl; have hfz68_0 := kfz BK158.out 0; have hfz68_1 := kfz BK158.out 1; have hfz68_2 := kfz BK158.out 2; have hfz68_3 := kfz BK158.out 3; obtain ⟨Ao69, co69, eo69⟩ := Kd.V_slice HO169.out; subst eo69; obtain ⟨Ao70, co70, eo70⟩ := Kd.V_slice HO173.out; subst eo70))
                                have n0_ : As0 (Kd.V (Kd.int .u32) 143 ((((w67.setCell ⟨gb158, 0, none⟩ (.bool t166)).setCell ⟨gb158, 1, none⟩ (.slice Ao69 t167.length co69)).setCell ⟨gb158, 2, none⟩ (.bool t170)).setCell ⟨gb158, 3, none⟩ (.slice Ao70 t171.length co70)) w.heap.size (fun k_ => (w.heap.size ≤ k_) ∧ k_ ≠ gb147 ∧ k_ ≠ gb153 ∧ k_ ≠ gb158 ∧ k_ ≠ gb164) (.slice Ao30 t149.length co30) t149) := ⟨by (with_reducible repeat (first | apply Kd.V_alloc | apply Kd.V_drewN | apply Kd.V_drew)); exact Kd.V_mono (Kd.V_far (p := ⟨gb158, 3, none⟩) (Kd.V_far (p := ⟨gb158, 2, none⟩) (Kd.V_far (p := ⟨gb158, 1, none⟩) (Kd.V_far (p := ⟨gb158, 0, none⟩) (Kd.V_mono HO_154001.out (fun k_ hk => (⟨hk, hk.2.2.2.1⟩ : _ ∧ k_ ≠ gb158))) (fun _ hk => hk.2) (.bool t166)) (fun _ hk => hk.2) (.slice Ao69 t167.length co69)) (fun _ hk => hk.2) (.bool t170)) (fun _ hk => hk.2) (.slice Ao70 t171.length co70)) (fun _ hk => ⟨hk.1.1, ⟨hk.1.2.1, ⟨hk.1.2.2.1, ⟨hk.1.2.2.2.1, hk.1.2.2.2.2⟩⟩⟩⟩)⟩
                                have n1_ : As0 (Kd.V (Kd.int .u32) 143 ((((w67.setCell ⟨gb158, 0, none⟩ (.bool t166)).setCell ⟨gb158, 1, none⟩ (.slice Ao69 t167.length co69)).setCell ⟨gb158, 2, none⟩ (.bool t170)).setCell ⟨gb158, 3, none⟩ (.slice Ao70 t171.length co70)) w.heap.size (fun k_ => (w.heap.size ≤ k_) ∧ k_ ≠ gb147 ∧ k_ ≠ gb153 ∧ k_ ≠ gb158 ∧ k_ ≠ gb164) (.slice Ao34 t155.length co34) t155) := ⟨by (with_reducible repeat (first | apply Kd.V_alloc | apply Kd.V_drewN | apply Kd.V_drew)); exact Kd.V_mono (Kd.V_far (p := ⟨gb158, 3, none⟩) (Kd.V_far (p := ⟨gb158, 2, none⟩) (Kd.V_far (p := ⟨gb158, 1, none⟩) (Kd.V_far (p := ⟨gb158, 0, none⟩) (Kd.V_mono HO_159001.out (fun k_ hk => (⟨hk, hk.2.2.2.1⟩ : _ ∧ k_ ≠ gb158))) (fun _ hk => hk.2) (.bool t166)) (fun _ hk => hk.2) (.slice Ao69 t167.length co69)) (fun _ hk => hk.2) (.bool t170)) (fun _ hk => hk.2) (.slice Ao70 t171.length co70)) (fun _ hk => ⟨hk.1.1, ⟨hk.1.2.1, ⟨hk.1.2.2.1, ⟨hk.1.2.2.2.1, hk.1.2.2.2.2⟩⟩⟩⟩)⟩
                                have n2_ : As0 (Kd.V (Kd.int .u32) 143 ((((w67.setCell ⟨gb158, 0, none⟩ (.bool t166)).setCell ⟨gb158, 1, none⟩ (.slice Ao69 t167.length co69)).setCell ⟨gb158, 2, none⟩ (.bool t170)).setCell ⟨gb158, 3, none⟩ (.slice Ao70 t171.length co70)) w.heap.size (fun k_ => (w.heap.size ≤ k_) ∧ k_ ≠ gb147 ∧ k_ ≠ gb153 ∧ k_ ≠ gb158 ∧ k_ ≠ gb164) (.slice Ao45 t160.length co45) t160) := ⟨by (with_reducible repeat (first | apply Kd.V_alloc | apply Kd.V_drewN | apply Kd.V_drew)); exact Kd.V_mono (Kd.V_far (p := ⟨gb158, 3, none⟩) (Kd.V_far (p := ⟨gb158, 2, none⟩) (Kd.V_far (p := ⟨gb158, 1, none⟩) (Kd.V_far (p := ⟨gb158, 0, none⟩) (Kd.V_mono HO_165001.out (fun k_ hk => (⟨hk, hk.2.2.2.1⟩ : _ ∧ k_ ≠ gb158))) (fun _ hk => hk.2) (.bool t166)) (fun _ hk => hk.2) (.slice Ao69 t167.length co69)) (fun _ hk => hk.2) (.bool t170)) (fun _ hk => hk.2) (.slice Ao70 t171.length co70)) (fun _ hk => ⟨hk.1.1, ⟨hk.1.2.1, ⟨hk.1.2.2.1, ⟨hk.1.2.2.2.1, hk.1.2.2.2.2⟩⟩⟩⟩)⟩
                                have n3_ : As0 (Kd.V (Kd.int .u32) 143 ((((w67.setCell ⟨gb158, 0, none⟩ (.bool t166)).setCell ⟨gb158, 1, none⟩ (.slice Ao69 t167.length co69)).setCell ⟨gb158, 2, none⟩ (.bool t170)).setCell ⟨gb158, 3, none⟩ (.slice Ao70 t171.length co70)) w.heap.size (fun k_ => (w.heap.size ≤ k_) ∧ k_ ≠ gb147 ∧ k_ ≠ gb153 ∧ k_ ≠ gb158 ∧ k_ ≠ gb164) (.slice Ao69 t167.length co69) t167) := ⟨by (with_reducible repeat (first | apply Kd.V_alloc | apply Kd.V_drewN | apply Kd.V_drew)); exact Kd.V_mono (Kd.V_far (p := ⟨gb158, 3, none⟩) (Kd.V_far (p := ⟨gb158, 2, none⟩) (Kd.V_far (p := ⟨gb158, 1, none⟩) (Kd.V_far (p := ⟨gb158, 0, none⟩) (Kd.V_mono HO169.out (fun k_ hk => (⟨hk, hk.2.2.2.1⟩ : _ ∧ k_ ≠ gb158))) (fun _ hk => hk.2) (.bool t166)) (fun _ hk => hk.2) (.slice Ao69 t167.length co69)) (fun _ hk => hk.2) (.bool t170)) (fun _ hk => hk.2) (.slice Ao70 t171.length co70)) (fun _ hk => ⟨hk.1.1, ⟨hk.1.2.1, ⟨hk.1.2.2.1, ⟨hk.1.2.2.2.1, hk.1.2.2.2.2⟩⟩⟩⟩)⟩
                                have n4_ : As0 (Kd.V (Kd.int .u32) 143 ((((w67.setCell ⟨gb158, 0, none⟩ (.bool t166)).setCell ⟨gb158, 1, none⟩ (.slice Ao69 t167.length co69)).setCell ⟨gb158, 2, none⟩ (.bool t170)).setCell ⟨gb158, 3, none⟩ (.slice Ao70 t171.length co70)) w.heap.size (fun k_ => (w.heap.size ≤ k_) ∧ k_ ≠ gb147 ∧ k_ ≠ gb153 ∧ k_ ≠ gb158 ∧ k_ ≠ gb164) (.slice Ao70 t171.length co70) t171) := ⟨by (with_reducible repeat (first | apply Kd.V_alloc | apply Kd.V_drewN | apply Kd.V_drew)); exact Kd.V_mono (Kd.V_far (p := ⟨gb158, 3, none⟩) (Kd.V_far (p := ⟨gb158, 2, none⟩) (Kd.V_far (p := ⟨gb158, 1, none⟩) (Kd.V_far (p := ⟨gb158, 0, none⟩) (Kd.V_mono HO173.out (fun k_ hk => (⟨hk, hk.2.2.2.1⟩ : _ ∧ k_ ≠ gb158))) (fun _ hk => hk.2) (.bool t166)) (fun _ hk => hk.2) (.slice Ao69 t167.length co69)) (fun _ hk => hk.2) (.bool t170)) (fun _ hk => hk.2) (.slice Ao70 t171.length co70)) (fun _ hk => ⟨hk.1.1, ⟨hk.1.2.1, ⟨hk.1.2.2.1, ⟨hk.1.2.2.2.1, hk.1.2.2.2.2⟩⟩⟩⟩)⟩
                                have n5_ : As0 (((((w67.setCell ⟨gb158, 0, none⟩ (.bool t166)).setCell ⟨gb158, 1, none⟩ (.slice Ao69 t167.length co69)).setCell ⟨gb158, 2, none⟩ (.bool t170)).setCell ⟨gb158, 3, none⟩ (.slice Ao70 t171.length co70)).heap[gb147]? = some (.cells #[.bool false, .slice none 0 0, .bool false, .slice none 0 0] 96 (0, 0))) := ⟨by (with_reducible repeat (first | refine kdn ?_ _ | refine kdw ?_ | refine kal ?_ _)); refine blk_far ?_ NB147_158.out _; (with_reducible repeat (first | refine kdn ?_ _ | refine kdw ?_ | refine kal ?_ _)); refine blk_far ?_ NB147_158.out _; (with_reducible repeat (first | refine kdn ?_ _ | refine kdw ?_ | refine kal ?_ _)); refine blk_far ?_ NB147_158.out _; (with_reducible repeat (first | refine kdn ?_ _ | refine kdw ?_ | refine kal ?_ _)); refine blk_far ?_ NB147_158.out _; (with_reducible repeat (first | refine kdn ?_ _ | refine kdw ?_ | refine kal ?_ _)); exact BK147.out⟩
                                have n6_ : As0 (((((w67.setCell ⟨gb158, 0, none⟩ (.bool t166)).setCell ⟨gb158, 1, none⟩ (.slice Ao69 t167.length co69)).setCell ⟨gb158, 2, none⟩ (.bool t170)).setCell ⟨gb158, 3, none⟩ (.slice Ao70 t171.length co70)).heap[gb153]? = some (.cells #[.bool t148, .slice Ao30 t149.length co30] 94 (0, 0))) := ⟨by (with_reducible repeat (first | refine kdn ?_ _ | refine kdw ?_ | refine kal ?_ _)); refine blk_far ?_ NB153_158.out _; (with_reducible repeat (first | refine kdn ?_ _ | refine kdw ?_ | refine kal ?_ _)); refine blk_far ?_ NB153_158.out _; (with_reducible repeat (first | refine kdn ?_ _ | refine kdw ?_ | refine kal ?_ _)); refine blk_far ?_ NB153_158.out _; (with_reducible repeat (first | refine kdn ?_ _ | refine kdw ?_ | refine kal ?_ _)); refine blk_far ?_ NB153_158.out _; (with_reducible repeat (first | refine kdn ?_ _ | refine kdw ?_ | refine kal ?_ _)); exact BK153.out⟩
                                have n7_ : As0 (((((w67.setCell ⟨gb158, 0, none⟩ (.bool t166)).setCell ⟨gb158, 1, none⟩ (.slice Ao69 t167.length co69)).setCell ⟨gb158, 2, none⟩ (.bool t170)).setCell ⟨gb158, 3, none⟩ (.slice Ao70 t171.length co70)).heap[gb158]? = some (.cells #[.bool t166, .slice Ao69 t167.length co69, .bool t170, .slice Ao70 t171.length co70] 96 (0, 0))) := ⟨by (with_reducible repeat (first | refine kdn ?_ _ | refine kdw ?_ | refine kal ?_ _)); refine blk_put (cs := #[.bool t166, .slice Ao69 t167.length co69, .bool t170, .slice none 0 0]) ?_ 3 _ rfl; (with_reducible repeat (first | refine kdn ?_ _ | refine kdw ?_ | refine kal ?_ _)); refine blk_put (cs := #[.bool t166, .slice Ao69 t167.length co69, .bool false, .slice none 0 0]) ?_ 2 _ rfl; (with_reducible repeat (first | refine kdn ?_ _ | refine kdw ?_ | refine kal ?_ _)); refine blk_put (cs := #[.bool t166, .slice Ao34 t155.length co34, .bool false, .slice none 0 0]) ?_ 1 _ rfl; (with_reducible repeat (first | refine kdn ?_ _ | refine kdw ?_ | refine kal ?_ _)); refine blk_put (cs := #[.bool t154, .slice Ao34 t155.length co34, .bool false, .slice none 0 0]) ?_ 0 _ rfl; (with_reducible repeat (first | refine kdn ?_ _ | refine kdw ?_ | refine kal ?_ _)); exact BK158.out⟩
                                have n8_ : As0 (((((w67.setCell ⟨gb158, 0, none⟩ (.bool t166)).setCell ⟨gb158, 1, none⟩ (.slice Ao69 t167.length co69)).setCell ⟨gb158, 2, none⟩ (.bool t170)).setCell ⟨gb158, 3, none⟩ (.slice Ao70 t171.length co70)).heap[gb164]? = some (.cells #[.bool t159, .slice Ao45 t160.length co45] 94 (0, 0))) := ⟨by (with_reducible repeat (first | refine kdn ?_ _ | refine kdw ?_ | refine kal ?_ _)); refine blk_far ?_ NB164_158.out _; (with_reducible repeat (first | refine kdn ?_ _ | refine kdw ?_ | refine kal ?_ _)); refine blk_far ?_ NB164_158.out _; (with_reducible repeat (first | refine kdn ?_ _ | refine kdw ?_ | refine kal ?_ _)); refine blk_far ?_ NB164_158.out _; (with_reducible repeat (first | refine kdn ?_ _ | refine kdw ?_ | refine kal ?_ _)); refine blk_far ?_ NB164_158.out _; (with_reducible repeat (first | refine kdn ?_ _ | refine kdw ?_ | refine kal ?_ _)); exact BK164.out⟩
                                have n9_ : As0 (Below w.heap.size w ((((w67.setCell ⟨gb158, 0, none⟩ (.bool t166)).setCell ⟨gb158, 1, none⟩ (.slice Ao69 t167.length co69)).setCell ⟨gb158, 2, none⟩ (.bool t170)).setCell ⟨gb158, 3, none⟩ (.slice Ao70 t171.length co70))) := ⟨by repeat (first | (with_reducible first | exact HB.out | apply below_alloc | apply pbn | apply bd1 | refine bst ?_ GE147.out | refine bst ?_ GE153.out | refine bst ?_ GE158.out | refine bst ?_ GE164.out) | exact HB.out)⟩
                                (try clear HO_154001)
                                (try clear HO_159001)
                                (try clear HO_165001)
                                (try clear HO169)
                                (try clear HO173)
                                (try clear BK147)
                                (try clear BK153)
                                (try clear BK158)
                                (try clear BK164)
                                (try clear HB)
                                generalize ((((w67.setCell ⟨gb158, 0, none⟩ (.bool t166)).setCell ⟨gb158, 1, none⟩ (.slice Ao69 t167.length co69)).setCell ⟨gb158, 2, none⟩ (.bool t170)).setCell ⟨gb158, 3, none⟩ (.slice Ao70 t171.length co70)) = w71 at n0_ n1_ n2_ n3_ n4_ n5_ n6_ n7_ n8_ n9_ ⊢
                                have HO_154001 := n0_
                                have HO_159001 := n1_
                                have HO_165001 := n2_
                                have HO169 := n3_
                                have HO173 := n4_
                                have BK147 := n5_
                                have BK153 := n6_
                                have BK158 := n7_
                                have BK164 := n8_
                                have HB := n9_
                                clear n0_ n1_ n2_ n3_ n4_ n5_ n6_ n7_ n8_ n9_
                                have n0_ := As0.mk (Kd.V_drew HO_154001.out)
                                have n1_ := As0.mk (Kd.V_drew HO_159001.out)
                                have n2_ := As0.mk (Kd.V_drew HO_165001.out)
                                have n3_ := As0.mk (Kd.V_drew HO169.out)
                                have n4_ := As0.mk (Kd.V_drew HO173.out)
                                have n5_ := As0.mk (kdw BK147.out)
                                have n6_ := As0.mk (kdw BK153.out)
                                have n7_ := As0.mk (kdw BK158.out)
                                have n8_ := As0.mk (kdw BK164.out)
                                have n9_ := As0.mk (bd1 HB.out)
                                clear HO_154001
                                clear HO_159001
                                clear HO_165001
                                clear HO169
                                clear HO173
                                clear BK147
                                clear BK153
                                clear BK158
                                clear BK164
                                clear HB
                                have HO_154001 := n0_
                                have HO_159001 := n1_
                                have HO_165001 := n2_
                                have HO169 := n3_
                                have HO173 := n4_
                                have BK147 := n5_
                                have BK153 := n6_
                                have BK158 := n7_
                                have BK164 := n8_
                                have HB := n9_
                                clear n0_ n1_ n2_ n3_ n4_ n5_ n6_ n7_ n8_ n9_
                                refine start_ (n := 7) (S := fun w' => w'.cell? ⟨gb158, 0, none⟩ = some (.bool t166) ∧ w'.cell? ⟨gb158, 1, none⟩ = some (.slice Ao69 t167.length co69) ∧ w'.cell? ⟨gb158, 2, none⟩ = some (.bool t170) ∧ w'.cell? ⟨gb158, 3, none⟩ = some (.slice Ao70 t171.length co70)) (ds := []) #[false, false, false, false, false, false, false] (by kernel_rfl) rfl rfl ⟨(blk_cell BK158.out 0).trans rfl, (blk_cell BK158.out 1).trans rfl, (blk_cell BK158.out 2).trans rfl, (blk_cell BK158.out 3).trans rfl⟩ (fun hHeld => ?_)
                                generalize w71.drew = w72 at HO_154001 HO_159001 HO_165001 HO169 HO173 BK147 BK153 BK158 BK164 HB hHeld ⊢
                                refine pure_ (i := 3) (N := some 80) (v := ?_) (a' := ?_) #[false, false, false, true, false, false, false] rfl rfl (by kernel_rfl) (fun _ _ _ h => h) (Or.inl ⟨by rfl, ?_⟩) ?_ ?_
                                rotate_left
                                · intro w'
                                  go_simp
                                  with_reducible rfl
                                rotate_left
                                · simp only [Act.put, List.setIfInBounds_toArray, List.set_cons_zero, List.set_cons_succ, i64_w, i32_w]
                                  rfl
                                refine take_ (i := 0) (N := some 77) (v := ?_) (a' := ?_) #[true, false, false, true, false, false, false] rfl rfl (by kernel_rfl) (fun _ _ _ h => h) (Or.inl ⟨by rfl, ?_⟩) hHeld ?_ ?_
                                rotate_left
                                · rintro w' ⟨s0, s1, s2, s3⟩
                                  go_simp
                                  with_reducible rfl
                                rotate_left
                                · simp only [Act.put, List.setIfInBounds_toArray, List.set_cons_zero, List.set_cons_succ, i64_w, i32_w]
                                  rfl
                                refine take_ (i := 1) (N := some 78) (v := ?_) (a' := ?_) #[true, true, false, true, false, false, false] rfl rfl (by kernel_rfl) (fun _ _ _ h => h) (Or.inl ⟨by rfl, ?_⟩) hHeld ?_ ?_
                                rotate_left
                                · rintro w' ⟨s0, s1, s2, s3⟩
                                  go_simp
                                  with_reducible rfl
                                rotate_left
                                · simp only [Act.put, List.setIfInBounds_toArray, List.set_cons_zero, List.set_cons_succ, i64_w, i32_w]
                                  rfl
                                refine one_ (i := 2) (N := some 79) #[true, true, true, true, false, false, false] rfl rfl (by kernel_rfl) (by decide) (fun K hK => ?_)
                                refine goes_ Tryz.func22 (by kernel_rfl) rfl #[.agg #[.bool t166, .slice Ao69 t167.length co69, .bool t170, .slice Ao70 t171.length co70]] (by rfl) rfl rfl (by (try simp only [List.map_toArray, List.map_cons, List.map_nil]); first | done | rfl | (simp only [List.length_drop, List.length_take]; rfl)) ?_
                                with_reducible refine (nTx.calls kj24 t166 _ _ t167 t170 _ _ t171 t174 _ ?side1 ?side2 ?side3 ?side4 A59.out).mono ?_
                                (case side1 => repeat (first | exact (Kd.V_reads' HO169.out).2.2 | (with_reducible refine Kd.C_alloc ?_ _) | (with_reducible refine Kd.C_drewN ?_ _) | (with_reducible refine Kd.C_drew ?_)))
                                (case side2 => exact (Kd.V_reads' HO169.out).2.1)
                                (case side3 => repeat (first | exact (Kd.V_reads' HO173.out).2.2 | (with_reducible refine Kd.C_alloc ?_ _) | (with_reducible refine Kd.C_drewN ?_ _) | (with_reducible refine Kd.C_drew ?_)))
                                (case side4 => exact (Kd.V_reads' HO173.out).2.1)
                                rintro e w73 ⟨rfl, hb⟩
                                refine ⟨_, rfl, ?_⟩
                                have n0_ := As0.mk (Kd.V_below (by (with_reducible repeat (first | apply Kd.V_alloc | apply Kd.V_drewN | apply Kd.V_drew)); exact HO_154001.out) hb)
                                have n1_ := As0.mk (Kd.V_below (by (with_reducible repeat (first | apply Kd.V_alloc | apply Kd.V_drewN | apply Kd.V_drew)); exact HO_159001.out) hb)
                                have n2_ := As0.mk (Kd.V_below (by (with_reducible repeat (first | apply Kd.V_alloc | apply Kd.V_drewN | apply Kd.V_drew)); exact HO_165001.out) hb)
                                have n3_ := As0.mk (Kd.V_below (by (with_reducible repeat (first | apply Kd.V_alloc | apply Kd.V_drewN | apply Kd.V_drew)); exact HO169.out) hb)
                                have n4_ := As0.mk (Kd.V_below (by (with_reducible repeat (first | apply Kd.V_alloc | apply Kd.V_drewN | apply Kd.V_drew)); exact HO173.out) hb)
                                have n5_ := As0.mk (blk_below (g := gb147) (o := .cells #[.bool false, .slice none 0 0, .bool false, .slice none 0 0] 96 (0, 0)) (by (with_reducible repeat (first | refine kdn ?_ _ | refine kdw ?_ | refine kal ?_ _)); exact BK147.out) hb)
                                have n6_ := As0.mk (blk_below (g := gb153) (o := .cells #[.bool t148, .slice Ao30 t149.length co30] 94 (0, 0)) (by (with_reducible repeat (first | refine kdn ?_ _ | refine kdw ?_ | refine kal ?_ _)); exact BK153.out) hb)
                                have n7_ := As0.mk (blk_below (g := gb158) (o := .cells #[.bool t166, .slice Ao69 t167.length co69, .bool t170, .slice Ao70 t171.length co70] 96 (0, 0)) (by (with_reducible repeat (first | refine kdn ?_ _ | refine kdw ?_ | refine kal ?_ _)); exact BK158.out) hb)
                                have n8_ := As0.mk (blk_below (g := gb164) (o := .cells #[.bool t159, .slice Ao45 t160.length co45] 94 (0, 0)) (by (with_reducible repeat (first | refine kdn ?_ _ | refine kdw ?_ | refine kal ?_ _)); exact BK164.out) hb)
                                have n9_ := As0.mk (bsp (by repeat (first | (with_reducible first | exact HB.out | apply below_alloc | apply pbn | apply bd1 | refine bst ?_ GE147.out | refine bst ?_ GE153.out | refine bst ?_ GE158.out | refine bst ?_ GE164.out) | exact HB.out)) hb)
                                clear HO_154001
                                clear HO_159001
                                clear HO_165001
                                clear HO169
                                clear HO173
                                clear BK147
                                clear BK153
                                clear BK158
                                clear BK164
                                clear HB
                                have HO_154001 := n0_
                                have HO_159001 := n1_
                                have HO_165001 := n2_
                                have HO169 := n3_
                                have HO173 := n4_
                                have BK147 := n5_
                                have BK153 := n6_
                                have BK158 := n7_
                                have BK164 := n8_
                                have HB := n9_
                                clear n0_ n1_ n2_ n3_ n4_ n5_ n6_ n7_ n8_ n9_
                                (try clear hb)
                                (try clear hb2)
                                (try clear hk)
                                (try clear hi)
                                refine hK.out _ _ ⟨(blk_cell BK158.out 0).trans rfl, (blk_cell BK158.out 1).trans rfl, (blk_cell BK158.out 2).trans rfl, (blk_cell BK158.out 3).trans rfl⟩ (fun hHeld => ?_)
                                clear hK K
                                refine norm_ (a' := ?_) ?_ ?_
                                rotate_left
                                · show Act.put _ (some 79) _ = _
                                  simp only [Act.put, List.setIfInBounds_toArray, List.set_cons_zero, List.set_cons_succ, i64_w, i32_w]
                                  rfl
                                refine pure_ (i := 4) (N := some 81) (v := ?_) (a' := ?_) #[true, true, true, true, true, false, false] rfl rfl (by kernel_rfl) (fun _ _ _ h => h) (Or.inl ⟨by rfl, ?_⟩) ?_ ?_
                                rotate_left
                                · intro w'
                                  go_simp
                                  with_reducible rfl
                                rotate_left
                                · simp only [Act.put, List.setIfInBounds_toArray, List.set_cons_zero, List.set_cons_succ, i64_w, i32_w]
                                  rfl
                                refine one_ (i := 5) (N := none) #[true, true, true, true, true, true, false] rfl rfl (by kernel_rfl) (by decide) (fun K hK => ?_)
                                have hs74 : w73.cell? ⟨gb147, 0, none⟩ = some (.bool false) := (blk_cell BK147.out 0).trans rfl
                                have hfs74 := kfz BK147.out 0
                                have hns74_1 := NB153_147.out
                                have hns74_2 := NB158_147.out
                                have hns74_3 := NB164_147.out
                                have hms74_1 := NB147_153.out
                                have hms74_2 := NB147_158.out
                                have hms74_3 := NB147_164.out
                                have hs75 : w73.cell? ⟨gb147, 1, none⟩ = some (.slice none 0 0) := (blk_cell BK147.out 1).trans rfl
                                have hfs75 := kfz BK147.out 1
                                have hns75_1 := NB153_147.out
                                have hns75_2 := NB158_147.out
                                have hns75_3 := NB164_147.out
                                have hms75_1 := NB147_153.out
                                have hms75_2 := NB147_158.out
                                have hms75_3 := NB147_164.out
                                have hs76 : w73.cell? ⟨gb147, 2, none⟩ = some (.bool false) := (blk_cell BK147.out 2).trans rfl
                                have hfs76 := kfz BK147.out 2
                                have hns76_1 := NB153_147.out
                                have hns76_2 := NB158_147.out
                                have hns76_3 := NB164_147.out
                                have hms76_1 := NB147_153.out
                                have hms76_2 := NB147_158.out
                                have hms76_3 := NB147_164.out
                                have hs77 : w73.cell? ⟨gb147, 3, none⟩ = some (.slice none 0 0) := (blk_cell BK147.out 3).trans rfl
                                have hfs77 := kfz BK147.out 3
                                have hns77_1 := NB153_147.out
                                have hns77_2 := NB158_147.out
                                have hns77_3 := NB164_147.out
                                have hms77_1 := NB147_153.out
                                have hms77_2 := NB147_158.out
                                have hms77_3 := NB147_164.out
                                refine skip_ (w1 := ?_) (by rfl) rfl ?_ ?_
                                rotate_left
                                · go_simp
                                  rfl
                                refine hK.out _ _ ⟨((cell_far (p := ⟨gb147, _, none⟩) NB158_147.out _).trans (((cell_far (p := ⟨gb147, _, none⟩) NB158_147.out _).trans (((cell_far (p := ⟨gb147, _, none⟩) NB158_147.out _).trans (((cell_far (p := ⟨gb147, _, none⟩) NB158_147.out _).trans (hHeld.1)))))))), ((cell_far (p := ⟨gb147, _, none⟩) NB158_147.out _).trans (((cell_far (p := ⟨gb147, _, none⟩) NB158_147.out _).trans (((cell_far (p := ⟨gb147, _, none⟩) NB158_147.out _).trans (((cell_far (p := ⟨gb147, _, none⟩) NB158_147.out _).trans (hHeld.2.1)))))))), ((cell_far (p := ⟨gb147, _, none⟩) NB158_147.out _).trans (((cell_far (p := ⟨gb147, _, none⟩) NB158_147.out _).trans (((cell_far (p := ⟨gb147, _, none⟩) NB158_147.out _).trans (((cell_far (p := ⟨gb147, _, none⟩) NB158_147.out _).trans (hHeld.2.2.1)))))))), ((cell_far (p := ⟨gb147, _, none⟩) NB158_147.out _).trans (((cell_far (p := ⟨gb147, _, none⟩) NB158_147.out _).trans (((cell_far (p := ⟨gb147, _, none⟩) NB158_147.out _).trans (((cell_far (p := ⟨gb147, _, none⟩) NB158_147.out _).trans (hHeld.2.2.2))))))))⟩ (fun hHeld => ?_)
                                clear hK K
                                refine pure_ (i := 6) (N := some 3) (v := ?_) (a' := ?_) #[true, true, true, true, true, true, true] rfl rfl (by kernel_rfl) (fun _ _ _ h => h) (Or.inl ⟨by rfl, ?_⟩) ?_ ?_
                                rotate_left
                                · intro w'
                                  go_simp
                                  with_reducible rfl
                                rotate_left
                                · simp only [Act.put, List.setIfInBounds_toArray, List.set_cons_zero, List.set_cons_succ, i64_w, i32_w]
                                  rfl
                                refine done_ (by kernel_rfl) ?_
                                try go_wp2
                                refine bodyPost_ret (results_ct rfl _ _ gb147 96 #[.bool t166, .slice Ao69 t167.length co69, .bool t170, .slice Ao70 t171.length co70] (0, 0) _ rfl (by (with_reducible repeat (first | refine kdn ?_ _ | refine kdw ?_ | refine kal ?_ _)); refine blk_put (cs := #[.bool t166, .slice Ao69 t167.length co69, .bool t170, .slice none 0 0]) ?_ 3 _ rfl; (with_reducible repeat (first | refine kdn ?_ _ | refine kdw ?_ | refine kal ?_ _)); refine blk_put (cs := #[.bool t166, .slice Ao69 t167.length co69, .bool false, .slice none 0 0]) ?_ 2 _ rfl; (with_reducible repeat (first | refine kdn ?_ _ | refine kdw ?_ | refine kal ?_ _)); refine blk_put (cs := #[.bool t166, .slice none 0 0, .bool false, .slice none 0 0]) ?_ 1 _ rfl; (with_reducible repeat (first | refine kdn ?_ _ | refine kdw ?_ | refine kal ?_ _)); refine blk_put (cs := #[.bool false, .slice none 0 0, .bool false, .slice none 0 0]) ?_ 0 _ rfl; (with_reducible repeat (first | refine kdn ?_ _ | refine kdw ?_ | refine kal ?_ _)); exact BK147.out) Tryz.underlying96 rfl (by kernel_rfl)) rfl ?_
                                exact ⟨_, _, by first | rfl | (simp [errW_none, errW_some] <;> rfl) | (simp only [← hji21]; first | rfl | (simp [errW_none, errW_some] <;> rfl)) | (simp [*, errW_none, errW_some] <;> rfl), by (with_reducible repeat (first | apply Kd.V_alloc | apply Kd.V_drewN | apply Kd.V_drew)); exact Kd.V_mono (Kd.V_far (p := ⟨gb147, 3, none⟩) (Kd.V_far (p := ⟨gb147, 2, none⟩) (Kd.V_far (p := ⟨gb147, 1, none⟩) (Kd.V_far (p := ⟨gb147, 0, none⟩) (Kd.V_mono HO169.out (fun k_ hk => (⟨hk, hk.2.1⟩ : _ ∧ k_ ≠ gb147))) (fun _ hk => hk.2) (.bool t166)) (fun _ hk => hk.2) (.slice Ao69 t167.length co69)) (fun _ hk => hk.2) (.bool t170)) (fun _ hk => hk.2) (.slice Ao70 t171.length co70)) (fun _ hk => hk.1.1), by (with_reducible repeat (first | apply Kd.V_alloc | apply Kd.V_drewN | apply Kd.V_drew)); exact Kd.V_mono (Kd.V_far (p := ⟨gb147, 3, none⟩) (Kd.V_far (p := ⟨gb147, 2, none⟩) (Kd.V_far (p := ⟨gb147, 1, none⟩) (Kd.V_far (p := ⟨gb147, 0, none⟩) (Kd.V_mono HO173.out (fun k_ hk => (⟨hk, hk.2.1⟩ : _ ∧ k_ ≠ gb147))) (fun _ hk => hk.2) (.bool t166)) (fun _ hk => hk.2) (.slice Ao69 t167.length co69)) (fun _ hk => hk.2) (.bool t170)) (fun _ hk => hk.2) (.slice Ao70 t171.length co70)) (fun _ hk => hk.1.1), by repeat (first | (with_reducible first | exact HB.out | apply below_alloc | apply pbn | apply bd1 | refine bst ?_ GE147.out | refine bst ?_ GE153.out | refine bst ?_ GE158.out | refine bst ?_ GE164.out) | exact HB.out)⟩
                        · rw [if_neg c23] at H
                          exact absurd H (by simp)
                      · rw [if_neg c22] at H
                        exact absurd H (by simp)
                    · rw [if_neg c20] at H
                      have c20b0 : decide (x6_9 < (x4_6.size : Int)) = false := decide_eq_false c20
                      clear c20
                      replace H := Option.bind_eq_some_iff.mp H
                      obtain ⟨t175, A780, H⟩ := H
                      replace H : (some (t154, t155, false, ([] : List Int), (t175.toList == a0.toList))) = some (r1, r2, r3, r4, r5) := H
                      have A78 := As0.mk A780
                      clear A780
                      simp only [Option.some.injEq, Prod.mk.injEq] at H
                      obtain ⟨rfl, rfl, rfl, rfl, rfl⟩ := H
                      try go_wp2_with (first | ((with_reducible refine gate_callee (f := 137) rfl ?_); refine goesL_ (some 42) rfl rfl Tryz.func137 (by kernel_rfl) rfl #[.string (x4_6.extract 0 (x6_9 : Int).toNat)] rfl (by (try simp only [List.map_toArray, List.map_cons, List.map_nil]); first | done | rfl | (simp only [List.length_drop, List.length_take]; rfl)) ?_; (with_reducible refine (nFD.calls kj9 (x4_6.extract 0 (x6_9 : Int).toNat) t148 t149 true _ A17.out).mono ?_); rintro e w79 ⟨v150, rfl, ho0, hb⟩; refine ⟨_, rfl, ?_⟩; have n0_ := As0.mk (Kd.V_lower (Kd.V_mono (ok' := fun k_ => (w.heap.size ≤ k_) ∧ k_ ≠ gb147) ho0 (fun k_ hk_ => ⟨(Nat.le_trans (bsz (by repeat (first | (with_reducible first | exact HB.out | apply below_alloc | apply pbn | apply bd1 | refine bst ?_ GE147.out) | exact HB.out))) hk_), (Kd.freshB (g := gb147) (o := .cells #[.bool false, .slice none 0 0, .bool false, .slice none 0 0] 96 (0, 0)) (by (with_reducible repeat (first | refine kdn ?_ _ | refine kdw ?_ | refine kal ?_ _)); exact BK147.out) k_ hk_)⟩)) (bsz (by repeat (first | (with_reducible first | exact HB.out | apply below_alloc | apply pbn | apply bd1 | refine bst ?_ GE147.out) | exact HB.out)))); have n1_ := As0.mk (blk_below (g := gb147) (o := .cells #[.bool false, .slice none 0 0, .bool false, .slice none 0 0] 96 (0, 0)) (by (with_reducible repeat (first | refine kdn ?_ _ | refine kdw ?_ | refine kal ?_ _)); exact BK147.out) hb); have n2_ := As0.mk (bsp (by repeat (first | (with_reducible first | exact HB.out | apply below_alloc | apply pbn | apply bd1 | refine bst ?_ GE147.out) | exact HB.out)) hb); clear BK147; clear HB; have HO151 := n0_; have BK147 := n1_; have HB := n2_; clear n0_ n1_ n2_; (try clear hb); (try clear hb2); (try clear hk); (try clear hi); (try clear ho0)) | ((with_reducible refine gate_dst (N := 8) rfl ?_); refine box_event ?hg (N := 8) ?hd (cs := #[.bool false, .slice none 0 0]) (t := 94) ?hr ?_; (case hd => rfl); (case hg => rfl); (case hr => first | (go_simp; done) | (go_simp; rfl)); intro gb153 hg w80 hbox hb; have n0_ := As0.mk (Kd.V_below (Kd.V_elderB (by (with_reducible repeat (first | apply Kd.V_alloc | apply Kd.V_drewN | apply Kd.V_drew)); exact HO151.out) gb153 (Nat.le_of_eq hg.symm)) hb); have n1_ := As0.mk (blk_below (g := gb147) (o := .cells #[.bool false, .slice none 0 0, .bool false, .slice none 0 0] 96 (0, 0)) (by (with_reducible repeat (first | refine kdn ?_ _ | refine kdw ?_ | refine kal ?_ _)); exact BK147.out) hb); have n2_ := As0.mk (bsp (by repeat (first | (with_reducible first | exact HB.out | apply below_alloc | apply pbn | apply bd1 | refine bst ?_ GE147.out) | exact HB.out)) hb); have n3_ := As0.mk (hbox); have n4_ := As0.mk ((by rw [hg]; exact (bsz (by repeat (first | (with_reducible first | exact HB.out | apply below_alloc | apply pbn | apply bd1 | refine bst ?_ GE147.out) | exact HB.out))) : w.heap.size ≤ gb153)); have n5_ := As0.mk ((by rw [hg]; exact (bsz (by repeat (first | (with_reducible first | exact HB.out | apply below_alloc | apply pbn | apply bd1 | refine bst ?_ GE147.out) | exact HB.out))) : w.heap.size ≤ gb153)); have n6_ := As0.mk ((by rw [hg]; exact Nat.ne_of_lt (blk_lt (g := gb147) (o := .cells #[.bool false, .slice none 0 0, .bool false, .slice none 0 0] 96 (0, 0)) (by (with_reducible repeat (first | refine kdn ?_ _ | refine kdw ?_ | refine kal ?_ _)); exact BK147.out)) : gb147 ≠ gb153)); have n7_ := As0.mk ((by rw [hg]; exact Nat.ne_of_gt (blk_lt (g := gb147) (o := .cells #[.bool false, .slice none 0 0, .bool false, .slice none 0 0] 96 (0, 0)) (by (with_reducible repeat (first | refine kdn ?_ _ | refine kdw ?_ | refine kal ?_ _)); exact BK147.out)) : gb153 ≠ gb147)); clear HO151; clear BK147; clear HB; have HO151 := n0_; have BK147 := n1_; have HB := n2_; have BK153 := n3_; have GW153 := n4_; have GE153 := n5_; have NB147_153 := n6_; have NB153_147 := n7_; clear n0_ n1_ n2_ n3_ n4_ n5_ n6_ n7_; clear hb hbox hg; have hnb81 := NB153_147.out; have hnc81 := NB147_153.out; have hcz82_0 : w80.cell? ⟨gb153, 0, none⟩ = some (.bool false) := (blk_cell BK153.out 0).trans rfl; have hcz82_1 : w80.cell? ⟨gb153, 1, none⟩ = some (.slice none 0 0) := (blk_cell BK153.out 1).trans rfl; have hfz82_0 := kfz BK153.out 0; have hfz82_1 := kfz BK153.out 1; obtain ⟨Ao83, co83, eo83⟩ := Kd.V_slice HO151.out; subst eo83) | ((with_reducible refine gate_store (t := 94) (p := 8) rfl ?_); refine store_event (t := 94) (p := 8) (v := ?vo_w84) (w1 := ((w80.setCell ⟨gb153, 0, none⟩ (.bool t148)).setCell ⟨gb153, 1, none⟩ (.slice Ao83 t149.length co83))) ?hg ?ho ?hn ?hr ?_; (case ho => rfl); (case hg => rfl); (case hn => rfl); (case hr => first | (go_simp; done) | (go_simp; rfl)); intro w84 hw; have n0_ : As0 (Kd.V (Kd.int .u32) 143 w84 w.heap.size (fun k_ => (w.heap.size ≤ k_) ∧ k_ ≠ gb147 ∧ k_ ≠ gb153) (.slice Ao83 t149.length co83) t149) := ⟨(by rw [hw]; exact (by (with_reducible repeat (first | apply Kd.V_alloc | apply Kd.V_drewN | apply Kd.V_drew)); exact Kd.V_mono (Kd.V_far (p := ⟨gb153, 1, none⟩) (Kd.V_far (p := ⟨gb153, 0, none⟩) (Kd.V_mono HO151.out (fun k_ hk => (⟨hk, hk.2⟩ : _ ∧ k_ ≠ gb153))) (fun _ hk => hk.2) (.bool t148)) (fun _ hk => hk.2) (.slice Ao83 t149.length co83)) (fun _ hk => ⟨hk.1.1.1, ⟨hk.1.1.2, hk.1.2⟩⟩)))⟩; have n1_ : As0 (w84.heap[gb147]? = some (.cells #[.bool false, .slice none 0 0, .bool false, .slice none 0 0] 96 (0, 0))) := ⟨(by rw [hw]; exact (by (with_reducible repeat (first | refine kdn ?_ _ | refine kdw ?_ | refine kal ?_ _)); refine blk_far ?_ NB147_153.out _; (with_reducible repeat (first | refine kdn ?_ _ | refine kdw ?_ | refine kal ?_ _)); refine blk_far ?_ NB147_153.out _; (with_reducible repeat (first | refine kdn ?_ _ | refine kdw ?_ | refine kal ?_ _)); exact BK147.out))⟩; have n2_ : As0 (w84.heap[gb153]? = some (.cells #[.bool t148, .slice Ao83 t149.length co83] 94 (0, 0))) := ⟨(by rw [hw]; exact (by (with_reducible repeat (first | refine kdn ?_ _ | refine kdw ?_ | refine kal ?_ _)); refine blk_put (cs := #[.bool t148, .slice none 0 0]) ?_ 1 _ rfl; (with_reducible repeat (first | refine kdn ?_ _ | refine kdw ?_ | refine kal ?_ _)); refine blk_put (cs := #[.bool false, .slice none 0 0]) ?_ 0 _ rfl; (with_reducible repeat (first | refine kdn ?_ _ | refine kdw ?_ | refine kal ?_ _)); exact BK153.out))⟩; have n3_ : As0 (Below w.heap.size w w84) := ⟨(by rw [hw]; exact (by repeat (first | (with_reducible first | exact HB.out | apply below_alloc | apply pbn | apply bd1 | refine bst ?_ GE147.out | refine bst ?_ GE153.out) | exact HB.out)))⟩; clear hw; clear HO151; clear BK147; clear BK153; clear HB; have HO151 := n0_; have BK147 := n1_; have BK153 := n2_; have HB := n3_; clear n0_ n1_ n2_ n3_; have hcz85_0 : w84.cell? ⟨gb153, 0, none⟩ = some (.bool t148) := (blk_cell BK153.out 0).trans rfl; have hcz85_1 : w84.cell? ⟨gb153, 1, none⟩ = some (.slice Ao83 t149.length co83) := (blk_cell BK153.out 1).trans rfl; have hfz85_0 := kfz BK153.out 0; have hfz85_1 := kfz BK153.out 1) | ((with_reducible refine gate_callee (f := 138) rfl ?_); refine goesL_ (some 51) rfl rfl Tryz.func138 (by kernel_rfl) rfl #[.bool x5_1, .slice Ao83 t149.length co83] rfl (by (try simp only [List.map_toArray, List.map_cons, List.map_nil]); first | done | rfl | (simp only [List.length_drop, List.length_take]; rfl)) ?_; (with_reducible refine (nM1.calls x5_1 (fun k_ => ((w.heap.size ≤ k_) ∧ (k_ ≠ gb147 ∧ k_ ≠ gb153))) _ _ t149 t154 t155 _ ?side1 A19.out).mono ?_); (case side1 => exact HO151.out); rintro e w86 ⟨v156, rfl, ho0, hb⟩; refine ⟨_, rfl, ?_⟩; have n0_ := As0.mk (Kd.V_below (by (with_reducible repeat (first | apply Kd.V_alloc | apply Kd.V_drewN | apply Kd.V_drew)); exact HO151.out) hb); have n1_ := As0.mk (Kd.V_lower (Kd.V_mono (ok' := fun k_ => (w.heap.size ≤ k_) ∧ k_ ≠ gb147 ∧ k_ ≠ gb153) ho0 (fun k_ hk_ => ⟨Or.elim hk_ (fun hs_ => hs_.1) (fun hn_ => (Nat.le_trans (bsz (by repeat (first | (with_reducible first | exact HB.out | apply below_alloc | apply pbn | apply bd1 | refine bst ?_ GE147.out | refine bst ?_ GE153.out) | exact HB.out))) hn_)), Or.elim hk_ (fun hs_ => hs_.2.1) (fun hn_ => (Kd.freshB (g := gb147) (o := .cells #[.bool false, .slice none 0 0, .bool false, .slice none 0 0] 96 (0, 0)) (by (with_reducible repeat (first | refine kdn ?_ _ | refine kdw ?_ | refine kal ?_ _)); exact BK147.out) k_ hn_)), Or.elim hk_ (fun hs_ => hs_.2.2) (fun hn_ => (Kd.freshB (g := gb153) (o := .cells #[.bool t148, .slice Ao83 t149.length co83] 94 (0, 0)) (by (with_reducible repeat (first | refine kdn ?_ _ | refine kdw ?_ | refine kal ?_ _)); exact BK153.out) k_ hn_))⟩)) (bsz (by repeat (first | (with_reducible first | exact HB.out | apply below_alloc | apply pbn | apply bd1 | refine bst ?_ GE147.out | refine bst ?_ GE153.out) | exact HB.out)))); have n2_ := As0.mk (blk_below (g := gb147) (o := .cells #[.bool false, .slice none 0 0, .bool false, .slice none 0 0] 96 (0, 0)) (by (with_reducible repeat (first | refine kdn ?_ _ | refine kdw ?_ | refine kal ?_ _)); exact BK147.out) hb); have n3_ := As0.mk (blk_below (g := gb153) (o := .cells #[.bool t148, .slice Ao83 t149.length co83] 94 (0, 0)) (by (with_reducible repeat (first | refine kdn ?_ _ | refine kdw ?_ | refine kal ?_ _)); exact BK153.out) hb); have n4_ := As0.mk (bsp (by repeat (first | (with_reducible first | exact HB.out | apply below_alloc | apply pbn | apply bd1 | refine bst ?_ GE147.out | refine bst ?_ GE153.out) | exact HB.out)) hb); clear HO151; clear BK147; clear BK153; clear HB; have HO151 := n0_; have HO157 := n1_; have BK147 := n2_; have BK153 := n3_; have HB := n4_; clear n0_ n1_ n2_ n3_ n4_; (try clear hb); (try clear hb2); (try clear hk); (try clear hi); (try clear ho0); obtain ⟨Ao87, co87, eo87⟩ := Kd.V_slice HO157.out; subst eo87) | ((with_reducible refine gate_dst (N := 10) rfl ?_); refine box_event ?hg (N := 10) ?hd (cs := #[.bool false, .slice none 0 0, .bool false, .slice none 0 0]) (t := 96) ?hr ?_; (case hd => rfl); (case hg => rfl); (case hr => first | (go_simp; done) | (go_simp; rfl)); intro gb158 hg w88 hbox hb; have n0_ := As0.mk (Kd.V_below (Kd.V_elderB (by (with_reducible repeat (first | apply Kd.V_alloc | apply Kd.V_drewN | apply Kd.V_drew)); exact HO151.out) gb158 (Nat.le_of_eq hg.symm)) hb); have n1_ := As0.mk (Kd.V_below (Kd.V_elderB (by (with_reducible repeat (first | apply Kd.V_alloc | apply Kd.V_drewN | apply Kd.V_drew)); exact HO157.out) gb158 (Nat.le_of_eq hg.symm)) hb); have n2_ := As0.mk (blk_below (g := gb147) (o := .cells #[.bool false, .slice none 0 0, .bool false, .slice none 0 0] 96 (0, 0)) (by (with_reducible repeat (first | refine kdn ?_ _ | refine kdw ?_ | refine kal ?_ _)); exact BK147.out) hb); have n3_ := As0.mk (blk_below (g := gb153) (o := .cells #[.bool t148, .slice Ao83 t149.length co83] 94 (0, 0)) (by (with_reducible repeat (first | refine kdn ?_ _ | refine kdw ?_ | refine kal ?_ _)); exact BK153.out) hb); have n4_ := As0.mk (bsp (by repeat (first | (with_reducible first | exact HB.out | apply below_alloc | apply pbn | apply bd1 | refine bst ?_ GE147.out | refine bst ?_ GE153.out) | exact HB.out)) hb); have n5_ := As0.mk (hbox); have n6_ := As0.mk ((by rw [hg]; exact (bsz (by repeat (first | (with_reducible first | exact HB.out | apply below_alloc | apply pbn | apply bd1 | refine bst ?_ GE147.out | refine bst ?_ GE153.out) | exact HB.out))) : w.heap.size ≤ gb158)); have n7_ := As0.mk ((by rw [hg]; exact (bsz (by repeat (first | (with_reducible first | exact HB.out | apply below_alloc | apply pbn | apply bd1 | refine bst ?_ GE147.out | refine bst ?_ GE153.out) | exact HB.out))) : w.heap.size ≤ gb158)); have n8_ := As0.mk ((by rw [hg]; exact Nat.ne_of_lt (blk_lt (g := gb147) (o := .cells #[.bool false, .slice none 0 0, .bool false, .slice none 0 0] 96 (0, 0)) (by (with_reducible repeat (first | refine kdn ?_ _ | refine kdw ?_ | refine kal ?_ _)); exact BK147.out)) : gb147 ≠ gb158)); have n9_ := As0.mk ((by rw [hg]; exact Nat.ne_of_gt (blk_lt (g := gb147) (o := .cells #[.bool false, .slice none 0 0, .bool false, .slice none 0 0] 96 (0, 0)) (by (with_reducible repeat (first | refine kdn ?_ _ | refine kdw ?_ | refine kal ?_ _)); exact BK147.out)) : gb158 ≠ gb147)); have n10_ := As0.mk ((by rw [hg]; exact Nat.ne_of_lt (blk_lt (g := gb153) (o := .cells #[.bool t148, .slice Ao83 t149.length co83] 94 (0, 0)) (by (with_reducible repeat (first | refine kdn ?_ _ | refine kdw ?_ | refine kal ?_ _)); exact BK153.out)) : gb153 ≠ gb158)); have n11_ := As0.mk ((by rw [hg]; exact Nat.ne_of_gt (blk_lt (g := gb153) (o := .cells #[.bool t148, .slice Ao83 t149.length co83] 94 (0, 0)) (by (with_reducible repeat (first | refine kdn ?_ _ | refine kdw ?_ | refine kal ?_ _)); exact BK153.out)) : gb158 ≠ gb153)); clear HO151; clear HO157; clear BK147; clear BK153; clear HB; have HO151 := n0_; have HO157 := n1_; have BK147 := n2_; have BK153 := n3_; have HB := n4_; have BK158 := n5_; have GW158 := n6_; have GE158 := n7_; have NB147_158 := n8_; have NB158_147 := n9_; have NB153_158 := n10_; have NB158_153 := n11_; clear n0_ n1_ n2_ n3_ n4_ n5_ n6_ n7_ n8_ n9_ n10_ n11_; clear hb hbox hg; have hnb89 := NB158_147.out; have hnc89 := NB147_158.out; have hnb90 := NB158_153.out; have hnc90 := NB153_158.out; have hcz91_0 : w88.cell? ⟨gb158, 0, none⟩ = some (.bool false) := (blk_cell BK158.out 0).trans rfl; have hcz91_1 : w88.cell? ⟨gb158, 1, none⟩ = some (.slice none 0 0) := (blk_cell BK158.out 1).trans rfl; have hcz91_2 : w88.cell? ⟨gb158, 2, none⟩ = some (.bool false) := (blk_cell BK158.out 2).trans rfl; have hcz91_3 : w88.cell? ⟨gb158, 3, none⟩ = some (.slice none 0 0) := (blk_cell BK158.out 3).trans rfl; have hfz91_0 := kfz BK158.out 0; have hfz91_1 := kfz BK158.out 1; have hfz91_2 := kfz BK158.out 2; have hfz91_3 := kfz BK158.out 3))
                      have n0_ : As0 (Kd.V (Kd.int .u32) 143 ((((w88.setCell ⟨gb158, 0, none⟩ (.bool t154)).setCell ⟨gb158, 1, none⟩ (.slice Ao87 t155.length co87)).setCell ⟨gb158, 2, none⟩ (.bool false)).setCell ⟨gb158, 3, none⟩ (.slice none 0 0)) w.heap.size (fun k_ => (w.heap.size ≤ k_) ∧ k_ ≠ gb147 ∧ k_ ≠ gb153 ∧ k_ ≠ gb158) (.slice Ao83 t149.length co83) t149) := ⟨by (with_reducible repeat (first | apply Kd.V_alloc | apply Kd.V_drewN | apply Kd.V_drew)); exact Kd.V_mono (Kd.V_far (p := ⟨gb158, 3, none⟩) (Kd.V_far (p := ⟨gb158, 2, none⟩) (Kd.V_far (p := ⟨gb158, 1, none⟩) (Kd.V_far (p := ⟨gb158, 0, none⟩) (Kd.V_mono HO151.out (fun k_ hk => (⟨hk, hk.2⟩ : _ ∧ k_ ≠ gb158))) (fun _ hk => hk.2) (.bool t154)) (fun _ hk => hk.2) (.slice Ao87 t155.length co87)) (fun _ hk => hk.2) (.bool false)) (fun _ hk => hk.2) (.slice none 0 0)) (fun _ hk => ⟨hk.1.1.1, ⟨hk.1.1.2.1, ⟨hk.1.1.2.2, hk.1.2⟩⟩⟩)⟩
                      have n1_ : As0 (Kd.V (Kd.int .u32) 143 ((((w88.setCell ⟨gb158, 0, none⟩ (.bool t154)).setCell ⟨gb158, 1, none⟩ (.slice Ao87 t155.length co87)).setCell ⟨gb158, 2, none⟩ (.bool false)).setCell ⟨gb158, 3, none⟩ (.slice none 0 0)) w.heap.size (fun k_ => (w.heap.size ≤ k_) ∧ k_ ≠ gb147 ∧ k_ ≠ gb153 ∧ k_ ≠ gb158) (.slice Ao87 t155.length co87) t155) := ⟨by (with_reducible repeat (first | apply Kd.V_alloc | apply Kd.V_drewN | apply Kd.V_drew)); exact Kd.V_mono (Kd.V_far (p := ⟨gb158, 3, none⟩) (Kd.V_far (p := ⟨gb158, 2, none⟩) (Kd.V_far (p := ⟨gb158, 1, none⟩) (Kd.V_far (p := ⟨gb158, 0, none⟩) (Kd.V_mono HO157.out (fun k_ hk => (⟨hk, hk.2⟩ : _ ∧ k_ ≠ gb158))) (fun _ hk => hk.2) (.bool t154)) (fun _ hk => hk.2) (.slice Ao87 t155.length co87)) (fun _ hk => hk.2) (.bool false)) (fun _ hk => hk.2) (.slice none 0 0)) (fun _ hk => ⟨hk.1.1.1, ⟨hk.1.1.2.1, ⟨hk.1.1.2.2, hk.1.2⟩⟩⟩)⟩
                      have n2_ : As0 (((((w88.setCell ⟨gb158, 0, none⟩ (.bool t154)).setCell ⟨gb158, 1, none⟩ (.slice Ao87 t155.length co87)).setCell ⟨gb158, 2, none⟩ (.bool false)).setCell ⟨gb158, 3, none⟩ (.slice none 0 0)).heap[gb147]? = some (.cells #[.bool false, .slice none 0 0, .bool false, .slice none 0 0] 96 (0, 0))) := ⟨by (with_reducible repeat (first | refine kdn ?_ _ | refine kdw ?_ | refine kal ?_ _)); refine blk_far ?_ NB147_158.out _; (with_reducible repeat (first | refine kdn ?_ _ | refine kdw ?_ | refine kal ?_ _)); refine blk_far ?_ NB147_158.out _; (with_reducible repeat (first | refine kdn ?_ _ | refine kdw ?_ | refine kal ?_ _)); refine blk_far ?_ NB147_158.out _; (with_reducible repeat (first | refine kdn ?_ _ | refine kdw ?_ | refine kal ?_ _)); refine blk_far ?_ NB147_158.out _; (with_reducible repeat (first | refine kdn ?_ _ | refine kdw ?_ | refine kal ?_ _)); exact BK147.out⟩
                      have n3_ : As0 (((((w88.setCell ⟨gb158, 0, none⟩ (.bool t154)).setCell ⟨gb158, 1, none⟩ (.slice Ao87 t155.length co87)).setCell ⟨gb158, 2, none⟩ (.bool false)).setCell ⟨gb158, 3, none⟩ (.slice none 0 0)).heap[gb153]? = some (.cells #[.bool t148, .slice Ao83 t149.length co83] 94 (0, 0))) := ⟨by (with_reducible repeat (first | refine kdn ?_ _ | refine kdw ?_ | refine kal ?_ _)); refine blk_far ?_ NB153_158.out _; (with_reducible repeat (first | refine kdn ?_ _ | refine kdw ?_ | refine kal ?_ _)); refine blk_far ?_ NB153_158.out _; (with_reducible repeat (first | refine kdn ?_ _ | refine kdw ?_ | refine kal ?_ _)); refine blk_far ?_ NB153_158.out _; (with_reducible repeat (first | refine kdn ?_ _ | refine kdw ?_ | refine kal ?_ _)); refine blk_far ?_ NB153_158.out _; (with_reducible repeat (first | refine kdn ?_ _ | refine kdw ?_ | refine kal ?_ _)); exact BK153.out⟩
                      have n4_ : As0 (((((w88.setCell ⟨gb158, 0, none⟩ (.bool t154)).setCell ⟨gb158, 1, none⟩ (.slice Ao87 t155.length co87)).setCell ⟨gb158, 2, none⟩ (.bool false)).setCell ⟨gb158, 3, none⟩ (.slice none 0 0)).heap[gb158]? = some (.cells #[.bool t154, .slice Ao87 t155.length co87, .bool false, .slice none 0 0] 96 (0, 0))) := ⟨by (with_reducible repeat (first | refine kdn ?_ _ | refine kdw ?_ | refine kal ?_ _)); refine blk_put (cs := #[.bool t154, .slice Ao87 t155.length co87, .bool false, .slice none 0 0]) ?_ 3 _ rfl; (with_reducible repeat (first | refine kdn ?_ _ | refine kdw ?_ | refine kal ?_ _)); refine blk_put (cs := #[.bool t154, .slice Ao87 t155.length co87, .bool false, .slice none 0 0]) ?_ 2 _ rfl; (with_reducible repeat (first | refine kdn ?_ _ | refine kdw ?_ | refine kal ?_ _)); refine blk_put (cs := #[.bool t154, .slice none 0 0, .bool false, .slice none 0 0]) ?_ 1 _ rfl; (with_reducible repeat (first | refine kdn ?_ _ | refine kdw ?_ | refine kal ?_ _)); refine blk_put (cs := #[.bool false, .slice none 0 0, .bool false, .slice none 0 0]) ?_ 0 _ rfl; (with_reducible repeat (first | refine kdn ?_ _ | refine kdw ?_ | refine kal ?_ _)); exact BK158.out⟩
                      have n5_ : As0 (Below w.heap.size w ((((w88.setCell ⟨gb158, 0, none⟩ (.bool t154)).setCell ⟨gb158, 1, none⟩ (.slice Ao87 t155.length co87)).setCell ⟨gb158, 2, none⟩ (.bool false)).setCell ⟨gb158, 3, none⟩ (.slice none 0 0))) := ⟨by repeat (first | (with_reducible first | exact HB.out | apply below_alloc | apply pbn | apply bd1 | refine bst ?_ GE147.out | refine bst ?_ GE153.out | refine bst ?_ GE158.out) | exact HB.out)⟩
                      (try clear HO151)
                      (try clear HO157)
                      (try clear BK147)
                      (try clear BK153)
                      (try clear BK158)
                      (try clear HB)
                      generalize ((((w88.setCell ⟨gb158, 0, none⟩ (.bool t154)).setCell ⟨gb158, 1, none⟩ (.slice Ao87 t155.length co87)).setCell ⟨gb158, 2, none⟩ (.bool false)).setCell ⟨gb158, 3, none⟩ (.slice none 0 0)) = w92 at n0_ n1_ n2_ n3_ n4_ n5_ ⊢
                      have HO151 := n0_
                      have HO157 := n1_
                      have BK147 := n2_
                      have BK153 := n3_
                      have BK158 := n4_
                      have HB := n5_
                      clear n0_ n1_ n2_ n3_ n4_ n5_
                      have n0_ := As0.mk (Kd.V_drew HO151.out)
                      have n1_ := As0.mk (Kd.V_drew HO157.out)
                      have n2_ := As0.mk (kdw BK147.out)
                      have n3_ := As0.mk (kdw BK153.out)
                      have n4_ := As0.mk (kdw BK158.out)
                      have n5_ := As0.mk (bd1 HB.out)
                      clear HO151
                      clear HO157
                      clear BK147
                      clear BK153
                      clear BK158
                      clear HB
                      have HO151 := n0_
                      have HO157 := n1_
                      have BK147 := n2_
                      have BK153 := n3_
                      have BK158 := n4_
                      have HB := n5_
                      clear n0_ n1_ n2_ n3_ n4_ n5_
                      refine start_ (n := 7) (S := fun w' => w'.cell? ⟨gb158, 0, none⟩ = some (.bool t154) ∧ w'.cell? ⟨gb158, 1, none⟩ = some (.slice Ao87 t155.length co87) ∧ w'.cell? ⟨gb158, 2, none⟩ = some (.bool false) ∧ w'.cell? ⟨gb158, 3, none⟩ = some (.slice none 0 0)) (ds := []) #[false, false, false, false, false, false, false] (by kernel_rfl) rfl rfl ⟨(blk_cell BK158.out 0).trans rfl, (blk_cell BK158.out 1).trans rfl, (blk_cell BK158.out 2).trans rfl, (blk_cell BK158.out 3).trans rfl⟩ (fun hHeld => ?_)
                      generalize w92.drew = w93 at HO151 HO157 BK147 BK153 BK158 HB hHeld ⊢
                      refine pure_ (i := 3) (N := some 80) (v := ?_) (a' := ?_) #[false, false, false, true, false, false, false] rfl rfl (by kernel_rfl) (fun _ _ _ h => h) (Or.inl ⟨by rfl, ?_⟩) ?_ ?_
                      rotate_left
                      · intro w'
                        go_simp
                        with_reducible rfl
                      rotate_left
                      · simp only [Act.put, List.setIfInBounds_toArray, List.set_cons_zero, List.set_cons_succ, i64_w, i32_w]
                        rfl
                      refine take_ (i := 0) (N := some 77) (v := ?_) (a' := ?_) #[true, false, false, true, false, false, false] rfl rfl (by kernel_rfl) (fun _ _ _ h => h) (Or.inl ⟨by rfl, ?_⟩) hHeld ?_ ?_
                      rotate_left
                      · rintro w' ⟨s0, s1, s2, s3⟩
                        go_simp
                        with_reducible rfl
                      rotate_left
                      · simp only [Act.put, List.setIfInBounds_toArray, List.set_cons_zero, List.set_cons_succ, i64_w, i32_w]
                        rfl
                      refine take_ (i := 1) (N := some 78) (v := ?_) (a' := ?_) #[true, true, false, true, false, false, false] rfl rfl (by kernel_rfl) (fun _ _ _ h => h) (Or.inl ⟨by rfl, ?_⟩) hHeld ?_ ?_
                      rotate_left
                      · rintro w' ⟨s0, s1, s2, s3⟩
                        go_simp
                        with_reducible rfl
                      rotate_left
                      · simp only [Act.put, List.setIfInBounds_toArray, List.set_cons_zero, List.set_cons_succ, i64_w, i32_w]
                        rfl
                      refine one_ (i := 2) (N := some 79) #[true, true, true, true, false, false, false] rfl rfl (by kernel_rfl) (by decide) (fun K hK => ?_)
                      refine goes_ Tryz.func22 (by kernel_rfl) rfl #[.agg #[.bool t154, .slice Ao87 t155.length co87, .bool false, .slice none 0 0]] (by rfl) rfl rfl (by (try simp only [List.map_toArray, List.map_cons, List.map_nil]); first | done | rfl | (simp only [List.length_drop, List.length_take]; rfl)) ?_
                      refine (nTx.calls kj9 t154 _ _ t155 false _ _ ([] : List Int) t175 _ ?side1 ?side2 ?side3 ?side4 A78.out).mono ?_
                      (case side1 => repeat (first | exact (Kd.V_reads' HO157.out).2.2 | (with_reducible refine Kd.C_alloc ?_ _) | (with_reducible refine Kd.C_drewN ?_ _) | (with_reducible refine Kd.C_drew ?_)))
                      (case side2 => exact (Kd.V_reads' HO157.out).2.1)
                      (case side3 => exact Kd.C_nil _ _)
                      (case side4 => exact Nat.le_refl _)
                      rintro e w94 ⟨rfl, hb⟩
                      refine ⟨_, rfl, ?_⟩
                      have n0_ := As0.mk (Kd.V_below (by (with_reducible repeat (first | apply Kd.V_alloc | apply Kd.V_drewN | apply Kd.V_drew)); exact HO151.out) hb)
                      have n1_ := As0.mk (Kd.V_below (by (with_reducible repeat (first | apply Kd.V_alloc | apply Kd.V_drewN | apply Kd.V_drew)); exact HO157.out) hb)
                      have n2_ := As0.mk (blk_below (g := gb147) (o := .cells #[.bool false, .slice none 0 0, .bool false, .slice none 0 0] 96 (0, 0)) (by (with_reducible repeat (first | refine kdn ?_ _ | refine kdw ?_ | refine kal ?_ _)); exact BK147.out) hb)
                      have n3_ := As0.mk (blk_below (g := gb153) (o := .cells #[.bool t148, .slice Ao83 t149.length co83] 94 (0, 0)) (by (with_reducible repeat (first | refine kdn ?_ _ | refine kdw ?_ | refine kal ?_ _)); exact BK153.out) hb)
                      have n4_ := As0.mk (blk_below (g := gb158) (o := .cells #[.bool t154, .slice Ao87 t155.length co87, .bool false, .slice none 0 0] 96 (0, 0)) (by (with_reducible repeat (first | refine kdn ?_ _ | refine kdw ?_ | refine kal ?_ _)); exact BK158.out) hb)
                      have n5_ := As0.mk (bsp (by repeat (first | (with_reducible first | exact HB.out | apply below_alloc | apply pbn | apply bd1 | refine bst ?_ GE147.out | refine bst ?_ GE153.out | refine bst ?_ GE158.out) | exact HB.out)) hb)
                      clear HO151
                      clear HO157
                      clear BK147
                      clear BK153
                      clear BK158
                      clear HB
                      have HO151 := n0_
                      have HO157 := n1_
                      have BK147 := n2_
                      have BK153 := n3_
                      have BK158 := n4_
                      have HB := n5_
                      clear n0_ n1_ n2_ n3_ n4_ n5_
                      (try clear hb)
                      (try clear hb2)
                      (try clear hk)
                      (try clear hi)
                      refine hK.out _ _ ⟨(blk_cell BK158.out 0).trans rfl, (blk_cell BK158.out 1).trans rfl, (blk_cell BK158.out 2).trans rfl, (blk_cell BK158.out 3).trans rfl⟩ (fun hHeld => ?_)
                      clear hK K
                      refine norm_ (a' := ?_) ?_ ?_
                      rotate_left
                      · show Act.put _ (some 79) _ = _
                        simp only [Act.put, List.setIfInBounds_toArray, List.set_cons_zero, List.set_cons_succ, i64_w, i32_w]
                        rfl
                      refine pure_ (i := 4) (N := some 81) (v := ?_) (a' := ?_) #[true, true, true, true, true, false, false] rfl rfl (by kernel_rfl) (fun _ _ _ h => h) (Or.inl ⟨by rfl, ?_⟩) ?_ ?_
                      rotate_left
                      · intro w'
                        go_simp
                        with_reducible rfl
                      rotate_left
                      · simp only [Act.put, List.setIfInBounds_toArray, List.set_cons_zero, List.set_cons_succ, i64_w, i32_w]
                        rfl
                      refine one_ (i := 5) (N := none) #[true, true, true, true, true, true, false] rfl rfl (by kernel_rfl) (by decide) (fun K hK => ?_)
                      have hs95 : w94.cell? ⟨gb147, 0, none⟩ = some (.bool false) := (blk_cell BK147.out 0).trans rfl
                      have hfs95 := kfz BK147.out 0
                      have hns95_1 := NB153_147.out
                      have hns95_2 := NB158_147.out
                      have hms95_1 := NB147_153.out
                      have hms95_2 := NB147_158.out
                      have hs96 : w94.cell? ⟨gb147, 1, none⟩ = some (.slice none 0 0) := (blk_cell BK147.out 1).trans rfl
                      have hfs96 := kfz BK147.out 1
                      have hns96_1 := NB153_147.out
                      have hns96_2 := NB158_147.out
                      have hms96_1 := NB147_153.out
                      have hms96_2 := NB147_158.out
                      have hs97 : w94.cell? ⟨gb147, 2, none⟩ = some (.bool false) := (blk_cell BK147.out 2).trans rfl
                      have hfs97 := kfz BK147.out 2
                      have hns97_1 := NB153_147.out
                      have hns97_2 := NB158_147.out
                      have hms97_1 := NB147_153.out
                      have hms97_2 := NB147_158.out
                      have hs98 : w94.cell? ⟨gb147, 3, none⟩ = some (.slice none 0 0) := (blk_cell BK147.out 3).trans rfl
                      have hfs98 := kfz BK147.out 3
                      have hns98_1 := NB153_147.out
                      have hns98_2 := NB158_147.out
                      have hms98_1 := NB147_153.out
                      have hms98_2 := NB147_158.out
                      refine skip_ (w1 := ?_) (by rfl) rfl ?_ ?_
                      rotate_left
                      · go_simp
                        rfl
                      refine hK.out _ _ ⟨((cell_far (p := ⟨gb147, _, none⟩) NB158_147.out _).trans (((cell_far (p := ⟨gb147, _, none⟩) NB158_147.out _).trans (((cell_far (p := ⟨gb147, _, none⟩) NB158_147.out _).trans (((cell_far (p := ⟨gb147, _, none⟩) NB158_147.out _).trans (hHeld.1)))))))), ((cell_far (p := ⟨gb147, _, none⟩) NB158_147.out _).trans (((cell_far (p := ⟨gb147, _, none⟩) NB158_147.out _).trans (((cell_far (p := ⟨gb147, _, none⟩) NB158_147.out _).trans (((cell_far (p := ⟨gb147, _, none⟩) NB158_147.out _).trans (hHeld.2.1)))))))), ((cell_far (p := ⟨gb147, _, none⟩) NB158_147.out _).trans (((cell_far (p := ⟨gb147, _, none⟩) NB158_147.out _).trans (((cell_far (p := ⟨gb147, _, none⟩) NB158_147.out _).trans (((cell_far (p := ⟨gb147, _, none⟩) NB158_147.out _).trans (hHeld.2.2.1)))))))), ((cell_far (p := ⟨gb147, _, none⟩) NB158_147.out _).trans (((cell_far (p := ⟨gb147, _, none⟩) NB158_147.out _).trans (((cell_far (p := ⟨gb147, _, none⟩) NB158_147.out _).trans (((cell_far (p := ⟨gb147, _, none⟩) NB158_147.out _).trans (hHeld.2.2.2))))))))⟩ (fun hHeld => ?_)
                      clear hK K
                      refine pure_ (i := 6) (N := some 3) (v := ?_) (a' := ?_) #[true, true, true, true, true, true, true] rfl rfl (by kernel_rfl) (fun _ _ _ h => h) (Or.inl ⟨by rfl, ?_⟩) ?_ ?_
                      rotate_left
                      · intro w'
                        go_simp
                        with_reducible rfl
                      rotate_left
                      · simp only [Act.put, List.setIfInBounds_toArray, List.set_cons_zero, List.set_cons_succ, i64_w, i32_w]
                        rfl
                      refine done_ (by kernel_rfl) ?_
                      try go_wp2
                      refine bodyPost_ret (results_ct rfl _ _ gb147 96 #[.bool t154, .slice Ao87 t155.length co87, .bool false, .slice none 0 0] (0, 0) _ rfl (by (with_reducible repeat (first | refine kdn ?_ _ | refine kdw ?_ | refine kal ?_ _)); refine blk_put (cs := #[.bool t154, .slice Ao87 t155.length co87, .bool false, .slice none 0 0]) ?_ 3 _ rfl; (with_reducible repeat (first | refine kdn ?_ _ | refine kdw ?_ | refine kal ?_ _)); refine blk_put (cs := #[.bool t154, .slice Ao87 t155.length co87, .bool false, .slice none 0 0]) ?_ 2 _ rfl; (with_reducible repeat (first | refine kdn ?_ _ | refine kdw ?_ | refine kal ?_ _)); refine blk_put (cs := #[.bool t154, .slice none 0 0, .bool false, .slice none 0 0]) ?_ 1 _ rfl; (with_reducible repeat (first | refine kdn ?_ _ | refine kdw ?_ | refine kal ?_ _)); refine blk_put (cs := #[.bool false, .slice none 0 0, .bool false, .slice none 0 0]) ?_ 0 _ rfl; (with_reducible repeat (first | refine kdn ?_ _ | refine kdw ?_ | refine kal ?_ _)); exact BK147.out) Tryz.underlying96 rfl (by kernel_rfl)) rfl ?_
                      exact ⟨_, _, by first | rfl | (simp [errW_none, errW_some] <;> rfl) | (simp [*, errW_none, errW_some] <;> rfl), by (with_reducible repeat (first | apply Kd.V_alloc | apply Kd.V_drewN | apply Kd.V_drew)); exact Kd.V_mono (Kd.V_far (p := ⟨gb147, 3, none⟩) (Kd.V_far (p := ⟨gb147, 2, none⟩) (Kd.V_far (p := ⟨gb147, 1, none⟩) (Kd.V_far (p := ⟨gb147, 0, none⟩) (Kd.V_mono HO157.out (fun k_ hk => (⟨hk, hk.2.1⟩ : _ ∧ k_ ≠ gb147))) (fun _ hk => hk.2) (.bool t154)) (fun _ hk => hk.2) (.slice Ao87 t155.length co87)) (fun _ hk => hk.2) (.bool false)) (fun _ hk => hk.2) (.slice none 0 0)) (fun _ hk => hk.1.1), (Kd.V_nil _ _ _ _ _), by repeat (first | (with_reducible first | exact HB.out | apply below_alloc | apply pbn | apply bd1 | refine bst ?_ GE147.out | refine bst ?_ GE153.out | refine bst ?_ GE158.out) | exact HB.out)⟩
                  · replace c18 := Bool.eq_false_iff.mpr c18
                    subst c18
                    have H1 : (some (false, ([] : List Int), false, ([] : List Int), false)) = some (r1, r2, r3, r4, r5) := by rw [if_neg (show ¬ (false = true) by decide)] at H; exact H
                    clear H
                    have H := H1
                    clear H1
                    simp only [Option.some.injEq, Prod.mk.injEq] at H
                    obtain ⟨rfl, rfl, rfl, rfl, rfl⟩ := H
                    go_wp2_with (first | ((with_reducible refine gate_callee (f := 137) rfl ?_); refine goesL_ (some 42) rfl rfl Tryz.func137 (by kernel_rfl) rfl #[.string (x4_6.extract 0 (x6_9 : Int).toNat)] rfl (by (try simp only [List.map_toArray, List.map_cons, List.map_nil]); first | done | rfl | (simp only [List.length_drop, List.length_take]; rfl)) ?_; (with_reducible refine (nFD.calls kj9 (x4_6.extract 0 (x6_9 : Int).toNat) t148 t149 false _ A17.out).mono ?_); rintro e w99 ⟨v150, rfl, ho0, hb⟩; refine ⟨_, rfl, ?_⟩; have n0_ := As0.mk (Kd.V_lower (Kd.V_mono (ok' := fun k_ => (w.heap.size ≤ k_) ∧ k_ ≠ gb147) ho0 (fun k_ hk_ => ⟨(Nat.le_trans (bsz (by repeat (first | (with_reducible first | exact HB.out | apply below_alloc | apply pbn | apply bd1 | refine bst ?_ GE147.out) | exact HB.out))) hk_), (Kd.freshB (g := gb147) (o := .cells #[.bool false, .slice none 0 0, .bool false, .slice none 0 0] 96 (0, 0)) (by (with_reducible repeat (first | refine kdn ?_ _ | refine kdw ?_ | refine kal ?_ _)); exact BK147.out) k_ hk_)⟩)) (bsz (by repeat (first | (with_reducible first | exact HB.out | apply below_alloc | apply pbn | apply bd1 | refine bst ?_ GE147.out) | exact HB.out)))); have n1_ := As0.mk (blk_below (g := gb147) (o := .cells #[.bool false, .slice none 0 0, .bool false, .slice none 0 0] 96 (0, 0)) (by (with_reducible repeat (first | refine kdn ?_ _ | refine kdw ?_ | refine kal ?_ _)); exact BK147.out) hb); have n2_ := As0.mk (bsp (by repeat (first | (with_reducible first | exact HB.out | apply below_alloc | apply pbn | apply bd1 | refine bst ?_ GE147.out) | exact HB.out)) hb); clear BK147; clear HB; have HO151 := n0_; have BK147 := n1_; have HB := n2_; clear n0_ n1_ n2_; (try clear hb); (try clear hb2); (try clear hk); (try clear hi); (try clear ho0)) | ((with_reducible refine gate_dst (N := 8) rfl ?_); refine box_event ?hg (N := 8) ?hd (cs := #[.bool false, .slice none 0 0]) (t := 94) ?hr ?_; (case hd => rfl); (case hg => rfl); (case hr => first | (go_simp; done) | (go_simp; rfl)); intro gb153 hg w100 hbox hb; have n0_ := As0.mk (Kd.V_below (Kd.V_elderB (by (with_reducible repeat (first | apply Kd.V_alloc | apply Kd.V_drewN | apply Kd.V_drew)); exact HO151.out) gb153 (Nat.le_of_eq hg.symm)) hb); have n1_ := As0.mk (blk_below (g := gb147) (o := .cells #[.bool false, .slice none 0 0, .bool false, .slice none 0 0] 96 (0, 0)) (by (with_reducible repeat (first | refine kdn ?_ _ | refine kdw ?_ | refine kal ?_ _)); exact BK147.out) hb); have n2_ := As0.mk (bsp (by repeat (first | (with_reducible first | exact HB.out | apply below_alloc | apply pbn | apply bd1 | refine bst ?_ GE147.out) | exact HB.out)) hb); have n3_ := As0.mk (hbox); have n4_ := As0.mk ((by rw [hg]; exact (bsz (by repeat (first | (with_reducible first | exact HB.out | apply below_alloc | apply pbn | apply bd1 | refine bst ?_ GE147.out) | exact HB.out))) : w.heap.size ≤ gb153)); have n5_ := As0.mk ((by rw [hg]; exact (bsz (by repeat (first | (with_reducible first | exact HB.out | apply below_alloc | apply pbn | apply bd1 | refine bst ?_ GE147.out) | exact HB.out))) : w.heap.size ≤ gb153)); have n6_ := As0.mk ((by rw [hg]; exact Nat.ne_of_lt (blk_lt (g := gb147) (o := .cells #[.bool false, .slice none 0 0, .bool false, .slice none 0 0] 96 (0, 0)) (by (with_reducible repeat (first | refine kdn ?_ _ | refine kdw ?_ | refine kal ?_ _)); exact BK147.out)) : gb147 ≠ gb153)); have n7_ := As0.mk ((by rw [hg]; exact Nat.ne_of_gt (blk_lt (g := gb147) (o := .cells #[.bool false, .slice none 0 0, .bool false, .slice none 0 0] 96 (0, 0)) (by (with_reducible repeat (first | refine kdn ?_ _ | refine kdw ?_ | refine kal ?_ _)); exact BK147.out)) : gb153 ≠ gb147)); clear HO151; clear BK147; clear HB; have HO151 := n0_; have BK147 := n1_; have HB := n2_; have BK153 := n3_; have GW153 := n4_; have GE153 := n5_; have NB147_153 := n6_; have NB153_147 := n7_; clear n0_ n1_ n2_ n3_ n4_ n5_ n6_ n7_; clear hb hbox hg; have hnb101 := NB153_147.out; have hnc101 := NB147_153.out; have hcz102_0 : w100.cell? ⟨gb153, 0, none⟩ = some (.bool false) := (blk_cell BK153.out 0).trans rfl; have hcz102_1 : w100.cell? ⟨gb153, 1, none⟩ = some (.slice none 0 0) := (blk_cell BK153.out 1).trans rfl; have hfz102_0 := kfz BK153.out 0; have hfz102_1 := kfz BK153.out 1; obtain ⟨Ao103, co103, eo103⟩ := Kd.V_slice HO151.out; subst eo103; have hcz104_0 : w100.cell? ⟨gb147, 0, none⟩ = some (.bool false) := (blk_cell BK147.out 0).trans rfl; have hcz104_1 : w100.cell? ⟨gb147, 1, none⟩ = some (.slice none 0 0) := (blk_cell BK147.out 1).trans rfl; have hcz104_2 : w100.cell? ⟨gb147, 2, none⟩ = some (.bool false) := (blk_cell BK147.out 2).trans rfl; have hcz104_3 : w100.cell? ⟨gb147, 3, none⟩ = some (.slice none 0 0) := (blk_cell BK147.out 3).trans rfl; have hfz104_0 := kfz BK147.out 0; have hfz104_1 := kfz BK147.out 1; have hfz104_2 := kfz BK147.out 2; have hfz104_3 := kfz BK147.out 3))
                    refine bodyPost_ret (results_ct rfl _ _ gb147 96 #[.bool false, .slice none 0 0, .bool false, .slice none 0 0] (0, 0) _ rfl (by (with_reducible repeat (first | refine kdn ?_ _ | refine kdw ?_ | refine kal ?_ _)); refine blk_put (cs := #[.bool false, .slice none 0 0, .bool false, .slice none 0 0]) ?_ 3 _ rfl; (with_reducible repeat (first | refine kdn ?_ _ | refine kdw ?_ | refine kal ?_ _)); refine blk_put (cs := #[.bool false, .slice none 0 0, .bool false, .slice none 0 0]) ?_ 2 _ rfl; (with_reducible repeat (first | refine kdn ?_ _ | refine kdw ?_ | refine kal ?_ _)); refine blk_put (cs := #[.bool false, .slice none 0 0, .bool false, .slice none 0 0]) ?_ 1 _ rfl; (with_reducible repeat (first | refine kdn ?_ _ | refine kdw ?_ | refine kal ?_ _)); refine blk_put (cs := #[.bool false, .slice none 0 0, .bool false, .slice none 0 0]) ?_ 0 _ rfl; (with_reducible repeat (first | refine kdn ?_ _ | refine kdw ?_ | refine kal ?_ _)); refine blk_far ?_ NB147_153.out _; (with_reducible repeat (first | refine kdn ?_ _ | refine kdw ?_ | refine kal ?_ _)); refine blk_far ?_ NB147_153.out _; (with_reducible repeat (first | refine kdn ?_ _ | refine kdw ?_ | refine kal ?_ _)); exact BK147.out) Tryz.underlying96 rfl (by kernel_rfl)) rfl ?_
                    exact ⟨_, _, by first | rfl | (simp [errW_none, errW_some] <;> rfl) | (simp [*, errW_none, errW_some] <;> rfl), (Kd.V_nil _ _ _ _ _), (Kd.V_nil _ _ _ _ _), by repeat (first | (with_reducible first | exact HB.out | apply below_alloc | apply pbn | apply bd1 | refine bst ?_ GE147.out | refine bst ?_ GE153.out) | exact HB.out)⟩
                · rw [if_neg c16] at H
                  exact absurd H (by simp)
              · rw [if_neg c15] at H
                exact absurd H (by simp)
mutual
def rOr.l0 : Nat → List Int → List Int → Int → Int → Int → Option (Int)
  | 0, _, _, _, _, _ => none
  | k + 1, x0, x1, x5, x6, x7 => if x7 < (x0.length : Int) then (if 0 ≤ x7 then (if x7 < (x1.length : Int) then (rOr.l0 k x0 x1 (wrap64 (x5 + (rd x0 x7))) (wrap64 (x6 + (rd x1 x7))) (wrap64 (x7 + 1))) else (none)) else (none)) else (if x5 = x6 then (rOr.l1 k x0 x1 (wrap64 ((x0.length : Int) - 1))) else (if x5 < x6 then (some (-1)) else (some 1)))
def rOr.l1 : Nat → List Int → List Int → Int → Option (Int)
  | 0, _, _, _ => none
  | k + 1, x0, x1, x8 => if x8 ≥ 0 then (if 0 ≤ x8 then (if x8 < (x0.length : Int) then (if x8 < (x1.length : Int) then (if (rd x0 x8) = (rd x1 x8) then (rOr.l1 k x0 x1 (wrap64 (x8 - 1))) else (if (rd x0 x8) > (rd x1 x8) then (some (-1)) else (some 1))) else (none)) else (none)) else (none)) else (some 0)
end
def rOr.f (k : Nat) (l0 : List Int) (l1 : List Int) : Option (Int) := rOr.l0 k l0 l1 0 0 0
set_option maxHeartbeats 8000000 in
set_option maxRecDepth 100000 in
theorem rOr.calls (k : Nat) (A0 : Option Addr) (c0 : Nat) (l0 : List Int) (A1 : Option Addr) (c1 : Nat) (l1 : List Int) (r : Int) (w : World) (hr0 : Kd.C (Kd.int .i64) w A0 l0.length l0) (hc0 : l0.length ≤ c0) (hr1 : Kd.C (Kd.int .i64) w A1 l1.length l1) (hc1 : l1.length ≤ c1) (h : rOr.f k l0 l1 = some r) :
    Calls Tryz.prog 116 #[.slice A0 l0.length c0, .slice A1 l1.length c1] w fun e w' => e = .returned (.int .i64 r) ∧ Drawn0 w w' := by
  have HR0 := As0.mk hr0
  have HC0 := As0.mk hc0
  clear hr0 hc0
  have HR1 := As0.mk hr1
  have HC1 := As0.mk hc1
  clear hr1 hc1
  have H : (rOr.l0 k l0 l1 0 0 0) = some r := h
  clear h
  have H' := As0.mk H
  clear H
  go_enter Tryz.func116, Tryz.ntmps116
  go_wp2
  repeat (go_quiet (fail); try go_wp2)
  go_loopg [5, 6, 7] k (fun kq v5 v6 v7 w' => ∃ (x5_1 : Int) (x6_1 : Int) (x7_1 : Int), v5 = .int .i64 x5_1 ∧ v6 = .int .i64 x6_1 ∧ v7 = .int .i64 x7_1 ∧ As0 (rOr.l0 kq l0 l1 x5_1 x6_1 x7_1 = some r) ∧ As0 (kq ≤ k) ∧ Drawn0 w w')
  case atStart => exact ⟨(0), (0), (0), (by first | rfl | (simp; done) | (simp [*]; done)), (by first | rfl | (simp; done) | (simp [*]; done)), (by first | rfl | (simp; done) | (simp [*]; done)), H', ⟨Nat.le_refl _⟩, by repeat (first | exact Drawn0.refl _ | apply Drawn0.step)⟩
  case round =>
    clear H'
    try clear c1
    try clear p2
    obtain ⟨x5_1, x6_1, x7_1, rfl, rfl, rfl, HA, HK1, ⟨m1, rfl⟩⟩ := hrel
    cases gk with
    | zero => exact absurd HA.out (by simp [rOr.l0])
    | succ k1 =>
      have H := HA.out
      clear HA
      simp only [rOr.l0] at H
      by_cases c3 : x7_1 < (l0.length : Int)
      · rw [if_pos c3] at H
        have c3b0 : decide (x7_1 < (l0.length : Int)) = true := decide_eq_true c3
        clear c3
        by_cases c4 : 0 ≤ x7_1
        · rw [if_pos c4] at H
          have c4b0 : decide (0 ≤ x7_1) = true := decide_eq_true c4
          clear c4
          by_cases c5 : x7_1 < (l1.length : Int)
          · rw [if_pos c5] at H
            have c5b0 : decide (x7_1 < (l1.length : Int)) = true := decide_eq_true c5
            clear c5
            have H' := As0.mk H
            clear H
            have p178 : 0 ≤ (x7_1 : Int) := of_decide_eq_true (by first | (with_reducible assumption) | assumption)
            have q178 : x7_1 < (l0.length : Int) := of_decide_eq_true (by first | (with_reducible assumption) | assumption)
            obtain ⟨ad178, e178, hx178_0⟩ := Kd.at_int HR0.out x7_1 p178 q178
            cases e178
            replace p178 := eq_true p178
            replace q178 := eq_true q178
            have p179 : 0 ≤ (x7_1 : Int) := of_decide_eq_true (by first | (with_reducible assumption) | assumption)
            have q179 : x7_1 < (l1.length : Int) := of_decide_eq_true (by first | (with_reducible assumption) | assumption)
            obtain ⟨ad179, e179, hx179_0⟩ := Kd.at_int HR1.out x7_1 p179 q179
            cases e179
            replace p179 := eq_true p179
            replace q179 := eq_true q179
            go_wp2
            repeat (go_quiet (fail); try go_wp2)
            go_roundg k1
            case measure => have := HK1.out; omega
            case rel => exact ⟨(wrap64 (x5_1 + (rd l0 x7_1))), (wrap64 (x6_1 + (rd l1 x7_1))), (wrap64 (x7_1 + 1)), (by first | rfl | (simp; done) | (simp [*]; done)), (by first | rfl | (simp; done) | (simp [*]; done)), (by first | rfl | (simp; done) | (simp [*]; done)), H', ⟨by have := HK1.out; omega⟩, by repeat (first | exact Drawn0.refl _ | apply Drawn0.step)⟩
          · rw [if_neg c5] at H
            exact absurd H (by simp)
        · rw [if_neg c4] at H
          exact absurd H (by simp)
      · rw [if_neg c3] at H
        have c3b0 : decide (x7_1 < (l0.length : Int)) = false := decide_eq_false c3
        clear c3
        by_cases c6 : x5_1 = x6_1
        · rw [if_pos c6] at H
          have c6b0 : (x5_1 == x6_1) = true := beq_iff_eq.mpr c6
          have c6b1 : (x5_1 != x6_1) = false := bne_eq_false_iff_eq.mpr c6
          clear c6
          have H' := As0.mk H
          clear H
          go_wp2
          repeat (go_quiet (fail); try go_wp2)
          go_loopg [8] k1 (fun kq v8 w' => ∃ (x8_2 : Int), v8 = .int .i64 x8_2 ∧ As0 (rOr.l1 kq l0 l1 x8_2 = some r) ∧ As0 (kq ≤ k1) ∧ Drawn0 w w')
          case atStart => exact ⟨(wrap64 ((l0.length : Int) - 1)), (by first | rfl | (simp; done) | (simp [*]; done)), H', ⟨Nat.le_refl _⟩, by repeat (first | exact Drawn0.refl _ | apply Drawn0.step)⟩
          case round =>
            clear H'
            try clear c1
            try clear p1
            try clear q1
            try clear hx1
            try clear p2
            try clear c3
            try clear c3b0
            try clear c4
            try clear c4b0
            try clear c5
            try clear c5b0
            try clear c6
            try clear c6b0
            try clear c6b1
            try clear p6
            try clear hx178_0
            try clear hx179_0
            try clear p178
            try clear p179
            try clear p2
            try clear q178
            try clear q179
            obtain ⟨x8_2, rfl, HA, HK2, ⟨m2, rfl⟩⟩ := hrel
            cases gk with
            | zero => exact absurd HA.out (by simp [rOr.l1])
            | succ k2 =>
              have H := HA.out
              clear HA
              simp only [rOr.l1] at H
              by_cases c7 : x8_2 ≥ 0
              · rw [if_pos c7] at H
                have c7b0 : decide (0 ≤ x8_2) = true := decide_eq_true c7
                clear c7
                by_cases c8 : 0 ≤ x8_2
                · rw [if_pos c8] at H
                  have c8b0 : decide (0 ≤ x8_2) = true := decide_eq_true c8
                  clear c8
                  by_cases c9 : x8_2 < (l0.length : Int)
                  · rw [if_pos c9] at H
                    have c9b0 : decide (x8_2 < (l0.length : Int)) = true := decide_eq_true c9
                    clear c9
                    by_cases c10 : x8_2 < (l1.length : Int)
                    · rw [if_pos c10] at H
                      have c10b0 : decide (x8_2 < (l1.length : Int)) = true := decide_eq_true c10
                      clear c10
                      by_cases c11 : (rd l0 x8_2) = (rd l1 x8_2)
                      · rw [if_pos c11] at H
                        have c11b0 : ((rd l0 x8_2) == (rd l1 x8_2)) = true := beq_iff_eq.mpr c11
                        have c11b1 : ((rd l0 x8_2) != (rd l1 x8_2)) = false := bne_eq_false_iff_eq.mpr c11
                        clear c11
                        have H' := As0.mk H
                        clear H
                        have p180 : 0 ≤ (x8_2 : Int) := of_decide_eq_true (by first | (with_reducible assumption) | assumption)
                        have q180 : x8_2 < (l0.length : Int) := of_decide_eq_true (by first | (with_reducible assumption) | assumption)
                        obtain ⟨ad180, e180, hx180_0⟩ := Kd.at_int HR0.out x8_2 p180 q180
                        cases e180
                        replace p180 := eq_true p180
                        replace q180 := eq_true q180
                        have p181 : 0 ≤ (x8_2 : Int) := of_decide_eq_true (by first | (with_reducible assumption) | assumption)
                        have q181 : x8_2 < (l1.length : Int) := of_decide_eq_true (by first | (with_reducible assumption) | assumption)
                        obtain ⟨ad181, e181, hx181_0⟩ := Kd.at_int HR1.out x8_2 p181 q181
                        cases e181
                        replace p181 := eq_true p181
                        replace q181 := eq_true q181
                        go_wp2
                        repeat (go_quiet (fail); try go_wp2)
                        go_roundg k2
                        case measure => have := HK1.out; have := HK2.out; omega
                        case rel => exact ⟨(wrap64 (x8_2 - 1)), (by first | rfl | (simp; done) | (simp [*]; done)), H', ⟨by have := HK1.out; have := HK2.out; omega⟩, by repeat (first | exact Drawn0.refl _ | apply Drawn0.step)⟩
                      · rw [if_neg c11] at H
                        have c11b0 : ((rd l0 x8_2) == (rd l1 x8_2)) = false := beq_eq_false_iff_ne.mpr c11
                        have c11b1 : ((rd l0 x8_2) != (rd l1 x8_2)) = true := bne_iff_ne.mpr c11
                        by_cases c12 : (rd l0 x8_2) > (rd l1 x8_2)
                        · rw [if_pos c12] at H
                          have c12b0 : decide ((rd l1 x8_2) < (rd l0 x8_2)) = true := decide_eq_true c12
                          clear c12
                          obtain rfl := Option.some.inj H
                          have p180 : 0 ≤ (x8_2 : Int) := of_decide_eq_true (by first | (with_reducible assumption) | assumption)
                          have q180 : x8_2 < (l0.length : Int) := of_decide_eq_true (by first | (with_reducible assumption) | assumption)
                          obtain ⟨ad180, e180, hx180_0⟩ := Kd.at_int HR0.out x8_2 p180 q180
                          cases e180
                          replace p180 := eq_true p180
                          replace q180 := eq_true q180
                          have p181 : 0 ≤ (x8_2 : Int) := of_decide_eq_true (by first | (with_reducible assumption) | assumption)
                          have q181 : x8_2 < (l1.length : Int) := of_decide_eq_true (by first | (with_reducible assumption) | assumption)
                          obtain ⟨ad181, e181, hx181_0⟩ := Kd.at_int HR1.out x8_2 p181 q181
                          cases e181
                          replace p181 := eq_true p181
                          replace q181 := eq_true q181
                          have p182 : 0 ≤ (x8_2 : Int) := of_decide_eq_true (by first | (with_reducible assumption) | assumption)
                          have q182 : x8_2 < (l0.length : Int) := of_decide_eq_true (by first | (with_reducible assumption) | assumption)
                          obtain ⟨ad182, e182, hx182_0⟩ := Kd.at_int HR0.out x8_2 p182 q182
                          obtain rfl : ad180 = ad182 := (by injection e182)
                          replace p182 := eq_true p182
                          replace q182 := eq_true q182
                          have p183 : 0 ≤ (x8_2 : Int) := of_decide_eq_true (by first | (with_reducible assumption) | assumption)
                          have q183 : x8_2 < (l1.length : Int) := of_decide_eq_true (by first | (with_reducible assumption) | assumption)
                          obtain ⟨ad183, e183, hx183_0⟩ := Kd.at_int HR1.out x8_2 p183 q183
                          obtain rfl : ad181 = ad183 := (by injection e183)
                          replace p183 := eq_true p183
                          replace q183 := eq_true q183
                          go_wp2
                          repeat (go_quiet (fail); try go_wp2)
                          go_ret
                          exact ⟨by first | rfl | (simp; done) | (simp [*]; done), by repeat (first | exact Drawn0.refl _ | apply Drawn0.step)⟩
                        · rw [if_neg c12] at H
                          have c12b0 : decide ((rd l1 x8_2) < (rd l0 x8_2)) = false := decide_eq_false c12
                          clear c12
                          obtain rfl := Option.some.inj H
                          have p180 : 0 ≤ (x8_2 : Int) := of_decide_eq_true (by first | (with_reducible assumption) | assumption)
                          have q180 : x8_2 < (l0.length : Int) := of_decide_eq_true (by first | (with_reducible assumption) | assumption)
                          obtain ⟨ad180, e180, hx180_0⟩ := Kd.at_int HR0.out x8_2 p180 q180
                          cases e180
                          replace p180 := eq_true p180
                          replace q180 := eq_true q180
                          have p181 : 0 ≤ (x8_2 : Int) := of_decide_eq_true (by first | (with_reducible assumption) | assumption)
                          have q181 : x8_2 < (l1.length : Int) := of_decide_eq_true (by first | (with_reducible assumption) | assumption)
                          obtain ⟨ad181, e181, hx181_0⟩ := Kd.at_int HR1.out x8_2 p181 q181
                          cases e181
                          replace p181 := eq_true p181
                          replace q181 := eq_true q181
                          have p182 : 0 ≤ (x8_2 : Int) := of_decide_eq_true (by first | (with_reducible assumption) | assumption)
                          have q182 : x8_2 < (l0.length : Int) := of_decide_eq_true (by first | (with_reducible assumption) | assumption)
                          obtain ⟨ad182, e182, hx182_0⟩ := Kd.at_int HR0.out x8_2 p182 q182
                          obtain rfl : ad180 = ad182 := (by injection e182)
                          replace p182 := eq_true p182
                          replace q182 := eq_true q182
                          have p183 : 0 ≤ (x8_2 : Int) := of_decide_eq_true (by first | (with_reducible assumption) | assumption)
                          have q183 : x8_2 < (l1.length : Int) := of_decide_eq_true (by first | (with_reducible assumption) | assumption)
                          obtain ⟨ad183, e183, hx183_0⟩ := Kd.at_int HR1.out x8_2 p183 q183
                          obtain rfl : ad181 = ad183 := (by injection e183)
                          replace p183 := eq_true p183
                          replace q183 := eq_true q183
                          go_wp2
                          repeat (go_quiet (fail); try go_wp2)
                          go_ret
                          exact ⟨by first | rfl | (simp; done) | (simp [*]; done), by repeat (first | exact Drawn0.refl _ | apply Drawn0.step)⟩
                    · rw [if_neg c10] at H
                      exact absurd H (by simp)
                  · rw [if_neg c9] at H
                    exact absurd H (by simp)
                · rw [if_neg c8] at H
                  exact absurd H (by simp)
              · rw [if_neg c7] at H
                have c7b0 : decide (0 ≤ x8_2) = false := decide_eq_false c7
                clear c7
                obtain rfl := Option.some.inj H
                go_wp2
                repeat (go_quiet (fail); try go_wp2)
                go_ret
                exact ⟨by first | rfl | (simp; done) | (simp [*]; done), by repeat (first | exact Drawn0.refl _ | apply Drawn0.step)⟩
        · rw [if_neg c6] at H
          have c6b0 : (x5_1 == x6_1) = false := beq_eq_false_iff_ne.mpr c6
          have c6b1 : (x5_1 != x6_1) = true := bne_iff_ne.mpr c6
          by_cases c13 : x5_1 < x6_1
          · rw [if_pos c13] at H
            have c13b0 : decide (x5_1 < x6_1) = true := decide_eq_true c13
            clear c13
            obtain rfl := Option.some.inj H
            go_wp2
            repeat (go_quiet (fail); try go_wp2)
            go_ret
            exact ⟨by first | rfl | (simp; done) | (simp [*]; done), by repeat (first | exact Drawn0.refl _ | apply Drawn0.step)⟩
          · rw [if_neg c13] at H
            have c13b0 : decide (x5_1 < x6_1) = false := decide_eq_false c13
            clear c13
            obtain rfl := Option.some.inj H
            go_wp2
            repeat (go_quiet (fail); try go_wp2)
            go_ret
            exact ⟨by first | rfl | (simp; done) | (simp [*]; done), by repeat (first | exact Drawn0.refl _ | apply Drawn0.step)⟩
end Go.Proofs.YQ.PR
