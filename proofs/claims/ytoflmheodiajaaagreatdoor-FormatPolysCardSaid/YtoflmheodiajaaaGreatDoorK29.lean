import Derived.Test.YtoflmheodiajaaaGreatDoorK28
namespace Go.Proofs.YtoflmheodiajaaaGreatDoor.H
open Go.RowKit
set_option linter.unusedVariables false
set_option linter.unusedSimpArgs false
variable {Bs : Nat}
structure TkIn (w : World) (base ub cu j n : Nat) (d : Int) (us ys : List Int) (i : Nat) (cv bw : Int) (zs : List Int) (wr : World) : Prop where
  ile : i ≤ n
  hl : zs.length = us.length
  own : OwnI wr base 143 .u32 (.slice (some ⟨ub, 0, none⟩) us.length cu) zs
  oth : Besides ub w wr
  inw : InW zs
  c0 : 0 ≤ cv
  c1 : cv < 4294967296
  b01 : bw = 0 ∨ bw = 1
  same : ∀ p, (p < j ∨ j + i ≤ p) → el zs p = el us p
  eq : val zs = val us - d * vt ys i * pw j + (cv + bw) * pw (j + i)
theorem TkIn.next {w wr : World} {base ub cu j n i : Nat} {d cv bw : Int} {us ys zs : List Int} (h : TkIn w base ub cu j n d us ys i cv bw zs wr) (hin : i < n) (hj : j + n < us.length) (hd : 0 ≤ d ∧ d < 4294967296) (wu : InW us) (wy : InW ys) :
    TkIn w base ub cu j n d us ys (i + 1) (Proofs.YtoflmheodiajaaaGreatDoor.H.hi (d * el ys i + cv)) (sbB (el us (j + i)) (lo (d * el ys i + cv)) bw) (zs.set (j + i) (sbD (el us (j + i)) (lo (d * el ys i + cv)) bw)) (wr.setCell ⟨ub, j + i, none⟩ (.int .u32 (sbD (el us (j + i)) (lo (d * el ys i + cv)) bw))) := by
  have hy := wy i
  have hu := wu (j + i)
  have hp := prod_range hd hy
  have e1 := lo_hi (d * el ys i + cv)
  have r1 := lo_range (d * el ys i + cv)
  have hc0 := h.c0
  have hc1 := h.c1
  have hb := sb_eq hu r1 h.b01
  have hr := sb_range (el us (j + i)) (lo (d * el ys i + cv)) bw
  have hl := h.hl
  have hh : 0 ≤ Proofs.YtoflmheodiajaaaGreatDoor.H.hi (d * el ys i + cv) ∧ Proofs.YtoflmheodiajaaaGreatDoor.H.hi (d * el ys i + cv) < 4294967296 := by unfold Proofs.YtoflmheodiajaaaGreatDoor.H.hi; omega
  refine ⟨by omega, by rw [List.length_set]; exact hl, h.own.set _ _, h.oth.set (b := ub) (p := ⟨ub, j + i, none⟩) (.inr rfl) _, h.inw.set _ _ hr, hh.1, hh.2, sb_bit _ _ _, fun p hp => ?_, ?_⟩
  · rw [el_set _ _ _ _ (by omega), if_neg (by omega)]
    exact h.same p (by omega)
  · rw [val_set _ _ _ (by omega), h.same (j + i) (by omega), h.eq, hb]
    simp only [vt]
    rw [show j + (i + 1) = (j + i) + 1 by omega, pw_succ, show j + i = i + j by omega, pw_add]
    rw [show i + j = j + i by omega]
    generalize sbB (el us (j + i)) (lo (d * el ys i + cv)) bw = b' at *
    generalize lo (d * el ys i + cv) = l at *
    generalize Proofs.YtoflmheodiajaaaGreatDoor.H.hi (d * el ys i + cv) = H at *
    have e5 : d * el ys i = l + 4294967296 * H - cv := by omega
    have e6 : d * (vt ys i + el ys i * pw i) * pw j = d * vt ys i * pw j + (d * el ys i) * (pw i * pw j) := by grind
    rw [e6, e5]
    grind
structure TkOut (w : World) (base ub cu j n : Nat) (d : Int) (us ys : List Int) (neg : Bool) (zs : List Int) (wr : World) : Prop where
  hl : zs.length = us.length
  own : OwnI wr base 143 .u32 (.slice (some ⟨ub, 0, none⟩) us.length cu) zs
  oth : Besides ub w wr
  inw : InW zs
  same : ∀ p, (p < j ∨ j + n + 1 ≤ p) → el zs p = el us p
  eq : val zs = val us - d * val ys * pw j + (if neg then 1 else 0) * pw (j + n + 1)
theorem TkIn.done {w wr : World} {base ub cu j n : Nat} {d cv bw : Int} {us ys zs : List Int} (h : TkIn w base ub cu j n d us ys n cv bw zs wr) (hj : j + n < us.length) (hy : ys.length = n) (wu : InW us) :
    TkOut w base ub cu j n d us ys (decide (0 < sbB (el us (j + n)) cv bw)) (zs.set (j + n) (sbD (el us (j + n)) cv bw)) (wr.setCell ⟨ub, j + n, none⟩ (.int .u32 (sbD (el us (j + n)) cv bw))) := by
  have hu := wu (j + n)
  have hc0 := h.c0
  have hc1 := h.c1
  have hb := sb_eq hu ⟨hc0, hc1⟩ h.b01
  have hr := sb_range (el us (j + n)) cv bw
  have hbit := sb_bit (el us (j + n)) cv bw
  have hl := h.hl
  refine ⟨by rw [List.length_set]; exact hl, h.own.set _ _, h.oth.set (b := ub) (p := ⟨ub, j + n, none⟩) (.inr rfl) _, h.inw.set _ _ hr, fun p hp => ?_, ?_⟩
  · rw [el_set _ _ _ _ (by omega), if_neg (by omega)]
    exact h.same p (by omega)
  · rw [val_set _ _ _ (by omega), h.same (j + n) (by omega), h.eq, hb, pw_succ]
    have e : val ys = vt ys n := by unfold val; rw [hy]
    rw [e]
    rcases hbit with h0 | h0
    · rw [h0]; simp; grind
    · rw [h0]; simp; grind
structure PbIn (w : World) (base ub cu j n : Nat) (us ys : List Int) (i : Nat) (cv : Int) (zs : List Int) (wr : World) : Prop where
  ile : i ≤ n
  hl : zs.length = us.length
  own : OwnI wr base 143 .u32 (.slice (some ⟨ub, 0, none⟩) us.length cu) zs
  oth : Besides ub w wr
  inw : InW zs
  c01 : cv = 0 ∨ cv = 1
  same : ∀ p, (p < j ∨ j + i ≤ p) → el zs p = el us p
  eq : val zs = val us + vt ys i * pw j - cv * pw (j + i)
theorem PbIn.next {w wr : World} {base ub cu j n i : Nat} {cv : Int} {us ys zs : List Int} (h : PbIn w base ub cu j n us ys i cv zs wr) (hin : i < n) (hj : j + n < us.length) (wu : InW us) (wy : InW ys) :
    PbIn w base ub cu j n us ys (i + 1) (Proofs.YtoflmheodiajaaaGreatDoor.H.hi (el us (j + i) + el ys i + cv)) (zs.set (j + i) (lo (el us (j + i) + el ys i + cv))) (wr.setCell ⟨ub, j + i, none⟩ (.int .u32 (lo (el us (j + i) + el ys i + cv)))) := by
  have hy := wy i
  have hu := wu (j + i)
  have e1 := lo_hi (el us (j + i) + el ys i + cv)
  have r1 := lo_range (el us (j + i) + el ys i + cv)
  have hb := carry_bit hu hy h.c01
  have hl := h.hl
  refine ⟨by omega, by rw [List.length_set]; exact hl, h.own.set _ _, h.oth.set (b := ub) (p := ⟨ub, j + i, none⟩) (.inr rfl) _, h.inw.set _ _ r1, hb, fun p hp => ?_, ?_⟩
  · rw [el_set _ _ _ _ (by omega), if_neg (by omega)]
    exact h.same p (by omega)
  · rw [val_set _ _ _ (by omega), h.same (j + i) (by omega), h.eq]
    simp only [vt]
    generalize lo (el us (j + i) + el ys i + cv) = l at *
    generalize Proofs.YtoflmheodiajaaaGreatDoor.H.hi (el us (j + i) + el ys i + cv) = c' at *
    rw [show j + (i + 1) = (j + i) + 1 by omega, pw_succ]
    have e2 : el ys i = l + 4294967296 * c' - el us (j + i) - cv := by omega
    have e3 : (vt ys i + el ys i * pw i) * pw j = vt ys i * pw j + el ys i * pw (j + i) := by rw [pw_add]; grind
    rw [e3, e2]
    grind
structure PbOut (w : World) (base ub cu j n : Nat) (us ys : List Int) (over : Bool) (zs : List Int) (wr : World) : Prop where
  hl : zs.length = us.length
  own : OwnI wr base 143 .u32 (.slice (some ⟨ub, 0, none⟩) us.length cu) zs
  oth : Besides ub w wr
  inw : InW zs
  same : ∀ p, (p < j ∨ j + n + 1 ≤ p) → el zs p = el us p
  eq : val zs = val us + val ys * pw j - (if over then 1 else 0) * pw (j + n + 1)
theorem PbIn.done {w wr : World} {base ub cu j n : Nat} {cv : Int} {us ys zs : List Int} (h : PbIn w base ub cu j n us ys n cv zs wr) (hj : j + n < us.length) (hy : ys.length = n) (wu : InW us) :
    PbOut w base ub cu j n us ys (decide (0 < Proofs.YtoflmheodiajaaaGreatDoor.H.hi (el us (j + n) + 0 + cv))) (zs.set (j + n) (lo (el us (j + n) + 0 + cv))) (wr.setCell ⟨ub, j + n, none⟩ (.int .u32 (lo (el us (j + n) + 0 + cv)))) := by
  have hu := wu (j + n)
  have e1 := lo_hi (el us (j + n) + 0 + cv)
  have r1 := lo_range (el us (j + n) + 0 + cv)
  have hb := carry_bit hu (show (0 : Int) ≤ 0 ∧ (0 : Int) < 4294967296 by decide) h.c01
  have hl := h.hl
  refine ⟨by rw [List.length_set]; exact hl, h.own.set _ _, h.oth.set (b := ub) (p := ⟨ub, j + n, none⟩) (.inr rfl) _, h.inw.set _ _ r1, fun p hp => ?_, ?_⟩
  · rw [el_set _ _ _ _ (by omega), if_neg (by omega)]
    exact h.same p (by omega)
  · rw [val_set _ _ _ (by omega), h.same (j + n) (by omega), h.eq, pw_succ]
    have e : val ys = vt ys n := by unfold val; rw [hy]
    rw [e]
    generalize lo (el us (j + n) + 0 + cv) = l at *
    generalize Proofs.YtoflmheodiajaaaGreatDoor.H.hi (el us (j + n) + 0 + cv) = c' at *
    have e2 : l = el us (j + n) + cv - 4294967296 * c' := by omega
    rw [e2]
    rcases hb with h0 | h0
    · rw [h0]; simp; grind
    · rw [h0]; simp; grind
end Go.Proofs.YtoflmheodiajaaaGreatDoor.H
namespace Go.Proofs.YtoflmheodiajaaaGreatDoor.H
open Go.RowKit
set_option linter.unusedVariables false
set_option linter.unusedSimpArgs false
variable {Bs : Nat}
section
variable {P : Program} {ops : Array Oper} {rest : List Oper} {o : Oper} {a : Act} {Q : Exit → Act → World → Prop}
theorem appendOwn0 {w : World} (base : Nat) (hgd : o.guard = none) (s x : Operand) (t e : TypeId) (k : IntKind) (bytes : Nat)
    (ho : o.op = .call { callee := .builtin .append, args := #[s, x], argTypes := #[t, t] })
    (ht : P.underlying t = some (.slice e)) (hinfo : (P.info? e).map (fun i => (i.zero, i.size, i.bytes)) = some (some (.int k 0), 1, bytes)) (hb0 : 0 < bytes)
    (g : Nat) (hs : a.eval s = .slice (some ⟨g, 0, none⟩) 0 0) (hO : OwnI w base e k (.slice (some ⟨g, 0, none⟩) 0 0) []) (b off n c : Nat) (xs : List Int) (hx : a.eval x = .slice (some ⟨b, off, none⟩) n c) (hn : xs.length = n) (hc : ∀ j, j < xs.length → w.cell? ⟨b, off + j, none⟩ = some (.int k (el xs j)))
    (hbase : base ≤ w.heap.size) (hl : n * bytes ≤ 140737488355328)
    (h : ∀ v1 w1, OwnI w1 base e k v1 xs → Below base w w1 → wpList P ops Q rest (a.put o.dst v1) w1) :
    wpList P ops Q (o :: rest) a w := by
  obtain ⟨i0, hi, hzz⟩ := Option.map_eq_some_iff.1 hinfo
  simp only [Prod.mk.injEq] at hzz
  obtain ⟨hz0, hz1, hz2⟩ := hzz
  have hlen : n ≤ 140737488355328 := Nat.le_trans (Nat.le_mul_of_pos_right _ hb0) hl
  have hgb := (hO.lies g rfl).1
  refine wpList_append_own w hgd s x t ho base e i0 (.int k 0) 1 bytes ht hi hz0 hz1 hz2 rfl (by omega) (.slice (some ⟨g, 0, none⟩) 0 0) 0 [] hs hO ⟨b, off, none⟩ n c (xs.map (Value.int k)) hx (by simp [hn]) ?_ ?_ (by unfold maxLen; omega) (by rw [Nat.zero_add]; exact hl) hbase ?_
  · intro j u hj
    have hj' : j < xs.length := by have := (List.getElem?_eq_some_iff.1 hj).1; simpa using this
    rw [show (⟨b, off, none⟩ : Addr).add j = ⟨b, off + j, none⟩ by unfold Addr.add; split <;> simp_all, hc j hj', ← hj]
    simp [hj', el]
  · intro u hu
    obtain ⟨y, _, rfl⟩ := List.mem_map.1 hu
    rfl
  intro v1 w1 hown hg _
  refine h v1 w1 (by unfold OwnI; simpa [hn] using hown) ?_
  exact (Below.refl base w).grown hg hbase (fun k hk => by simp [Value.ownBlock] at hk; omega)
theorem appendEmpty0 {w : World} (hgd : o.guard = none) (s x : Operand) (t e : TypeId) (bytes : Nat) (k : IntKind)
    (ho : o.op = .call { callee := .builtin .append, args := #[s, x], argTypes := #[t, t] })
    (ht : P.underlying t = some (.slice e)) (hinfo : (P.info? e).map (fun i => (i.zero, i.size, i.bytes)) = some (some (.int k 0), 1, bytes))
    (ad : Addr) (hs : a.eval s = .slice (some ad) 0 0) (A : Option Addr) (c : Nat) (hx : a.eval x = .slice A 0 c)
    (h : wpList P ops Q rest (a.put o.dst (.slice (some ad) 0 0)) w) : wpList P ops Q (o :: rest) a w := by
  obtain ⟨i, hi, _⟩ := Option.map_eq_some_iff.1 hinfo
  refine wpList_plain hgd fun K hK => ?_
  have hrun : (Builtin.append_ #[t, t] o.type #[.slice (some ad) 0 0, .slice A 0 c]).run P w = .ok (.slice (some ad) 0 0) w := by
    cases A with
    | none => simp [Builtin.append_, run_underlying ht, sizeOf, typeInfo, hi, Builtin.lenOf, Builtin.firstCells, storeCells]
    | some ad2 => simp [Builtin.append_, run_underlying ht, sizeOf, typeInfo, hi, Builtin.lenOf, Builtin.firstCells, loadCells, loadCellsFrom, storeCells]
  unfold Oper.wp
  simp [execOp, ho, resolve, invoke, builtin, hs, hx, hrun, Result.andThen]
  exact hK _ _ h
end
theorem own0 (w : World) : OwnI (w.alloc (.cells #[] 143)) w.heap.size 143 .u32 (.slice (some ⟨w.heap.size, 0, none⟩) 0 0) [] :=
  ⟨rfl, .inr ⟨w.heap.size, 0, #[], rfl, Nat.le_refl _, heap_alloc_new w _, Nat.le_refl _, by unfold maxLen; omega, rfl, rfl⟩⟩
def Quot (Bs B : Nat) (X Y : Int) (v : Value) (w' : World) : Prop := ∃ qv rv qs rs, v = .tuple #[qv, rv] ∧ Nat32 Bs w' qv qs ∧ Nat32 Bs w' rv rs ∧ val qs = X / Y ∧ val rs = X % Y ∧ Trim qs ∧ Trim rs ∧ NewV B qv ∧ NewV B rv
theorem nat32_plain {w : World} {A : Option Addr} {c : Nat} {xs : List Int} (h : Nat32 Bs w (.slice A xs.length c) xs) (hn : 0 < xs.length) : ∃ b off, A = some ⟨b, off, none⟩ ∧ b < w.heap.size ∧ ∀ j, j < xs.length → w.cell? ⟨b, off + j, none⟩ = some (.int .u32 (el xs j)) := by
  obtain ⟨⟨A', c', e, h1, h2, h3⟩, _⟩ := h
  simp only [Value.slice.injEq] at e
  obtain ⟨rfl, _, rfl⟩ := e
  exact h3.plain hn
theorem nat32_rd {w : World} {A : Option Addr} {c : Nat} {xs : List Int} (h : Nat32 Bs w (.slice A xs.length c) xs) : Rd Bs w .u32 143 A xs := by
  obtain ⟨⟨A', c', e, h1, h2, h3⟩, _⟩ := h
  simp only [Value.slice.injEq] at e
  obtain ⟨rfl, _, rfl⟩ := e
  exact h3
theorem nat32_slice0 (w : World) (A : Option Addr) : Nat32 Bs w (.slice A 0 0) [] := ⟨⟨A, 0, rfl, by simp, by simp, fun h => by simp at h⟩, InW.nil⟩
theorem own1 (w : World) (r : Int) : OwnI (w.alloc (.cells #[.int .u32 r] 143)) w.heap.size 143 .u32 (.slice (some ⟨w.heap.size, 0, none⟩) 1 1) [r] :=
  ⟨rfl, .inr ⟨w.heap.size, 1, #[.int .u32 r], rfl, Nat.le_refl _, heap_alloc_new w _, Nat.le_refl _, by unfold maxLen; omega, rfl, rfl⟩⟩
set_option maxHeartbeats 1000000 in
set_option maxRecDepth 100000 in
theorem divMag_less (A B : Option Addr) (ca cb : Nat) (xs ys : List Int) (w : World) (hlx : xs.length ≤ 1099511627776) (hly : ys.length ≤ 1099511627776) (ha : Nat32 Bs w (.slice A xs.length ca) xs) (hb : Nat32 Bs w (.slice B ys.length cb) ys) (tx : Trim xs) (ty : Trim ys) (hlt : val xs < val ys) :
    Calls Tryz.prog 179 #[.slice A xs.length ca, .slice B ys.length cb] w (Gives w fun v w' => Quot Bs w.heap.size (val xs) (val ys) v w') := by
  have hc0 := compare_any A B ca cb xs ys w hlx hly (nat32_rd ha) (nat32_rd hb) ha.inw hb.inw tx ty
  rw [cmpI_lt hlt] at hc0
  have HC := Lib.hid hc0
  clear hc0
  have h0 := val_nonneg ha.inw
  have e1 : val xs / val ys = 0 := Int.ediv_eq_zero_of_lt h0 hlt
  have e2 : val xs % val ys = val xs := Int.emod_eq_of_lt h0 hlt
  have WX := Lib.hid ha.inw
  have TX := Lib.hid tx
  have E := Lib.hid (And.intro e1 e2)
  rcases Nat.eq_zero_or_pos xs.length with hz | hz
  · have he : xs = [] := List.eq_nil_of_length_eq_zero hz
    subst he
    clear ha hb tx ty hlt h0 e1 e2 hz
    go_enter Tryz.func179, Tryz.ntmps179
    go_wp2_with fail
    refine HC.out.mono ?_
    rintro e w1 ⟨rfl, q, rfl⟩
    go_wp2_with (at_builtin; refine appendEmpty0 rfl _ _ 92 143 4 .u32 rfl Tryz.underlying92 infoU32 _ rfl _ _ rfl ?_)
    go_ret2
    exact ⟨_, rfl, ⟨_, _, [], [], rfl, nat32_slice0 _ _, nat32_slice0 _ _, by rw [E.out.1]; rfl, by rw [E.out.2], .inl rfl, .inl rfl, newV_nil _, newV_own (own0 (w.drewN q)) (Nat.le_refl _)⟩, below_alloc (below_drewN (below_refl _) _) _⟩
  · obtain ⟨ab, ao, rfl, hab, hcA⟩ := nat32_plain ha hz
    have HA := Lib.hid hcA
    clear ha hb tx ty hlt h0 e1 e2 hcA
    go_enter Tryz.func179, Tryz.ntmps179
    go_wp2_with fail
    refine HC.out.mono ?_
    rintro e w1 ⟨rfl, q, rfl⟩
    go_wp2_with (at_builtin; refine appendOwn0 w.heap.size rfl _ _ 92 143 .u32 4 rfl Tryz.underlying92 infoU32 (by decide) _ rfl (own0 (w.drewN q)) ab ao xs.length ca xs rfl rfl (fun j hj => ((below_alloc (below_drewN (below_refl w) q) _).cell (p := ⟨ab, ao + j, none⟩) hab).trans (HA.out j hj)) (by simp) (by omega) ?_)
    intro v1 w1 ho hb1
    have HO := Lib.hid ho
    have HB := Lib.hid ((below_alloc (below_drewN (below_refl w) q) _).trans hb1)
    clear ho hb1
    go_wp2
    go_ret2
    exact ⟨_, rfl, ⟨_, _, [], xs, rfl, nat32_slice0 _ _, nat32_of_own HO.out WX.out, by rw [E.out.1]; rfl, by rw [E.out.2], .inl rfl, TX.out, newV_nil _, newV_own HO.out (Nat.le_refl _)⟩, HB.out⟩
set_option maxHeartbeats 1000000 in
set_option maxRecDepth 100000 in
theorem divMag_word (A B : Option Addr) (ca cb : Nat) (xs ys : List Int) (w : World) (hlx : xs.length ≤ 1099511627776) (hy1 : ys.length = 1) (ha : Nat32 Bs w (.slice A xs.length ca) xs) (hb : Nat32 Bs w (.slice B ys.length cb) ys) (tx : Trim xs) (ty : Trim ys) (hge : val ys ≤ val xs) (hy0 : 0 < val ys) :
    Calls Tryz.prog 179 #[.slice A xs.length ca, .slice B ys.length cb] w (Gives w fun v w' => Quot Bs w.heap.size (val xs) (val ys) v w') := by
  have hrx := nat32_rd ha
  have hcx : xs.length ≤ ca := by obtain ⟨⟨A', c', e, h1, h2, h3⟩, _⟩ := ha; simp only [Value.slice.injEq] at e; obtain ⟨rfl, _, rfl⟩ := e; exact h1
  have hc0 := compare_any A B ca cb xs ys w hlx (by omega) (nat32_rd ha) (nat32_rd hb) ha.inw hb.inw tx ty
  have hcv : 0 ≤ cmpI (val xs) (val ys) := by unfold cmpI; split <;> (try split) <;> omega
  obtain ⟨bb, bo, rfl, hbb, hcB⟩ := nat32_plain hb (by omega)
  have hY := hcB 0 (by omega)
  have ey2 : val ys = el ys 0 := by
    match ys, hy1 with
    | [x], _ => exact val_one x
  have hel := hb.inw 0
  rw [ey2] at hy0 ⊢
  have HBW := Lib.hid (fun W h => smallDiv_core (Bs := Bs) A ca xs (el ys 0) W hlx hcx h ha.inw hy0 hel.2)
  have HRX := Lib.hid hrx
  have HC := Lib.hid hc0
  clear hc0
  have hm0 := Int.emod_nonneg (val xs) (show el ys 0 ≠ 0 by omega)
  have hm1 := Int.emod_lt_of_pos (val xs) hy0
  have HM := Lib.hid (show 0 ≤ val xs % el ys 0 ∧ val xs % el ys 0 < 4294967296 from ⟨hm0, by omega⟩)
  generalize cmpI (val xs) (val ys) = cv at hcv HC
  rw [Nat.add_zero] at hY
  clear ha hb tx ty hge hrx hcB hel hm0 hm1 ey2
  rw [hy1] at HC ⊢
  go_enter Tryz.func179, Tryz.ntmps179
  go_wp2_with fail
  refine HC.out.mono ?_
  rintro e w1 ⟨rfl, q, rfl⟩
  go_wp2_with fail
  refine (HBW.out _ (HRX.out.below (below_drewN (below_refl w) q))).mono ?_
  rintro e w1 ⟨_, rfl, ⟨zs, qv, rfl, hz1, hz2, hz3, hz4, hz5⟩, hb1⟩
  have HZ := Lib.hid (And.intro hz1 (And.intro hz2 (And.intro hz4 hz5)))
  have hsq : w.heap.size ≤ w1.heap.size := hb1.size
  have HB1 := Lib.hid (below_then (below_drewN (below_refl w) q) (Nat.le_refl _) hb1)
  have hev : val xs % el ys 0 = val xs % el ys 0 := rfl
  generalize hrm : val xs % el ys 0 = rm at *
  clear hb1 hz1 hz2 hz3 hz4 hz5
  go_wp2_with fail
  refine (trim_anyN (Bs := Bs) _ [rm] _ (nat32_of_own (own1 w1 rm) (by intro i; rcases i with _ | i <;> simp [el]; exact HM.out))).mono ?_
  rintro e w2 ⟨rv, rfl, hr, rfl⟩
  have HR := Lib.hid hr
  clear hr
  go_wp2
  go_ret2
  exact ⟨_, rfl, ⟨_, _, zs, _, rfl, HZ.out.1.below (below_alloc (below_refl _) _), HR.out.1, HZ.out.2.1, by rw [val_stripped, val_one, hrm], HZ.out.2.2.1, trim_stripped _, HZ.out.2.2.2, HR.out.2 _ (newV_own (own1 w1 rm) hsq)⟩, below_alloc HB1.out _⟩
end Go.Proofs.YtoflmheodiajaaaGreatDoor.H
