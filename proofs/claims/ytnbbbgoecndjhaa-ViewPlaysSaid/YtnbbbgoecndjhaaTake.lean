/-
  The contract of Take.
-/
import Derived.Test.YtnbbbgoecndjhaaIter
namespace Go.Proofs.Ytnbbbgoecndjhaa
open Go.ChangeShapes Go.WideShapes Go.ChangeAt Go.RowKit Go.Shelf
set_option linter.unusedVariables false

attribute [local go_sem] Oper.semAt_some

theorem info23 : (Try.prog.info? 23).map (fun i => (i.zero, i.size, i.bytes)) = some (some (.slice none 0 0), 1, 24) := by kernel_rfl

/-- What stands in Take's loop. H: the heap's size ahead of the call. -/
structure TI (w : World) (M : Int → Option (List Int)) (pos most : Int) (pre : List Value) (W : World) : Prop where
  out : ∃ v, Boxed W (w.heap.size + 1) 22 v ∧ W.ownsRow (w.heap.size + 4) 23 1 v pre.length pre
  lim : Boxed W w.heap.size 3 (.int .i64 most)
  below : Below w.heap.size w W
  big : w.heap.size + 4 ≤ W.heap.size
  own : ∃ cs, Whole W (w.heap.size + 3) 27 cs
  recs : ∀ (i : Nat) (v : Value), pre[i]? = some v → ∃ xs, M (pos + i) = some xs ∧ Bs w.heap.size v xs W
  few : pre.length ≤ most.toNat
  room : pos + pre.length ≤ 18446744073709551615

theorem Bs.kept {H : Nat} {v : Value} {xs : List Int} {W W' : World} {row : Option Nat} (h : Bs H v xs W) (hg : W.grownBy W' row) (hne : ∀ r, row = some r → ∀ cs, W.heap[r]? ≠ some (.cells cs 5 (0, 0))) : Bs H v xs W' := by
  obtain ⟨g, cap, cs, rfl, hw, hx, hle⟩ := h
  exact ⟨g, cap, cs, rfl, (hg.block g hw.lt (fun e => hne g e.symm cs hw)).trans hw, hx, hle⟩

theorem row_kept {W W' : World} {base : Nat} {e : TypeId} {size n : Nat} {v : Value} {xs : List Value} {row : Option Nat} (h : W.ownsRow base e size v n xs) (hg : W.grownBy W' row) (hr : ∀ r, row = some r → r < base ∨ ∃ o : Obj, W.heap[r]? = some o ∧ o.isCells = false) : W'.ownsRow base e size v n xs := by
  refine h.kept hg ?_
  rcases h.2 with ⟨rfl, _⟩ | ⟨g, cap, cur, rfl, hb, hgb, _⟩
  · exact .inl rfl
  · refine .inr fun e' => ?_
    have e2 : row = some g := by rw [← e']; rfl
    rcases hr g e2 with h | ⟨o, ho, hc⟩
    · omega
    · rw [hgb] at ho; cases ho; cases hc

theorem TI.turn {w : World} {M : Int → Option (List Int)} {pos most : Int} : OwnFrom (w.heap.size + 4) (TI w M pos most) := fun pre A C row h hg hr => by
  obtain ⟨⟨v, hv, hrow⟩, hl, hb, hbig, ⟨cs, hown⟩, hrecs, hf, hro⟩ := h
  have hne : ∀ k, k < w.heap.size + 4 → some k ≠ row := fun k hk e => by have := (hr k e.symm).1; omega
  exact ⟨⟨v, hv.kept hg (hne _ (by omega)), row_kept hrow hg (fun r e => .inr (hr r e).2)⟩, hl.kept hg (hne _ (by omega)),
    hb.grown hg (by omega) (fun k e => by have := (hr k e).1; omega), Nat.le_trans hbig hg.size, ⟨cs, hown.grown hg (hne _ (by omega))⟩,
    fun i v hi => by obtain ⟨xs, q1, q2⟩ := hrecs i v hi; exact ⟨xs, q1, q2.kept hg (fun r e cs' hc => by obtain ⟨o, ho, hcc⟩ := (hr r e).2; rw [hc] at ho; cases ho; cases hcc)⟩, hf, hro⟩

theorem TI.ab {w : World} {M : Int → Option (List Int)} {pos most : Int} {pre : List Value} {A C : World} (h : TI w M pos most pre A) (hab : Ab (w.heap.size + 3) A C) : TI w M pos most pre C := by
  obtain ⟨⟨row, hg, hr⟩, hk⟩ := hab
  obtain ⟨⟨v, hv, hrow⟩, hl, hb, hbig, ⟨cs, hown⟩, hrecs, hf, hro⟩ := h
  have hne : ∀ k, k < w.heap.size + 3 → some k ≠ row := fun k hk e => by
    rcases hr with h | h
    · rw [h] at e; cases e
    · rw [h] at e; injection e with e; omega
  have hrr : ∀ r, row = some r → r = w.heap.size + 3 := fun r e => by
    rcases hr with h | h
    · rw [h] at e; cases e
    · rw [h] at e; injection e with e; exact e.symm
  exact ⟨⟨v, hv.kept hg (hne _ (by omega)), row_kept hrow hg (fun r e => .inl (by have := hrr r e; omega))⟩, hl.kept hg (hne _ (by omega)),
    hb.grown hg (by omega) (fun k e => by have := hrr k e; omega), Nat.le_trans hbig hg.size, hk cs hown,
    fun i v hi => by obtain ⟨xs, q1, q2⟩ := hrecs i v hi; exact ⟨xs, q1, q2.kept hg (fun r e cs' hc => by rw [hrr r e, hown] at hc; injection hc with hc; injection hc with _ ht; cases ht)⟩, hf, hro⟩

/-- What a round that collects leaves. -/
theorem TI.more {w W w1 : World} {M : Int → Option (List Int)} {pos most : Int} {pre : List Value} {x v v' : Value} {tmp : Obj} {xs : List Int} (hlim : Boxed W w.heap.size 3 (.int .i64 most)) (hb : Below w.heap.size w W) (hbig : w.heap.size + 4 ≤ W.heap.size) (hcell : ∃ cs, Whole W (w.heap.size + 3) 27 cs)
    (hrecs : ∀ (i : Nat) (v : Value), pre[i]? = some v → ∃ xs, M (pos + i) = some xs ∧ Bs w.heap.size v xs W) (hx : M (pos + pre.length) = some xs) (hbs : Bs w.heap.size x xs W)
    (hlast : M 18446744073709551615 = none) (hroom : pos + pre.length ≤ 18446744073709551615) (hlt : (pre.length : Int) < most)
    (hv : Boxed W (w.heap.size + 1) 22 v) (hrow : W.ownsRow (w.heap.size + 4) 23 1 v pre.length pre) (hown' : w1.ownsRow (w.heap.size + 4) 23 1 v' (pre.length + 1) (pre ++ [x])) (hgrow : (W.alloc tmp).grownBy w1 v.ownBlock) :
    Boxed w1 (w.heap.size + 1) 22 v ∧ TI w M pos most (pre ++ [x]) (w1.setCell ⟨w.heap.size + 1, 0, none⟩ v') ∧ KeepsFrom (w.heap.size + 4) W (w1.setCell ⟨w.heap.size + 1, 0, none⟩ v') ∧ Kq w.heap.size (w.heap.size + 2) (w.heap.size + 3) W (w1.setCell ⟨w.heap.size + 1, 0, none⟩ v') := by
  obtain ⟨a1, a2, a3, a4, a5⟩ := hv.appended (e := 23) (n₀ := w.heap.size) (by decide) ⟨hrow.1, by rcases hrow.2 with h | ⟨g, cap, cur, q1, q2, q3⟩; exact .inl h; exact .inr ⟨g, cap, cur, q1, by omega, q3⟩⟩ (by omega) (by omega) ⟨hown'.1, by rcases hown'.2 with h | ⟨g, cap, cur, q1, q2, q3⟩; exact .inl h; exact .inr ⟨g, cap, cur, q1, by omega, q3⟩⟩ hgrow
  have hrk : ∀ k, k < W.heap.size → k < w.heap.size + 4 → k ≠ w.heap.size + 1 → (w1.setCell ⟨w.heap.size + 1, 0, none⟩ v').heap[k]? = W.heap[k]? := fun k hk h4 hne => by
    rw [Below.heap_setCell w1 ⟨w.heap.size + 1, 0, none⟩ v' k hne, hgrow.block k (by simp; omega) (fun e => by have := (hrow.lt _ e.symm).1; omega)]
    exact Below.heap_alloc _ _ _ hk
  have hbs5 : ∀ v xs, Bs w.heap.size v xs W → Bs w.heap.size v xs (w1.setCell ⟨w.heap.size + 1, 0, none⟩ v') := fun u ys ⟨g, cap, cs, e, hw, hxx, hle⟩ => by
    refine ⟨g, cap, cs, e, ?_, hxx, hle⟩
    have h1 : Whole w1 g 5 cs := ((hw.alloc tmp).grown hgrow (own_ne (hrow.alloc tmp) (hw.alloc tmp) (by decide)))
    exact h1.apart (p := ⟨w.heap.size + 1, 0, none⟩) (type_ne h1 a1 (by decide)) _
  obtain ⟨cs, hcs⟩ := hcell
  have hlx : pos + pre.length < 18446744073709551615 := by
    rcases Int.lt_or_eq_of_le hroom with h | h
    · exact h
    · rw [h, hlast] at hx; cases hx
  refine ⟨a1, ⟨⟨v', a2, ?_⟩, ?_, hb.trans a5, Nat.le_trans hbig a5.size, ⟨cs, (hrk _ (by omega) (by omega) (by omega)).trans hcs⟩, fun i u hi => ?_, by simp; omega, by simp; omega⟩, a4.from _, a5, hrk _ (by omega) (by omega) (by omega), hrk _ (by omega) (by omega) (by omega)⟩
  · have := row_kept hown' (grownBy_setCell' w1 (w.heap.size + 1) v') (fun r e => .inl (by injection e with e; omega))
    simpa using this
  · exact (hrk _ (by have := hlim.lt; omega) (by omega) (by omega)).trans hlim
  · by_cases hi' : i < pre.length
    · rw [List.getElem?_append_left hi'] at hi
      obtain ⟨ys, q1, q2⟩ := hrecs i u hi
      exact ⟨ys, q1, hbs5 _ _ q2⟩
    · have : i = pre.length := by
        have := (List.getElem?_eq_some_iff.1 hi).1
        simp at this; omega
      subst this
      rw [List.getElem?_append_right (Nat.le_refl _)] at hi
      simp at hi
      subst hi
      exact ⟨xs, hx, hbs5 _ _ hbs⟩

/-- What Take tells. -/
def Taken (w : World) (M : Int → Option (List Int)) (pos most : Int) (e : Ending) (W' : World) : Prop :=
  ∃ v2 vs, e = .returned (.tuple #[v2, .int .u64 (pos + (vs.length : Int))]) ∧ W'.ownsRow w.heap.size 23 1 v2 vs.length vs ∧
    (∀ (i : Nat) (v : Value), vs[i]? = some v → ∃ xs, M (pos + i) = some xs ∧ Bs w.heap.size v xs W') ∧ vs.length ≤ most.toNat ∧ (vs.length = most.toNat ∨ M (pos + vs.length) = none) ∧ Below w.heap.size w W'

theorem taken_end {w W : World} {M : Int → Option (List Int)} {pos most : Int} {a : Option Addr} {cp : Nat} {ys : List Value} {D nq : Nat} {o o' : Obj} (h : TI w M pos most ys W) (hrow : W.ownsRow (w.heap.size + 4) 23 1 (.slice a ys.length cp) ys.length ys) (hD : w.heap.size + 4 ≤ D) (hK : W.heap[D]? = some o) (hend : ys.length = most.toNat ∨ M (pos + ys.length) = none) (ho : o.isCells = false := by rfl) :
    Taken w M pos most (.returned (.tuple #[.slice a ys.length cp, .int .u64 (pos + (ys.length : Int))])) ((W.drewN nq).putObj D o') := by
  have hK2 : (W.drewN nq).heap[D]? = some o := hK
  have h2 : TI w M pos most ys ((W.drewN nq).putObj D o') := (TI.turn (w := w) (M := M) (pos := pos) (most := most)).putObj _ (h.ab (Ab.drewN _ _ _)) hD hK2 ho
  have hr2 : ((W.drewN nq).putObj D o').ownsRow (w.heap.size + 4) 23 1 (.slice a ys.length cp) ys.length ys := ownsRow_putObj (W := W.drewN nq) hrow _ hK2 ho
  exact ⟨_, ys, rfl, ⟨hr2.1, by rcases hr2.2 with h | ⟨g, cap, cur, q1, q2, q3⟩; exact .inl h; exact .inr ⟨g, cap, cur, q1, by omega, q3⟩⟩, h2.recs, h2.few, hend, h2.below⟩

set_option maxRecDepth 100000 in
set_option maxHeartbeats 2000000 in
theorem take_lo (F : Fence) (n : Nat) (h10 : F.fn 10) (h22 : F.fn 22) (h25 : F.fn 25) (h23 : F.fn 23) (hro : F.round = none) (hn : 3 ≤ n) (w : World) (B vb mb nn : Nat) (low next : Int) (M : Int → Option (List Int)) (FF : Int → Value) (fr most : Int)
    (hV : VMem w B vb mb nn low next M FF) (hshort : ∀ k xs, M k = some xs → xs.length ≤ 4096) (hlast : M 18446744073709551615 = none) (hf0 : 0 ≤ fr) (hf1 : fr ≤ 18446744073709551615) (hl0 : 0 ≤ low) (hl1 : low ≤ 18446744073709551615)
    (hpos : fr < low) (hm : most ≤ 1000) :
    CallsIn F n Try.prog 10 #[.pointer (some ⟨vb, 0, none⟩), .int .u64 fr, .int .i64 most] w (Taken w M low most) := by
  have h1 : 1 ≤ n := by omega
  obtain ⟨i0, hi, hz0, hz1, hz2⟩ := info_parts info23
  have c1 : w.cell? ⟨vb, 1, none⟩ = some (.int .u64 low) := hV.head.cell 1
  have hlt := hV.head.lt
  have HV := Lib.hid hV
  clear hV
  refine callsIn_of_wp_marks Try.func10 rfl h10 ?_ hro
  simp only [Try.ntmps10, List.size_toArray, List.length_cons, List.length_nil, Nat.reduceAdd, Nat.reduceSub, Array.replicate_succ, Array.replicate_zero, List.push_toArray, List.append_toArray, List.nil_append, List.cons_append]
  gi_wp2_with (gi_at_call 22; refine (from_in F (n - 1) h22 hro _ _ _).mono ?_; rintro e w' ⟨rfl, rfl⟩)
  have bM := Boxed.new w 3 (.int .i64 most)
  have bO := Boxed.new (w.alloc (.cells #[.int .i64 most] 3)) 22 (.slice none 0 0)
  have bV := Boxed.new ((w.alloc (.cells #[.int .i64 most] 3)).alloc (.cells #[.slice none 0 0] 22)) 25 (.pointer (some ⟨vb, 0, none⟩))
  have bP := Boxed.new (((w.alloc (.cells #[.int .i64 most] 3)).alloc (.cells #[.slice none 0 0] 22)).alloc (.cells #[.pointer (some ⟨vb, 0, none⟩)] 25)) 27 (.int .u64 low)
  rw [World.size_alloc] at bO
  rw [World.size_alloc, World.size_alloc] at bV
  rw [World.size_alloc, World.size_alloc, World.size_alloc] at bP
  have hB0 : Below w.heap.size w ((((w.alloc (.cells #[.int .i64 most] 3)).alloc (.cells #[.slice none 0 0] 22)).alloc (.cells #[.pointer (some ⟨vb, 0, none⟩)] 25)).alloc (.cells #[.int .u64 low] 27)) := ((((Below.refl _ w).alloc (Nat.le_refl _) _).alloc (by simp) _).alloc (by simp; omega) _).alloc (by simp; omega) _
  have h0 : TI w M low most [] ((((w.alloc (.cells #[.int .i64 most] 3)).alloc (.cells #[.slice none 0 0] 22)).alloc (.cells #[.pointer (some ⟨vb, 0, none⟩)] 25)).alloc (.cells #[.int .u64 low] 27)) :=
    ⟨⟨_, (bO.alloc _).alloc _, World.ownsRow_nil _ _ _ _⟩, ((bM.alloc _).alloc _).alloc _, hB0, by simp, ⟨_, bP⟩, fun i v hi => by simp at hi, by simp, by simp; omega⟩
  have hsz : ((((w.alloc (.cells #[.int .i64 most] 3)).alloc (.cells #[.slice none 0 0] 22)).alloc (.cells #[.pointer (some ⟨vb, 0, none⟩)] 25)).alloc (.cells #[.int .u64 low] 27)).heap.size = w.heap.size + 4 := by simp
  have HS := Lib.hid hsz
  clear hsz
  refine range_v hro h1 (gf := 25) (lb := #[.pointer (some ⟨w.heap.size + 1 + 1, 0, none⟩), .pointer (some ⟨w.heap.size + 1 + 1 + 1, 0, none⟩)]) rfl h25 (enters_of Try.func25 (by kernel_rfl) rfl)
    (Ab := Ab (w.heap.size + 3)) (Kp := Kq w.heap.size (w.heap.size + 2) (w.heap.size + 3)) (Pre := Pre w.heap.size M low) (S := fun xs => M (low + xs.length) = none)
    (from_seq F (n - 1) h25 h23 hro (by omega) (w.heap.size + 1 + 1) (w.heap.size + 1 + 1 + 1) w _ B vb mb nn low next M FF low HV.out hshort hlast (by omega) (by omega) hB0 (bV.alloc _) bP (by omega) (by omega)) rfl
    (fun A C h => ?kab) (fun h k => ⟨h.1.trans k.1, k.2.1.trans h.2.1, k.2.2.trans h.2.2⟩) (fun W l o o' hl h1 h2 => ?kb) (fun k v _ A C row h hg hr => ?kpre)
    (TI w M low most) (fun c pre W => c = .exit 0 ∧ TI w M low most pre W ∧ most ≤ pre.length) ?turn (fun pre A C h k => h.ab k) ?turnx h0
    (fun x => { tmps := #[.pointer (some ⟨vb, 0, none⟩), .int .u64 low, .int .i64 most, undef, undef, .pointer (some ⟨w.heap.size, 0, none⟩), .slice none 0 0, .int .u64 0, .pointer (some ⟨w.heap.size + 1, 0, none⟩), x, .pointer (some ⟨vb, 0, none⟩), .bool false, .int .u64 fr, .pointer (some ⟨vb, 0, none⟩), .pointer (some ⟨vb, 0, none⟩), .pointer (some ⟨vb, 1, none⟩), .int .u64 low, .int .u64 low, .pointer (some ⟨vb, 0, none⟩), .int .u64 low, .func (.func 25) #[] #[.pointer (some ⟨w.heap.size + 1 + 1, 0, none⟩), .pointer (some ⟨w.heap.size + 1 + 1 + 1, 0, none⟩)], x, undef, undef, undef, undef, undef, undef, undef, undef, undef, undef, undef, undef, undef, undef], defers := [] }) ?assign ?body ?done ?stop
  case kab =>
    obtain ⟨⟨row, hg, hr⟩, _⟩ := h
    refine KeepsFrom.of_grownBy hg (fun j e => ?_)
    rw [HS.out]
    rcases hr with h | h
    · rw [h] at e; cases e
    · rw [h] at e; injection e with e; omega
  case kb =>
    rw [HS.out] at hl
    exact ⟨(Below.refl _ W).grown (grownBy_putObj' W l o') (by have := heap_lt h1; omega) (fun k e => by cases e; omega), World.putObj_heap_other (by omega), World.putObj_heap_other (by omega)⟩
  case kpre =>
    obtain ⟨xs, q1, q2⟩ := h
    exact ⟨xs, q1, q2.kept hg (fun r e cs' hc => by obtain ⟨o, ho, hcc⟩ := (hr r e).2; rw [hc] at ho; cases ho; cases hcc)⟩
  case turn => rw [HS.out]; exact TI.turn
  case turnx =>
    intro c pre A C row h hg hr
    rw [HS.out] at hr
    exact ⟨h.1, TI.turn pre A C row h.2.1 hg hr, h.2.2⟩
  case assign =>
    intro l x W K hK
    gi_wp2
    exact hK
  case body =>
    rintro l pre x W ⟨⟨v, hv, hrow⟩, hl, hB, hbig, hown, hrecs, hfew, hroom⟩ ⟨xs, hM, hbs⟩
    have hvs : ∃ a cap, v = .slice a pre.length cap := by
      rcases hrow.2 with ⟨rfl, h⟩ | ⟨g, cap, cur, rfl, _⟩
      · exact ⟨none, 0, by rw [h]⟩
      · exact ⟨_, _, rfl⟩
    obtain ⟨a, cp, rfl⟩ := hvs
    have hc := hv.cell
    have hcl := hl.cell
    have hbs' := hbs
    obtain ⟨g5, cap5, cs5, rfl, _, _, _⟩ := hbs'
    by_cases hlm : (pre.length : Int) < most
    · gi_wp2_with (gi_at_builtin; refine wpListIn_append_own _ rfl _ _ 22 rfl (w.heap.size + 4) 23 i0 (.slice none 0 0) 1 24 Try.underlying22 hi hz0 hz1 hz2 rfl (by decide) _ _ _ rfl (hrow.alloc _) ⟨W.heap.size, 0, none⟩ 1 1 [.slice (some ⟨g5, 0, none⟩) xs.length cap5] rfl rfl (cell_one_new _ _ _) (by simp [Value.oneCell']) (by simp only [maxLen]; omega) (by omega) (by simp; omega) ?_; intro v' w1 hown' hgrow _; obtain ⟨g', cap', rfl⟩ := ownsRow_succ hown'; obtain ⟨hv1, hti, hkf, hkq⟩ := TI.more hl hB hbig hown hrecs hM hbs hlast hroom hlm hv hrow hown' hgrow; have hc1 := hv1.cell; have hf1 := hv1.frozen)
      rw [HS.out]
      exact ⟨hkf, hkq, hti⟩
    · gi_wp2
      exact ⟨KeepsFrom.refl _ _, rfl, ⟨⟨_, hv, hrow⟩, hl, hB, hbig, hown, hrecs, hfew, hroom⟩, by omega⟩
  case done =>
    rintro D ys W hD hM ⟨⟨v, hv, hrow⟩, hl, hB, hbig, hown, hrecs, hfew, hroom⟩ hK
    have hvs : ∃ a cap, v = .slice a ys.length cap := by
      rcases hrow.2 with ⟨rfl, h⟩ | ⟨g, cap, cur, rfl, _⟩
      · exact ⟨none, 0, by rw [h]⟩
      · exact ⟨_, _, rfl⟩
    obtain ⟨a, cp, rfl⟩ := hvs
    have hc := hv.cell
    gi_wp2
    obtain ⟨Ff, Fd, Fl, Fr⟩ := F
    simp only at hro h10 h22 h25 h23
    subst hro
    gi_quiet (fail)
    gi_wp2
    refine ⟨by simp, .inl ⟨_, _, rfl, run_takeDeferred (w := W.drewN nq) hK, ?_⟩⟩
    rw [HS.out] at hD
    exact ⟨_, results_tmp2 (t := 6) (u := 7) rfl _ _ _, taken_end ⟨⟨_, hv, hrow⟩, hl, hB, hbig, hown, hrecs, hfew, hroom⟩ hrow hD hK (.inr hM)⟩
  case stop =>
    rintro D c pre W hD ⟨rfl, ⟨⟨v, hv, hrow⟩, hl, hB, hbig, hown, hrecs, hfew, hroom⟩, hle⟩ hK
    have hvs : ∃ a cap, v = .slice a pre.length cap := by
      rcases hrow.2 with ⟨rfl, h⟩ | ⟨g, cap, cur, rfl, _⟩
      · exact ⟨none, 0, by rw [h]⟩
      · exact ⟨_, _, rfl⟩
    obtain ⟨a, cp, rfl⟩ := hvs
    have hc := hv.cell
    gi_wp2
    obtain ⟨Ff, Fd, Fl, Fr⟩ := F
    simp only at hro h10 h22 h25 h23
    subst hro
    gi_quiet (fail)
    gi_wp2
    refine ⟨by simp, .inl ⟨_, _, rfl, run_takeDeferred (w := W.drewN nq) hK, ?_⟩⟩
    rw [HS.out] at hD
    exact ⟨_, results_tmp2 (t := 6) (u := 7) rfl _ _ _, taken_end ⟨⟨_, hv, hrow⟩, hl, hB, hbig, hown, hrecs, hfew, hroom⟩ hrow hD hK (.inl (by omega))⟩

set_option maxRecDepth 100000 in
set_option maxHeartbeats 2000000 in
theorem take_hi (F : Fence) (n : Nat) (h10 : F.fn 10) (h22 : F.fn 22) (h25 : F.fn 25) (h23 : F.fn 23) (hro : F.round = none) (hn : 3 ≤ n) (w : World) (B vb mb nn : Nat) (low next : Int) (M : Int → Option (List Int)) (FF : Int → Value) (fr most : Int)
    (hV : VMem w B vb mb nn low next M FF) (hshort : ∀ k xs, M k = some xs → xs.length ≤ 4096) (hlast : M 18446744073709551615 = none) (hf0 : 0 ≤ fr) (hf1 : fr ≤ 18446744073709551615) (hl0 : 0 ≤ low) (hl1 : low ≤ 18446744073709551615)
    (hpos : ¬ fr < low) (hm : most ≤ 1000) :
    CallsIn F n Try.prog 10 #[.pointer (some ⟨vb, 0, none⟩), .int .u64 fr, .int .i64 most] w (Taken w M fr most) := by
  have h1 : 1 ≤ n := by omega
  obtain ⟨i0, hi, hz0, hz1, hz2⟩ := info_parts info23
  have c1 : w.cell? ⟨vb, 1, none⟩ = some (.int .u64 low) := hV.head.cell 1
  have hlt := hV.head.lt
  have HV := Lib.hid hV
  clear hV
  refine callsIn_of_wp_marks Try.func10 rfl h10 ?_ hro
  simp only [Try.ntmps10, List.size_toArray, List.length_cons, List.length_nil, Nat.reduceAdd, Nat.reduceSub, Array.replicate_succ, Array.replicate_zero, List.push_toArray, List.append_toArray, List.nil_append, List.cons_append]
  gi_wp2_with (gi_at_call 22; refine (from_in F (n - 1) h22 hro _ _ _).mono ?_; rintro e w' ⟨rfl, rfl⟩)
  have bM := Boxed.new w 3 (.int .i64 most)
  have bO := Boxed.new (w.alloc (.cells #[.int .i64 most] 3)) 22 (.slice none 0 0)
  have bV := Boxed.new ((w.alloc (.cells #[.int .i64 most] 3)).alloc (.cells #[.slice none 0 0] 22)) 25 (.pointer (some ⟨vb, 0, none⟩))
  have bP := Boxed.new (((w.alloc (.cells #[.int .i64 most] 3)).alloc (.cells #[.slice none 0 0] 22)).alloc (.cells #[.pointer (some ⟨vb, 0, none⟩)] 25)) 27 (.int .u64 fr)
  rw [World.size_alloc] at bO
  rw [World.size_alloc, World.size_alloc] at bV
  rw [World.size_alloc, World.size_alloc, World.size_alloc] at bP
  have hB0 : Below w.heap.size w ((((w.alloc (.cells #[.int .i64 most] 3)).alloc (.cells #[.slice none 0 0] 22)).alloc (.cells #[.pointer (some ⟨vb, 0, none⟩)] 25)).alloc (.cells #[.int .u64 fr] 27)) := ((((Below.refl _ w).alloc (Nat.le_refl _) _).alloc (by simp) _).alloc (by simp; omega) _).alloc (by simp; omega) _
  have h0 : TI w M fr most [] ((((w.alloc (.cells #[.int .i64 most] 3)).alloc (.cells #[.slice none 0 0] 22)).alloc (.cells #[.pointer (some ⟨vb, 0, none⟩)] 25)).alloc (.cells #[.int .u64 fr] 27)) :=
    ⟨⟨_, (bO.alloc _).alloc _, World.ownsRow_nil _ _ _ _⟩, ((bM.alloc _).alloc _).alloc _, hB0, by simp, ⟨_, bP⟩, fun i v hi => by simp at hi, by simp, by simp; omega⟩
  have hsz : ((((w.alloc (.cells #[.int .i64 most] 3)).alloc (.cells #[.slice none 0 0] 22)).alloc (.cells #[.pointer (some ⟨vb, 0, none⟩)] 25)).alloc (.cells #[.int .u64 fr] 27)).heap.size = w.heap.size + 4 := by simp
  have HS := Lib.hid hsz
  clear hsz
  refine range_v hro h1 (gf := 25) (lb := #[.pointer (some ⟨w.heap.size + 1 + 1, 0, none⟩), .pointer (some ⟨w.heap.size + 1 + 1 + 1, 0, none⟩)]) rfl h25 (enters_of Try.func25 (by kernel_rfl) rfl)
    (Ab := Ab (w.heap.size + 3)) (Kp := Kq w.heap.size (w.heap.size + 2) (w.heap.size + 3)) (Pre := Pre w.heap.size M fr) (S := fun xs => M (fr + xs.length) = none)
    (from_seq F (n - 1) h25 h23 hro (by omega) (w.heap.size + 1 + 1) (w.heap.size + 1 + 1 + 1) w _ B vb mb nn low next M FF fr HV.out hshort hlast (by omega) (by omega) hB0 (bV.alloc _) bP (by omega) (by omega)) rfl
    (fun A C h => ?kab) (fun h k => ⟨h.1.trans k.1, k.2.1.trans h.2.1, k.2.2.trans h.2.2⟩) (fun W l o o' hl h1 h2 => ?kb) (fun k v _ A C row h hg hr => ?kpre)
    (TI w M fr most) (fun c pre W => c = .exit 0 ∧ TI w M fr most pre W ∧ most ≤ pre.length) ?turn (fun pre A C h k => h.ab k) ?turnx h0
    (fun x => { tmps := #[.pointer (some ⟨vb, 0, none⟩), .int .u64 fr, .int .i64 most, undef, undef, .pointer (some ⟨w.heap.size, 0, none⟩), .slice none 0 0, .int .u64 0, .pointer (some ⟨w.heap.size + 1, 0, none⟩), x, .pointer (some ⟨vb, 0, none⟩), .bool false, .int .u64 fr, .pointer (some ⟨vb, 0, none⟩), .pointer (some ⟨vb, 0, none⟩), .pointer (some ⟨vb, 1, none⟩), .int .u64 low, .int .u64 fr, .pointer (some ⟨vb, 0, none⟩), .int .u64 fr, .func (.func 25) #[] #[.pointer (some ⟨w.heap.size + 1 + 1, 0, none⟩), .pointer (some ⟨w.heap.size + 1 + 1 + 1, 0, none⟩)], x, undef, undef, undef, undef, undef, undef, undef, undef, undef, undef, undef, undef, undef, undef], defers := [] }) ?assign ?body ?done ?stop
  case kab =>
    obtain ⟨⟨row, hg, hr⟩, _⟩ := h
    refine KeepsFrom.of_grownBy hg (fun j e => ?_)
    rw [HS.out]
    rcases hr with h | h
    · rw [h] at e; cases e
    · rw [h] at e; injection e with e; omega
  case kb =>
    rw [HS.out] at hl
    exact ⟨(Below.refl _ W).grown (grownBy_putObj' W l o') (by have := heap_lt h1; omega) (fun k e => by cases e; omega), World.putObj_heap_other (by omega), World.putObj_heap_other (by omega)⟩
  case kpre =>
    obtain ⟨xs, q1, q2⟩ := h
    exact ⟨xs, q1, q2.kept hg (fun r e cs' hc => by obtain ⟨o, ho, hcc⟩ := (hr r e).2; rw [hc] at ho; cases ho; cases hcc)⟩
  case turn => rw [HS.out]; exact TI.turn
  case turnx =>
    intro c pre A C row h hg hr
    rw [HS.out] at hr
    exact ⟨h.1, TI.turn pre A C row h.2.1 hg hr, h.2.2⟩
  case assign =>
    intro l x W K hK
    gi_wp2
    exact hK
  case body =>
    rintro l pre x W ⟨⟨v, hv, hrow⟩, hl, hB, hbig, hown, hrecs, hfew, hroom⟩ ⟨xs, hM, hbs⟩
    have hvs : ∃ a cap, v = .slice a pre.length cap := by
      rcases hrow.2 with ⟨rfl, h⟩ | ⟨g, cap, cur, rfl, _⟩
      · exact ⟨none, 0, by rw [h]⟩
      · exact ⟨_, _, rfl⟩
    obtain ⟨a, cp, rfl⟩ := hvs
    have hc := hv.cell
    have hcl := hl.cell
    have hbs' := hbs
    obtain ⟨g5, cap5, cs5, rfl, _, _, _⟩ := hbs'
    by_cases hlm : (pre.length : Int) < most
    · gi_wp2_with (gi_at_builtin; refine wpListIn_append_own _ rfl _ _ 22 rfl (w.heap.size + 4) 23 i0 (.slice none 0 0) 1 24 Try.underlying22 hi hz0 hz1 hz2 rfl (by decide) _ _ _ rfl (hrow.alloc _) ⟨W.heap.size, 0, none⟩ 1 1 [.slice (some ⟨g5, 0, none⟩) xs.length cap5] rfl rfl (cell_one_new _ _ _) (by simp [Value.oneCell']) (by simp only [maxLen]; omega) (by omega) (by simp; omega) ?_; intro v' w1 hown' hgrow _; obtain ⟨g', cap', rfl⟩ := ownsRow_succ hown'; obtain ⟨hv1, hti, hkf, hkq⟩ := TI.more hl hB hbig hown hrecs hM hbs hlast hroom hlm hv hrow hown' hgrow; have hc1 := hv1.cell; have hf1 := hv1.frozen)
      rw [HS.out]
      exact ⟨hkf, hkq, hti⟩
    · gi_wp2
      exact ⟨KeepsFrom.refl _ _, rfl, ⟨⟨_, hv, hrow⟩, hl, hB, hbig, hown, hrecs, hfew, hroom⟩, by omega⟩
  case done =>
    rintro D ys W hD hM ⟨⟨v, hv, hrow⟩, hl, hB, hbig, hown, hrecs, hfew, hroom⟩ hK
    have hvs : ∃ a cap, v = .slice a ys.length cap := by
      rcases hrow.2 with ⟨rfl, h⟩ | ⟨g, cap, cur, rfl, _⟩
      · exact ⟨none, 0, by rw [h]⟩
      · exact ⟨_, _, rfl⟩
    obtain ⟨a, cp, rfl⟩ := hvs
    have hc := hv.cell
    gi_wp2
    obtain ⟨Ff, Fd, Fl, Fr⟩ := F
    simp only at hro h10 h22 h25 h23
    subst hro
    gi_quiet (fail)
    gi_wp2
    refine ⟨by simp, .inl ⟨_, _, rfl, run_takeDeferred (w := W.drewN nq) hK, ?_⟩⟩
    rw [HS.out] at hD
    exact ⟨_, results_tmp2 (t := 6) (u := 7) rfl _ _ _, taken_end ⟨⟨_, hv, hrow⟩, hl, hB, hbig, hown, hrecs, hfew, hroom⟩ hrow hD hK (.inr hM)⟩
  case stop =>
    rintro D c pre W hD ⟨rfl, ⟨⟨v, hv, hrow⟩, hl, hB, hbig, hown, hrecs, hfew, hroom⟩, hle⟩ hK
    have hvs : ∃ a cap, v = .slice a pre.length cap := by
      rcases hrow.2 with ⟨rfl, h⟩ | ⟨g, cap, cur, rfl, _⟩
      · exact ⟨none, 0, by rw [h]⟩
      · exact ⟨_, _, rfl⟩
    obtain ⟨a, cp, rfl⟩ := hvs
    have hc := hv.cell
    gi_wp2
    obtain ⟨Ff, Fd, Fl, Fr⟩ := F
    simp only at hro h10 h22 h25 h23
    subst hro
    gi_quiet (fail)
    gi_wp2
    refine ⟨by simp, .inl ⟨_, _, rfl, run_takeDeferred (w := W.drewN nq) hK, ?_⟩⟩
    rw [HS.out] at hD
    exact ⟨_, results_tmp2 (t := 6) (u := 7) rfl _ _ _, taken_end ⟨⟨_, hv, hrow⟩, hl, hB, hbig, hown, hrecs, hfew, hroom⟩ hrow hD hK (.inl (by omega))⟩


theorem take_ok (w : World) (B vb mb nn : Nat) (low next : Int) (M : Int → Option (List Int)) (FF : Int → Value) (fr pos most : Int)
    (hV : VMem w B vb mb nn low next M FF) (hshort : ∀ k xs, M k = some xs → xs.length ≤ 4096) (hlast : M 18446744073709551615 = none) (hf0 : 0 ≤ fr) (hf1 : fr ≤ 18446744073709551615) (hl0 : 0 ≤ low) (hl1 : low ≤ 18446744073709551615)
    (hpos : (if fr < low then low else fr) = pos) (hm : most ≤ 1000) :
    Calls Try.prog 10 #[.pointer (some ⟨vb, 0, none⟩), .int .u64 fr, .int .i64 most] w (Taken w M pos most) := by
  refine (callsIn_wide (n := 3)).1 ?_
  by_cases h : fr < low
  · rw [if_pos h] at hpos
    subst hpos
    exact take_lo Fence.wide 3 trivial trivial trivial trivial rfl (by omega) w B vb mb nn _ next M FF fr most hV hshort hlast hf0 hf1 hl0 hl1 h hm
  · rw [if_neg h] at hpos
    subst hpos
    exact take_hi Fence.wide 3 trivial trivial trivial trivial rfl (by omega) w B vb mb nn low next M FF _ most hV hshort hlast hf0 hf1 hl0 hl1 h hm
end Go.Proofs.Ytnbbbgoecndjhaa
