/-
  The contract of To: a range over a function of the net's own.
-/
import Derived.Test.YtdlooafmjpbecaaTake
import Derived.RangeFuncBox
import Derived.RangeFuncLeaves
import Derived.Shelf.Abstract
import Derived.OwnWalkIn
import Derived.TacticsInMore
import Derived.LoopNIn
import Derived.LoopIn
import Derived.Maps.AppendAt
namespace Go.Proofs.Ytdlooafmjpbecaa
open Go.ChangeShapes Go.WideShapes Go.ChangeAt Go.RowKit Go.Shelf

attribute [local go_sem] Oper.semAt_some

/-- Is the i-th packet for a node? -/
def isTo (node : Int) (ps : List Pk) (i : Nat) : Bool := match ps[i]? with | some p => p.to == node | none => false
/-- The places, up to the k-th, of the packets for a node. -/
def places (node : Int) (ps : List Pk) (k : Nat) : List Nat := (List.range k).filter (isTo node ps)
theorem places_succ (node : Int) (ps : List Pk) (k : Nat) : places node ps (k + 1) = places node ps k ++ (if isTo node ps k then [k] else []) := by
  unfold places; rw [List.range_succ, List.filter_append]; cases h : isTo node ps k <;> simp [h]
theorem places_le (node : Int) (ps : List Pk) (k : Nat) : (places node ps k).length ≤ k := by
  unfold places; have := List.length_filter_le (isTo node ps) (List.range k); simpa using this

/-- What a round keeps: what lay below n₀, and the boxed node. -/
def Kp (n₀ Bk : Nat) (A C : World) : Prop := Below n₀ A C ∧ C.heap[Bk]? = A.heap[Bk]?

/-- What the iterator reads. -/
structure Reads (W : World) (n₀ nb Bk : Nat) (v : Value) (node : Int) (ps : List Pk) : Prop where
  head : W.cell? ⟨nb, 1, none⟩ = some v
  hb : nb < n₀
  node : W.cell? ⟨Bk, 0, none⟩ = some (.int .i64 node)
  form : ∃ a cap, v = .slice a ps.length cap ∧ ps.length ≤ 4096 ∧ ∀ i, (h : i < ps.length) → ∃ g, a = some ⟨g, 0, none⟩ ∧ g < n₀ ∧ W.cell? ⟨g, i * 3, none⟩ = some (.int .i64 (ps[i]).fr) ∧ W.cell? ⟨g, i * 3 + 1, none⟩ = some (.int .i64 (ps[i]).to) ∧ W.cell? ⟨g, i * 3 + 2, none⟩ = some (.slice (ps[i]).ad (ps[i]).n (ps[i]).c)

theorem Reads.kept {A C : World} {n₀ nb Bk : Nat} {v : Value} {node : Int} {ps : List Pk} (h : Reads A n₀ nb Bk v node ps) (hk : Kp n₀ Bk A C) : Reads C n₀ nb Bk v node ps := by
  obtain ⟨h1, h2, h3, a, cap, h4, h5, h6⟩ := h
  refine ⟨(hk.1.cell (p := ⟨nb, 1, none⟩) h2).trans h1, h2, (World.cell?_of_block (a := ⟨Bk, 0, none⟩) hk.2).trans h3, a, cap, h4, h5, fun i hi => ?_⟩
  obtain ⟨g, q1, q2, q3, q4, q5⟩ := h6 i hi
  exact ⟨g, q1, q2, (hk.1.cell (p := ⟨g, _, none⟩) q2).trans q3, (hk.1.cell (p := ⟨g, _, none⟩) q2).trans q4, (hk.1.cell (p := ⟨g, _, none⟩) q2).trans q5⟩

set_option maxRecDepth 100000 in
set_option maxHeartbeats 2000000 in
theorem places1_in (F : Fence) (n : Nat) (h22 : F.fn 22) (hro : F.round = none) (hn : 1 ≤ n) (l Bn Bk n₀ nb : Nat) (v : Value) (node : Int) (ps : List Pk) (J Jx : List Nat → World → Prop)
    (W : World) (hJ : AbidesFrom W.heap.size J) (hn₀ : n₀ ≤ W.heap.size)
    (hY : ∀ (pre : List Nat) (x : Nat) (W1 : World), J pre W1 → pre.length < ps.length → YieldAt F (n - 1) Try.prog l #[.int .i64 x] W1 fun e W' =>
      (e = .returned (.bool true) ∧ J (pre ++ [x]) W' ∧ Kp n₀ Bk W1 W') ∨ (e = .returned (.bool false) ∧ Jx (pre ++ [x]) W'))
    (hBn : W.cell? ⟨Bn, 0, none⟩ = some (.pointer (some ⟨nb, 0, none⟩))) (hR : Reads W n₀ nb Bk v node ps) (hbk : Bk < W.heap.size) (h0 : J [] W) :
    CallsIn F n Try.prog 22 #[.func (.yield l) #[] #[], .pointer (some ⟨Bn, 0, none⟩), .pointer (some ⟨Bk, 0, none⟩)] W fun e W' => (∃ v, e = .returned v) ∧
      ((∃ ys, ys = places node ps ps.length ∧ J ys W') ∨ (∃ pre, True ∧ Jx pre W')) := by
  refine callsIn_of_wp Try.func22 rfl h22 ?_ hro
  simp only [Try.ntmps22, List.size_toArray, List.length_cons, List.length_nil, Nat.reduceAdd, Nat.reduceSub, Array.replicate_succ, Array.replicate_zero, List.push_toArray, List.append_toArray, List.nil_append, List.cons_append]
  obtain ⟨a, cap, rfl, hlen, _⟩ := hR.form
  have c1 := hR.head
  have HR := Lib.hid hR
  clear hR
  gi_wp2
  gi_loopw [11] (fun i wr => ∃ k : Nat, k ≤ ps.length ∧ i = .int .i64 k ∧ J (places node ps k) wr ∧ Kp n₀ Bk W wr) (fun i _ => ps.length - (intOf i).toNat)
  case atStart => exact ⟨0, Nat.zero_le _, rfl, h0, Below.refl _ _, rfl⟩
  case round =>
    obtain ⟨k, hk, rfl, hJs, hkp⟩ := hrel
    by_cases hlt : k < ps.length
    · have hRw := HR.out.kept hkp
      obtain ⟨a', cap', hv, _, hcells⟩ := hRw.form
      injection hv with hv1 hv2 hv3
      subst hv1
      subst hv3
      clear hv2
      obtain ⟨g, rfl, hg, d0, d1, d2⟩ := hcells k hlt
      have hnode := hRw.node
      have hsz := hkp.1.size
      have hglt : g < wr.heap.size := by omega
      have hblt : Bk < wr.heap.size := by omega
      have hps := places_succ node ps k
      have hto : isTo node ps k = ((ps[k]).to == node) := by unfold isTo; rw [List.getElem?_eq_getElem hlt]
      rw [hto] at hps
      have HP := Lib.hid hps
      have HK := Lib.hid hkp
      have HRW := Lib.hid hRw
      clear hps hto hcells hRw hkp
      generalize hp : ps[k] = p at *
      have hJ1 : J (places node ps k) (wr.alloc (.cells #[.int .i64 p.fr, .int .i64 p.to, .slice p.ad p.n p.c] 32)) := hJ _ _ _ none hJs (World.grownBy_alloc _ _ _) (fun r e => by cases e)
      have hk1 : Kp n₀ Bk wr (wr.alloc (.cells #[.int .i64 p.fr, .int .i64 p.to, .slice p.ad p.n p.c] 32)) := ⟨(Below.refl _ _).alloc (by omega) _, Below.heap_alloc _ _ _ hblt⟩
      by_cases hq : p.to = node
      · have hq1 : (p.to == node) = true := by simpa using hq
        obtain ⟨fn, tmps, assign, body, hy, hRd⟩ := hY _ k _ hJ1 (by have := places_le node ps k; omega)
        have HQ := Lib.hid hq
        clear hq
        gi_wp2
        refine hRd.mono ?_
        rintro e W3 (⟨rfl, hJ3, hk3⟩ | ⟨rfl, hJx3⟩)
        · gi_wp2
          go_roundw
          case rel =>
            refine ⟨k + 1, by omega, by go_num, ?_, (HK.out.1.trans hk1.1).trans hk3.1, (hk3.2.trans hk1.2).trans HK.out.2⟩
            rw [HP.out, hq1]; exact hJ3
          case measure => simp [intOf]; omega
        · gi_wp2
          refine bodyPost_ret (results_none rfl _ _ _) rfl ?_
          exact ⟨⟨_, rfl⟩, .inr ⟨_, trivial, hJx3⟩⟩
      · have hq1 : (p.to == node) = false := by simpa using hq
        clear hq
        gi_wp2
        refine ⟨fun _ h => (by cases h), ?_⟩
        gi_wp2
        go_roundw
        case rel =>
          refine ⟨k + 1, by omega, by go_num, ?_, HK.out.1.trans hk1.1, hk1.2.trans HK.out.2⟩
          rw [HP.out, hq1]; simpa using hJ1
        case measure => simp [intOf]; omega
    · obtain rfl : k = ps.length := by omega
      gi_wp2
      go_end0
      exact ⟨⟨_, rfl⟩, .inl ⟨_, rfl, hJs⟩⟩

set_option maxHeartbeats 1000000 in
theorem places_in (F : Fence) (n : Nat) (h19 : F.fn 19) (hro : F.round = none) (p : Option Addr) (node : Int) (w : World) :
    CallsIn F n Try.prog 19 #[.pointer p, .int .i64 node] w fun e w' => e = .returned (.func (.func 22) #[] #[.pointer (some ⟨w.heap.size, 0, none⟩), .pointer (some ⟨w.heap.size + 1, 0, none⟩)]) ∧ w' = (w.alloc (.cells #[.pointer p] 24)).alloc (.cells #[.int .i64 node] 3) := by
  refine callsIn_of_wp Try.func19 rfl h19 ?_ hro
  simp only [Try.ntmps19, List.size_toArray, List.length_cons, List.length_nil, Nat.reduceAdd, Nat.reduceSub, Array.replicate_succ, Array.replicate_zero, List.push_toArray, List.append_toArray, List.nil_append, List.cons_append]
  gi_wp2
  go_ret
  exact ⟨rfl, rfl⟩

theorem places_stops (F : Fence) (n : Nat) (h22 : F.fn 22) (hro : F.round = none) (hn : 1 ≤ n) (Bn Bk n₀ nb : Nat) (v : Value) (node : Int) (ps : List Pk) (w : World) (hBn : Bn < w.heap.size) (hBk : Bk < w.heap.size) (hn₀ : n₀ ≤ w.heap.size)
    (hc : w.cell? ⟨Bn, 0, none⟩ = some (.pointer (some ⟨nb, 0, none⟩))) (hR : Reads w n₀ nb Bk v node ps) :
    SeqStopsK F n Try.prog 22 #[.pointer (some ⟨Bn, 0, none⟩), .pointer (some ⟨Bk, 0, none⟩)] (fun x : Nat => #[Value.int .i64 x]) (Kp n₀ Bk) (fun ys => ys = places node ps ps.length) (fun _ => True) ps.length w := fun l J Jx W hW hJ _ hY h0 => by
  have hs := hW.size
  exact places1_in F n h22 hro hn l Bn Bk n₀ nb v node ps J Jx W hJ (by omega) hY ((hW.cell (p := ⟨Bn, 0, none⟩) hBn).trans hc) (hR.kept ⟨hW.mono hn₀, hW.block Bk hBk⟩) (by omega) h0

theorem info3 : (Try.prog.info? 3).map (fun i => (i.zero, i.size, i.bytes)) = some (some (.int .i64 0), 1, 8) := by kernel_rfl

theorem own_mono {w : World} {b b' : Nat} {e : TypeId} {size n : Nat} {v : Value} {xs : List Value} (h : w.ownsRow b e size v n xs) (hb : b' ≤ b) : w.ownsRow b' e size v n xs := by
  obtain ⟨h1, h2⟩ := h
  refine ⟨h1, ?_⟩
  rcases h2 with h2 | ⟨g, cap, cur, q1, q2, q3⟩
  · exact Or.inl h2
  · exact Or.inr ⟨g, cap, cur, q1, by omega, q3⟩

theorem box_append {W w1 : World} {H : Nat} {v v' : Value} {k m : Nat} {xs ys : List Value} {tmp : Obj} (hv : Boxed W H 38 v) (hrow : W.ownsRow (H + 1 + 1 + 1) 3 1 v k xs) (hsz : H + 1 + 1 + 1 ≤ W.heap.size) (hown' : w1.ownsRow (H + 1 + 1 + 1) 3 1 v' m ys) (hgrow : (W.alloc tmp).grownBy w1 v.ownBlock) :
    Boxed w1 H 38 v ∧ Boxed (w1.setCell ⟨H, 0, none⟩ v') H 38 v' ∧ (w1.setCell ⟨H, 0, none⟩ v').ownsRow (H + 1 + 1 + 1) 3 1 v' m ys ∧ KeepsOthers W (w1.setCell ⟨H, 0, none⟩ v') ∧ Kp H (H + 1 + 1) W (w1.setCell ⟨H, 0, none⟩ v') := by
  obtain ⟨a1, a2, _, a4, a5⟩ := hv.appended (e := 3) (by decide) (own_mono hrow (b' := H) (by omega)) (by omega) (Nat.le_refl _) (own_mono hown' (b' := H) (by omega)) hgrow
  refine ⟨a1, a2, hown'.kept (grownBy_setCell' w1 H v') (Or.inr fun e => ?_), a4, a5, ?_⟩
  · have := (hown'.lt _ e).1; omega
  · rw [Below.heap_setCell w1 ⟨H, 0, none⟩ v' (H + 1 + 1) (by simp; omega), hgrow.block (H + 1 + 1) (by simp; omega) (fun e => by have := (hrow.lt _ e.symm).1; omega)]
    exact Below.heap_alloc _ _ _ (by omega)

set_option maxRecDepth 100000 in
set_option maxHeartbeats 2000000 in
theorem to_in (F : Fence) (n : Nat) (h13 : F.fn 13) (h19 : F.fn 19) (h22 : F.fn 22) (hro : F.round = none) (hn : 3 ≤ n) (w : World) (B nb : Nat) (N : Int) (v : Value) (ps : List Pk) (node : Int) (h : NetAt w B nb N v ps) (hlen : ps.length ≤ 4096) :
    CallsIn F n Try.prog 13 #[.pointer (some ⟨nb, 0, none⟩), .int .i64 node] w fun e W' => ∃ v2, e = .returned v2 ∧ W'.ownsRow w.heap.size 3 1 v2 (places node ps ps.length).length ((places node ps ps.length).map fun i : Nat => Value.int .i64 i) ∧ Below w.heap.size w W' := by
  have h1 : 1 ≤ n := by omega
  obtain ⟨i0, hi, hz0, hz1, hz2⟩ := info_parts info3
  refine callsIn_of_wp_marks Try.func13 rfl h13 ?_ hro
  simp only [Try.ntmps13, List.size_toArray, List.length_cons, List.length_nil, Nat.reduceAdd, Nat.reduceSub, Array.replicate_succ, Array.replicate_zero, List.push_toArray, List.append_toArray, List.nil_append, List.cons_append]
  gi_wp2_with (gi_at_call 19; refine (places_in F (n - 1) h19 hro _ _ _).mono ?_; rintro e w' ⟨rfl, rfl⟩)
  have bO := Boxed.new w 38 (.slice none 0 0)
  have bN := Boxed.new (w.alloc (.cells #[.slice none 0 0] 38)) 24 (.pointer (some ⟨nb, 0, none⟩))
  have bK := Boxed.new ((w.alloc (.cells #[.slice none 0 0] 38)).alloc (.cells #[.pointer (some ⟨nb, 0, none⟩)] 24)) 3 (.int .i64 node)
  rw [World.size_alloc] at bN
  rw [World.size_alloc, World.size_alloc] at bK
  have hB0 : Below w.heap.size w (((w.alloc (.cells #[.slice none 0 0] 38)).alloc (.cells #[.pointer (some ⟨nb, 0, none⟩)] 24)).alloc (.cells #[.int .i64 node] 3)) := (((Below.refl _ w).alloc (Nat.le_refl _) _).alloc (by simp) _).alloc (by simp; omega) _
  have hNl := h.later hB0
  have hRd : Reads (((w.alloc (.cells #[.slice none 0 0] 38)).alloc (.cells #[.pointer (some ⟨nb, 0, none⟩)] 24)).alloc (.cells #[.int .i64 node] 3)) w.heap.size nb (w.heap.size + 1 + 1) v node ps := by
    refine ⟨hNl.cell1, h.head.lt, bK.cell, ?_⟩
    by_cases hp : 0 < ps.length
    · obtain ⟨g, cap, cur, rfl, hg, hh, hle, hmx, hsz, htk, hgn⟩ := h.form hp
      have hh2 : Whole (((w.alloc (.cells #[.slice none 0 0] 38)).alloc (.cells #[.pointer (some ⟨nb, 0, none⟩)] 24)).alloc (.cells #[.int .i64 node] 3)) g 32 cur := ((hh.alloc _).alloc _).alloc _
      exact ⟨_, cap, rfl, hlen, fun i hi => ⟨g, rfl, hh.lt, row_cells hh2 htk i hi⟩⟩
    · obtain rfl : ps = [] := List.eq_nil_of_length_eq_zero (by omega)
      rcases h.row.2 with ⟨rfl, _⟩ | ⟨g, cap, cur, rfl, _⟩
      · exact ⟨none, 0, rfl, hlen, fun i hi => by simp at hi⟩
      · exact ⟨_, cap, rfl, hlen, fun i hi => by simp at hi⟩
  refine wpIn_rangeFunc_ownG hro h1 (gf := 22) (lb := #[.pointer (some ⟨w.heap.size + 1, 0, none⟩), .pointer (some ⟨w.heap.size + 1 + 1, 0, none⟩)]) rfl h22 (enters_of Try.func22 (by kernel_rfl) rfl)
    (places_stops F (n - 1) h22 hro (by omega) (w.heap.size + 1) (w.heap.size + 1 + 1) w.heap.size nb v node ps _ (by simp) (by simp) (by simp; omega) (bN.alloc _).cell hRd)
    (fun h k => ⟨h.1.trans k.1, k.2.trans h.2⟩) (fun W l o o' hl h1 h2 h3 => ⟨belowK_b (w := w) (Nat.le_refl _) W l o o' (by simp at hl; omega) h1 h2 h3, World.putObj_heap_other (by simp at hl; omega)⟩) (Below.refl _ _) (fun _ => rfl)
    (fun pre W => (∃ v, Boxed W w.heap.size 38 v ∧ W.ownsRow (w.heap.size + 1 + 1 + 1) 3 1 v pre.length (pre.map fun i : Nat => Value.int .i64 i) ∧ True) ∧ Below w.heap.size w W ∧ w.heap.size + 1 + 1 + 1 ≤ W.heap.size)
    (fun _ _ _ => False)
    (OwnFrom.and (Own.from (holdsRow_own (w.heap.size + 1 + 1 + 1) w.heap.size 38 3 1 (fun pre : List Nat => pre.length) (fun pre => pre.map fun i : Nat => Value.int .i64 i) (fun _ _ => True)) _) (OwnFrom.and (ownFrom_below (Nat.le_refl _) (by simp; omega)) (fun _ _ _ _ hs hg _ => Nat.le_trans hs hg.size)))
    (fun _ _ _ _ _ hs _ _ => hs)
    ⟨⟨_, (bO.alloc _).alloc _, World.ownsRow_nil _ _ _ _, trivial⟩, hB0, by simp⟩
    (fun x => { tmps := #[.pointer (some ⟨nb, 0, none⟩), .int .i64 node, undef, undef, .slice none 0 0, .pointer (some ⟨w.heap.size, 0, none⟩), .int .i64 x, .pointer (some ⟨nb, 0, none⟩), .bool false, .pointer (some ⟨nb, 0, none⟩), .int .i64 node, .func (.func 22) #[] #[.pointer (some ⟨w.heap.size + 1, 0, none⟩), .pointer (some ⟨w.heap.size + 1 + 1, 0, none⟩)], .int .i64 x, undef, undef, undef, undef, undef], defers := [] }) ?assign ?body ?done ?stop
  case assign =>
    intro l x W K hK
    gi_wp2
    exact hK
  case body =>
    rintro l pre x W ⟨⟨v, hv, hrow, _⟩, hB, hsz⟩ hlt
    have hc := hv.cell
    gi_wp2_with (gi_at_builtin; refine wpListIn_append_own _ rfl _ _ 38 rfl (w.heap.size + 1 + 1 + 1) 3 i0 (.int .i64 0) 1 8 Try.underlying38 hi hz0 hz1 hz2 rfl (by decide) _ _ _ rfl (hrow.alloc _) ⟨W.heap.size, 0, none⟩ 1 1 [.int .i64 x] rfl rfl (cell_one_new _ _ _) (by simp [Value.oneCell']) (by simp only [maxLen]; omega) (by omega) (by simp; omega) ?_; intro v' w1 hown' hgrow _; obtain ⟨g', cap', rfl⟩ := ownsRow_succ hown'; obtain ⟨hv1, hv2, hr2, hk2, hb2⟩ := box_append hv hrow hsz hown' hgrow; have hc1 := hv1.cell; have hf1 := hv1.frozen)
    exact ⟨hk2.from _, hb2, ⟨_, hv2, by simpa using hr2, trivial⟩, hB.trans hb2.1, Nat.le_trans hsz hb2.1.size⟩
  case done =>
    rintro D ys W hD rfl ⟨⟨v, hv, hrow, hnil⟩, hB, _⟩ hK
    have hc := hv.cell
    gi_wp2
    refine ⟨by simp, .inl ⟨_, _, rfl, run_takeDeferred hK, ?_⟩⟩
    exact ⟨_, results_tmp rfl _ _ _, v, rfl, ownsRow_putObj (own_mono hrow (by omega)) _ hK rfl, hB.trans (belowK_b (w := w) (Nat.le_refl _) W D _ _ (by simp at hD; omega) hK rfl rfl)⟩
  case stop =>
    rintro D c pre W _ _ h _
    exact h.elim

/-- What To tells: a row of its own that holds the places. -/
def Toed (w : World) (node : Int) (ps : List Pk) (e : Ending) (w' : World) : Prop :=
  ∃ a cap, e = .returned (.slice a (places node ps ps.length).length cap) ∧ w'.ownsRow w.heap.size 3 1 (.slice a (places node ps ps.length).length cap) (places node ps ps.length).length ((places node ps ps.length).map fun i : Nat => Value.int .i64 i) ∧ Below w.heap.size w w'

theorem to_any (w : World) (B nb : Nat) (N : Int) (v : Value) (ps : List Pk) (node : Int) (h : NetAt w B nb N v ps) (hlen : ps.length ≤ 4096) :
    Calls Try.prog 13 #[.pointer (some ⟨nb, 0, none⟩), .int .i64 node] w (Toed w node ps) :=
  ((callsIn_wide (n := 3)).1 (to_in Fence.wide 3 trivial trivial trivial rfl (by omega) w B nb N v ps node h hlen)).mono fun e w' ⟨v2, he, hr, hb⟩ => by
    rcases hr.2 with ⟨hv, hn⟩ | ⟨g, cap, cur, hv, _⟩
    · rw [hv] at he hr
      exact ⟨none, 0, by rw [hn]; exact he, by rw [hn] at hr ⊢; exact hr, hb⟩
    · rw [hv] at he hr; exact ⟨_, _, he, hr, hb⟩
end Go.Proofs.Ytdlooafmjpbecaa
