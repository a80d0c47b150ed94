/-
  The contract of the reference's Note of a new position.
-/
import Derived.Test.YtnbbbgoecndjhaaRefNote
import Derived.Laws.AppendOwnNone
namespace Go.Proofs.Ytnbbbgoecndjhaa
open Go.ChangeShapes Go.WideShapes Go.ChangeAt Go.RowKit
set_option linter.unusedVariables false

theorem info65 : (Try.prog.info? 65).map (fun i => (i.zero, i.size, i.bytes)) = some (some (.agg #[.int .u64 0, .string ⟨#[]⟩]), 2, 24) := by kernel_rfl

/-- What a struct's slice that was appended to leaves. -/
def RNew (w : World) (B : Nat) (ks : KL) (low pos : Int) (xs : List Int) (e : Ending) (w' : World) : Prop :=
  ∃ a n c, e = .returned (.tuple #[.agg #[.slice a n c, .int .u64 low], .int .i64 0]) ∧ RefRow w' B a n c (ks ++ [(pos, xs)]) ∧ Below w.heap.size w w'

theorem RefRow.news {w : World} {B : Nat} {g n c : Nat} {ks : KL} (h : RefRow w B (some ⟨g, 0, none⟩) n c ks) : ∀ j u, (cellsK ks)[j]? = some u → w.cell? ((⟨g, 0, none⟩ : Addr).add j) = some u := by
  intro j u hj
  rcases h.row.2 with ⟨h, _⟩ | ⟨g', cap, cur, hv, _, hh, k1, k2, k3, k4⟩
  · cases h
  · injection hv with hv1
    injection hv1 with hv1
    injection hv1 with hv1
    subst hv1
    rw [Addr.add_lit, Nat.zero_add, cell_of_row w g j cur 65 (0, 0) hh]
    have hlt : j < n * 2 := by
      have := (List.getElem?_eq_some_iff.1 hj).1
      rw [cellsK_len, h.len] at this
      exact this
    rw [← k4, List.getElem?_take, if_pos hlt] at hj
    simpa using hj

/-- The two boxes of a call of Note, and what is below. -/
structure NB (w : World) (v0 u0 v1 u1 : Value) (W : World) : Prop where
  box : Whole W w.heap.size 40 #[v0, u0]
  res : Whole W (w.heap.size + 1) 40 #[v1, u1]
  below : Below w.heap.size w W
  big : w.heap.size + 2 ≤ W.heap.size
theorem NB.later {w W W' : World} {v0 u0 v1 u1 : Value} (h : NB w v0 u0 v1 u1 W) (hb : Below W.heap.size W W') : NB w v0 u0 v1 u1 W' :=
  ⟨h.box.below hb h.box.lt, h.res.below hb h.res.lt, h.below.trans (hb.mono h.below.size), Nat.le_trans h.big hb.size⟩
theorem NB.grown {w W W' : World} {v0 u0 v1 u1 : Value} {row : Option Nat} (h : NB w v0 u0 v1 u1 W) (hg : W.grownBy W' row) (hr : ∀ k, row = some k → w.heap.size + 2 ≤ k) : NB w v0 u0 v1 u1 W' :=
  ⟨h.box.grown hg (fun e => by have := hr _ e.symm; omega), h.res.grown hg (fun e => by have := hr _ e.symm; omega), h.below.grown hg (by have := h.big; omega) (fun k e => by have := hr k e; omega), Nat.le_trans h.big hg.size⟩

theorem news_two (w : World) (x y : Value) : ∀ j u, [x, y][j]? = some u → (w.alloc (.cells #[x, y] 65)).cell? ((⟨w.heap.size, 0, none⟩ : Addr).add j) = some u := by
  intro j u hj
  have := World.news_of_block (cs := #[x, y]) (t := 65) (fr := (0, 0)) (heap_alloc_new w (.cells #[x, y] 65))
  exact this j u hj

theorem new_end {w w4 : World} {v0 v1 u1 : Value} {low : Int} {B g' m cap' : Nat} {ks : KL} {cs : List Value} (hN : NB w v0 (.int .u64 low) v1 u1 w4) (hown : w4.ownsRow (w.heap.size + 2) 65 2 (.slice (some ⟨g', 0, none⟩) m cap') m cs) (hcs : cs = cellsK ks) (hlen : ks.length = m) (hm : 0 < m) (hB : B ≤ w.heap.size) :
    Whole (((w4.setCell ⟨w.heap.size, 0, none⟩ (.slice (some ⟨g', 0, none⟩) m cap')).setCell ⟨w.heap.size + 1, 0, none⟩ (.slice (some ⟨g', 0, none⟩) m cap')).setCell ⟨w.heap.size + 1, 1, none⟩ (.int .u64 low)) (w.heap.size + 1) 40 #[.slice (some ⟨g', 0, none⟩) m cap', .int .u64 low] ∧
    RefRow (((w4.setCell ⟨w.heap.size, 0, none⟩ (.slice (some ⟨g', 0, none⟩) m cap')).setCell ⟨w.heap.size + 1, 0, none⟩ (.slice (some ⟨g', 0, none⟩) m cap')).setCell ⟨w.heap.size + 1, 1, none⟩ (.int .u64 low)) B (some ⟨g', 0, none⟩) m cap' ks ∧
    Below w.heap.size w (((w4.setCell ⟨w.heap.size, 0, none⟩ (.slice (some ⟨g', 0, none⟩) m cap')).setCell ⟨w.heap.size + 1, 0, none⟩ (.slice (some ⟨g', 0, none⟩) m cap')).setCell ⟨w.heap.size + 1, 1, none⟩ (.int .u64 low)) := by
  subst hcs
  have h1 := row_kept hown (grownBy_setCell' w4 w.heap.size (.slice (some ⟨g', 0, none⟩) m cap')) (fun r e => .inl (by injection e with e; omega))
  have h2 := row_kept h1 (gr_set (World.grownBy.refl _ (some (w.heap.size + 1))) 0 (.slice (some ⟨g', 0, none⟩) m cap')) (fun r e => .inl (by injection e with e; omega))
  have h3 := row_kept h2 (gr_set (World.grownBy.refl _ (some (w.heap.size + 1))) 1 (.int .u64 low)) (fun r e => .inl (by injection e with e; omega))
  refine ⟨?_, ⟨hlen, ⟨h3.1, ?_⟩, fun h => by omega⟩, ?_⟩
  · exact ((hN.res.apart (p := ⟨w.heap.size, 0, none⟩) (show w.heap.size + 1 ≠ w.heap.size by omega) _).put 0 _).put 1 _
  · rcases h3.2 with h | ⟨g, cap, cur, q1, q2, q3⟩
    · exact .inl h
    · exact .inr ⟨g, cap, cur, q1, by omega, q3⟩
  · exact ((hN.below.setCell (p := ⟨w.heap.size, 0, none⟩) (Nat.le_refl _) _).setCell (p := ⟨w.heap.size + 1, 0, none⟩) (show w.heap.size ≤ w.heap.size + 1 by omega) _).setCell (p := ⟨w.heap.size + 1, 1, none⟩) (show w.heap.size ≤ w.heap.size + 1 by omega) _

set_option maxRecDepth 100000 in
set_option maxHeartbeats 1000000 in
theorem rnote_new (w : World) (B : Nat) (a : Option Addr) (n c : Nat) (ks : KL) (low pos : Int) (xs : List Int) (h : RefRow w B a n c ks) (hB : B ≤ w.heap.size) (hn : n ≤ 2000) (hp : low ≤ pos) (hp1 : pos < 18446744073709551615) (hk : lookK ks pos = none) :
    Calls Try.prog 15 #[.agg #[.slice a n c, .int .u64 low], .int .u64 pos, .string (strOfNums xs)] w (RNew w B ks low pos xs) := by
  obtain ⟨i0, hi0, hz0, hz1, hz2⟩ := info_parts info65
  have hb : Below w.heap.size w ((w.alloc (.cells #[.slice a n c, .int .u64 low] 40)).alloc (.cells #[.slice none 0 0, .int .u64 0] 40)) := ((Below.refl _ _).alloc (Nat.le_refl _) _).alloc (by simp) _
  have hq : (pos == 18446744073709551615) = false := by simp; omega
  have hNB : NB w (.slice a n c) (.int .u64 low) (.slice none 0 0) (.int .u64 0) ((w.alloc (.cells #[.slice a n c, .int .u64 low] 40)).alloc (.cells #[.slice none 0 0, .int .u64 0] 40)) := ⟨heap_alloc2_old w _ _, heap_alloc2_new w _ _, hb, by simp⟩
  have hR := h.later hb
  have HC := Lib.hid (find_none _ B a n c ks low pos hR (by omega) hk)
  have HNB := Lib.hid hNB
  have HR := Lib.hid hR
  have hlow : ¬ pos < low := by omega
  have hlen := h.len
  have hnil := h.nil
  clear h hb hNB hR hk
  by_cases hz : n = 0
  · obtain ⟨rfl, rfl⟩ := hnil hz
    have hks : ks = [] := List.eq_nil_of_length_eq_zero (by omega)
    subst hks
    subst hz
    clear hnil hlen
    go_enter Try.func15, Try.ntmps15
    go_wp2_with (first
      | (go_at_call 24; go_loud ((with_reducible refine HC.out.mono ?_); rintro e w2 ⟨rfl, hb2⟩; clear HC; have HN2 := Lib.hid (HNB.out.later hb2); have d0 := HN2.out.box.cell 0; have d1 := HN2.out.box.cell 1; have d2 := HN2.out.box.lt; have f0 := HN2.out.box.free 0; have hown0 : w2.ownsRow (w.heap.size + 2) 65 2 (.slice none 0 0) 0 [] := World.ownsRow_nil _ _ _ _))
      | (at_builtin; (refine wpList_append_own_none rfl (.tmp 37) (.tmp 39) 38 rfl (w.heap.size + 2) 65 i0 2 Try.underlying38 hi0 (.slice none 0 0) 0 [] rfl hown0 rfl ?_))
      | (at_builtin; go_loud (refine wpList_append_own _ rfl (.tmp 41) (.tmp 45) 38 rfl (w.heap.size + 2) 65 i0 _ 2 24 Try.underlying38 hi0 hz0 hz1 hz2 rfl (by decide) (.slice none 0 0) 0 [] rfl (hown0.alloc _) ⟨w2.heap.size, 0, none⟩ 1 1 [.int .u64 pos, .string (strOfNums xs)] rfl rfl (news_two _ _ _) (by simp [Value.oneCell']) (by simp only [maxLen]; omega) (by omega) (by have := HN2.out.big; simp; omega) ?_; intro v' w4 hown' hgrow _; obtain ⟨g', cap', rfl⟩ := ownsRow_succ hown'; have HN4 := Lib.hid ((HN2.out.later ((Below.refl _ _).alloc (Nat.le_refl _) _)).grown hgrow (fun k hk => by simp [Value.ownBlock] at hk)); have HO4 := Lib.hid hown'; clear hown' hgrow hown0 d0 d1 d2 f0; have d0 := HN4.out.box.cell 0; have d1 := HN4.out.box.cell 1; have d2 := HN4.out.box.lt; have f0 := HN4.out.box.free 0; have r0 := HN4.out.res.cell 0; have r1 := HN4.out.res.cell 1; have r2 := HN4.out.res.lt; have rf0 := HN4.out.res.free 0; have rf1 := HN4.out.res.free 1))
      )
    obtain ⟨e1, e2, e3⟩ := new_end HN4.out HO4.out (ks := [(pos, xs)]) rfl rfl (by omega) hB
    refine bodyPost_ret (results_row_tmp (p := 6) (u := 7) (ty := 40) rfl _ _ _ (w.heap.size + 1) 40 _ (0, 0) _ (by rfl) e1 Try.underlying40 (size40 _ _)) rfl ?_
    exact ⟨_, _, _, rfl, e2, e3⟩
  · obtain ⟨g, hag⟩ : ∃ g, a = some ⟨g, 0, none⟩ := by obtain ⟨g, p, ys, q1, _⟩ := HR.out.cells (i := 0) (by omega); exact ⟨g, q1⟩
    subst hag
    have HL := Lib.hid hlen
    have hpn : 0 < n := by omega
    clear hnil hlen hz
    go_enter Try.func15, Try.ntmps15
    go_wp2_with (first
      | (go_at_call 24; go_loud ((with_reducible refine HC.out.mono ?_); rintro e w2 ⟨rfl, hb2⟩; clear HC; have HN2 := Lib.hid (HNB.out.later hb2); have HR2 := Lib.hid (HR.out.later hb2); have d0 := HN2.out.box.cell 0; have d1 := HN2.out.box.cell 1; have d2 := HN2.out.box.lt; have f0 := HN2.out.box.free 0; have hown0 : w2.ownsRow (w.heap.size + 2) 65 2 (.slice none 0 0) 0 [] := World.ownsRow_nil _ _ _ _))
      | (at_builtin; go_loud (refine wpList_append_own _ rfl (.tmp 37) (.tmp 39) 38 rfl (w.heap.size + 2) 65 i0 _ 2 24 Try.underlying38 hi0 hz0 hz1 hz2 rfl (by decide) (.slice none 0 0) 0 [] rfl hown0 ⟨g, 0, none⟩ n c (cellsK ks) rfl (by rw [cellsK_len, HL.out]) HR2.out.news (cellsK_one ks) (by simp only [maxLen]; omega) (by omega) (by have := HN2.out.big; omega) ?_; intro v1 w3 hown1 hgrow1 _; rw [List.nil_append, Nat.zero_add] at hown1; have HN3 := Lib.hid (HN2.out.grown hgrow1 (fun k hk => by simp [Value.ownBlock] at hk)); have HO1 := Lib.hid hown1; clear hown1 hgrow1 hown0 d0 d1 d2 f0; have d0 := HN3.out.box.cell 0; have d1 := HN3.out.box.cell 1; have d2 := HN3.out.box.lt; have f0 := HN3.out.box.free 0; have tok : True := trivial))
      | (at_builtin; go_loud (refine wpList_append_own _ rfl (.tmp 41) (.tmp 45) 38 rfl (w.heap.size + 2) 65 i0 _ 2 24 Try.underlying38 hi0 hz0 hz1 hz2 rfl (by decide) v1 n (cellsK ks) rfl (HO1.out.alloc _) ⟨w3.heap.size, 0, none⟩ 1 1 [.int .u64 pos, .string (strOfNums xs)] rfl rfl (news_two _ _ _) (by simp [Value.oneCell']) (by simp only [maxLen]; omega) (by omega) (by have := HN3.out.big; simp; omega) ?_; intro v' w4 hown' hgrow _; obtain ⟨g', cap', rfl⟩ := ownsRow_succ hown'; have HN4 := Lib.hid ((HN3.out.later ((Below.refl _ _).alloc (Nat.le_refl _) _)).grown hgrow (fun k hk => (HO1.out.lt _ hk).1)); have HO4 := Lib.hid hown'; clear hown' hgrow d0 d1 d2 f0; have d0 := HN4.out.box.cell 0; have d1 := HN4.out.box.cell 1; have d2 := HN4.out.box.lt; have f0 := HN4.out.box.free 0; have r0 := HN4.out.res.cell 0; have r1 := HN4.out.res.cell 1; have r2 := HN4.out.res.lt; have rf0 := HN4.out.res.free 0; have rf1 := HN4.out.res.free 1))
      )
    obtain ⟨e1, e2, e3⟩ := new_end HN4.out HO4.out (ks := ks ++ [(pos, xs)]) (by rw [cellsK_append]; rfl) (by rw [List.length_append, HL.out]; rfl) (by omega) hB
    refine bodyPost_ret (results_row_tmp (p := 6) (u := 7) (ty := 40) rfl _ _ _ (w.heap.size + 1) 40 _ (0, 0) _ (by rfl) e1 Try.underlying40 (size40 _ _)) rfl ?_
    exact ⟨_, _, _, rfl, e2, e3⟩
end Go.Proofs.Ytnbbbgoecndjhaa
