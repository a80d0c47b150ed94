/-
  The contract of the reference's Raise.
-/
import Derived.Test.YtnbbbgoecndjhaaRefNew
namespace Go.Proofs.Ytnbbbgoecndjhaa
open Go.ChangeShapes Go.WideShapes Go.ChangeAt Go.RowKit
set_option linter.unusedVariables false

/-- A result that is a struct in a block. -/
theorem results_row {fn : Func} {p : Tmp} {ty : TypeId} (h : fn.results = #[.cell p ty]) (tmps : Array Value) (P : Program) (w : World) (g : Nat) (t : TypeId) (cs : Array Value) (fr : Nat × Nat) (fs : Array Field)
    (hp : tmps.getD p undef = .pointer (some ⟨g, 0, none⟩)) (hg : w.heap[g]? = some (.cells cs t fr)) (hu : P.underlying ty = some (.struct fs)) (hi : (P.info? ty).map (·.size) = some cs.size) :
    (results fn tmps).run P w = .ok (.agg cs) w := by
  have := results_cell_row (P := P) h tmps w g t cs fr _ hp hg hu rfl hi
  exact this

/-- What stays when all below low is given up. -/
def keepK (low : Int) (ks : KL) : KL := ks.filter fun p => decide (low ≤ p.1)
theorem lookK_cons (p : Int × List Int) (ks : KL) (k : Int) : lookK (p :: ks) k = if p.1 = k then some p.2 else lookK ks k := rfl
theorem look_keep_at (low k : Int) : ∀ ks : KL, lookK (keepK low ks) k = if k < low then none else lookK ks k
  | [] => by unfold keepK lookK; simp
  | p :: ks => by
    have ih := look_keep_at low k ks
    unfold keepK at ih ⊢
    by_cases h : low ≤ p.1
    · rw [List.filter_cons_of_pos (by simpa using h), lookK_cons, lookK_cons, ih]
      by_cases h2 : p.1 = k
      · rw [if_pos h2, if_pos h2, if_neg (by omega)]
      · rw [if_neg h2, if_neg h2]
    · rw [List.filter_cons_of_neg (by simpa using h), ih, lookK_cons]
      by_cases h3 : k < low
      · rw [if_pos h3, if_pos h3]
      · rw [if_neg h3, if_neg h3, if_neg (by omega)]
theorem look_keep (low : Int) (ks : KL) : lookK (keepK low ks) = cut low (lookK ks) := by
  funext k; exact look_keep_at low k ks
theorem keep_take {low : Int} {ks : KL} {j : Nat} (hj : j < ks.length) : keepK low (ks.take (j + 1)) = keepK low (ks.take j) ++ (if low ≤ (ks[j]).1 then [ks[j]] else []) := by
  unfold keepK
  rw [List.take_succ_eq_append_getElem hj, List.filter_append]
  congr 1
  by_cases h : low ≤ (ks[j]).1
  · rw [if_pos h]; simp [h]
  · rw [if_neg h]; simp; omega
theorem keep_len (low : Int) (ks : KL) : (keepK low ks).length ≤ ks.length := List.length_filter_le _ _

/-- What Raise leaves. -/
def RUp (w : World) (B : Nat) (ks : KL) (low : Int) (e : Ending) (w' : World) : Prop :=
  ∃ a n c, e = .returned (.agg #[.slice a n c, .int .u64 low]) ∧ n ≤ ks.length ∧ RefRow w' B a n c (keepK low ks) ∧ Below w.heap.size w w'

theorem rraise_low (w : World) (B : Nat) (a : Option Addr) (n c : Nat) (ks : KL) (low0 low : Int) (h : RefRow w B a n c ks) (hl : low ≤ low0) :
    Calls Try.prog 14 #[.agg #[.slice a n c, .int .u64 low0], .int .u64 low] w fun e w' => e = .returned (.agg #[.slice a n c, .int .u64 low0]) ∧ Below w.heap.size w w' := by
  clear h
  go_enter Try.func14, Try.ntmps14
  go_wp2
  refine bodyPost_ret (results_row (p := 4) (ty := 40) rfl _ _ _ (w.heap.size + 1) 40 #[.slice a n c, .int .u64 low0] (0, 0) _ (by rfl) (heap_alloc2_new _ _ _) Try.underlying40 (size40 _ _)) rfl ?_
  exact ⟨rfl, ((Below.refl _ _).alloc (Nat.le_refl _) _).alloc (by simp) _⟩

/-- What stands in the loop. -/
structure UP (w : World) (v0 u0 : Value) (low : Int) (ks : KL) (j m : Nat) (la : Option Addr) (lc : Nat) (wr : World) : Prop where
  nb : NB w v0 u0 (.slice none 0 0) (.int .u64 0) wr
  len : (keepK low (ks.take j)).length = m
  few : m ≤ j
  row : wr.ownsRow (w.heap.size + 2) 65 2 (.slice la m lc) m (cellsK (keepK low (ks.take j)))
  nil : m = 0 → la = none ∧ lc = 0

theorem up_end {w wr : World} {v0 u0 : Value} {low : Int} {ks : KL} {B m : Nat} {la : Option Addr} {lc : Nat} (h : UP w v0 u0 low ks ks.length m la lc wr) (hB : B ≤ w.heap.size) :
    Whole ((wr.setCell ⟨w.heap.size + 1, 0, none⟩ (.slice la m lc)).setCell ⟨w.heap.size + 1, 1, none⟩ (.int .u64 low)) (w.heap.size + 1) 40 #[.slice la m lc, .int .u64 low] ∧
    RefRow ((wr.setCell ⟨w.heap.size + 1, 0, none⟩ (.slice la m lc)).setCell ⟨w.heap.size + 1, 1, none⟩ (.int .u64 low)) B la m lc (keepK low ks) ∧
    Below w.heap.size w ((wr.setCell ⟨w.heap.size + 1, 0, none⟩ (.slice la m lc)).setCell ⟨w.heap.size + 1, 1, none⟩ (.int .u64 low)) ∧ m ≤ ks.length := by
  obtain ⟨hN, hl, hf, hr, hn⟩ := h
  rw [List.take_length] at hl hr
  have h2 := row_kept hr (gr_set (World.grownBy.refl _ (some (w.heap.size + 1))) 0 (.slice la m lc)) (fun r e => .inl (by injection e with e; omega))
  have h3 := row_kept h2 (gr_set (World.grownBy.refl _ (some (w.heap.size + 1))) 1 (.int .u64 low)) (fun r e => .inl (by injection e with e; omega))
  refine ⟨(hN.res.put 0 _).put 1 _, ⟨hl, ⟨h3.1, ?_⟩, hn⟩, (hN.below.setCell (p := ⟨w.heap.size + 1, 0, none⟩) (show w.heap.size ≤ w.heap.size + 1 by omega) _).setCell (p := ⟨w.heap.size + 1, 1, none⟩) (show w.heap.size ≤ w.heap.size + 1 by omega) _, hf⟩
  rcases h3.2 with h | ⟨g, cap, cur, q1, q2, q3⟩
  · exact .inl h
  · exact .inr ⟨g, cap, cur, q1, by omega, q3⟩

set_option maxRecDepth 100000 in
set_option maxHeartbeats 1000000 in
theorem rraise_up (w : World) (B : Nat) (a : Option Addr) (n c : Nat) (ks : KL) (low0 low : Int) (h : RefRow w B a n c ks) (hB : B ≤ w.heap.size) (hn : n ≤ 2000) (hl : low0 < low) :
    Calls Try.prog 14 #[.agg #[.slice a n c, .int .u64 low0], .int .u64 low] w (RUp w B ks low) := by
  obtain ⟨i0, hi0, hz0, hz1, hz2⟩ := info_parts info65
  have hb : Below w.heap.size w ((w.alloc (.cells #[.slice a n c, .int .u64 low0] 40)).alloc (.cells #[.slice none 0 0, .int .u64 0] 40)) := ((Below.refl _ _).alloc (Nat.le_refl _) _).alloc (by simp) _
  have hU : Hid (UP w (.slice a n c) (.int .u64 low0) low ks 0 0 none 0 ((w.alloc (.cells #[.slice a n c, .int .u64 low0] 40)).alloc (.cells #[.slice none 0 0, .int .u64 0] 40))) :=
    ⟨⟨heap_alloc2_old w _ _, heap_alloc2_new w _ _, hb, by simp⟩, rfl, by omega, World.ownsRow_nil _ _ _ _, fun _ => ⟨rfl, rfl⟩⟩
  have HR := Lib.hid h
  have hlen := Lib.hid h.len
  have hl' : ¬ low ≤ low0 := by omega
  clear h hb
  go_enter Try.func14, Try.ntmps14
  go_wp2
  go_loopw [5, 6] (fun l i wr => ∃ (j m : Nat) (la : Option Addr) (lc : Nat), j ≤ n ∧ l = .slice la m lc ∧ i = .int .i64 j ∧ UP w (.slice a n c) (.int .u64 low0) low ks j m la lc wr) (fun _ i _ => n - (intOf i).toNat)
  case atStart => exact ⟨0, 0, none, 0, by omega, rfl, rfl, hU.out⟩
  case round =>
    obtain ⟨j, m, la, lc, hj, rfl, rfl, hUj⟩ := hrel
    have HU := Lib.hid hUj
    have c0 := hUj.nb.box.cell 0
    have c1 := hUj.nb.box.cell 1
    have c2 := hUj.nb.box.lt
    have hmj := hUj.few
    have hbig := hUj.nb.big
    clear hUj
    by_cases hlt : j < n
    · obtain ⟨g, p, xs, rfl, hg, ⟨hjl, hks⟩, d1, d2⟩ := (HR.out.later HU.out.nb.below).cells hlt
      have HK := Lib.hid hks
      clear hks
      have hcs : low ≤ p ∨ ¬ low ≤ p := by omega
      rcases hcs with hp | hp
      · go_wp2_with (first
          | (at_builtin; go_loud (refine wpList_append_own _ rfl _ _ 38 rfl (w.heap.size + 2) 65 i0 _ 2 24 Try.underlying38 hi0 hz0 hz1 hz2 rfl (by decide) (.slice la m lc) m (cellsK (keepK low (ks.take j))) rfl (HU.out.row.alloc _) ⟨wr.heap.size, 0, none⟩ 1 1 [.int .u64 p, .string (strOfNums xs)] rfl rfl (news_two _ _ _) (by simp [Value.oneCell']) (by simp only [maxLen]; omega) (by omega) (by simp; omega) ?_; intro v' w4 hown' hgrow _; obtain ⟨g', cap', rfl⟩ := ownsRow_succ hown'; have HN4 := Lib.hid ((HU.out.nb.later ((Below.refl _ _).alloc (Nat.le_refl _) _)).grown hgrow (fun k hk => (HU.out.row.lt _ hk).1)); have HO4 := Lib.hid hown'; clear hown' hgrow)))
        go_roundw
        case rel =>
          have hkt := keep_take (low := low) (ks := ks) (j := j) hjl
          rw [HK.out, if_pos hp] at hkt
          exact ⟨j + 1, m + 1, _, _, by omega, rfl, by go_num, ⟨HN4.out, by rw [hkt, List.length_append, HU.out.len]; rfl, by omega, by rw [hkt, cellsK_append]; exact HO4.out, fun h => by omega⟩⟩
        case measure => simp [intOf]; omega
      · go_wp2
        go_roundw
        case rel =>
          have hkt := keep_take (low := low) (ks := ks) (j := j) hjl
          rw [HK.out, if_neg hp, List.append_nil] at hkt
          exact ⟨j + 1, m, la, lc, by omega, rfl, by go_num, ⟨HU.out.nb, by rw [hkt]; exact HU.out.len, by omega, by rw [hkt]; exact HU.out.row, HU.out.nil⟩⟩
        case measure => simp [intOf]; omega
    · obtain rfl : j = n := by omega
      have hjk : j = ks.length := hlen.out.symm
      have HU' : UP w (.slice a j c) (.int .u64 low0) low ks ks.length m la lc wr := by rw [← hjk]; exact HU.out
      obtain ⟨e1, e2, e3, e4⟩ := up_end HU' hB
      have E1 := Lib.hid e1
      have E2 := Lib.hid e2
      have E3 := Lib.hid e3
      have r0 := HU.out.nb.res.cell 0
      have r1 := HU.out.nb.res.cell 1
      have r2 := HU.out.nb.res.lt
      have rf0 := HU.out.nb.res.free 0
      have rf1 := HU.out.nb.res.free 1
      clear e1 e2 e3 hjk HU'
      go_wp2
      refine bodyPost_ret (results_row (p := 4) (ty := 40) rfl _ _ _ (w.heap.size + 1) 40 _ (0, 0) _ (by rfl) E1.out Try.underlying40 (size40 _ _)) rfl ?_
      exact ⟨_, _, _, rfl, e4, E2.out, E3.out⟩
end Go.Proofs.Ytnbbbgoecndjhaa
