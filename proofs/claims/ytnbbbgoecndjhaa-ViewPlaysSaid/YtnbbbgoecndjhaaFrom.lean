/-
  Clone inside a fence; the iterator from.
-/
import Derived.Test.YtnbbbgoecndjhaaGet
import Derived.RangeFuncBox
import Derived.RangeFuncLeaves
import Derived.Shelf.Abstract
import Derived.OwnWalkIn
import Derived.TacticsInMore
import Derived.LoopNIn
import Derived.LoopIn
import Derived.BigRegionIn
import Derived.Stop.RegionWithIn
namespace Go.Proofs.Ytnbbbgoecndjhaa
open Go.ChangeShapes Go.WideShapes Go.ChangeAt Go.RowKit Go.Shelf
set_option linter.unusedVariables false

attribute [local go_sem] Oper.semAt_some

set_option maxHeartbeats 1000000 in
theorem clone_in (F : Fence) (n' : Nat) (h23 : F.fn 23) (hro : F.round = none) (ad : Addr) (n c : Nat) (bs : List Value) (w : World) (hl : bs.length = n) (h4 : n ≤ 4096) (h1 : ∀ u ∈ bs, u.oneCell' = true) (hc : ∀ j u, bs[j]? = some u → w.cell? (ad.add j) = some u) :
    CallsIn F n' Try.prog 23 #[.slice (some ad) n c] w fun e w' => ∃ (g cap : Nat) (cs : Array Value), e = .returned (.slice (some ⟨g, 0, none⟩) n cap) ∧ Whole w' g 5 cs ∧ (∀ (j : Nat) (u : Value), bs[j]? = some u → cs[j]? = some u) ∧ w.heap.size ≤ g ∧ Below w.heap.size w w' := by
  have hn := @Lib.run_eql_slice_nil Try.prog
  obtain ⟨i0, hi0, hz0, hz1, hz2⟩ := info_parts info5
  have hown0 : (w.alloc (.cells #[] 5)).ownsRow w.heap.size 5 1 (.slice (some ⟨w.heap.size, 0, none⟩) 0 0) 0 [] := World.ownsRow_made w #[] 0 (Nat.le_refl _) (by decide) rfl
  have hc1 : ∀ j u, bs[j]? = some u → (w.alloc (.cells #[] 5)).cell? (ad.add j) = some u := fun j u hj => (World.cell?_alloc_lt _ _ _ (World.block_lt_of_cell? _ _ (hc j u hj))).trans (hc j u hj)
  have HC := Lib.hid hc1
  have H1 := Lib.hid h1
  have HL := Lib.hid (show bs.length = n * 1 by omega)
  clear hc hc1 h1 hl
  refine callsIn_of_wp Try.func23 rfl h23 ?_ hro
  simp only [Try.ntmps23, List.size_toArray, List.length_cons, List.length_nil, Nat.reduceAdd, Nat.reduceSub, Array.replicate_succ, Array.replicate_zero, List.push_toArray, List.append_toArray, List.nil_append, List.cons_append]
  gi_wp2_with (gi_at_builtin; refine wpListIn_append_own _ rfl (.tmp 5) (.tmp 6) 23 rfl w.heap.size 5 i0 (.int .u8 0) 1 1 Try.underlying23 hi0 hz0 hz1 hz2 rfl (by omega) (.slice (some ⟨w.heap.size, 0, none⟩) 0 0) 0 [] rfl hown0 ad n c bs rfl HL.out HC.out H1.out (by simp only [maxLen]; omega) (by omega) (by simp) ?_; intro v' w1 hown hgrow hnil)
  go_ret
  rw [List.nil_append, Nat.zero_add] at hown
  have hbel : Below w.heap.size w w1 := ((Below.refl _ _).alloc (Nat.le_refl _) _).grown hgrow (by simp) (fun k hk => by simp [Value.ownBlock] at hk; omega)
  rcases hown.2 with ⟨rfl, _⟩ | ⟨g, cap, cur, rfl, hg, hh, hle, hmx, hsz, htk⟩
  · exact absurd (hnil.1 rfl).1 (by simp)
  · refine ⟨g, cap, cur, rfl, hh, fun j u hj => ?_, hg, hbel⟩
    have hjn : j < n * 1 := by have := (List.getElem?_eq_some_iff.1 hj).1; rw [HL.out] at this; exact this
    rw [← htk, List.getElem?_take, if_pos hjn] at hj
    simpa using hj
end Go.Proofs.Ytnbbbgoecndjhaa
