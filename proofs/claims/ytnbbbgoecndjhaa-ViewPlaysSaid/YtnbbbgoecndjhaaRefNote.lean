/-
  The contract of the reference's Note.
-/
import Derived.Test.YtnbbbgoecndjhaaRefTake
import Derived.Laws.ResultCell
namespace Go.Proofs.Ytnbbbgoecndjhaa
open Go.ChangeShapes Go.WideShapes Go.ChangeAt Go.RowKit
set_option linter.unusedVariables false

/-- A result that is a struct in a block, and one in a slot. -/
theorem results_row_tmp {fn : Func} {p u : Tmp} {ty : TypeId} (h : fn.results = #[.cell p ty, .tmp u]) (tmps : Array Value) (P : Program) (w : World) (g : Nat) (t : TypeId) (cs : Array Value) (fr : Nat × Nat) (fs : Array Field)
    (hp : tmps.getD p undef = .pointer (some ⟨g, 0, none⟩)) (hg : w.heap[g]? = some (.cells cs t fr))
    (hu : P.underlying ty = some (.struct fs)) (hi : (P.info? ty).map (·.size) = some cs.size) :
    (results fn tmps).run P w = .ok (.tuple #[.agg cs, tmps.getD u undef]) w := by
  rw [results_cell_tmp h, hp]
  simp [asAddr, run_loadVar_row w g t ty cs fr _ hg hu rfl hi, Result.andThen]

theorem size40 (x y : Value) : (Try.prog.info? 40).map (·.size) = some (#[x, y] : Array Value).size := by kernel_rfl

theorem rnote_worn (w : World) (B : Nat) (a : Option Addr) (n c : Nat) (ks : KL) (low : Int) (s : ByteArray) (h : RefRow w B a n c ks) :
    Calls Try.prog 15 #[.agg #[.slice a n c, .int .u64 low], .int .u64 18446744073709551615, .string s] w fun e w' => e = .returned (.tuple #[.agg #[.slice a n c, .int .u64 low], .int .i64 37]) ∧ Below w.heap.size w w' := by
  clear h
  go_enter Try.func15, Try.ntmps15
  go_wp2
  refine bodyPost_ret (results_row_tmp (p := 6) (u := 7) (ty := 40) rfl _ _ _ (w.heap.size + 1) 40 #[.slice a n c, .int .u64 low] (0, 0) _ (by rfl) (heap_alloc2_new _ _ _) Try.underlying40 (size40 _ _)) rfl ?_
  exact ⟨rfl, ((Below.refl _ _).alloc (Nat.le_refl _) _).alloc (by simp) _⟩
theorem rnote_low (w : World) (B : Nat) (a : Option Addr) (n c : Nat) (ks : KL) (low pos : Int) (s : ByteArray) (h : RefRow w B a n c ks) (hp : pos < low) (hp1 : pos < 18446744073709551615) :
    Calls Try.prog 15 #[.agg #[.slice a n c, .int .u64 low], .int .u64 pos, .string s] w fun e w' => e = .returned (.tuple #[.agg #[.slice a n c, .int .u64 low], .int .i64 35]) ∧ Below w.heap.size w w' := by
  clear h
  have hq : (pos == 18446744073709551615) = false := by simp; omega
  go_enter Try.func15, Try.ntmps15
  go_wp2
  refine bodyPost_ret (results_row_tmp (p := 6) (u := 7) (ty := 40) rfl _ _ _ (w.heap.size + 1) 40 #[.slice a n c, .int .u64 low] (0, 0) _ (by rfl) (heap_alloc2_new _ _ _) Try.underlying40 (size40 _ _)) rfl ?_
  exact ⟨rfl, ((Below.refl _ _).alloc (Nat.le_refl _) _).alloc (by simp) _⟩
set_option maxRecDepth 100000 in
theorem rnote_known (w : World) (B : Nat) (a : Option Addr) (n c : Nat) (ks : KL) (low pos : Int) (xs : List Int) (s : ByteArray) (r : Int) (h : RefRow w B a n c ks) (hn : n ≤ 4096) (hp : low ≤ pos) (hp1 : pos < 18446744073709551615) (hk : lookK ks pos = some xs)
    (hr : r = if (strOfNums xs).toList == s.toList then 31 else 33) :
    Calls Try.prog 15 #[.agg #[.slice a n c, .int .u64 low], .int .u64 pos, .string s] w fun e w' => e = .returned (.tuple #[.agg #[.slice a n c, .int .u64 low], .int .i64 r]) ∧ Below w.heap.size w w' := by
  have hb : Below w.heap.size w ((w.alloc (.cells #[.slice a n c, .int .u64 low] 40)).alloc (.cells #[.slice none 0 0, .int .u64 0] 40)) := ((Below.refl _ _).alloc (Nat.le_refl _) _).alloc (by simp) _
  have hq : (pos == 18446744073709551615) = false := by simp; omega
  have hW0 : Whole ((w.alloc (.cells #[.slice a n c, .int .u64 low] 40)).alloc (.cells #[.slice none 0 0, .int .u64 0] 40)) w.heap.size 40 #[.slice a n c, .int .u64 low] := heap_alloc2_old w _ _
  have hW1 : Whole ((w.alloc (.cells #[.slice a n c, .int .u64 low] 40)).alloc (.cells #[.slice none 0 0, .int .u64 0] 40)) (w.heap.size + 1) 40 #[.slice none 0 0, .int .u64 0] := heap_alloc2_new w _ _
  obtain ⟨i, g, hi, rfl, hg, hcell, hcall⟩ := find_some _ B a n c ks low pos xs (h.later hb) hn hk
  have HC := Lib.hid hcall
  have HCE := Lib.hid hcell
  have HW0 := Lib.hid hW0
  have HW1 := Lib.hid hW1
  have HB := Lib.hid hb
  have hlow : ¬ pos < low := by omega
  have hi0 : ¬ ((i : Int) < 0) := by omega
  clear h hcall hcell hW0 hW1 hb hk
  by_cases hs : ((strOfNums xs).toList == s.toList) = true
  · rw [if_pos hs] at hr
    subst hr
    go_enter Try.func15, Try.ntmps15
    go_wp2_with (first
      | (go_at_call 24; go_loud ((with_reducible refine HC.out.mono ?_); rintro e w2 ⟨rfl, hb2⟩; clear HC; have hA0 := HW0.out.below hb2 HW0.out.lt; have hA1 := HW1.out.below hb2 HW1.out.lt; have d0 := hA0.cell 0; have d1 := hA0.cell 1; have d2 := hA0.lt; have d3 := hA1.cell 0; have d4 := hA1.cell 1; have d5 := hA1.lt; have d6 := hA1.free 0; have d7 := hA1.free 1; have d8 := (hb2.cell (p := ⟨g, i * 2 + 1, none⟩) hg).trans HCE.out; have d9 := Nat.lt_of_lt_of_le hg hb2.size; have HA1 := Lib.hid hA1))
      )
    have hF : Whole ((w2.setCell ⟨w.heap.size + 1, 0, none⟩ (.slice (some ⟨g, 0, none⟩) n c)).setCell ⟨w.heap.size + 1, 1, none⟩ (.int .u64 low)) (w.heap.size + 1) 40 #[.slice (some ⟨g, 0, none⟩) n c, .int .u64 low] := (HA1.out.put 0 _).put 1 _
    refine bodyPost_ret (results_row_tmp (p := 6) (u := 7) (ty := 40) rfl _ _ _ (w.heap.size + 1) 40 #[.slice (some ⟨g, 0, none⟩) n c, .int .u64 low] (0, 0) _ (by rfl) hF Try.underlying40 (size40 _ _)) rfl ?_
    exact ⟨rfl, ((HB.out.trans (hb2.mono (by simp; omega))).setCell (p := ⟨w.heap.size + 1, 0, none⟩) (by simp) _).setCell (p := ⟨w.heap.size + 1, 1, none⟩) (by simp) _⟩
  · rw [if_neg hs] at hr
    subst hr
    have hs' : ((strOfNums xs).toList == s.toList) = false := by simpa using hs
    clear hs
    go_enter Try.func15, Try.ntmps15
    go_wp2_with (first
      | (go_at_call 24; go_loud ((with_reducible refine HC.out.mono ?_); rintro e w2 ⟨rfl, hb2⟩; clear HC; have hA0 := HW0.out.below hb2 HW0.out.lt; have hA1 := HW1.out.below hb2 HW1.out.lt; have d0 := hA0.cell 0; have d1 := hA0.cell 1; have d2 := hA0.lt; have d3 := hA1.cell 0; have d4 := hA1.cell 1; have d5 := hA1.lt; have d6 := hA1.free 0; have d7 := hA1.free 1; have d8 := (hb2.cell (p := ⟨g, i * 2 + 1, none⟩) hg).trans HCE.out; have d9 := Nat.lt_of_lt_of_le hg hb2.size; have HA1 := Lib.hid hA1))
      )
    have hF : Whole ((w2.setCell ⟨w.heap.size + 1, 0, none⟩ (.slice (some ⟨g, 0, none⟩) n c)).setCell ⟨w.heap.size + 1, 1, none⟩ (.int .u64 low)) (w.heap.size + 1) 40 #[.slice (some ⟨g, 0, none⟩) n c, .int .u64 low] := (HA1.out.put 0 _).put 1 _
    refine bodyPost_ret (results_row_tmp (p := 6) (u := 7) (ty := 40) rfl _ _ _ (w.heap.size + 1) 40 #[.slice (some ⟨g, 0, none⟩) n c, .int .u64 low] (0, 0) _ (by rfl) hF Try.underlying40 (size40 _ _)) rfl ?_
    exact ⟨rfl, ((HB.out.trans (hb2.mono (by simp; omega))).setCell (p := ⟨w.heap.size + 1, 0, none⟩) (by simp) _).setCell (p := ⟨w.heap.size + 1, 1, none⟩) (by simp) _⟩
end Go.Proofs.Ytnbbbgoecndjhaa
