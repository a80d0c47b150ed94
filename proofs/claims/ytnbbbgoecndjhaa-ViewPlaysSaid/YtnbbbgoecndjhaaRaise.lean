/-
  The contract of Raise.
-/
import Derived.Test.YtnbbbgoecndjhaaAwake
import Derived.Maps.RangeWalk
namespace Go.Proofs.Ytnbbbgoecndjhaa
open Go.ChangeShapes Go.WideShapes Go.ChangeAt Go.RowKit Go.Maps
set_option linter.unusedVariables false

/-- What is known when all below low was given up. -/
def cut (low : Int) (M : Int → Option (List Int)) : Int → Option (List Int) := fun k => if k < low then none else M k
/-- What the map holds while the loop is under way. -/
def part (low : Int) (left : Lit → Bool) (F : Int → Value) : Int → Value := fun k => if k < low ∧ left (.int .u64 k) = false then .slice none 0 0 else F k

/-- The loop over the map is under way. -/
def Going (W : World) (b r n : Nat) (low : Int) (F : Int → Value) (left : Lit → Bool) (cnt : Nat) : Prop :=
  ∃ D : DataW Value, W.ranges Try.prog 27 selfR b r n D left cnt ∧ ∀ k : Int, 0 ≤ k → k ≤ 18446744073709551615 → D.atKey (.int .u64 k) (.held (.slice none 0 0)) = .held (part low left F k)

theorem key_strike (left : Lit → Bool) (x k : Int) : (left (.int .u64 k) && !(Lit.int .u64 k).sameKey (.int .u64 x)) = if k = x then false else left (.int .u64 k) := by
  by_cases h : k = x
  · subst h
    rw [if_pos rfl, (WideAt.sameKey_self (a := Lit.int .u64 k) trivial)]
    simp
  · rw [if_neg h, sameKey_ne (by intro e; injection e with _ e; exact h e)]
    simp

theorem part_keep {low x : Int} {left : Lit → Bool} {F : Int → Value} (hx : ¬ x < low) (k : Int) : part low (fun z => left z && !z.sameKey (.int .u64 x)) F k = part low left F k := by
  unfold part
  simp only [key_strike]
  by_cases h : k = x
  · subst h; simp [hx]
  · simp [h]
theorem part_drop {low x : Int} {left : Lit → Bool} {F : Int → Value} (hx : x < low) (k : Int) : part low (fun z => left z && !z.sameKey (.int .u64 x)) F k = if k = x then .slice none 0 0 else part low left F k := by
  unfold part
  simp only [key_strike]
  by_cases h : k = x
  · subst h; simp [hx]
  · simp [h]

theorem Going.kept {W W' : World} {b r n : Nat} {low : Int} {F : Int → Value} {left : Lit → Bool} {cnt : Nat} {row : Option Nat} (h : Going W b r n low F left cnt) (hg : W.grownBy W' row) (hb : some b ≠ row) (hr : some r ≠ row) : Going W' b r n low F left cnt := by
  obtain ⟨D, h1, h2⟩ := h; exact ⟨D, h1.kept hg hb hr, h2⟩

/-- A view that was put low: what is known is cut. -/
theorem VMem.cutTo {w W : World} {B vb mb n : Nat} {low low' next : Int} {M : Int → Option (List Int)} {F : Int → Value} (h : VMem w B vb mb n low next M F) (hg : w.grownBy W (some mb)) (hh : Whole W vb 58 #[.map (some mb), .int .u64 low', .int .u64 next])
    (hm : MAt W mb n (fun k => if k < low' then .slice none 0 0 else F k)) : VMem W B vb mb n low' next (cut low' M) (fun k => if k < low' then .slice none 0 0 else F k) := by
  refine ⟨h.base, h.baseM, hh, hm, fun k hk => ?_, fun k xs hk => ?_⟩
  · unfold cut at hk
    by_cases hl : k < low'
    · rw [if_pos hl]
    · rw [if_neg hl] at hk ⊢; exact h.absent k hk
  · unfold cut at hk
    by_cases hl : k < low'
    · rw [if_pos hl] at hk; cases hk
    · rw [if_neg hl] at hk
      obtain ⟨g, c, cs, fr, q1, q2, q3⟩ := h.known k xs hk
      refine ⟨g, c, cs, fr, by rw [if_neg hl]; exact q1, (hg.block g (heap_lt q2) (by have := h.apart q2; simpa using this)).trans q2, q3⟩

theorem VMem.putLow {w : World} {B vb mb n : Nat} {low next : Int} {M : Int → Option (List Int)} {F : Int → Value} (h : VMem w B vb mb n low next M F) (lo : Int) : VMem (w.setCell ⟨vb, 1, none⟩ (.int .u64 lo)) B vb mb n lo next M F := by
  have hne : vb ≠ mb := h.apart h.head
  refine ⟨h.base, h.baseM, h.head.put 1 _, h.map.put (a := ⟨vb, 1, none⟩) (Ne.symm hne) _, h.absent, fun k xs hk => ?_⟩
  obtain ⟨g, c, cs, fr, q1, q2, q3⟩ := h.known k xs hk
  exact ⟨g, c, cs, fr, q1, (Below.heap_setCell w ⟨vb, 1, none⟩ (.int .u64 lo) g (type_ne q2 h.head (by decide))).trans q2, q3⟩

theorem part_start {low : Int} {D : DataW Value} {F : Int → Value} (hF : ∀ k : Int, 0 ≤ k → k ≤ 18446744073709551615 → D.atKey (.int .u64 k) (.held (.slice none 0 0)) = .held (F k)) :
    ∀ k : Int, 0 ≤ k → k ≤ 18446744073709551615 → D.atKey (.int .u64 k) (.held (.slice none 0 0)) = .held (part low (Maps.has D) F k) := by
  intro k k0 k1
  unfold part
  split
  · rename_i h
    exact atKey_of_not_has h.2 _
  · exact hF k k0 k1
theorem going_end {W : World} {b n : Nat} {low : Int} {D : DataW Value} {F : Int → Value} {left : Lit → Bool} (h : W.ownsMap Try.prog 27 selfR b n D) (hD : ∀ k : Int, 0 ≤ k → k ≤ 18446744073709551615 → D.atKey (.int .u64 k) (.held (.slice none 0 0)) = .held (part low left F k)) (hl : ∀ kl, left kl = false) :
    MAt W b n (fun k => if k < low then .slice none 0 0 else F k) := by
  refine ⟨D, h, fun k k0 k1 => (hD k k0 k1).trans ?_⟩
  unfold part
  simp [hl]
theorem raise_world {w W : World} {B vb mb n : Nat} {low0 next low : Int} {M : Int → Option (List Int)} {F : Int → Value} (h : VMem w B vb mb n low0 next M F) (hh : Whole (w.setCell ⟨vb, 1, none⟩ (.int .u64 low)) vb 58 (#[.map (some mb), .int .u64 low0, .int .u64 next].setIfInBounds 1 (.int .u64 low)))
    (hm : MAt W mb n (fun k => if k < low then .slice none 0 0 else F k)) (hg : (w.setCell ⟨vb, 1, none⟩ (.int .u64 low)).grownBy W (some mb)) (hB : B ≤ w.heap.size) :
    VMem W B vb mb n low next (cut low M) (fun k => if k < low then .slice none 0 0 else F k) ∧ Step B w W ∧ True := by
  have hmb : vb ≠ mb := h.apart h.head
  have h1 := h.putLow low
  refine ⟨h1.cutTo hg (hh.grown hg (by simpa using hmb)) hm, ⟨(((Below.refl B w).setCell (p := ⟨vb, 1, none⟩) h.base _).grown hg (by simpa using hB) (fun k hk => by injection hk with hk; have := h.baseM; omega)), fun k cs t f ht hk => ?_⟩, trivial⟩
  have h2 : (w.setCell ⟨vb, 1, none⟩ (.int .u64 low)).heap[k]? = some (.cells cs t f) := (Below.heap_setCell w ⟨vb, 1, none⟩ _ k (type_ne hk h.head ht)).trans hk
  exact (hg.block k (heap_lt h2) (by have := h1.apart h2; simpa using this)).trans h2
theorem cut_all {M : Int → Option (List Int)} {low0 low next nx : Int} (hx : Nx M low0 next) (h : ∀ k, low ≤ k → next ≤ k → k < nx → cut low M k ≠ none) (hgt : low0 < low) : ∀ k, low ≤ k → k < nx → cut low M k ≠ none := by
  intro k k1 k2
  by_cases hk : next ≤ k
  · exact h k k1 hk k2
  · have := hx.all k (by omega) (by omega)
    unfold cut
    rw [if_neg (by omega)]
    exact this

theorem bounds_u64' {n : Int} (h : (Lit.int .u64 n).wf = true) : 0 ≤ n ∧ n ≤ 18446744073709551615 := by
  simp [Lit.wf, IntKind.min, IntKind.max, IntKind.signed, IntKind.bits] at h
  omega
theorem going_drop {W : World} {b r n : Nat} {low x : Int} {D : DataW Value} {F : Int → Value} {left : Lit → Bool} {cnt : Nat} (h : W.ranges Try.prog 27 selfR b r n (D.del (.int .u64 x)) (fun z => left z && !z.sameKey (.int .u64 x)) cnt)
    (hD : ∀ k : Int, 0 ≤ k → k ≤ 18446744073709551615 → D.atKey (.int .u64 k) (.held (.slice none 0 0)) = .held (part low left F k)) (hx : x < low) (hu : 0 ≤ x ∧ x ≤ 18446744073709551615) :
    Going W b r n low F (fun z => left z && !z.sameKey (.int .u64 x)) cnt := by
  refine ⟨_, h, fun k k0 k1 => ?_⟩
  rw [part_drop hx]
  by_cases hk : k = x
  · subst hk
    rw [if_pos rfl, atKey_del_same]
  · rw [if_neg hk, atKey_del_other (by intro e; injection e with _ e; exact hk e)]
    exact hD k k0 k1

/-- What Raise leaves. -/
def Raised (w : World) (B vb mb n : Nat) (low : Int) (M : Int → Option (List Int)) (F : Int → Value) (e : Ending) (w' : World) : Prop :=
  ∃ nx, e = .returned (.tuple #[]) ∧ VMem w' B vb mb n low nx (cut low M) (fun k => if k < low then .slice none 0 0 else F k) ∧ Step B w w' ∧ Nx (cut low M) low nx

theorem raise_low (w : World) (B vb mb n : Nat) (low0 next : Int) (M : Int → Option (List Int)) (F : Int → Value) (low : Int) (h : VMem w B vb mb n low0 next M F) (h0 : 0 ≤ low) (h1 : low ≤ 18446744073709551615) (hle : low ≤ low0) :
    Calls Try.prog 13 #[.pointer (some ⟨vb, 0, none⟩), .int .u64 low] w fun e w' => e = .returned (.tuple #[]) ∧ w = w' := by
  have c1 : w.cell? ⟨vb, 1, none⟩ = some (.int .u64 low0) := h.head.cell 1
  have hlt := h.head.lt
  clear h
  go_enter Try.func13, Try.ntmps13
  go_wp2
  refine bodyPost_ret (results_none rfl _ _ _) rfl ?_
  exact ⟨rfl, rfl⟩

set_option maxRecDepth 100000 in
theorem raise_up (w : World) (B vb mb n : Nat) (low0 next : Int) (M : Int → Option (List Int)) (F : Int → Value) (low : Int) (h : VMem w B vb mb n low0 next M F) (hB : B ≤ w.heap.size) (hx : Nx M low0 next) (hlast : M 18446744073709551615 = none) (h00 : 0 ≤ low0) (h0 : 0 ≤ low) (h1 : low ≤ 18446744073709551615) (hgt : low0 < low) :
    Calls Try.prog 13 #[.pointer (some ⟨vb, 0, none⟩), .int .u64 low] w (Raised w B vb mb n low M F) := by
  have c0 : w.cell? ⟨vb, 0, none⟩ = some (.map (some mb)) := h.head.cell 0
  have c1 : w.cell? ⟨vb, 1, none⟩ = some (.int .u64 low0) := h.head.cell 1
  have f1 := h.head.free 1
  have hlt := h.head.lt
  have hgt' : ¬ low ≤ low0 := by omega
  have hh1 := h.head.put 1 (.int .u64 low)
  have hmb : vb ≠ mb := h.apart h.head
  have hm1 := h.map.put (a := ⟨vb, 1, none⟩) (Ne.symm hmb) (.int .u64 low)
  obtain ⟨D0, hown, hF⟩ := hm1
  have HV := Lib.hid h
  have HX := Lib.hid hx
  clear h hx
  go_enter Try.func13, Try.ntmps13
  go_wp2_with (first
    | (at_range; refine wpList_range_own _ rfl _ 56 rfl 27 23 keyed27 Try.underlying56 _ mb n _ rfl hown ?_; intro w0 hrg0 hg0 hs0; rw [World.size_setCell] at hrg0))
  go_loopw [4] (fun _ wr => ∃ (left : Lit → Bool) (cnt : Nat), Going wr mb w.heap.size n low F left cnt ∧ (w.setCell ⟨vb, 1, none⟩ (.int .u64 low)).grownBy wr (some mb)) (fun _ wr => wr.rangeLeft mb w.heap.size)
  case atStart => exact ⟨_, _, ⟨D0, hrg0, part_start hF⟩, hg0.but _⟩
  case round =>
    obtain ⟨left, cnt, ⟨D, hrg, hD⟩, hgw⟩ := hrel
    have d0 : wr.cell? ⟨vb, 0, none⟩ = some (.map (some mb)) := by
      have := hgw.block vb (by simpa using hlt) (by simpa using hmb)
      rw [World.cell?_of_block (a := ⟨vb, 0, none⟩) this]
      exact hh1.cell 0
    have HD := Lib.hid hD
    have HH := Lib.hid hh1
    have HG := Lib.hid hgw
    clear hD hh1 hF hown hrg0 hg0 hgw
    go_wp2_with (first
      | (at_next; refine wpList_next_ranges _ rfl _ rfl 27 keyed27 selfR (Value.int .u64) (fun c : Value => c) (fun key kl hkey => by obtain ⟨x, rfl, _⟩ := Maps.keyOf_int_inv Try.underlying27 hkey; exact ⟨x, rfl⟩) (fun v y _ => ⟨v, rfl⟩) mb w.heap.size n _ _ _ rfl hrg ?_ ?_))
    · intro _ hl0
      have hm := going_end hrg.owns HD.out hl0
      obtain ⟨hV2, hS2, hW2⟩ := raise_world HV.out HH.out hm HG.out hB
      have hla : cut low M 18446744073709551615 = none := by unfold cut; split; rfl; exact hlast
      have hq := HX.out
      have hq0 := hq.ge
      have hq1 := hq.top
      go_wp2_with (go_at_call 21; (with_reducible refine (on_ok _ B vb mb n low next _ _ hV2 h0 h1 (by omega) hq1 hla).mono ?_); rintro e w5 ⟨nx, rfl, hV5, hS5, p1, p2, p3, p4, p5⟩)
      go_end0
      exact ⟨nx, rfl, hV5, hS2.trans hS5, p1, p3, p5, cut_all HX.out p4 hgt⟩
    · intro x c kl y1 y2 w1 cnt1 hkx hlx hrc hat hrg1 hlt1 hg1 hs1 hen
      obtain ⟨x', ex, rfl, hwx⟩ := Maps.keyOf_int_inv Try.underlying27 hkx
      cases ex
      have HK := Lib.hid hkx
      have HA := Lib.hid hg1
      have e0 : w1.cell? ⟨vb, 0, none⟩ = some (.map (some mb)) := by
        have := hg1.block vb (by have := HG.out.size; simp at this; omega) (by simp; omega)
        rw [World.cell?_of_block (a := ⟨vb, 0, none⟩) this]
        exact d0
      have HS1 : Hid (w1.heap.size = wr.heap.size) := hs1
      clear hkx hlx hrc hat hg1 hs1
      go_wp2_with (first
        | (at_delete; refine wpList_delete_ranges _ rfl _ _ 56 27 rfl 23 keyed27 Try.underlying56 selfR mb w.heap.size n _ _ _ rfl hrg1 _ _ rfl HK.out ?_; intro w2 cnt2 hrg2 hle hturn; go_frame))
      · have hlt2 : x < low := by assumption
        rw [strike_twice] at hrg2
        have hu := bounds_u64' hwx
        go_roundw
        case rel => exact ⟨_, _, going_drop hrg2 HD.out hlt2 hu, (HG.out.andThen HA.out (fun j hj => by cases hj; exact Or.inl (by simp))).andThen hturn.grown (fun j hj => by cases hj; exact Or.inr rfl)⟩
        case measure => rw [hrg2.left_eq, hrg.left_eq]; omega
      · have hge : ¬ x < low := by omega
        go_roundw
        case rel => exact ⟨_, _, ⟨D, hrg1, fun k k0 k1 => by rw [part_keep hge]; exact HD.out k k0 k1⟩, HG.out.andThen HA.out (fun j hj => by cases hj; exact Or.inl (by simp))⟩
        case measure => rw [hrg1.left_eq, hrg.left_eq]; omega
end Go.Proofs.Ytnbbbgoecndjhaa
