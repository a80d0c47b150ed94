/-
  The walks of Note.
-/
import Derived.Test.YtnbbbgoecndjhaaNote
namespace Go.Proofs.Ytnbbbgoecndjhaa
open Go.ChangeShapes Go.WideShapes Go.ChangeAt Go.RowKit

/-- What Note of a known position leaves. -/
theorem note_known_c (w : World) (B vb mb n : Nat) (low next : Int) (M : Int → Option (List Int)) (F : Int → Value) (pos : Int) (a : Option Addr) (l c : Nat) (xs ys : List Int) (h : VMem w B vb mb n low next M F) (s2 : (convert 23 9 (.slice a l c)).run Try.prog w = .ok (.string (strOfNums xs)) w)
    (h0 : 0 ≤ pos) (h1 : pos < 18446744073709551615) (hlow : low ≤ pos) (hk : M pos = some ys) (hy : ys.length ≤ 4096) :
    Calls Try.prog 9 #[.pointer (some ⟨vb, 0, none⟩), .int .u64 pos, .slice a l c] w fun e w' => e = .returned (.int .i64 (if (strOfNums ys).toList == (strOfNums xs).toList then 31 else 33)) ∧ w = w' := by
  have c0 : w.cell? ⟨vb, 0, none⟩ = some (.map (some mb)) := h.head.cell 0
  have c1 : w.cell? ⟨vb, 1, none⟩ = some (.int .u64 low) := h.head.cell 1
  have hlt := h.head.lt
  obtain ⟨g, cc, hF, hrow⟩ := h.row hk hy
  have hlook := h.map.look (k := pos) h0 (by omega)
  rw [hF] at hlook
  have s1 := hrow.conv cc
  have hnn := @run_neq_slice_nil_any Try.prog
  clear h hrow hF
  cases hb : ((strOfNums ys).toList == (strOfNums xs).toList)
  all_goals
    go_enter Try.func9, Try.ntmps9
    go_wp2_with (first | (go_at_call 20; (with_reducible refine (equal_ok _ _ _ _ _ _ _ _ _ s1 s2).mono ?_); rw [hb]; rintro e w1 ⟨rfl, rfl⟩))
    go_ret
    exact ⟨rfl, rfl⟩

theorem note_known (w : World) (B vb mb n : Nat) (low next : Int) (M : Int → Option (List Int)) (F : Int → Value) (pos : Int) (a : Option Addr) (l c : Nat) (xs ys : List Int) (h : VMem w B vb mb n low next M F) (hr : Row w a l xs)
    (h0 : 0 ≤ pos) (h1 : pos < 18446744073709551615) (hlow : low ≤ pos) (hk : M pos = some ys) (hy : ys.length ≤ 4096) :
    Calls Try.prog 9 #[.pointer (some ⟨vb, 0, none⟩), .int .u64 pos, .slice a l c] w fun e w' => e = .returned (.int .i64 (if (strOfNums ys).toList == (strOfNums xs).toList then 31 else 33)) ∧ w = w' :=
  note_known_c w B vb mb n low next M F pos a l c xs ys h (hr.conv c) h0 h1 hlow hk hy

theorem note_low (w : World) (B vb mb n : Nat) (low next : Int) (M : Int → Option (List Int)) (F : Int → Value) (pos : Int) (v : Value) (h : VMem w B vb mb n low next M F)
    (h0 : 0 ≤ pos) (h1 : pos < 18446744073709551615) (hlow : pos < low) :
    Calls Try.prog 9 #[.pointer (some ⟨vb, 0, none⟩), .int .u64 pos, v] w fun e w' => e = .returned (.int .i64 35) ∧ w = w' := by
  have c1 : w.cell? ⟨vb, 1, none⟩ = some (.int .u64 low) := h.head.cell 1
  have hlt := h.head.lt
  clear h
  go_enter Try.func9, Try.ntmps9
  go_wp2
  go_ret
  exact ⟨rfl, rfl⟩
theorem note_worn (w : World) (vb : Nat) (v : Value) :
    Calls Try.prog 9 #[.pointer (some ⟨vb, 0, none⟩), .int .u64 18446744073709551615, v] w fun e w' => e = .returned (.int .i64 37) ∧ w = w' := by
  go_enter Try.func9, Try.ntmps9
  go_wp2
  go_ret
  exact ⟨rfl, rfl⟩

/-- What Note of a new position leaves. -/
def Noted (w : World) (B vb mb n : Nat) (low next : Int) (M : Int → Option (List Int)) (F : Int → Value) (pos : Int) (xs : List Int) (e : Ending) (w' : World) : Prop :=
  ∃ nx g c, e = .returned (.int .i64 0) ∧ VMem w' B vb mb (n + 1) low nx (upd M pos xs) (fun x => if x = pos then .slice (some ⟨g, 0, none⟩) xs.length c else F x) ∧ w.heap.size ≤ g ∧ Step B w w' ∧ low ≤ nx ∧ next ≤ nx ∧ nx ≤ 18446744073709551615 ∧ (∀ k, low ≤ k → next ≤ k → k < nx → upd M pos xs k ≠ none) ∧ upd M pos xs nx = none

theorem Src.later {w w' : World} {a : Option Addr} {n : Nat} {bs : List Value} (h : Src w a n bs) (hb : Below w.heap.size w w') : Src w' a n bs := by
  obtain ⟨h1, h2, h3, h4⟩ := h
  refine ⟨h1, h2, h3, ?_⟩
  rcases h4 with h4 | ⟨ad, rfl, h4⟩
  · exact Or.inl h4
  · exact Or.inr ⟨ad, rfl, fun j u hj => (hb.cell (World.block_lt_of_cell? _ _ (h4 j u hj))).trans (h4 j u hj)⟩

set_option maxRecDepth 100000 in
theorem note_src (w : World) (B vb mb n : Nat) (low next : Int) (M : Int → Option (List Int)) (F : Int → Value) (pos : Int) (ad : Addr) (l c : Nat) (xs : List Int) (h : VMem w B vb mb n low next M F) (hr : Src w (some ad) l (xs.map (Value.int .u8))) (hB : B ≤ w.heap.size)
    (h0 : 0 ≤ pos) (h1 : pos < 18446744073709551615) (hl0 : 0 ≤ low) (hlow : low ≤ pos) (hn0 : 0 ≤ next) (hn1 : next ≤ 18446744073709551615) (hk : M pos = none) (hlast : M 18446744073709551615 = none) (hn : n < 1000000) :
    Calls Try.prog 9 #[.pointer (some ⟨vb, 0, none⟩), .int .u64 pos, .slice (some ad) l c] w (Noted w B vb mb n low next M F pos xs) := by
  obtain ⟨i0, hi0, hz0, hz1, hz2⟩ := info_parts info5
  have c0 : w.cell? ⟨vb, 0, none⟩ = some (.map (some mb)) := h.head.cell 0
  have c1 : w.cell? ⟨vb, 1, none⟩ = some (.int .u64 low) := h.head.cell 1
  have hlt := h.head.lt
  have hlook := h.map.look (k := pos) h0 (by omega)
  rw [h.absent pos hk] at hlook
  have hll := hr.2.1
  have HV := Lib.hid h
  have hsrc : Src (w.alloc (.cells #[] 5)).drew (some ad) l (xs.map (Value.int .u8)) := hr.later ((Below.refl _ _).alloc (Nat.le_refl _) _).drew
  have hown0 : Hid ((w.alloc (.cells #[] 5)).drew.ownsRow w.heap.size 5 1 (.slice (some ⟨w.heap.size, 0, none⟩) 0 0) 0 []) := World.ownsRow_made w #[] 0 (Nat.le_refl _) (by decide) rfl
  have hxl : xs.length = l := by have := hr.1; simpa using this
  have hnews : Hid (∀ j u, (xs.map (Value.int .u8))[j]? = some u → (w.alloc (.cells #[] 5)).drew.cell? (ad.add j) = some u) := by
    rcases hsrc.2.2.2 with ⟨h, _⟩ | ⟨ad, h, hc⟩
    · cases h
    · injection h with h; subst h; exact hc
  have hone := Lib.hid hsrc.2.2.1
  have hnl := Lib.hid (show (xs.map (Value.int .u8)).length = l * 1 by simp [hxl])
  have HXL := Lib.hid hxl
  clear hxl hsrc h hr
  go_enter Try.func9, Try.ntmps9
  go_wp2
  go_region_law ((refine step_append_empty (by rfl) _ _ _ (by rfl) w.heap.size 5 i0 (.int .u8 0) 1 1 Try.underlying23 hi0 hz0 hz1 hz2 (by rfl) (by omega) w.heap.size (by rfl) hown0.out ad l c (xs.map (Value.int .u8)) (by rfl) hnl.out hnews.out hone.out (by simp only [maxLen]; omega) (by omega) (by simp) ?_; intro g cap cur w3 hh3 hg3 htk3 hgr3; have hb3 : Below w.heap.size w w3 := (((Below.refl _ _).alloc (Nat.le_refl _) _).drew).grown hgr3 (by simp) (fun k hk => by injection hk with hk; omega); have k0 := (hb3.cell (p := ⟨vb, 0, none⟩) hlt).trans c0; obtain ⟨w4, hst, hm4, ht4⟩ := (HV.out.later hb3).map.store (by unfold maxLen; omega) h0 (by omega) (.slice (some ⟨g, 0, none⟩) l cap)))
  all_goals
    rw [← HXL.out] at hm4
    have hx3 : ∀ (j : Nat) (u : Value), (xs.map (Value.int .u8))[j]? = some u → cur[j]? = some u := fun j u hj => by
      have hjl : j < l * 1 := by have := (List.getElem?_eq_some_iff.1 hj).1; rw [hnl.out] at this; exact this
      rw [← htk3, List.getElem?_take, if_pos hjl] at hj
      simpa using hj
    have hV4 := (HV.out.later hb3).noted hh3 hx3 hm4 ht4
    have hla : upd M pos xs 18446744073709551615 = none := by unfold upd; rw [if_neg (by omega)]; exact hlast
    have hS4 : Step B w w4 := by
      refine ⟨(hb3.mono hB).grown ht4.grown (by have := hb3.size; omega) (fun k hk => by injection hk with hk; have := HV.out.baseM; omega), fun k cs t f ht hk => ?_⟩
      have hk3 : w3.heap[k]? = some (.cells cs t f) := (hb3.block k (heap_lt hk)).trans hk
      exact (ht4.grown.block k (heap_lt hk3) (by have := (HV.out.later hb3).apart hk3; simpa using this)).trans hk3
    clear hlook
    go_wp2_with (go_at_call 21; (with_reducible refine (on_ok _ B vb mb (n + 1) low next _ _ hV4 hl0 (by omega) hn0 hn1 hla).mono ?_); rintro e w5 ⟨nx, rfl, hV5, hS5, p1, p2, p3, p4, p5⟩)
    go_ret
    exact ⟨nx, _, _, rfl, hV5, hg3, hS4.trans hS5, p1, p2, p3, p4, p5⟩
end Go.Proofs.Ytnbbbgoecndjhaa
