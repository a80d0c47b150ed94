/-
  Note of nil; Note of whatever; Get.
-/
import Derived.Test.YtnbbbgoecndjhaaNoteWalk
namespace Go.Proofs.Ytnbbbgoecndjhaa
open Go.ChangeShapes Go.WideShapes Go.ChangeAt Go.RowKit

set_option maxRecDepth 100000 in
theorem note_nil (w : World) (B vb mb n : Nat) (low next : Int) (M : Int → Option (List Int)) (F : Int → Value) (pos : Int) (c : Nat) (h : VMem w B vb mb n low next M F) (hB : B ≤ w.heap.size)
    (h0 : 0 ≤ pos) (h1 : pos < 18446744073709551615) (hl0 : 0 ≤ low) (hlow : low ≤ pos) (hn0 : 0 ≤ next) (hn1 : next ≤ 18446744073709551615) (hk : M pos = none) (hlast : M 18446744073709551615 = none) (hn : n < 1000000) :
    Calls Try.prog 9 #[.pointer (some ⟨vb, 0, none⟩), .int .u64 pos, .slice none 0 c] w (Noted w B vb mb n low next M F pos []) := by
  have c0 : w.cell? ⟨vb, 0, none⟩ = some (.map (some mb)) := h.head.cell 0
  have c1 : w.cell? ⟨vb, 1, none⟩ = some (.int .u64 low) := h.head.cell 1
  have hlt := h.head.lt
  have hlook := h.map.look (k := pos) h0 (by omega)
  rw [h.absent pos hk] at hlook
  have hb3 : Below w.heap.size w (w.alloc (.cells #[] 5)).drew := ((Below.refl _ _).alloc (Nat.le_refl _) _).drew
  have hV3 := h.later hb3
  obtain ⟨w4, hst, hm4, ht4⟩ := hV3.map.store (by unfold maxLen; omega) h0 (by omega) (.slice (some ⟨w.heap.size, 0, none⟩) 0 0)
  have hV4 := hV3.noted (xs := []) (fr := (0, 0)) (heap_alloc_new w (.cells #[] 5)) (by intro j u hj; simp at hj) hm4 ht4
  have hla : upd M pos [] 18446744073709551615 = none := by unfold upd; rw [if_neg (by omega)]; exact hlast
  have hS4 : Step B w w4 := by
    refine ⟨(hb3.mono hB).grown ht4.grown (by have := hb3.size; omega) (fun k hk => by injection hk with hk; have := h.baseM; omega), fun k cs t f ht hk => ?_⟩
    have hk3 : (w.alloc (.cells #[] 5)).drew.heap[k]? = some (.cells cs t f) := (hb3.block k (heap_lt hk)).trans hk
    exact (ht4.grown.block k (heap_lt hk3) (by have := hV3.apart hk3; simpa using this)).trans hk3
  have HV := Lib.hid hV4
  have HS := Lib.hid hS4
  clear h hV3 hV4 hS4 hm4 ht4 hb3
  go_enter Try.func9, Try.ntmps9
  go_wp2
  go_region
  all_goals
    go_wp2_with (go_at_call 21; (with_reducible refine (on_ok _ B vb mb (n + 1) low next _ _ HV.out hl0 (by omega) hn0 hn1 hla).mono ?_); rintro e w5 ⟨nx, rfl, hV5, hS5, p1, p2, p3, p4, p5⟩)
    go_ret
    exact ⟨nx, _, _, rfl, hV5, Nat.le_refl _, HS.out.trans hS5, p1, p2, p3, p4, p5⟩

theorem note_ok (w : World) (B vb mb n : Nat) (low next : Int) (M : Int → Option (List Int)) (F : Int → Value) (pos : Int) (a : Option Addr) (l c : Nat) (xs : List Int) (h : VMem w B vb mb n low next M F) (hr : Src w a l (xs.map (Value.int .u8))) (hB : B ≤ w.heap.size)
    (h0 : 0 ≤ pos) (h1 : pos < 18446744073709551615) (hl0 : 0 ≤ low) (hlow : low ≤ pos) (hn0 : 0 ≤ next) (hn1 : next ≤ 18446744073709551615) (hk : M pos = none) (hlast : M 18446744073709551615 = none) (hn : n < 1000000) :
    Calls Try.prog 9 #[.pointer (some ⟨vb, 0, none⟩), .int .u64 pos, .slice a l c] w (Noted w B vb mb n low next M F pos xs) := by
  rcases hr.2.2.2 with ⟨rfl, rfl⟩ | ⟨ad, rfl, _⟩
  · have : xs = [] := by have := hr.1; simpa using this
    subst this
    exact note_nil w B vb mb n low next M F pos c h hB h0 h1 hl0 hlow hn0 hn1 hk hlast hn
  · exact note_src w B vb mb n low next M F pos ad l c xs h hr hB h0 h1 hl0 hlow hn0 hn1 hk hlast hn

/-- What Get of a known position leaves: bytes in a block of their own. -/
def Got (w : World) (xs : List Int) (e : Ending) (w' : World) : Prop :=
  ∃ a c, e = .returned (.tuple #[.slice a xs.length c, .int .i64 0]) ∧ (0 < xs.length → ∃ (g : Nat) (cs : Array Value), a = some ⟨g, 0, none⟩ ∧ Whole w' g 5 cs ∧ (∀ (j : Nat) (u : Value), (xs.map (Value.int .u8))[j]? = some u → cs[j]? = some u) ∧ w.heap.size ≤ g) ∧ Below w.heap.size w w'
theorem get_ok (w : World) (B vb mb n : Nat) (low next : Int) (M : Int → Option (List Int)) (F : Int → Value) (pos : Int) (xs : List Int) (h : VMem w B vb mb n low next M F)
    (h0 : 0 ≤ pos) (h1 : pos ≤ 18446744073709551615) (hlow : low ≤ pos) (hk : M pos = some xs) (hl : xs.length ≤ 4096) :
    Calls Try.prog 12 #[.pointer (some ⟨vb, 0, none⟩), .int .u64 pos] w (Got w xs) := by
  have c0 : w.cell? ⟨vb, 0, none⟩ = some (.map (some mb)) := h.head.cell 0
  have c1 : w.cell? ⟨vb, 1, none⟩ = some (.int .u64 low) := h.head.cell 1
  have hlt := h.head.lt
  obtain ⟨g, cc, hF, hrow⟩ := h.row hk hl
  have hlook := h.map.look (k := pos) h0 h1
  rw [hF] at hlook
  have hcl := clone_any _ _ cc _ w hrow.src
  have hnn := @Lib.run_eql_slice_nil Try.prog
  clear h hrow hF
  go_enter Try.func12, Try.ntmps12
  go_wp2_with (first | (go_at_call 23; (with_reducible refine hcl.mono ?_); rintro e w1 ⟨a, c, rfl, hd, hb⟩))
  go_ret2
  exact ⟨a, c, rfl, hd, hb⟩
end Go.Proofs.Ytnbbbgoecndjhaa
