/-
  Contracts of view's small functions: New, Next, Low, bytes.Clone, bytes.Equal, on.
-/
import Derived.Test.YtnbbbgoecndjhaaWd
import Derived.OwnWalk
namespace Go.Proofs.Ytnbbbgoecndjhaa
open Go.ChangeShapes Go.WideShapes Go.ChangeAt Go.RowKit

theorem ret_bool {p q : Bool} (h : p = q) : Ending.returned (.bool p) = .returned (.bool q) := by rw [h]
theorem info5 : (Try.prog.info? 5).map (fun i => (i.zero, i.size, i.bytes)) = some (some (.int .u8 0), 1, 1) := by kernel_rfl

/-- A row of bytes that is read: nil, or its cells lie from an address on. -/
def Src (w : World) (a : Option Addr) (n : Nat) (bs : List Value) : Prop :=
  bs.length = n ∧ n ≤ 4096 ∧ (∀ u ∈ bs, u.oneCell' = true) ∧ ((a = none ∧ n = 0) ∨ ∃ ad, a = some ad ∧ ∀ j u, bs[j]? = some u → w.cell? (ad.add j) = some u)

/-- What Clone leaves: a slice of as many bytes, in a block of its own. -/
def Cloned (w : World) (n : Nat) (bs : List Value) (e : Ending) (w' : World) : Prop :=
  ∃ a c, e = .returned (.slice a n c) ∧ (0 < n → ∃ (g : Nat) (cs : Array Value), a = some ⟨g, 0, none⟩ ∧ Whole w' g 5 cs ∧ (∀ (j : Nat) (u : Value), bs[j]? = some u → cs[j]? = some u) ∧ w.heap.size ≤ g) ∧ Below w.heap.size w w'

theorem clone_nil (c : Nat) (w : World) : Calls Try.prog 23 #[.slice none 0 c] w (Cloned w 0 []) := by
  have hn := @Lib.run_eql_slice_nil Try.prog
  go_enter Try.func23, Try.ntmps23
  go_wp2
  go_ret
  exact ⟨none, 0, rfl, fun h => by omega, Below.refl _ _⟩

theorem clone_some (ad : Addr) (n c : Nat) (bs : List Value) (w : World) (hl : bs.length = n) (h4 : n ≤ 4096) (h1 : ∀ u ∈ bs, u.oneCell' = true) (hc : ∀ j u, bs[j]? = some u → w.cell? (ad.add j) = some u) :
    Calls Try.prog 23 #[.slice (some ad) n c] w (Cloned w n bs) := by
  have hn := @Lib.run_eql_slice_nil Try.prog
  obtain ⟨i0, hi0, hz0, hz1, hz2⟩ := info_parts info5
  have hown0 : (w.alloc (.cells #[] 5)).ownsRow w.heap.size 5 1 (.slice (some ⟨w.heap.size, 0, none⟩) 0 0) 0 [] := World.ownsRow_made w #[] 0 (Nat.le_refl _) (by decide) rfl
  have hc1 : ∀ j u, bs[j]? = some u → (w.alloc (.cells #[] 5)).cell? (ad.add j) = some u := fun j u hj => (World.cell?_alloc_lt _ _ _ (World.block_lt_of_cell? _ _ (hc j u hj))).trans (hc j u hj)
  have HC := Lib.hid hc1
  have H1 := Lib.hid h1
  have HL := Lib.hid (show bs.length = n * 1 by omega)
  clear hc hc1 h1 hl
  go_enter Try.func23, Try.ntmps23
  go_wp2_with (at_builtin; refine wpList_append_own_at _ rfl (.tmp 5) (.tmp 6) 23 rfl w.heap.size 5 i0 (.int .u8 0) 1 1 Try.underlying23 hi0 hz0 hz1 hz2 rfl (by omega) (.slice (some ⟨w.heap.size, 0, none⟩) 0 0) 0 [] rfl hown0 ad n c bs rfl HL.out HC.out H1.out (by simp only [maxLen]; omega) (by omega) (by simp) ?_; intro v' w1 hown hgrow hnil hat)
  go_ret
  rw [List.nil_append, Nat.zero_add] at hown
  have hbel : Below w.heap.size w w1 := ((Below.refl _ _).alloc (Nat.le_refl _) _).grown hgrow (by simp) (fun k hk => by simp [Value.ownBlock] at hk; omega)
  rcases hown.2 with ⟨rfl, h0⟩ | ⟨g, cap, cur, rfl, hg, hh, hle, hmx, hsz, htk⟩
  · exact ⟨none, 0, by rw [h0]; rfl, fun h => by omega, hbel⟩
  · refine ⟨some ⟨g, 0, none⟩, cap, rfl, fun _ => ⟨g, cur, rfl, hh, fun j u hj => ?_, hg⟩, hbel⟩
    have hjn : j < n * 1 := by have := (List.getElem?_eq_some_iff.1 hj).1; rw [HL.out] at this; exact this
    rw [← htk, List.getElem?_take, if_pos hjn] at hj
    simpa using hj

theorem clone_any (a : Option Addr) (n c : Nat) (bs : List Value) (w : World) (h : Src w a n bs) : Calls Try.prog 23 #[.slice a n c] w (Cloned w n bs) := by
  obtain ⟨h1, h2, h3, h4⟩ := h
  rcases h4 with ⟨rfl, rfl⟩ | ⟨ad, rfl, h4⟩
  · have : bs = [] := List.eq_nil_of_length_eq_zero h1
    subst this
    exact clone_nil c w
  · exact clone_some ad n c bs w h1 h2 h3 h4

theorem Src.alloc {w : World} {a : Option Addr} {n : Nat} {bs : List Value} (h : Src w a n bs) (o : Obj) : Src (w.alloc o) a n bs := by
  obtain ⟨h1, h2, h3, h4⟩ := h
  refine ⟨h1, h2, h3, ?_⟩
  rcases h4 with h4 | ⟨ad, rfl, h4⟩
  · exact Or.inl h4
  · exact Or.inr ⟨ad, rfl, fun j u hj => (World.cell?_alloc_lt _ _ _ (World.block_lt_of_cell? _ _ (h4 j u hj))).trans (h4 j u hj)⟩

theorem gr_set {w w' : World} {b : Nat} (h : w.grownBy w' (some b)) (i : Nat) (v : Value) : w.grownBy (w'.setCell ⟨b, i, none⟩ v) (some b) :=
  ⟨h.os, h.tape, h.output, by simpa using h.size, fun k hk hr => (Below.heap_setCell _ _ _ _ (by intro e; exact hr (by rw [e]))).trans (h.block k hk hr)⟩
theorem gr_alloc {w w' : World} {row : Option Nat} (h : w.grownBy w' row) (o : Obj) : w.grownBy (w'.alloc o) row :=
  ⟨h.os, h.tape, h.output, by have := h.size; simp; omega, fun k hk hr => (Below.heap_alloc _ _ _ (by have := h.size; omega)).trans (h.block k hk hr)⟩
theorem gr_drew {w w' : World} {row : Option Nat} (h : w.grownBy w' row) : w.grownBy w'.drew row := ⟨h.os, h.tape, h.output, h.size, h.block⟩


/-- A view that knows nothing. -/
def NewOk (w : World) (B : Nat) (e : Ending) (w' : World) : Prop :=
  ∃ vb mb, e = .returned (.pointer (some ⟨vb, 0, none⟩)) ∧ VMem w' B vb mb 0 0 0 (fun _ => none) (fun _ => .slice none 0 0) ∧ Step B w w'
theorem new_ok (B : Nat) (w : World) (hB : B ≤ w.heap.size) : Calls Try.prog 8 #[] w (NewOk w B) := by
  have hmm := @run_makeMap Try.prog
  go_enter Try.func8, Try.ntmps8
  go_wp2
  go_ret
  have hs : (w.alloc (.map #[] 0)).heap.size = w.heap.size + 1 := by simp
  refine ⟨w.heap.size + 1, w.heap.size, rfl, ⟨by omega, hB, ?_, (MAt.made w).later ((Below.refl _ _).alloc (Nat.le_refl _) _), fun _ _ => rfl, fun _ _ h => by cases h⟩, ((Step.refl B w).alloc hB _).alloc (by simp; omega) _⟩
  exact Whole.madeAt _ _ _ _ hs

theorem next_ok (w : World) (B vb mb n : Nat) (low next : Int) (M : Int → Option (List Int)) (F : Int → Value) (h : VMem w B vb mb n low next M F) :
    Calls Try.prog 11 #[.pointer (some ⟨vb, 0, none⟩)] w fun e w' => e = .returned (.int .u64 next) ∧ w = w' := by
  have h1 := h.head.cell 2
  have h2 := h.head.lt
  clear h
  go_enter Try.func11, Try.ntmps11
  go_wp2
  go_ret
  exact ⟨rfl, rfl⟩
theorem low_ok (w : World) (B vb mb n : Nat) (low next : Int) (M : Int → Option (List Int)) (F : Int → Value) (h : VMem w B vb mb n low next M F) :
    Calls Try.prog 19 #[.pointer (some ⟨vb, 0, none⟩)] w fun e w' => e = .returned (.int .u64 low) ∧ w = w' := by
  have h1 := h.head.cell 1
  have h2 := h.head.lt
  clear h
  go_enter Try.func19, Try.ntmps19
  go_wp2
  go_ret
  exact ⟨rfl, rfl⟩
end Go.Proofs.Ytnbbbgoecndjhaa
