/-
  Contracts of net's functions: New, node, there, Len, Clone.
-/
import Derived.Test.YtdlooafmjpbecaaWd
import Derived.Maps.AppendAt
import Derived.OwnWalk
namespace Go.Proofs.Ytdlooafmjpbecaa
open Go.ChangeShapes Go.WideShapes Go.ChangeAt Go.RowKit

theorem ret_bool {p q : Bool} (h : p = q) : Ending.returned (.bool p) = .returned (.bool q) := by rw [h]

/-- What New leaves. -/
def NewOk (w : World) (B : Nat) (N : Int) (e : Ending) (w' : World) : Prop :=
  ∃ nb, e = .returned (.tuple #[.pointer (some ⟨nb, 0, none⟩), .int .i64 0]) ∧ NetAt w' B nb N (.slice none 0 0) [] ∧ Step B w w'

theorem new_ok (N : Int) (B : Nat) (w : World) (hB : B ≤ w.heap.size) (h0 : 1 ≤ N) (h1 : N ≤ 32) : Calls Try.prog 8 #[.int .i64 N] w (NewOk w B N) := by
  go_enter Try.func8, Try.ntmps8
  go_wp2
  go_ret2
  exact ⟨w.heap.size, rfl, ⟨hB, Whole.made _ _ _, World.ownsRow_nil _ _ _ _, by simp⟩, (Step.refl _ _).alloc hB _⟩

theorem node_yes (w : World) (nb : Nat) (N k : Int) (h : w.cell? ⟨nb, 0, none⟩ = some (.int .i64 N)) (h0 : 0 ≤ k) (h1 : k < N) :
    Calls Try.prog 15 #[.pointer (some ⟨nb, 0, none⟩), .int .i64 k] w fun e w' => e = .returned (.bool true) ∧ w = w' := by
  go_enter Try.func15, Try.ntmps15
  go_wp2
  go_ret
  exact ⟨rfl, rfl⟩

theorem len_any (w : World) (B nb : Nat) (N : Int) (v : Value) (ps : List Pk) (h : NetAt w B nb N v ps) :
    Calls Try.prog 11 #[.pointer (some ⟨nb, 0, none⟩)] w fun e w' => e = .returned (.int .i64 ps.length) ∧ w = w' := by
  have h1 := h.cell1
  rcases h.row.2 with ⟨rfl, hn⟩ | ⟨g, cap, cur, rfl, _⟩
  · rw [hn]
    clear h hn
    go_enter Try.func11, Try.ntmps11
    go_wp2
    go_ret
    exact ⟨rfl, rfl⟩
  · clear h
    go_enter Try.func11, Try.ntmps11
    go_wp2
    go_ret
    exact ⟨rfl, rfl⟩

theorem there_any (w : World) (B nb : Nat) (N : Int) (v : Value) (ps : List Pk) (i : Int) (b : Bool) (h : NetAt w B nb N v ps) (hb : (0 ≤ i ∧ i < ps.length ∧ b = true) ∨ (¬ (0 ≤ i ∧ i < ps.length) ∧ b = false)) :
    Calls Try.prog 17 #[.pointer (some ⟨nb, 0, none⟩), .int .i64 i] w fun e w' => e = .returned (.bool b) ∧ w = w' := by
  have h1 := h.cell1
  obtain ⟨a, cap, hv⟩ : ∃ a cap, v = .slice a ps.length cap := by
    rcases h.row.2 with ⟨rfl, hn⟩ | ⟨g, cap, cur, rfl, _⟩
    · exact ⟨none, 0, by rw [hn]⟩
    · exact ⟨_, _, rfl⟩
  subst hv
  clear h
  rcases hb with ⟨h2, h3, rfl⟩ | ⟨h2, rfl⟩
  · go_enter Try.func17, Try.ntmps17
    go_wp2
    go_ret
    exact ⟨rfl, rfl⟩
  · by_cases h4 : 0 ≤ i
    · have h5 : (ps.length : Int) ≤ i := by omega
      clear h2
      go_enter Try.func17, Try.ntmps17
      go_wp2
      go_ret
      exact ⟨ret_bool (by simp; omega), rfl⟩
    · clear h2
      go_enter Try.func17, Try.ntmps17
      go_wp2
      go_ret
      exact ⟨rfl, rfl⟩

theorem info5 : (Try.prog.info? 5).map (fun i => (i.zero, i.size, i.bytes)) = some (some (.int .u8 0), 1, 1) := by kernel_rfl

/-- A row of bytes that is read: nil, or its cells lie from an address on. -/
def Src (w : World) (a : Option Addr) (n : Nat) (bs : List Value) : Prop :=
  bs.length = n ∧ n ≤ 4096 ∧ (∀ u ∈ bs, u.oneCell' = true) ∧ ((a = none ∧ n = 0) ∨ ∃ ad, a = some ad ∧ ∀ j u, bs[j]? = some u → w.cell? (ad.add j) = some u)

/-- What Clone leaves: a slice of as many bytes, in a block of its own. -/
def Cloned (w : World) (n : Nat) (bs : List Value) (e : Ending) (w' : World) : Prop :=
  ∃ a c, e = .returned (.slice a n c) ∧ (0 < n → ∃ (g : Nat) (cs : Array Value) (f : Nat × Nat), a = some ⟨g, 0, none⟩ ∧ w'.heap[g]? = some (Obj.cells cs 5 f) ∧ (∀ (j : Nat) (u : Value), bs[j]? = some u → cs[j]? = some u) ∧ w.heap.size ≤ g) ∧ Below w.heap.size w w'

theorem clone_nil (c : Nat) (w : World) : Calls Try.prog 16 #[.slice none 0 c] w (Cloned w 0 []) := by
  have hn := @Lib.run_eql_slice_nil Try.prog
  go_enter Try.func16, Try.ntmps16
  go_wp2
  go_ret
  exact ⟨none, 0, rfl, fun h => by omega, Below.refl _ _⟩

theorem clone_some (ad : Addr) (n c : Nat) (bs : List Value) (w : World) (hl : bs.length = n) (h4 : n ≤ 4096) (h1 : ∀ u ∈ bs, u.oneCell' = true) (hc : ∀ j u, bs[j]? = some u → w.cell? (ad.add j) = some u) :
    Calls Try.prog 16 #[.slice (some ad) n c] w (Cloned w n bs) := by
  have hn := @Lib.run_eql_slice_nil Try.prog
  obtain ⟨i0, hi0, hz0, hz1, hz2⟩ := info_parts info5
  have hown0 : (w.alloc (.cells #[] 5)).ownsRow w.heap.size 5 1 (.slice (some ⟨w.heap.size, 0, none⟩) 0 0) 0 [] := World.ownsRow_made w #[] 0 (Nat.le_refl _) (by decide) rfl
  have hc1 : ∀ j u, bs[j]? = some u → (w.alloc (.cells #[] 5)).cell? (ad.add j) = some u := fun j u hj => (World.cell?_alloc_lt _ _ _ (World.block_lt_of_cell? _ _ (hc j u hj))).trans (hc j u hj)
  have HC := Lib.hid hc1
  have H1 := Lib.hid h1
  have HL := Lib.hid (show bs.length = n * 1 by omega)
  clear hc hc1 h1 hl
  go_enter Try.func16, Try.ntmps16
  go_wp2_with (at_builtin; refine wpList_append_own_at _ rfl (.tmp 5) (.tmp 6) 29 rfl w.heap.size 5 i0 (.int .u8 0) 1 1 Try.underlying29 hi0 hz0 hz1 hz2 rfl (by omega) (.slice (some ⟨w.heap.size, 0, none⟩) 0 0) 0 [] rfl hown0 ad n c bs rfl HL.out HC.out H1.out (by simp only [maxLen]; omega) (by omega) (by simp) ?_; intro v' w1 hown hgrow hnil hat)
  go_ret
  rw [List.nil_append, Nat.zero_add] at hown
  have hbel : Below w.heap.size w w1 := ((Below.refl _ _).alloc (Nat.le_refl _) _).grown hgrow (by simp) (fun k hk => by simp [Value.ownBlock] at hk; omega)
  rcases hown.2 with ⟨rfl, h0⟩ | ⟨g, cap, cur, rfl, hg, hh, hle, hmx, hsz, htk⟩
  · exact ⟨none, 0, by rw [h0]; rfl, fun h => by omega, hbel⟩
  · refine ⟨some ⟨g, 0, none⟩, cap, rfl, fun _ => ⟨g, cur, (0, 0), rfl, hh, fun j u hj => ?_, hg⟩, hbel⟩
    have hjn : j < n * 1 := by have := (List.getElem?_eq_some_iff.1 hj).1; rw [HL.out] at this; exact this
    rw [← htk, List.getElem?_take, if_pos hjn] at hj
    simpa using hj

end Go.Proofs.Ytdlooafmjpbecaa
