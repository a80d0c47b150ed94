/-
  The walk of the elect laws' awake.
-/
import Derived.Test.YtjdnmgigongegaaFns
namespace Go.Proofs.Ytjdnmgigongegaa
open Go.ChangeShapes Go.WideShapes Go.ChangeAt Go.RowKit

theorem bnext {a b c : World} (h : Below a.heap.size a b) (k : Below b.heap.size b c) : Below a.heap.size a c := h.trans (k.mono h.size)
theorem bgrow {a b c : World} {k : Nat} (h : Below a.heap.size a b) (g : b.grownBy c (some k)) (hk : a.heap.size ≤ k) : Below a.heap.size a c :=
  h.grown g h.size (fun j hj => by cases hj; exact hk)

/-- What holds at the head of awake's loop. -/
def AwRel (w : World) (b : Nat) (n i : Value) (wr : World) : Prop :=
  ∃ k : Nat, i = .int .i64 k ∧ Below w.heap.size w wr ∧ ((k < 6 ∧ n = .int .i64 0 ∧ E3 wr b 6 (6 - k) 0) ∨ (k = 6 ∧ n = .int .i64 5 ∧ E3 wr b 6 6 0))

theorem awake_any (w : World) : Calls Try.prog 7 #[] w fun e w' => e = .returned (.bool true) ∧ Below w.heap.size w w' := by
  go_enter Try.func7, Try.ntmps7
  go_wp2_with (go_at_call 8; (with_reducible refine (new_ok 1 3 _ (by omega) (by omega) (by omega) (by omega)).mono ?_); rintro e w1 ⟨b, rfl, hb, hE, hB⟩)
  go_loopw [3, 4] (fun n i wr => AwRel w b n i wr) (fun _ i _ => 6 - (intOf i).toNat)
  case atStart => exact ⟨0, rfl, hB, Or.inl ⟨by omega, rfl, hE⟩⟩
  case round =>
    obtain ⟨k, rfl, hbw, hrel⟩ := hrel
    rcases hrel with ⟨hk, rfl, hEr⟩ | ⟨hk, rfl, hEr⟩
    · by_cases h5 : k = 5
      · subst h5
        have hEr' : E3 wr b 6 1 0 := hEr
        clear hEr
        go_wp2_with (go_at_call 10; (with_reducible refine (tick_yes _ _ _ _ hEr').mono ?_); rintro e w2 ⟨rfl, hE2, hg2⟩)
        go_roundw
        case rel => exact ⟨6, rfl, bgrow hbw hg2 hb, Or.inr ⟨rfl, rfl, hE2⟩⟩
        case measure => simp [intOf]
      · go_wp2_with (go_at_call 10; (with_reducible refine (tick_no _ _ _ _ _ hEr (by omega) (by omega)).mono ?_); rintro e w2 ⟨rfl, hE2, hg2⟩)
        go_roundw
        case rel => exact ⟨k + 1, by go_num, bgrow hbw hg2 hb, Or.inl ⟨by omega, rfl, by rw [show (6 : Int) - ↑(k + 1) = 6 - ↑k - 1 by omega]; exact hE2⟩⟩
        case measure => simp [intOf]; omega
    · subst hk
      go_wp2_with (first | (go_at_call 14; (with_reducible refine (left_any _ _ _ _ _ hEr).mono ?_); rintro e w2 ⟨rfl, rfl⟩) | (go_at_call 12; (with_reducible refine (heard_yes _ _ _ _ _ _ hEr (by omega)).mono ?_); rintro e w3 ⟨rfl, hE3, hg3⟩) | (go_at_call 15; (with_reducible refine (top_any _ _ _ _ _ hE3).mono ?_); rintro e w2 ⟨rfl, rfl⟩) | (go_at_call 12; (with_reducible refine (heard_no _ _ _ _ _ _ hE3 (by omega)).mono ?_); rintro e w3 ⟨rfl, rfl⟩))
      go_ret
      exact ⟨rfl, bgrow hbw hg3 hb⟩
end Go.Proofs.Ytjdnmgigongegaa
