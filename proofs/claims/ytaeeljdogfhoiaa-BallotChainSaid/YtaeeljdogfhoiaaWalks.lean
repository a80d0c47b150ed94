/-
  The ballot laws' walks.
-/
import Derived.Test.YtaeeljdogfhoiaaFns
namespace Go.Proofs.Ytaeeljdogfhoiaa
open Go.ChangeShapes Go.WideShapes Go.ChangeAt Go.RowKit

theorem bnext {a b c : World} (h : Below a.heap.size a b) (k : Below b.heap.size b c) : Below a.heap.size a c := h.trans (k.mono h.size)

theorem make_11 (w : World) : Calls Try.prog 8 #[.int .u64 1, .int .i64 1] w fun e w' => e = .returned (.tuple #[.int .u64 33, .int .i64 0]) ∧ Below w.heap.size w w' :=
  make_any 1 1 w (by omega) (by omega)
theorem make_032 (w : World) : Calls Try.prog 8 #[.int .u64 0, .int .i64 32] w fun e w' => e = .returned (.tuple #[.int .u64 0, .int .i64 1]) ∧ Below w.heap.size w w' :=
  make_any 0 32 w (by omega) (by omega)
theorem next_33 (w : World) : Calls Try.prog 10 #[.int .u64 33, .int .i64 0] w fun e w' => e = .returned (.tuple #[.int .u64 64, .int .i64 0]) ∧ Below w.heap.size w w' :=
  next_any 33 0 w (by omega) (by omega)
theorem round_33 (w : World) : Calls Try.prog 12 #[.int .u64 33] w fun e w' => e = .returned (.int .u64 1) ∧ Below w.heap.size w w' :=
  round_any 33 w (by omega) (by omega)
theorem node_33 (w : World) : Calls Try.prog 13 #[.int .u64 33] w fun e w' => e = .returned (.int .i64 1) ∧ Below w.heap.size w w' :=
  node_any 33 w (by omega) (by omega)

theorem awake_any (w : World) : Calls Try.prog 7 #[] w fun e w' => e = .returned (.bool true) ∧ Below w.heap.size w w' := by
  go_enter Try.func7, Try.ntmps7
  go_wp2_with (first | (go_at_call 8; (with_reducible refine (make_11 _).mono ?_); rintro e w1 ⟨rfl, hb1⟩) | (go_at_call 8; (with_reducible refine (make_032 _).mono ?_); rintro e w3 ⟨rfl, hb3⟩) | (go_at_call 10; (with_reducible refine (next_33 _).mono ?_); rintro e w2 ⟨rfl, hb2⟩) | (go_at_call 12; (with_reducible refine (round_33 _).mono ?_); rintro e w4 ⟨rfl, hb4⟩) | (go_at_call 13; (with_reducible refine (node_33 _).mono ?_); rintro e w5 ⟨rfl, hb5⟩))
  go_ret
  exact ⟨rfl, bnext hb1 (bnext hb2 (bnext hb3 (bnext hb4 hb5)))⟩

theorem makes_any (r b n : Int) (w : World) (h0 : 0 ≤ r) (h1 : r < 18446744073709551616) (h2 : 0 ≤ b) (h3 : b < 18446744073709551616) :
    Calls Try.prog 3 #[.int .u64 r, .int .u64 b, .int .i64 n] w fun e w' => e = .returned (.bool true) ∧ Below w.heap.size w w' := by
  go_enter Try.func3, Try.ntmps3
  go_wp2_with (first | (go_at_call 7; (with_reducible refine (awake_any _).mono ?_); rintro e w1 ⟨rfl, hb1⟩) | (go_at_call 8; (with_reducible refine (make_any _ _ _ (by omega) (by omega)).mono ?_); rintro e w2 ⟨rfl, hb2⟩) | (go_at_call 9; (with_reducible refine (rmake_any _ _ _ (by omega) (by omega)).mono ?_); rintro e w' ⟨rfl, rfl⟩) | (go_at_call 10; (with_reducible refine (next_any _ _ _ (by omega) (by omega)).mono ?_); rintro e w3 ⟨rfl, hb3⟩) | (go_at_call 11; (with_reducible refine (rnext_any _ _ _ (by omega) (by omega)).mono ?_); rintro e w' ⟨rfl, rfl⟩) | (go_at_call 12; (with_reducible refine (round_any _ _ (by omega) (by omega)).mono ?_); rintro e w4 ⟨rfl, hb4⟩) | (go_at_call 13; (with_reducible refine (node_any _ _ (by omega) (by omega)).mono ?_); rintro e w5 ⟨rfl, hb5⟩))
  go_ret
  exact ⟨rfl, bnext hb1 (bnext hb2 (bnext hb3 (bnext hb4 hb5)))⟩

theorem make_ok (r n : Int) (w : World) (h0 : 0 ≤ r) (h1 : r ≤ 576460752303423487) (h2 : 0 ≤ n) (h3 : n < 32) :
    Calls Try.prog 8 #[.int .u64 r, .int .i64 n] w fun e w' => e = .returned (.tuple #[.int .u64 (32 * r + n), .int .i64 0]) ∧ Below w.heap.size w w' := by
  have h := make_any r n w (by omega) (by omega)
  unfold mk at h
  rw [if_pos ⟨h2, h3⟩, if_pos h1] at h
  exact h

theorem next_ok (b n t : Int) (w : World) (h0 : 0 ≤ b) (h1 : b < 18446744073709551616) (h2 : 0 ≤ n) (h3 : n < 32) (h4 : tg b n = t) (h5 : t < 18446744073709551616) :
    Calls Try.prog 10 #[.int .u64 b, .int .i64 n] w fun e w' => e = .returned (.tuple #[.int .u64 t, .int .i64 0]) ∧ Below w.heap.size w w' := by
  have h := next_any b n w (by omega) (by omega)
  rw [nx_ok b n h2 h3 (by omega), h4] at h
  exact h

theorem next_worn (b n : Int) (w : World) (h0 : 0 ≤ b) (h1 : b < 18446744073709551616) (h2 : 0 ≤ n) (h3 : n < 32) (h5 : 18446744073709551616 ≤ tg b n) :
    Calls Try.prog 10 #[.int .u64 b, .int .i64 n] w fun e w' => e = .returned (.tuple #[.int .u64 0, .int .i64 37]) ∧ Below w.heap.size w w' := by
  have h := next_any b n w (by omega) (by omega)
  rw [nx_worn b n h2 h3 (by omega)] at h
  exact h

theorem mk_bad (r n : Int) (h : ¬ (0 ≤ n ∧ n < 32 ∧ r ≤ 576460752303423487)) : ((mk r n).snd != 0) = true := by
  unfold mk; split
  · split
    · omega
    · rfl
  · rfl

theorem order_bad (a b n m : Int) (w : World) (h0 : 0 ≤ a) (h1 : a < 18446744073709551616) (h2 : 0 ≤ b) (h3 : b < 18446744073709551616)
    (h : ¬ (0 ≤ n ∧ n < 32 ∧ a ≤ 576460752303423487)) :
    Calls Try.prog 4 #[.int .u64 a, .int .u64 b, .int .i64 n, .int .i64 m] w fun e w' => e = .returned (.bool true) ∧ Below w.heap.size w w' := by
  have hk := mk_bad a n h
  clear h
  go_enter Try.func4, Try.ntmps4
  go_wp2_with (first | (go_at_call 7; (with_reducible refine (awake_any _).mono ?_); rintro e w1 ⟨rfl, hb1⟩) | (go_at_call 8; (with_reducible refine (make_any _ _ _ (by omega) (by omega)).mono ?_); rintro e w2 ⟨rfl, hb2⟩))
  go_ret
  exact ⟨rfl, bnext hb1 (bnext (by assumption) hb2)⟩

theorem order_bad2 (a b n m : Int) (w : World) (h0 : 0 ≤ a) (h1 : a ≤ 576460752303423487) (h2 : 0 ≤ b) (h3 : b < 18446744073709551616)
    (hn0 : 0 ≤ n) (hn1 : n < 32) (h : ¬ (0 ≤ m ∧ m < 32 ∧ b ≤ 576460752303423487)) :
    Calls Try.prog 4 #[.int .u64 a, .int .u64 b, .int .i64 n, .int .i64 m] w fun e w' => e = .returned (.bool true) ∧ Below w.heap.size w w' := by
  have hk := mk_bad b m h
  clear h
  go_enter Try.func4, Try.ntmps4
  go_wp2_with (first | (go_at_call 7; (with_reducible refine (awake_any _).mono ?_); rintro e w1 ⟨rfl, hb1⟩) | (go_at_call 8; (with_reducible refine (make_ok a _ _ (by omega) (by omega) (by omega) (by omega)).mono ?_); rintro e w2 ⟨rfl, hb2⟩) | (go_at_call 8; (with_reducible refine (make_any _ _ _ (by omega) (by omega)).mono ?_); rintro e w3 ⟨rfl, hb3⟩))
  go_ret
  exact ⟨rfl, bnext hb1 (bnext (by assumption) (by assumption))⟩

theorem ret_true {p : Bool} (h : p = true) : Ending.returned (.bool p) = .returned (.bool true) := by rw [h]

theorem tg_le (b m n : Int) (h0 : 0 ≤ m) (h1 : m < 32) (h : n ≤ m) : tg (32 * b + m) n = 32 * (b + 1) + n := by
  unfold tg; rw [if_pos (by omega)]; omega
theorem tg_gt (b m n : Int) (h0 : 0 ≤ m) (h1 : m < 32) (h : m < n) : tg (32 * b + m) n = 32 * b + n := by
  unfold tg; rw [if_neg (by omega)]; omega

theorem order_worn (a b n m : Int) (w : World) (h0 : 0 ≤ a) (h1 : a ≤ 576460752303423487) (h2 : 0 ≤ b) (h3 : b ≤ 576460752303423487)
    (hn0 : 0 ≤ n) (hn1 : n < 32) (hm0 : 0 ≤ m) (hm1 : m < 32) (ht : 18446744073709551616 ≤ tg (32 * b + m) n) (hb : (b == 576460752303423487) = true) :
    Calls Try.prog 4 #[.int .u64 a, .int .u64 b, .int .i64 n, .int .i64 m] w fun e w' => e = .returned (.bool true) ∧ Below w.heap.size w w' := by
  go_enter Try.func4, Try.ntmps4
  go_wp2_with (first | (go_at_call 7; (with_reducible refine (awake_any _).mono ?_); rintro e w1 ⟨rfl, hb1⟩) | (go_at_call 8; (with_reducible refine (make_ok a _ _ (by omega) (by omega) (by omega) (by omega)).mono ?_); rintro e w2 ⟨rfl, hb2⟩) | (go_at_call 8; (with_reducible refine (make_ok b _ _ (by omega) (by omega) (by omega) (by omega)).mono ?_); rintro e w3 ⟨rfl, hb3⟩) | (go_at_call 10; (with_reducible refine (next_worn _ _ _ (by omega) (by omega) (by omega) (by omega) (by assumption)).mono ?_); rintro e w4 ⟨rfl, hb4⟩))
  go_ret
  exact ⟨rfl, bnext hb1 (bnext hb2 (bnext hb3 hb4))⟩

set_option maxHeartbeats 4000000 in
theorem order_ok (a b n m t : Int) (w : World) (h0 : 0 ≤ a) (h1 : a ≤ 576460752303423487) (h2 : 0 ≤ b) (h3 : b ≤ 576460752303423487)
    (hn0 : 0 ≤ n) (hn1 : n < 32) (hm0 : 0 ≤ m) (hm1 : m < 32) (ht : tg (32 * b + m) n = t) (ht2 : t < 18446744073709551616)
    (ho : (n ≤ m ∧ 32 * b + 32 + n ≤ t ∧ t ≤ 32 * b + 32 + n) ∨ (m < n ∧ 32 * b + n ≤ t ∧ t ≤ 32 * b + n)) :
    Calls Try.prog 4 #[.int .u64 a, .int .u64 b, .int .i64 n, .int .i64 m] w fun e w' => e = .returned (.bool true) ∧ Below w.heap.size w w' := by
  have HT := Lib.hid ht
  clear ht
  have q1 : 0 ≤ t := by omega
  have q2 : ((t % 32 : Int) == n) = true := by simp; omega
  have q3 : 32 * b + m < t := by omega
  have q4 : t - (32 * b + m) ≤ 32 := by omega
  have k1 : (32 * b + n == 32 * b + m) = (n == m) := by rw [Bool.eq_iff_iff]; simp
  go_enter Try.func4, Try.ntmps4
  go_wp2_with (first | (go_at_call 7; (with_reducible refine (awake_any _).mono ?_); rintro e w1 ⟨rfl, hb1⟩) | (go_at_call 8; (with_reducible refine (make_ok _ _ _ (by omega) (by omega) (by omega) (by omega)).mono ?_); rintro e w2 ⟨rfl, hb2⟩) | (go_at_call 10; (with_reducible refine (next_ok _ _ t _ (by omega) (by omega) (by omega) (by omega) HT.out (by omega)).mono ?_); rintro e w4 ⟨rfl, hb4⟩) | (go_at_call 13; (with_reducible refine (node_any _ _ (by omega) (by omega)).mono ?_); rintro e w5 ⟨rfl, hb5⟩))
  all_goals
    go_ret
    refine ⟨?_, bnext hb1 (bnext (by assumption) (bnext hb2 (bnext hb4 hb5)))⟩
    first | rfl | exact ret_true (by simp; omega) | skip

theorem order_any (a b n m : Int) (w : World) (h0 : 0 ≤ a) (h1 : a < 18446744073709551616) (h2 : 0 ≤ b) (h3 : b < 18446744073709551616) :
    Calls Try.prog 4 #[.int .u64 a, .int .u64 b, .int .i64 n, .int .i64 m] w fun e w' => e = .returned (.bool true) ∧ Below w.heap.size w w' := by
  by_cases c1 : 0 ≤ n ∧ n < 32 ∧ a ≤ 576460752303423487
  · by_cases c2 : 0 ≤ m ∧ m < 32 ∧ b ≤ 576460752303423487
    · by_cases c3 : n ≤ m
      · have ht := tg_le b m n (by omega) (by omega) c3
        by_cases c4 : b = 576460752303423487
        · exact order_worn a b n m w (by omega) (by omega) (by omega) (by omega) (by omega) (by omega) (by omega) (by omega) (by omega) (by simpa using c4)
        · exact order_ok a b n m _ w (by omega) (by omega) (by omega) (by omega) (by omega) (by omega) (by omega) (by omega) ht (by omega) (by omega)
      · have ht := tg_gt b m n (by omega) (by omega) (by omega)
        exact order_ok a b n m _ w (by omega) (by omega) (by omega) (by omega) (by omega) (by omega) (by omega) (by omega) ht (by omega) (by omega)
    · exact order_bad2 a b n m w (by omega) (by omega) (by omega) (by omega) (by omega) (by omega) c2
  · exact order_bad a b n m w (by omega) (by omega) (by omega) (by omega) c1

theorem parts_any (b c : Int) (w : World) (h0 : 0 ≤ b) (h1 : b < 18446744073709551616) (h2 : 0 ≤ c) (h3 : c < 18446744073709551616) :
    Calls Try.prog 6 #[.int .u64 b, .int .u64 c] w fun e w' => e = .returned (.bool true) ∧ Below w.heap.size w w' := by
  have e1 : 32 * (b / 32) + b % 32 = b := by omega
  go_enter Try.func6, Try.ntmps6
  go_wp2_with (first | (go_at_call 7; (with_reducible refine (awake_any _).mono ?_); rintro e w1 ⟨rfl, hb1⟩) | (go_at_call 8; (with_reducible refine (make_ok _ _ _ (by omega) (by omega) (by omega) (by omega)).mono ?_); rintro e w2 ⟨rfl, hb2⟩) | (go_at_call 12; (with_reducible refine (round_any _ _ (by omega) (by omega)).mono ?_); rintro e w4 ⟨rfl, hb4⟩) | (go_at_call 13; (with_reducible refine (node_any _ _ (by omega) (by omega)).mono ?_); rintro e w5 ⟨rfl, hb5⟩))
  · rename_i h
    go_ret
    refine ⟨ret_true (by rw [beq_iff_eq, Bool.eq_iff_iff, beq_iff_eq, beq_iff_eq]; omega), ?_⟩
    repeat' (first | assumption | refine bnext (by assumption) ?_)
  · rename_i h
    go_ret
    refine ⟨ret_true (by simp; omega), ?_⟩
    repeat' (first | assumption | refine bnext (by assumption) ?_)
end Go.Proofs.Ytaeeljdogfhoiaa
