/-
  Contracts of the ballot's functions.
-/
import Derived.Test.YtaeeljdogfhoiaaRows
import Derived.WalkKit
import Derived.ProofKit
import Derived.OpenShut
import Derived.WalkLawsBesides
import Derived.WalkSpells
import Derived.Laws.BitsAllLaws
import Derived.Lib.Hide
namespace Go.Proofs.Ytaeeljdogfhoiaa
open Go.ChangeShapes Go.WideShapes Go.ChangeAt Go.RowKit

theorem and31 (b : Int) (h0 : 0 ≤ b) (h1 : b < 18446744073709551616) : bits BinOp.and IntKind.u64 b 31 = b % 32 := by
  rw [u64_and b 31 h0 h1 (by omega) (by omega)]
  have : b.toNat &&& (31 : Int).toNat = b.toNat % 32 := Nat.and_two_pow_sub_one_eq_mod b.toNat 5
  rw [this]; omega

theorem or5 (r n : Int) (h0 : 0 ≤ r) (h1 : r ≤ 576460752303423487) (h2 : 0 ≤ n) (h3 : n < 32) : bits BinOp.or IntKind.u64 (r * 32) n = 32 * r + n := by
  rw [u64_or (r * 32) n (by omega) (by omega) (by omega) (by omega)]
  have e : (r * 32).toNat = 2 ^ 5 * r.toNat := by omega
  rw [e, ← Nat.two_pow_add_eq_or_of_lt (by omega : n.toNat < 2 ^ 5)]
  omega

theorem ret_int {k : IntKind} {a b : Int} (h : a = b) : Ending.returned (.int k a) = .returned (.int k b) := by rw [h]

theorem of_any (b : Int) (w : World) (h0 : 0 ≤ b) (h1 : b < 18446744073709551616) :
    Calls Try.prog 15 #[.int .u64 b] w fun e w' => e = .returned (.agg #[.int .u64 (b / 32), .int .i64 (b % 32)]) ∧ Below w.heap.size w w' := by
  have h31 := and31 b h0 h1
  go_enter Try.func15, Try.ntmps15
  go_wp2
  exact bodyPost_ret (v := .agg #[.int .u64 (b / 32), .int .i64 (b % 32)]) (by simp [results, Try.results15, go_sem]) rfl ⟨rfl, (Below.refl _ _).alloc (Nat.le_refl _) _⟩

theorem whole_any (r n : Int) (w : World) (h0 : 0 ≤ r) (h1 : r ≤ 576460752303423487) (h2 : 0 ≤ n) (h3 : n < 32) :
    Calls Try.prog 14 #[.agg #[.int .u64 r, .int .i64 n]] w fun e w' => e = .returned (.int .u64 (32 * r + n)) ∧ Below w.heap.size w w' := by
  have h5 := or5 r n h0 h1 h2 h3
  go_enter Try.func14, Try.ntmps14
  go_wp2
  go_ret
  exact ⟨rfl, (Below.refl _ _).alloc (Nat.le_refl _) _⟩

/-- What Make tells, plain. -/
def mk (r n : Int) : Int × Int := if 0 ≤ n ∧ n < 32 then (if r ≤ 576460752303423487 then (32 * r + n, 0) else (0, 37)) else (0, 1)

theorem make_any (r n : Int) (w : World) (h0 : 0 ≤ r) (h1 : r < 18446744073709551616) :
    Calls Try.prog 8 #[.int .u64 r, .int .i64 n] w fun e w' => e = .returned (.tuple #[.int .u64 (mk r n).1, .int .i64 (mk r n).2]) ∧ Below w.heap.size w w' := by
  by_cases c1 : n < 0
  · go_enter Try.func8, Try.ntmps8
    go_wp2
    go_ret2
    exact ⟨by simp [mk, show ¬ (0 ≤ n ∧ n < 32) by omega], Below.refl _ _⟩
  by_cases c2 : 32 ≤ n
  · go_enter Try.func8, Try.ntmps8
    go_wp2
    go_ret2
    exact ⟨by simp [mk, show ¬ (0 ≤ n ∧ n < 32) by omega], Below.refl _ _⟩
  by_cases c3 : 576460752303423487 < r
  · go_enter Try.func8, Try.ntmps8
    go_wp2
    go_ret2
    exact ⟨by simp [mk, show (0 ≤ n ∧ n < 32) by omega, show ¬ (r ≤ 576460752303423487) by omega], Below.refl _ _⟩
  · go_enter Try.func8, Try.ntmps8
    go_wp2_with (go_at_call 14; refine (whole_any _ _ _ (by omega) (by omega) (by omega) (by omega)).mono ?_; rintro e w1 ⟨rfl, hb⟩)
    go_ret2
    exact ⟨by simp [mk, show (0 ≤ n ∧ n < 32) by omega, show (r ≤ 576460752303423487) by omega], hb⟩

theorem rmake_any (r n : Int) (w : World) (h0 : 0 ≤ r) (h1 : r < 18446744073709551616) :
    Calls Try.prog 9 #[.int .u64 r, .int .i64 n] w fun e w' => e = .returned (.tuple #[.int .u64 (mk r n).1, .int .i64 (mk r n).2]) ∧ w = w' := by
  by_cases c1 : n < 0
  · go_enter Try.func9, Try.ntmps9
    go_wp2
    go_ret2
    exact ⟨by simp [mk, show ¬ (0 ≤ n ∧ n < 32) by omega], rfl⟩
  by_cases c2 : 31 < n
  · go_enter Try.func9, Try.ntmps9
    go_wp2
    go_ret2
    exact ⟨by simp [mk, show ¬ (0 ≤ n ∧ n < 32) by omega], rfl⟩
  by_cases c3 : 576460752303423488 ≤ r
  · go_enter Try.func9, Try.ntmps9
    go_wp2
    go_ret2
    exact ⟨by simp [mk, show (0 ≤ n ∧ n < 32) by omega, show ¬ (r ≤ 576460752303423487) by omega], rfl⟩
  · go_enter Try.func9, Try.ntmps9
    go_wp2
    go_ret2
    exact ⟨by simp [mk, show (0 ≤ n ∧ n < 32) by omega, show (r ≤ 576460752303423487) by omega], rfl⟩

theorem field0 (x y : Value) (w : World) : (Instr.field 36 (Value.agg #[x, y]) 0).run Try.prog w = .ok x w := by kernel_rfl
theorem field1 (x y : Value) (w : World) : (Instr.field 36 (Value.agg #[x, y]) 1).run Try.prog w = .ok y w := by kernel_rfl

theorem round_any (b : Int) (w : World) (h0 : 0 ≤ b) (h1 : b < 18446744073709551616) :
    Calls Try.prog 12 #[.int .u64 b] w fun e w' => e = .returned (.int .u64 (b / 32)) ∧ Below w.heap.size w w' := by
  have hf := field0
  go_enter Try.func12, Try.ntmps12
  go_wp2_with (go_at_call 15; refine (of_any _ _ (by omega) (by omega)).mono ?_; rintro e w1 ⟨rfl, hb⟩)
  go_ret
  exact ⟨rfl, hb⟩

theorem node_any (b : Int) (w : World) (h0 : 0 ≤ b) (h1 : b < 18446744073709551616) :
    Calls Try.prog 13 #[.int .u64 b] w fun e w' => e = .returned (.int .i64 (b % 32)) ∧ Below w.heap.size w w' := by
  have hf := field1
  go_enter Try.func13, Try.ntmps13
  go_wp2_with (go_at_call 15; refine (of_any _ _ (by omega) (by omega)).mono ?_; rintro e w1 ⟨rfl, hb⟩)
  go_ret
  exact ⟨rfl, hb⟩

/-- What Next tells, plain. -/
def nx (b n : Int) : Int × Int := mk (if n ≤ b % 32 then b / 32 + 1 else b / 32) n

theorem of_at (b : Int) (w : World) (h0 : 0 ≤ b) (h1 : b < 18446744073709551616) :
    Calls Try.prog 15 #[.int .u64 b] w fun e w' => e = .returned (.agg #[.int .u64 (b / 32), .int .i64 (b % 32)]) ∧ w' = w.alloc (.cells #[.int .u64 (b / 32), .int .i64 (b % 32)] 36) := by
  have h31 := and31 b h0 h1
  go_enter Try.func15, Try.ntmps15
  go_wp2
  exact bodyPost_ret (v := .agg #[.int .u64 (b / 32), .int .i64 (b % 32)]) (by simp [results, Try.results15, go_sem]) rfl ⟨rfl, rfl⟩

theorem nx_le (b n : Int) (c : n ≤ b % 32) : nx b n = mk (b / 32 + 1) n := by simp [nx, c]
theorem nx_gt (b n : Int) (c : ¬ n ≤ b % 32) : nx b n = mk (b / 32) n := by simp [nx, c]

theorem next_any (b n : Int) (w : World) (h0 : 0 ≤ b) (h1 : b < 18446744073709551616) :
    Calls Try.prog 10 #[.int .u64 b, .int .i64 n] w fun e w' => e = .returned (.tuple #[.int .u64 (nx b n).1, .int .i64 (nx b n).2]) ∧ Below w.heap.size w w' := by
  have h31 := and31 b h0 h1
  by_cases c : n < b % 32
  · go_enter Try.func10, Try.ntmps10
    go_wp2_with (first | (go_at_call 15; refine (of_at _ _ (by omega) (by omega)).mono ?_; rintro e w1 ⟨rfl, rfl⟩) | (go_at_call 8; refine (make_any _ _ _ (by omega) (by omega)).mono ?_; rintro e w1 ⟨rfl, hb⟩))
    go_ret2
    exact ⟨by rw [nx_le b n (by omega)]; rfl, ((((Below.refl _ _).alloc (Nat.le_refl _) _).alloc (by simp) _).alloc (by simp; omega) _).trans (hb.mono (by simp; omega))⟩
  by_cases c2 : n = b % 32
  · have c3 : (n == b % 32) = true := by simpa using c2
    have H := Lib.hid c2
    clear c2
    go_enter Try.func10, Try.ntmps10
    go_wp2_with (first | (go_at_call 15; refine (of_at _ _ (by omega) (by omega)).mono ?_; rintro e w1 ⟨rfl, rfl⟩) | (go_at_call 8; refine (make_any _ _ _ (by omega) (by omega)).mono ?_; rintro e w1 ⟨rfl, hb⟩))
    go_ret2
    exact ⟨by rw [nx_le b n (by have := H.out; omega)]; rfl, ((((Below.refl _ _).alloc (Nat.le_refl _) _).alloc (by simp) _).alloc (by simp; omega) _).trans (hb.mono (by simp; omega))⟩
  · have c3 : (n == b % 32) = false := by simpa using c2
    go_enter Try.func10, Try.ntmps10
    go_wp2_with (first | (go_at_call 15; refine (of_at _ _ (by omega) (by omega)).mono ?_; rintro e w1 ⟨rfl, rfl⟩) | (go_at_call 8; refine (make_any _ _ _ (by omega) (by omega)).mono ?_; rintro e w1 ⟨rfl, hb⟩))
    go_ret2
    exact ⟨by rw [nx_gt b n (by omega)]; rfl, ((((Below.refl _ _).alloc (Nat.le_refl _) _).alloc (by simp) _).alloc (by simp; omega) _).trans (hb.mono (by simp; omega))⟩

theorem nx_bad (b n : Int) (c : ¬ (0 ≤ n ∧ n < 32)) : nx b n = (0, 1) := by unfold nx mk; rw [if_neg c]

/-- Where the next ballot stands. -/
def tg (b n : Int) : Int := if n ≤ b % 32 then 32 * (b / 32 + 1) + n else 32 * (b / 32) + n

theorem tg_bd (b n : Int) (h2 : 0 ≤ n) (h3 : n < 32) : b < tg b n ∧ tg b n ≤ b + 32 ∧ tg b n % 32 = n := by
  unfold tg; split <;> omega
theorem nx_ok (b n : Int) (h2 : 0 ≤ n) (h3 : n < 32) (h : tg b n < 18446744073709551616) : nx b n = (tg b n, 0) := by
  unfold nx mk; rw [if_pos ⟨h2, h3⟩]; unfold tg at *
  split <;> rename_i c <;> simp only [c, if_true, if_false] at h <;> rw [if_pos (by omega)]
theorem nx_worn (b n : Int) (h2 : 0 ≤ n) (h3 : n < 32) (h : ¬ tg b n < 18446744073709551616) : nx b n = (0, 37) := by
  unfold nx mk; rw [if_pos ⟨h2, h3⟩]; unfold tg at *
  split <;> rename_i c <;> simp only [c, if_true, if_false] at h <;> rw [if_neg (by omega)]

theorem rnext_any (b n : Int) (w : World) (h0 : 0 ≤ b) (h1 : b < 18446744073709551616) :
    Calls Try.prog 11 #[.int .u64 b, .int .i64 n] w fun e w' => e = .returned (.tuple #[.int .u64 (nx b n).1, .int .i64 (nx b n).2]) ∧ w = w' := by
  by_cases c1 : n < 0
  · go_enter Try.func11, Try.ntmps11
    go_wp2
    go_ret2
    exact ⟨by rw [nx_bad b n (by omega)]; rfl, rfl⟩
  by_cases c2 : 31 < n
  · go_enter Try.func11, Try.ntmps11
    go_wp2
    go_ret2
    exact ⟨by rw [nx_bad b n (by omega)]; rfl, rfl⟩
  · have hT := tg_bd b n (by omega) (by omega)
    go_enter Try.func11, Try.ntmps11
    go_wp2
    go_loop [0, 6] (fun x i => ∃ k : Nat, i = .int .i64 k ∧ x = .int .u64 (b + k) ∧ b + k < tg b n ∧ b + k < 18446744073709551616) (fun _ i => 32 - (intOf i).toNat)
    case atStart => exact ⟨0, rfl, by simp, by omega, by omega⟩
    case round =>
      obtain ⟨k, rfl, rfl, hk1, hk2⟩ := hrel
      obtain ⟨t1, t2, t3⟩ := hT
      by_cases e1 : b + k = 18446744073709551615
      · have e2 : (b + k == 18446744073709551615) = true := by simpa using e1
        have H := Lib.hid e1
        clear e1
        clear t3
        go_wp2
        go_ret2
        exact ⟨by rw [nx_worn b n (by omega) (by omega) (by have := H.out; omega)]; rfl, rfl⟩
      · have e2 : (b + k == 18446744073709551615) = false := by simpa using e1
        by_cases e3 : b + k + 1 = tg b n
        · have e4 : ((b + k + 1) % 32 == n) = true := by rw [e3]; simpa using t3
          have H := Lib.hid e3
          clear e3 t3
          go_wp2
          go_ret2
          exact ⟨by rw [nx_ok b n (by omega) (by omega) (by have := H.out; omega), ← H.out]; rfl, rfl⟩
        · have e4 : ((b + k + 1) % 32 == n) = false := by simp; omega
          clear t3
          go_wp2
          go_round
          case rel => exact ⟨k + 1, by go_num, by go_num, by omega, by omega⟩
          case measure => simp [intOf]; omega
end Go.Proofs.Ytaeeljdogfhoiaa
