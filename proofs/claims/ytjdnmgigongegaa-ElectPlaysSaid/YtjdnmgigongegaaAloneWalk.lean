/-
  The walk of ElectAlone.
-/
import Derived.Test.YtjdnmgigongegaaAwake
import Derived.Laws.BitsLemmas
namespace Go.Proofs.Ytjdnmgigongegaa
open Go.ChangeShapes Go.WideShapes Go.ChangeAt Go.RowKit

theorem E3.drewN {w : World} {b : Nat} {t l m : Int} (h : E3 w b t l m) (n : Nat) : E3 (w.drewN n) b t l m := ⟨h.c0, h.c1, h.c2, h.f0, h.f1, h.f2⟩
theorem left_q (b : Nat) (t l m : Int) (w : World) (h : E3 w b t l m) (n : Nat) :
    Calls Try.prog 14 #[.pointer (some ⟨b, 0, none⟩)] (w.drewN n) fun e w'' => e = .returned (.int .i64 l) ∧ ∃ m, w'' = w.drewN m :=
  (left_any b t l m _ (h.drewN n)).mono fun _ _ ⟨he, hw⟩ => ⟨he, n, hw.symm⟩
theorem top_q (b : Nat) (t l m : Int) (w : World) (h : E3 w b t l m) (n : Nat) :
    Calls Try.prog 15 #[.pointer (some ⟨b, 0, none⟩)] (w.drewN n) fun e w'' => e = .returned (.int .u64 m) ∧ ∃ m, w'' = w.drewN m :=
  (top_any b t l m _ (h.drewN n)).mono fun _ _ ⟨he, hw⟩ => ⟨he, n, hw.symm⟩

/-- What holds at the head of the loop: j ticks have gone by, q turns of T and r besides. -/
def AlRel (w : World) (b : Nat) (T K : Int) (many i : Value) (wr : World) : Prop :=
  ∃ q r j : Int, 0 ≤ q ∧ 0 ≤ r ∧ r < T ∧ j = q * T + r ∧ j ≤ K ∧ many = .int .i64 q ∧ i = .int .i64 (j + 1) ∧ E3 wr b T (T - r) 0 ∧ Below w.heap.size w wr

theorem alone_any (a p k : Int) (w : World) (h0 : 0 ≤ a) (h1 : a ≤ 255) (h2 : 0 ≤ p) (h3 : p ≤ 255) (h4 : 0 ≤ k) (h5 : k ≤ 65535) :
    Calls Try.prog 6 #[.int .u8 a, .int .u8 p, .int .u16 k] w fun e w' => e = .returned (.bool true) ∧ Below w.heap.size w w' := by
  have h31 := u8_and31 (x := a) (by omega) (by omega)
  have hb : 1 * 1 ≤ (p % 50 + 1) * (a % 32 + 1) := Int.mul_le_mul (by omega) (by omega) (by omega) (by omega)
  have hb2 : (p % 50 + 1) * (a % 32 + 1) ≤ 50 * 32 := Int.mul_le_mul (by omega) (by omega) (by omega) (by omega)
  go_enter Try.func6, Try.ntmps6
  go_wp2_with (first | (go_at_call 7; (with_reducible refine (awake_any _).mono ?_); rintro e w1 ⟨rfl, hb1⟩) | (go_at_call 8; (with_reducible refine (new_ok _ _ _ (by omega) (by omega) (by omega) (by omega)).mono ?_); rintro e w2 ⟨b, rfl, hbb, hE, hB⟩))
  clear h31
  have hBw := bnext hb1 hB
  have hwb : w.heap.size ≤ b := by have := hb1.size; omega
  clear hb1 hB hbb
  generalize hT : (p % 50 + 1) * (a % 32 + 1) = T at *
  generalize hK : k % 2000 = K at *
  have k0 : 0 ≤ K := by omega
  have k1 : K ≤ 2000 := by omega
  clear hT hK
  go_loopw [13, 15] (fun many i wr => AlRel w b T K many i wr) (fun _ i _ => (K + 1 - intOf i).toNat)
  case atStart => exact ⟨0, 0, 0, by omega, by omega, by omega, by simp, by omega, rfl, rfl, by simpa using hE, hBw⟩
  case round =>
    obtain ⟨q, r, j, hq0, hr0, hr1, hj, hjK, rfl, rfl, hEr, hbw⟩ := hrel
    have hqT : q * 1 ≤ q * T := Int.mul_le_mul_of_nonneg_left (by omega) hq0
    have HJ := Lib.hid hj
    have q1 : q ≤ j := by omega
    have q2 : 0 ≤ j := by omega
    clear hj hqT
    by_cases hlt : j + 1 ≤ K
    · by_cases hlast : r = T - 1
      · have hE1 : E3 wr b T 1 0 := by rw [hlast, show T - (T - 1) = 1 by omega] at hEr; exact hEr
        have hm : (q + 1) * T = j + 1 := by rw [HJ.out, Int.add_mul]; omega
        clear hEr hlast hr0 hr1
        go_wp2_with (go_at_call 10; (with_reducible refine (tick_yes _ _ _ _ hE1).mono ?_); rintro e w2 ⟨rfl, hE2, hg2⟩)
        go_roundw
        case rel => exact ⟨q + 1, 0, j + 1, by omega, by omega, by omega, by omega, by omega, rfl, rfl, by simpa using hE2, bgrow hbw hg2 hwb⟩
        case measure => simp [intOf]; omega
      · go_wp2_with (go_at_call 10; (with_reducible refine (tick_no _ _ _ _ _ hEr (by omega) (by omega)).mono ?_); rintro e w2 ⟨rfl, hE2, hg2⟩)
        go_roundw
        case rel => exact ⟨q, r + 1, j + 1, by omega, by omega, by omega, by have := HJ.out; omega, by omega, rfl, rfl, by rw [show T - (r + 1) = T - r - 1 by omega]; exact hE2, bgrow hbw hg2 hwb⟩
        case measure => simp [intOf]; omega
    · have e1 : j = K := by omega
      subst e1
      have d1 : j / T = q := by
        rw [HJ.out, Int.add_comm, Int.add_mul_ediv_right _ _ (by omega), Int.ediv_eq_zero_of_lt hr0 hr1]; omega
      have d2 : j % T = r := by
        rw [HJ.out, Int.add_comm, Int.add_mul_emod_self_right, Int.emod_eq_of_lt hr0 hr1]
      go_wp2
      go_quiet ((first | (go_at_call 14; exact left_q _ _ _ _ _ hEr _) | (go_at_call 15; exact top_q _ _ _ _ _ hEr _)))
      go_wp2
      go_ret
      exact ⟨rfl, below_drewN hbw _⟩
end Go.Proofs.Ytjdnmgigongegaa
