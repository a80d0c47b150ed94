/-
  The walk of ElectTurns.
-/
import Derived.Test.YtjdnmgigongegaaAwake
import Derived.Laws.BitsLemmas
namespace Go.Proofs.Ytjdnmgigongegaa
open Go.ChangeShapes Go.WideShapes Go.ChangeAt Go.RowKit

/-- What a tick tells and leaves. -/
def TickIs (t l : Int) (s : Bool) (l' : Int) : Prop := (l = 1 ∧ s = true ∧ l' = t) ∨ (2 ≤ l ∧ s = false ∧ l' = l - 1)

theorem tick_is (b : Nat) (t l m : Int) (s : Bool) (l' : Int) (w : World) (h : E3 w b t l m) (hs : TickIs t l s l') (h2 : l ≤ 9223372036854775807) :
    Calls Try.prog 10 #[.pointer (some ⟨b, 0, none⟩)] w fun e w' => e = .returned (.bool s) ∧ E3 w' b t l' m ∧ w.grownBy w' (some b) := by
  rcases hs with ⟨rfl, rfl, rfl⟩ | ⟨h1, rfl, rfl⟩
  · exact tick_yes b l' m w h
  · exact tick_no b t l m w h h1 h2

theorem some_ne {a b : Nat} (h : a ≠ b) : some a ≠ some b := by simpa using h

/-- A count by turns of T: q turns and r. -/
theorem turn_step (T q r j : Int) (hr0 : 0 ≤ r) (hr1 : r < T) (hj : j = q * T + r) :
    ∃ s r' q', TickIs T (T - r) s (T - r') ∧ 0 ≤ r' ∧ r' < T ∧ j + 1 = q' * T + r' ∧ ((j + 1) % T == 0) = s ∧ (s = true → q' = q + 1 ∧ r' = 0) ∧ q ≤ q' := by
  by_cases h : r = T - 1
  · refine ⟨true, 0, q + 1, Or.inl ⟨by omega, rfl, by omega⟩, by omega, by omega, by rw [Int.add_mul]; omega, ?_, fun _ => ⟨rfl, rfl⟩, by omega⟩
    have e : j + 1 = (q + 1) * T := by rw [Int.add_mul]; omega
    rw [e, Int.mul_emod_left]; rfl
  · refine ⟨false, r + 1, q, Or.inr ⟨by omega, rfl, by omega⟩, by omega, by omega, by omega, ?_, fun h => by simp at h, by omega⟩
    have e : j + 1 = (r + 1) + q * T := by omega
    rw [e, Int.add_mul_emod_self_right, Int.emod_eq_of_lt (by omega) (by omega)]
    simp; omega

/-- What holds at the head of the loop: j ticks have gone by. -/
def TuRel (w : World) (ba bb bc : Nat) (T U M : Int) (first i : Value) (wr : World) : Prop :=
  ∃ q r q2 r2 j lc mc : Int, ∃ fb : Bool, 0 ≤ r ∧ r < T ∧ j = q * T + r ∧ 0 ≤ q2 ∧ 0 ≤ r2 ∧ r2 < U ∧ j = q2 * U + r2 ∧ 0 ≤ j ∧ j ≤ M ∧ i = .int .i64 (j + 1) ∧ first = .bool fb ∧ (T ≤ j → fb = true) ∧
    0 ≤ mc ∧ mc ≤ j ∧ ((T = 1 ∧ lc = 1) ∨ (2 ≤ lc ∧ lc ≤ T)) ∧ E3 wr ba T (T - r) 0 ∧ E3 wr bb U (U - r2) 0 ∧ E3 wr bc T lc mc ∧ Below w.heap.size w wr

set_option maxHeartbeats 2000000 in
theorem turns_any (a p c : Int) (w : World) (h0 : 0 ≤ a) (h1 : a ≤ 255) (h2 : 0 ≤ p) (h3 : p ≤ 255) (h4 : 0 ≤ c) (h5 : c ≤ 255) :
    Calls Try.prog 4 #[.int .u8 a, .int .u8 p, .int .u8 c] w fun e w' => e = .returned (.bool true) ∧ Below w.heap.size w w' := by
  have b1 : 1 * 1 ≤ (p % 6 + 1) * (a % 5 + 1) := Int.mul_le_mul (by omega) (by omega) (by omega) (by omega)
  have b2 : (p % 6 + 1) * (a % 5 + 1) ≤ 6 * 5 := Int.mul_le_mul (by omega) (by omega) (by omega) (by omega)
  have b3 : (p % 6 + 1) * (a % 5 + 1 + 1) = (p % 6 + 1) * (a % 5 + 1) + (p % 6 + 1) := by rw [Int.mul_add (p % 6 + 1) (a % 5 + 1) 1]; omega
  have B3 := Lib.hid b3
  clear b3
  go_enter Try.func4, Try.ntmps4
  go_wp2_with (first | (go_at_call 7; (with_reducible refine (awake_any _).mono ?_); rintro e w1 ⟨rfl, hb1⟩) | (go_at_call 8; (with_reducible refine (new_ok _ _ _ (by omega) (by omega) (by omega) (by omega)).mono ?_); rintro e w2 ⟨b, rfl, hbb, hE, hB⟩))
  rename_i wa ba hba hEa hBa wb bb hbb2 hEb hBb K ak
  have hwa : w.heap.size ≤ ba := by have := hb1.size; omega
  have hwb : w.heap.size ≤ bb := by have := hb1.size; have := hBa.size; omega
  have hwc : w.heap.size ≤ b := by have := hb1.size; have := hBa.size; have := hBb.size; omega
  have nab : ba ≠ bb := by have := hEa.lt; omega
  have nac : ba ≠ b := by have := hEa.lt; have := hBb.size; omega
  have nbc : bb ≠ b := by have := hEb.lt; omega
  have hA := (hEa.below hBb).below hB
  have hBB := hEb.below hB
  have hBw := bnext hb1 (bnext hBa (bnext hBb hB))
  rw [B3.out] at hBB
  clear B3 hb1 hBa hBb hB hEa hEb hba hbb2 hbb
  have r1 : 1 * 1 ≤ (p % 6 + 1) * (a % 5 + 1) * (c % 4 + 1) := Int.mul_le_mul b1 (by omega) (by omega) (by omega)
  have r2 : (p % 6 + 1) * (a % 5 + 1) * (c % 4 + 1) ≤ 6 * 5 * 4 := Int.mul_le_mul b2 (by omega) (by omega) (by omega)
  generalize hT : (p % 6 + 1) * (a % 5 + 1) = T at *
  clear hT
  obtain ⟨U, hU, hU2⟩ : ∃ U, T + (p % 6 + 1) = U ∧ T + 1 ≤ U ∧ U ≤ 36 := ⟨_, rfl, by omega, by omega⟩
  rw [hU] at hBB
  obtain ⟨hU2, hU3⟩ := hU2
  clear hU
  go_loopw [17, 18] (fun first i wr => TuRel w ba bb b T U (T * (c % 4 + 1)) first i wr) (fun _ i _ => (121 - intOf i).toNat)
  case atStart => exact ⟨0, 0, 0, 0, 0, T, 0, false, by omega, by omega, by omega, by omega, by omega, by omega, by omega, by omega, by omega, rfl, rfl, by omega, by omega, by omega, by omega, by simpa using hA, by simpa using hBB, hE, hBw⟩
  case round =>
    obtain ⟨q, r, q2, r2, j, lc, mc, fb, x1, x2, x3, x13, x4, x5, x6, x7, x8, rfl, rfl, x9, x10, x11, x12, eA, eB, eC, hbw⟩ := hrel
    have nba : some bb ≠ some ba := some_ne (fun e => nab e.symm)
    have nca : some b ≠ some ba := some_ne (fun e => nac e.symm)
    have nab' : some ba ≠ some bb := some_ne nab
    have ncb : some b ≠ some bb := some_ne (fun e => nbc e.symm)
    have nac' : some ba ≠ some b := some_ne nac
    have nbc' : some bb ≠ some b := some_ne nbc
    by_cases hlt : j + 1 ≤ T * (c % 4 + 1)
    · obtain ⟨s, r', q', t1, t2, t3, t4, t5, t6, t7⟩ := turn_step T q r j x1 x2 x3
      obtain ⟨s2, r2', q2', u1, u2, u3, u4, u5, u6, u7⟩ := turn_step U q2 r2 j x4 x5 x6
      have hfb : T ≤ j + 1 → (fb || s) = true := by
        intro h
        by_cases h' : T ≤ j
        · rw [x9 h']; rfl
        · have e : j + 1 = T := by omega
          rw [e, Int.emod_self] at t5
          rw [← t5]; simp
      have hs2 : s2 = true → fb = true := by
        intro h
        obtain ⟨e1, e2⟩ := u6 h
        refine x9 ?_
        have : 1 * U ≤ (q2 + 1) * U := Int.mul_le_mul_of_nonneg_right (by omega) (by omega)
        rw [e1, e2] at u4
        omega
      have T4 := Lib.hid t4
      have U4 := Lib.hid u4
      have hq2 : 0 ≤ q2' := by omega
      clear t4 u4 t6 u6 x3 x6 t7 u7 u5 x9
      have hlc : (T = 1 ∧ T = 1) ∨ (2 ≤ T ∧ T ≤ T) := by omega
      have HLC := Lib.hid hlc
      have HFB := Lib.hid hfb
      clear hlc hfb
      cases hs : s2 with
      | true =>
        rw [hs] at u1
        have hf := hs2 hs
        subst hf
        clear hs2 hs
        by_cases cT : T ≤ 1
        · have tC : TickIs T lc true T := Or.inl ⟨by omega, rfl, rfl⟩
          go_wp2_with (first | (go_at_call 10; (with_reducible refine (tick_is _ _ _ _ _ _ _ eA t1 (by omega)).mono ?_); rintro e w1 ⟨rfl, eA1, g1⟩; have eB1 := eB.kept g1 nba; have eC1 := eC.kept g1 nca) | (go_at_call 10; (with_reducible refine (tick_is _ _ _ _ _ _ _ eB1 u1 (by omega)).mono ?_); rintro e w1 ⟨rfl, eB2, g2⟩; have eA2 := eA1.kept g2 nab'; have eC2 := eC1.kept g2 ncb) | (go_at_call 10; (with_reducible refine (tick_is _ _ _ _ _ _ _ eC2 tC (by omega)).mono ?_); rintro e w1 ⟨rfl, eC3, g3⟩; have eA3 := eA2.kept g3 nac'; have eB3 := eB2.kept g3 nbc') | (go_at_call 14; (with_reducible refine (left_any _ _ _ _ _ eC3).mono ?_); rintro e w1 ⟨rfl, rfl⟩) | (go_at_call 12; (with_reducible refine (heard_yes _ _ _ _ _ _ eC3 (by omega)).mono ?_); rintro e w1 ⟨rfl, eC4, g4⟩; have eA4 := eA3.kept g4 nac'; have eB4 := eB3.kept g4 nbc'))
          all_goals
            go_roundw
            case rel => exact ⟨q', r', q2', r2', j + 1, T, j + 1, _, by omega, by omega, T4.out, by omega, by omega, by omega, U4.out, by omega, by omega, rfl, rfl, by first | exact HFB.out | exact fun _ => rfl | (intro h; have h2 := HFB.out h; simp_all), by omega, by omega, HLC.out, eA4, eB4, eC4, bgrow (bgrow (bgrow (bgrow hbw g1 hwa) g2 hwb) g3 hwc) g4 hwc⟩
            case measure => simp [intOf]; omega
        · by_cases cL : lc ≤ 2
          · have tC : TickIs T lc false 1 := Or.inr ⟨by omega, rfl, by omega⟩
            go_wp2_with (first | (go_at_call 10; (with_reducible refine (tick_is _ _ _ _ _ _ _ eA t1 (by omega)).mono ?_); rintro e w1 ⟨rfl, eA1, g1⟩; have eB1 := eB.kept g1 nba; have eC1 := eC.kept g1 nca) | (go_at_call 10; (with_reducible refine (tick_is _ _ _ _ _ _ _ eB1 u1 (by omega)).mono ?_); rintro e w1 ⟨rfl, eB2, g2⟩; have eA2 := eA1.kept g2 nab'; have eC2 := eC1.kept g2 ncb) | (go_at_call 10; (with_reducible refine (tick_is _ _ _ _ _ _ _ eC2 tC (by omega)).mono ?_); rintro e w1 ⟨rfl, eC3, g3⟩; have eA3 := eA2.kept g3 nac'; have eB3 := eB2.kept g3 nbc') | (go_at_call 14; (with_reducible refine (left_any _ _ _ _ _ eC3).mono ?_); rintro e w1 ⟨rfl, rfl⟩) | (go_at_call 12; (with_reducible refine (heard_yes _ _ _ _ _ _ eC3 (by omega)).mono ?_); rintro e w1 ⟨rfl, eC4, g4⟩; have eA4 := eA3.kept g4 nac'; have eB4 := eB3.kept g4 nbc'))
            all_goals
              go_roundw
              case rel => exact ⟨q', r', q2', r2', j + 1, T, j + 1, _, by omega, by omega, T4.out, by omega, by omega, by omega, U4.out, by omega, by omega, rfl, rfl, by first | exact HFB.out | exact fun _ => rfl | (intro h; have h2 := HFB.out h; simp_all), by omega, by omega, HLC.out, eA4, eB4, eC4, bgrow (bgrow (bgrow (bgrow hbw g1 hwa) g2 hwb) g3 hwc) g4 hwc⟩
              case measure => simp [intOf]; omega
          · have tC : TickIs T lc false (lc - 1) := Or.inr ⟨by omega, rfl, rfl⟩
            go_wp2_with (first | (go_at_call 10; (with_reducible refine (tick_is _ _ _ _ _ _ _ eA t1 (by omega)).mono ?_); rintro e w1 ⟨rfl, eA1, g1⟩; have eB1 := eB.kept g1 nba; have eC1 := eC.kept g1 nca) | (go_at_call 10; (with_reducible refine (tick_is _ _ _ _ _ _ _ eB1 u1 (by omega)).mono ?_); rintro e w1 ⟨rfl, eB2, g2⟩; have eA2 := eA1.kept g2 nab'; have eC2 := eC1.kept g2 ncb) | (go_at_call 10; (with_reducible refine (tick_is _ _ _ _ _ _ _ eC2 tC (by omega)).mono ?_); rintro e w1 ⟨rfl, eC3, g3⟩; have eA3 := eA2.kept g3 nac'; have eB3 := eB2.kept g3 nbc') | (go_at_call 14; (with_reducible refine (left_any _ _ _ _ _ eC3).mono ?_); rintro e w1 ⟨rfl, rfl⟩))
            all_goals
              go_roundw
              case rel => exact ⟨q', r', q2', r2', j + 1, lc - 1, mc, _, by omega, by omega, T4.out, by omega, by omega, by omega, U4.out, by omega, by omega, rfl, rfl, by first | exact HFB.out | exact fun _ => rfl | (intro h; have h2 := HFB.out h; simp_all), by omega, by omega, by omega, eA3, eB3, eC3, bgrow (bgrow (bgrow hbw g1 hwa) g2 hwb) g3 hwc⟩
              case measure => simp [intOf]; omega
      | false =>
        rw [hs] at u1
        clear hs2 hs
        by_cases cT : T ≤ 1
        · have tC : TickIs T lc true T := Or.inl ⟨by omega, rfl, rfl⟩
          go_wp2_with (first | (go_at_call 10; (with_reducible refine (tick_is _ _ _ _ _ _ _ eA t1 (by omega)).mono ?_); rintro e w1 ⟨rfl, eA1, g1⟩; have eB1 := eB.kept g1 nba; have eC1 := eC.kept g1 nca) | (go_at_call 10; (with_reducible refine (tick_is _ _ _ _ _ _ _ eB1 u1 (by omega)).mono ?_); rintro e w1 ⟨rfl, eB2, g2⟩; have eA2 := eA1.kept g2 nab'; have eC2 := eC1.kept g2 ncb) | (go_at_call 10; (with_reducible refine (tick_is _ _ _ _ _ _ _ eC2 tC (by omega)).mono ?_); rintro e w1 ⟨rfl, eC3, g3⟩; have eA3 := eA2.kept g3 nac'; have eB3 := eB2.kept g3 nbc') | (go_at_call 14; (with_reducible refine (left_any _ _ _ _ _ eC3).mono ?_); rintro e w1 ⟨rfl, rfl⟩) | (go_at_call 12; (with_reducible refine (heard_yes _ _ _ _ _ _ eC3 (by omega)).mono ?_); rintro e w1 ⟨rfl, eC4, g4⟩; have eA4 := eA3.kept g4 nac'; have eB4 := eB3.kept g4 nbc'))
          all_goals
            go_roundw
            case rel => exact ⟨q', r', q2', r2', j + 1, T, j + 1, _, by omega, by omega, T4.out, by omega, by omega, by omega, U4.out, by omega, by omega, rfl, rfl, by first | exact HFB.out | exact fun _ => rfl | (intro h; have h2 := HFB.out h; simp_all), by omega, by omega, HLC.out, eA4, eB4, eC4, bgrow (bgrow (bgrow (bgrow hbw g1 hwa) g2 hwb) g3 hwc) g4 hwc⟩
            case measure => simp [intOf]; omega
        · by_cases cL : lc ≤ 2
          · have tC : TickIs T lc false 1 := Or.inr ⟨by omega, rfl, by omega⟩
            go_wp2_with (first | (go_at_call 10; (with_reducible refine (tick_is _ _ _ _ _ _ _ eA t1 (by omega)).mono ?_); rintro e w1 ⟨rfl, eA1, g1⟩; have eB1 := eB.kept g1 nba; have eC1 := eC.kept g1 nca) | (go_at_call 10; (with_reducible refine (tick_is _ _ _ _ _ _ _ eB1 u1 (by omega)).mono ?_); rintro e w1 ⟨rfl, eB2, g2⟩; have eA2 := eA1.kept g2 nab'; have eC2 := eC1.kept g2 ncb) | (go_at_call 10; (with_reducible refine (tick_is _ _ _ _ _ _ _ eC2 tC (by omega)).mono ?_); rintro e w1 ⟨rfl, eC3, g3⟩; have eA3 := eA2.kept g3 nac'; have eB3 := eB2.kept g3 nbc') | (go_at_call 14; (with_reducible refine (left_any _ _ _ _ _ eC3).mono ?_); rintro e w1 ⟨rfl, rfl⟩) | (go_at_call 12; (with_reducible refine (heard_yes _ _ _ _ _ _ eC3 (by omega)).mono ?_); rintro e w1 ⟨rfl, eC4, g4⟩; have eA4 := eA3.kept g4 nac'; have eB4 := eB3.kept g4 nbc'))
            all_goals
              go_roundw
              case rel => exact ⟨q', r', q2', r2', j + 1, T, j + 1, _, by omega, by omega, T4.out, by omega, by omega, by omega, U4.out, by omega, by omega, rfl, rfl, by first | exact HFB.out | exact fun _ => rfl | (intro h; have h2 := HFB.out h; simp_all), by omega, by omega, HLC.out, eA4, eB4, eC4, bgrow (bgrow (bgrow (bgrow hbw g1 hwa) g2 hwb) g3 hwc) g4 hwc⟩
              case measure => simp [intOf]; omega
          · have tC : TickIs T lc false (lc - 1) := Or.inr ⟨by omega, rfl, rfl⟩
            go_wp2_with (first | (go_at_call 10; (with_reducible refine (tick_is _ _ _ _ _ _ _ eA t1 (by omega)).mono ?_); rintro e w1 ⟨rfl, eA1, g1⟩; have eB1 := eB.kept g1 nba; have eC1 := eC.kept g1 nca) | (go_at_call 10; (with_reducible refine (tick_is _ _ _ _ _ _ _ eB1 u1 (by omega)).mono ?_); rintro e w1 ⟨rfl, eB2, g2⟩; have eA2 := eA1.kept g2 nab'; have eC2 := eC1.kept g2 ncb) | (go_at_call 10; (with_reducible refine (tick_is _ _ _ _ _ _ _ eC2 tC (by omega)).mono ?_); rintro e w1 ⟨rfl, eC3, g3⟩; have eA3 := eA2.kept g3 nac'; have eB3 := eB2.kept g3 nbc') | (go_at_call 14; (with_reducible refine (left_any _ _ _ _ _ eC3).mono ?_); rintro e w1 ⟨rfl, rfl⟩))
            all_goals
              go_roundw
              case rel => exact ⟨q', r', q2', r2', j + 1, lc - 1, mc, _, by omega, by omega, T4.out, by omega, by omega, by omega, U4.out, by omega, by omega, rfl, rfl, by first | exact HFB.out | exact fun _ => rfl | (intro h; have h2 := HFB.out h; simp_all), by omega, by omega, by omega, eA3, eB3, eC3, bgrow (bgrow (bgrow hbw g1 hwa) g2 hwb) g3 hwc⟩
              case measure => simp [intOf]; omega
    · clear x3 x6
      go_wp2
      go_ret
      exact ⟨rfl, hbw⟩
end Go.Proofs.Ytjdnmgigongegaa
