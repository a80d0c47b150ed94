/-
  The walk of BallotChain.
-/
import Derived.Test.YtaeeljdogfhoiaaWalks
import Derived.Laws.BitsLemmas
namespace Go.Proofs.Ytaeeljdogfhoiaa
open Go.ChangeShapes Go.WideShapes Go.ChangeAt Go.RowKit

theorem chain_long (a : Option Addr) (len cap : Nat) (b : Int) (w : World) (hl : 60 < len) (hm : len ≤ 9223372036854775807) :
    Calls Try.prog 5 #[.slice a len cap, .int .u32 b] w fun e w' => e = .returned (.bool true) ∧ Below w.heap.size w w' := by
  go_enter Try.func5, Try.ntmps5
  go_wp2_with (first | (go_at_call 7; (with_reducible refine (awake_any _).mono ?_); rintro e w1 ⟨rfl, hb1⟩))
  go_ret
  exact ⟨rfl, hb1⟩

set_option maxHeartbeats 1000000 in
theorem chain_any (a : Option Addr) (len cap : Nat) (f : Nat → Int) (b : Int) (w : World) (hl : len ≤ 60) (h0 : 0 ≤ b) (h1 : b ≤ 4294967295)
    (hc : ∀ i, i < len → ∃ blk off, a = some ⟨blk, off, none⟩ ∧ blk < w.heap.size ∧ w.cell? ⟨blk, off + i, none⟩ = some (.int .u8 (f i)) ∧ 0 ≤ f i ∧ f i ≤ 255) :
    Calls Try.prog 5 #[.slice a len cap, .int .u32 b] w fun e w' => e = .returned (.bool true) ∧ Below w.heap.size w w' := by
  go_enter Try.func5, Try.ntmps5
  go_wp2_with (first | (go_at_call 7; (with_reducible refine (awake_any _).mono ?_); rintro e w1 ⟨rfl, hb1⟩))
  go_loopw [6, 7] (fun bv i wr => ∃ k : Nat, ∃ c : Int, k ≤ len ∧ i = .int .i64 k ∧ bv = .int .u64 c ∧ 0 ≤ c ∧ c ≤ 4294967295 + 32 * k ∧ Below w.heap.size w wr) (fun _ i _ => len - (intOf i).toNat)
  case atStart => exact ⟨0, b, by omega, rfl, rfl, h0, by omega, hb1⟩
  case round =>
    obtain ⟨k, c, hk, rfl, rfl, hc0, hc1, hbw⟩ := hrel
    by_cases hlt : k < len
    · obtain ⟨blk, off, rfl, hblk, hcell, hf0, hf1⟩ := hc k hlt
      have hcell2 := (hbw.cell (p := ⟨blk, off + k, none⟩) hblk).trans hcell
      clear hcell hc
      have h31 := u8_and31 (x := f k) (by omega) (by omega)
      have q := tg_bd c (f k % 32) (by omega) (by omega)
      obtain ⟨t, ht⟩ : ∃ t, tg c (f k % 32) = t := ⟨_, rfl⟩
      rw [ht] at q
      obtain ⟨q1, q2, q3⟩ := q
      have HT := Lib.hid ht
      have Q3 := Lib.hid q3
      have q4 : (t % 32 == f k % 32) = true := by simpa using q3
      have q5 : t / 32 ≤ c / 32 + 1 := by omega
      have q6 : c / 32 ≤ t / 32 := by omega
      clear ht q3
      go_wp2_with (first | (go_at_call 10; (with_reducible refine (next_ok _ _ t _ (by omega) (by omega) (by omega) (by omega) HT.out (by omega)).mono ?_); rintro e w4 ⟨rfl, hb4⟩) | (go_at_call 12; (with_reducible refine (round_any _ _ (by omega) (by omega)).mono ?_); rintro e w5 ⟨rfl, hb5⟩) | (go_at_call 13; (with_reducible refine (node_any _ _ (by omega) (by omega)).mono ?_); rintro e w6 ⟨rfl, hb6⟩))
      go_roundw
      case rel =>
        refine ⟨k + 1, t, by omega, by go_num, rfl, by omega, by omega, bnext hbw ?_⟩
        repeat' (first | assumption | refine bnext (by assumption) ?_)
      case measure => simp [intOf]; omega
    · go_wp2
      go_ret
      exact ⟨rfl, hbw⟩

theorem chain_row (x : Addr) (len cap : Nat) (zs : List Int) (b : Int) (w : World) (hl : len ≤ cap) (hm : cap ≤ maxLen) (hz : zs.length = cap)
    (hcell : ∀ i, i < zs.length → w.cell? (x.add i) = some (.int .u8 (zs.getD i 0))) (hwf : ∀ n ∈ zs, (Lit.int .u8 n).wf = true) (h0 : 0 ≤ b) (h1 : b ≤ 4294967295) :
    Calls Try.prog 5 #[.slice (some x) len cap, .int .u32 b] w fun e w' => e = .returned (.bool true) ∧ Below w.heap.size w w' := by
  unfold maxLen at hm
  by_cases hb : 60 < len
  · exact chain_long _ len cap b w hb (by omega)
  · refine chain_any _ len cap (fun i => zs.getD i 0) b w (by omega) h0 h1 fun i hi => ?_
    obtain ⟨blk, off, hx, hc⟩ := ints_at hcell (by omega)
    have hci := hc i (by omega)
    have hr := range_u8 hwf i
    refine ⟨blk, off, by rw [hx], World.block_lt_of_cell? _ _ hci, hci, ?_⟩
    simpa using hr

theorem chain_nil (b : Int) (w : World) (h0 : 0 ≤ b) (h1 : b ≤ 4294967295) :
    Calls Try.prog 5 #[.slice none 0 0, .int .u32 b] w fun e w' => e = .returned (.bool true) ∧ Below w.heap.size w w' :=
  chain_any none 0 0 (fun _ => 0) b w (by omega) h0 h1 fun i hi => by omega
end Go.Proofs.Ytaeeljdogfhoiaa
