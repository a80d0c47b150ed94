/-
  The walk of ElectHears.
-/
import Derived.Test.YtjdnmgigongegaaAwake
import Derived.Laws.BitsLemmas
namespace Go.Proofs.Ytjdnmgigongegaa
open Go.ChangeShapes Go.WideShapes Go.ChangeAt Go.RowKit

/-- What a tick leaves, whatever it tells. -/
def Ticked (w : World) (b : Nat) (t m : Int) (e : Ending) (w' : World) : Prop :=
  ∃ s L, e = .returned (.bool s) ∧ 1 ≤ L ∧ L ≤ t ∧ E3 w' b t L m ∧ w.grownBy w' (some b)

theorem tick_some (b : Nat) (t l m : Int) (w : World) (h : E3 w b t l m) (h1 : 1 ≤ l) (h2 : l ≤ t) (h3 : t ≤ 9223372036854775807) :
    Calls Try.prog 10 #[.pointer (some ⟨b, 0, none⟩)] w (Ticked w b t m) := by
  by_cases hl : l = 1
  · subst hl
    exact (tick_yes b t m w h).mono fun e w' ⟨he, hE, hg⟩ => ⟨true, t, he, by omega, by omega, hE, hg⟩
  · exact (tick_no b t l m w h (by omega) (by omega)).mono fun e w' ⟨he, hE, hg⟩ => ⟨false, l - 1, he, by omega, by omega, hE, hg⟩

theorem hears_long (a : Int) (ad : Option Addr) (len cap : Nat) (w : World) (hl : 60 < len) (hm : len ≤ 9223372036854775807) :
    Calls Try.prog 5 #[.int .u8 a, .slice ad len cap] w fun e w' => e = .returned (.bool true) ∧ Below w.heap.size w w' := by
  go_enter Try.func5, Try.ntmps5
  go_wp2_with (first | (go_at_call 7; (with_reducible refine (awake_any _).mono ?_); rintro e w1 ⟨rfl, hb1⟩))
  go_ret
  exact ⟨rfl, hb1⟩

/-- What holds at the head of the loop. -/
def HeRel (w : World) (b : Nat) (T : Int) (len : Nat) (top i : Value) (wr : World) : Prop :=
  ∃ k : Nat, ∃ L m : Int, k ≤ len ∧ i = .int .i64 k ∧ top = .int .u64 m ∧ 1 ≤ L ∧ L ≤ T ∧ 0 ≤ m ∧ E3 wr b T L m ∧ Below w.heap.size w wr

theorem hears_any (a : Int) (ad : Option Addr) (len cap : Nat) (f : Nat → Int) (w : World) (hl : len ≤ 60) (h0 : 0 ≤ a) (h1 : a ≤ 255)
    (hc : ∀ i, i < len → ∃ blk off, ad = some ⟨blk, off, none⟩ ∧ blk < w.heap.size ∧ w.cell? ⟨blk, off + i, none⟩ = some (.int .u8 (f i)) ∧ 0 ≤ f i ∧ f i ≤ 255) :
    Calls Try.prog 5 #[.int .u8 a, .slice ad len cap] w fun e w' => e = .returned (.bool true) ∧ Below w.heap.size w w' := by
  have h31 := u8_and31 (x := a) (by omega) (by omega)
  go_enter Try.func5, Try.ntmps5
  go_wp2_with (first | (go_at_call 7; (with_reducible refine (awake_any _).mono ?_); rintro e w1 ⟨rfl, hb1⟩) | (go_at_call 8; (with_reducible refine (new_ok _ _ _ (by omega) (by omega) (by omega) (by omega)).mono ?_); rintro e w2 ⟨b, rfl, hbb, hE, hB⟩))
  have hBw := bnext hb1 hB
  have hwb : w.heap.size ≤ b := by have := hb1.size; omega
  clear hb1 hB hbb
  obtain ⟨T, hT⟩ : ∃ T : Int, 5 * (a % 32 + 1) = T := ⟨_, rfl⟩
  rw [hT] at hE
  have t1 : 5 ≤ T := by omega
  have t2 : T ≤ 160 := by omega
  go_loopw [8, 9] (fun top i wr => HeRel w b T len top i wr) (fun _ i _ => len - (intOf i).toNat)
  case atStart => exact ⟨0, T, 0, by omega, rfl, rfl, by omega, by omega, by omega, hE, hBw⟩
  case round =>
    obtain ⟨k, L, m, hk, rfl, rfl, hL1, hL2, hm0, hEr, hbw⟩ := hrel
    by_cases hlt : k < len
    · obtain ⟨blk, off, rfl, hblk, hcell, hf0, hf1⟩ := hc k hlt
      have hne : blk ≠ b := by omega
      have hcell2 := (hbw.cell (p := ⟨blk, off + k, none⟩) hblk).trans hcell
      have h15 := u8_and15 (x := f k) (by omega) (by omega)
      have hbs : blk < wr.heap.size := by have := hbw.size; omega
      have HC := Lib.hid hcell2
      clear hcell hc hcell2
      have hne2 : some blk ≠ some b := by simp; omega
      by_cases hge : m ≤ f k % 16
      · go_wp2_with (first | (go_at_call 10; (with_reducible refine (tick_some _ _ _ _ _ hEr (by omega) (by omega) (by omega)).mono ?_); rintro e w2 ⟨s, L2, rfl, hL3, hL4, hE2, hg2⟩; have hcell3 := hg2.cell HC.out hne2) | (go_at_call 14; (with_reducible refine (left_any _ _ _ _ _ hE2).mono ?_); rintro e w4 ⟨rfl, rfl⟩) | (go_at_call 12; (with_reducible refine (heard_yes _ _ _ _ _ _ hE2 (by omega)).mono ?_); rintro e w3 ⟨rfl, hE3, hg3⟩) | (go_at_call 15; (with_reducible refine (top_any _ _ _ _ _ hE3).mono ?_); rintro e w4 ⟨rfl, rfl⟩) | (go_at_call 14; (with_reducible refine (left_any _ _ _ _ _ hE3).mono ?_); rintro e w5 ⟨rfl, rfl⟩))
        go_roundw
        case rel => exact ⟨k + 1, T, f k % 16, by omega, by go_num, rfl, by omega, by omega, by omega, hE3, bgrow (bgrow hbw hg2 hwb) hg3 hwb⟩
        case measure => simp [intOf]; omega
      · go_wp2_with (first | (go_at_call 10; (with_reducible refine (tick_some _ _ _ _ _ hEr (by omega) (by omega) (by omega)).mono ?_); rintro e w2 ⟨s, L2, rfl, hL3, hL4, hE2, hg2⟩; have hcell3 := hg2.cell HC.out hne2) | (go_at_call 14; (with_reducible refine (left_any _ _ _ _ _ hE2).mono ?_); rintro e w4 ⟨rfl, rfl⟩) | (go_at_call 12; (with_reducible refine (heard_no _ _ _ _ _ _ hE2 (by omega)).mono ?_); rintro e w3 ⟨rfl, rfl⟩) | (go_at_call 15; (with_reducible refine (top_any _ _ _ _ _ hE2).mono ?_); rintro e w4 ⟨rfl, rfl⟩))
        go_roundw
        case rel => exact ⟨k + 1, L2, m, by omega, by go_num, rfl, by omega, by omega, by omega, hE2, bgrow hbw hg2 hwb⟩
        case measure => simp [intOf]; omega
    · go_wp2
      go_ret
      exact ⟨rfl, hbw⟩

theorem hears_row (a : Int) (x : Addr) (len cap : Nat) (zs : List Int) (w : World) (hl : len ≤ cap) (hm : cap ≤ maxLen) (hz : zs.length = cap)
    (hcell : ∀ i, i < zs.length → w.cell? (x.add i) = some (.int .u8 (zs.getD i 0))) (hwf : ∀ n ∈ zs, (Lit.int .u8 n).wf = true) (h0 : 0 ≤ a) (h1 : a ≤ 255) :
    Calls Try.prog 5 #[.int .u8 a, .slice (some x) len cap] w fun e w' => e = .returned (.bool true) ∧ Below w.heap.size w w' := by
  unfold maxLen at hm
  by_cases hb : 60 < len
  · exact hears_long a _ len cap w hb (by omega)
  · refine hears_any a _ len cap (fun i => zs.getD i 0) w (by omega) h0 h1 fun i hi => ?_
    obtain ⟨blk, off, hx, hc⟩ := ints_at hcell (by omega)
    have hci := hc i (by omega)
    have hr := range_u8 hwf i
    refine ⟨blk, off, by rw [hx], World.block_lt_of_cell? _ _ hci, hci, ?_⟩
    simpa using hr

theorem hears_nil (a : Int) (w : World) (h0 : 0 ≤ a) (h1 : a ≤ 255) :
    Calls Try.prog 5 #[.int .u8 a, .slice none 0 0] w fun e w' => e = .returned (.bool true) ∧ Below w.heap.size w w' :=
  hears_any a none 0 0 (fun _ => 0) w (by omega) h0 h1 fun i hi => by omega
end Go.Proofs.Ytjdnmgigongegaa
