/-
  The walk of ElectPlays.
-/
import Derived.Test.YtjdnmgigongegaaTurnsWalk
import Derived.Test.YtjdnmgigongegaaAloneWalk
import Derived.Laws.BitsAllLaws
import Derived.Deep.RegionWith
namespace Go.Proofs.Ytjdnmgigongegaa
open Go.ChangeShapes Go.WideShapes Go.ChangeAt Go.RowKit

theorem u64_and3 (b : Int) (h0 : 0 ≤ b) (h1 : b < 18446744073709551616) : bits BinOp.and IntKind.u64 b 3 = b % 4 := by
  rw [u64_and b 3 h0 h1 (by omega) (by omega)]
  have : b.toNat &&& (3 : Int).toNat = b.toNat % 4 := Nat.and_two_pow_sub_one_eq_mod b.toNat 2
  rw [this]; omega

theorem rtick_is (t l m : Int) (s : Bool) (l' : Int) (w : World) (hs : TickIs t l s l') (h2 : l ≤ 9223372036854775807) :
    Calls Try.prog 11 #[e3 t l m] w fun e w' => e = .returned (.tuple #[e3 t l' m, .bool s]) ∧ Below w.heap.size w w' := by
  rcases hs with ⟨rfl, rfl, rfl⟩ | ⟨h1, rfl, rfl⟩
  · exact rtick_yes l' 1 m w (by omega)
  · exact rtick_no t l m w h1 h2

theorem plays_long (n p : Int) (ad : Option Addr) (len cap : Nat) (w : World) (hl : 200 < len) (hm : len ≤ 9223372036854775807) :
    Calls Try.prog 3 #[.int .i64 n, .int .i64 p, .slice ad len cap] w fun e w' => e = .returned (.bool true) ∧ Below w.heap.size w w' := by
  go_enter Try.func3, Try.ntmps3
  go_wp2_with (first | (go_at_call 7; (with_reducible refine (awake_any _).mono ?_); rintro e w1 ⟨rfl, hb1⟩))
  go_ret
  exact ⟨rfl, hb1⟩

theorem plays_bad (n p : Int) (ad : Option Addr) (len cap : Nat) (w : World) (hl : len ≤ 200) (h : ¬ (((0 ≤ n ∧ n < 32) ∧ 1 ≤ p) ∧ p ≤ 1000)) :
    Calls Try.prog 3 #[.int .i64 n, .int .i64 p, .slice ad len cap] w fun e w' => e = .returned (.bool true) ∧ Below w.heap.size w w' := by
  have H := Lib.hid h
  clear h
  go_enter Try.func3, Try.ntmps3
  go_wp2_with (first | (go_at_call 7; (with_reducible refine (awake_any _).mono ?_); rintro e w1 ⟨rfl, hb1⟩) | (go_at_call 8; (with_reducible refine (new_bad _ _ _ H.out).mono ?_); rintro e w2 ⟨rfl, rfl⟩) | (go_at_call 9; (with_reducible refine (rnew_bad _ _ _ H.out).mono ?_); rintro e w3 ⟨rfl, hb3⟩))
  refine wp_loop_rounds 1 ?_
  rw [rounds_succ]
  by_cases hz : 0 < len
  · go_wp2_with (first | (go_at_call 10; (with_reducible refine (tick_nil _).mono ?_); rintro e w4 ⟨rfl, rfl⟩) | (go_at_call 12; (with_reducible refine (heard_nil _ _).mono ?_); rintro e w4 ⟨rfl, rfl⟩) | (go_at_call 14; (with_reducible refine (left_nil _).mono ?_); rintro e w4 ⟨rfl, rfl⟩) | (go_at_call 15; (with_reducible refine (top_nil _).mono ?_); rintro e w4 ⟨rfl, rfl⟩))
    go_ret
    exact ⟨rfl, (bnext hb1 hb3).alloc (by have := hb1.size; have := hb3.size; omega) _⟩
  · go_wp2_with (first | (go_at_call 10; (with_reducible refine (tick_nil _).mono ?_); rintro e w4 ⟨rfl, rfl⟩) | (go_at_call 12; (with_reducible refine (heard_nil _ _).mono ?_); rintro e w4 ⟨rfl, rfl⟩) | (go_at_call 14; (with_reducible refine (left_nil _).mono ?_); rintro e w4 ⟨rfl, rfl⟩) | (go_at_call 15; (with_reducible refine (top_nil _).mono ?_); rintro e w4 ⟨rfl, rfl⟩))
    go_ret
    exact ⟨rfl, (bnext hb1 hb3).alloc (by have := hb1.size; have := hb3.size; omega) _⟩

/-- What a ballot that is heard tells and leaves. -/
def HeardIs (t l m x : Int) (s : Bool) (l' m' : Int) : Prop := (m ≤ x ∧ s = true ∧ l' = t ∧ m' = x) ∨ (x < m ∧ s = false ∧ l' = l ∧ m' = m)

theorem heard_is (b : Nat) (t l m x : Int) (s : Bool) (l' m' : Int) (w : World) (h : E3 w b t l m) (hs : HeardIs t l m x s l' m') :
    Calls Try.prog 12 #[.pointer (some ⟨b, 0, none⟩), .int .u64 x] w fun e w' => e = .returned (.bool s) ∧ E3 w' b t l' m' ∧ w.grownBy w' (some b) := by
  rcases hs with ⟨h1, rfl, rfl, rfl⟩ | ⟨h1, rfl, rfl, rfl⟩
  · exact heard_yes b l' l m m' w h h1
  · exact (heard_no b t l' m' x w h h1).mono fun e w' ⟨he, hw⟩ => ⟨he, hw ▸ h, hw ▸ World.grownBy.refl _ _⟩

theorem rheard_is (t l m x : Int) (s : Bool) (l' m' : Int) (w : World) (hs : HeardIs t l m x s l' m') :
    Calls Try.prog 13 #[e3 t l m, .int .u64 x] w fun e w' => e = .returned (.tuple #[e3 t l' m', .bool s]) ∧ Below w.heap.size w w' := by
  rcases hs with ⟨h1, rfl, rfl, rfl⟩ | ⟨h1, rfl, rfl, rfl⟩
  · exact rheard_yes l' l m m' w h1
  · exact rheard_no t l' m' x w h1

theorem E3.madeR (w : World) (t l m : Int) : E3 (w.alloc (.cells #[.int .i64 t, .int .i64 l, .int .u64 m] 30)) w.heap.size t l m := by
  constructor <;> simp

/-- What holds at the head of the loop: the counter and the reference's say the same. -/
def PlRel (w : World) (b rb : Nat) (T : Int) (len : Nat) (i : Value) (wr : World) : Prop :=
  ∃ k : Nat, ∃ L m : Int, k ≤ len ∧ i = .int .i64 k ∧ 1 ≤ L ∧ L ≤ T ∧ 0 ≤ m ∧ E3 wr b T L m ∧ E3 wr rb T L m ∧ Below w.heap.size w wr

theorem E3.setAll {w : World} {b : Nat} {t l m : Int} (h : E3 w b t l m) (t' l' m' : Int) :
    E3 (((w.setCell ⟨b, 0, none⟩ (.int .i64 t')).setCell ⟨b, 1, none⟩ (.int .i64 l')).setCell ⟨b, 2, none⟩ (.int .u64 m')) b t' l' m' := ((h.set0 t').set1 l').set2 m'

set_option maxRecDepth 100000 in
set_option maxHeartbeats 2000000 in
theorem plays_any (n p : Int) (ad : Option Addr) (len cap : Nat) (f : Nat → Int) (w : World) (hl : len ≤ 200) (h0 : 0 ≤ n) (h1 : n < 32) (h2 : 1 ≤ p) (h3 : p ≤ 1000)
    (hc : ∀ i, i < len → ∃ blk off, ad = some ⟨blk, off, none⟩ ∧ blk < w.heap.size ∧ w.cell? ⟨blk, off + i, none⟩ = some (.int .u64 (f i)) ∧ 0 ≤ f i ∧ f i < 18446744073709551616) :
    Calls Try.prog 3 #[.int .i64 n, .int .i64 p, .slice ad len cap] w fun e w' => e = .returned (.bool true) ∧ Below w.heap.size w w' := by
  have b1 : 1 * 1 ≤ p * (n + 1) := Int.mul_le_mul (by omega) (by omega) (by omega) (by omega)
  have b2 : p * (n + 1) ≤ 1000 * 32 := Int.mul_le_mul (by omega) (by omega) (by omega) (by omega)
  go_enter Try.func3, Try.ntmps3
  go_wp2_with (first | (go_at_call 7; (with_reducible refine (awake_any _).mono ?_); rintro e w1 ⟨rfl, hb1⟩) | (go_at_call 8; (with_reducible refine (new_ok _ _ _ (by omega) (by omega) (by omega) (by omega)).mono ?_); rintro e w2 ⟨b, rfl, hbb, hE, hB⟩) | (go_at_call 9; (with_reducible refine (rnew_ok _ _ _ (by omega) (by omega) (by omega) (by omega)).mono ?_); rintro e w3 ⟨rfl, hb3⟩))
  have hrb := E3.madeR w3 (p * (n + 1)) (p * (n + 1)) 0
  have hEb := (hE.below hb3).alloc (.cells #[.int .i64 (p * (n + 1)), .int .i64 (p * (n + 1)), .int .u64 0] 30)
  have hBw := (bnext (bnext hb1 hB) hb3).alloc (by have := hb1.size; have := hB.size; have := hb3.size; omega) (.cells #[.int .i64 (p * (n + 1)), .int .i64 (p * (n + 1)), .int .u64 0] 30)
  have hwb : w.heap.size ≤ b := by have := hb1.size; omega
  have hwr : w.heap.size ≤ w3.heap.size := by have := hb1.size; have := hB.size; have := hb3.size; omega
  have hne : b ≠ w3.heap.size := by have := hE.lt; have := hb3.size; omega
  generalize hT : p * (n + 1) = T at *
  clear hT hb1 hB hb3 hE hbb
  go_loopw [12] (fun i wr => PlRel w b w3.heap.size T len i wr) (fun i _ => len - (intOf i).toNat)
  case atStart => exact ⟨0, T, 0, by omega, rfl, by omega, by omega, by omega, hEb, hrb, hBw⟩
  case round =>
    obtain ⟨k, L, m, hk, rfl, hL1, hL2, hm0, eB, eR, hbw⟩ := hrel
    have hBl := eB.lt
    have hRl := eR.lt
    clear hEb hrb hBw
    generalize hrbn : w3.heap.size = rb at *
    clear hrbn
    by_cases hlt : k < len
    · obtain ⟨blk, off, rfl, hblk, hcell, hf0, hf1⟩ := hc k hlt
      have hcell2 := (hbw.cell (p := ⟨blk, off + k, none⟩) hblk).trans hcell
      have h3b := u64_and3 (f k) hf0 hf1
      have nb : some blk ≠ some b := some_ne (by omega)
      have nb' : some b ≠ some rb := some_ne hne
      have nr : some rb ≠ some b := some_ne (fun e => hne e.symm)
      clear hcell hc
      by_cases hkind : 0 < f k % 4
      · obtain ⟨t, L', hs, hl1, hl2⟩ : ∃ t L', TickIs T L t L' ∧ 1 ≤ L' ∧ L' ≤ T := by
          by_cases h : L = 1
          · exact ⟨true, T, Or.inl ⟨h, rfl, rfl⟩, by omega, by omega⟩
          · exact ⟨false, L - 1, Or.inr ⟨by omega, rfl, rfl⟩, by omega, by omega⟩
        go_wp2_with (first | (go_at_call 10; (with_reducible refine (tick_is _ _ _ _ _ _ _ eB hs (by omega)).mono ?_); rintro e w5 ⟨rfl, eB2, g2⟩; have eR2 := eR.kept g2 nr; have hcell3 := g2.cell hcell2 nb; obtain ⟨c0, c1, c2, f0, f1, f2⟩ := id eR2) | (go_at_call 11; (with_reducible refine (rtick_is _ _ _ _ _ _ hs (by omega)).mono ?_); rintro e w6 ⟨rfl, hb6⟩; have eB3 := eB2.below hb6; have eR3 := eR2.below hb6; have hRl3 := eR3.lt; obtain ⟨d0, d1, d2, j0, j1, j2⟩ := id eR3))
        have eB4 := eB3.kept (gr_set (gr_set (gr_set (World.grownBy.refl w6 (some rb)) 0 (.int .i64 T)) 1 (.int .i64 L')) 2 (.int .u64 m)) nb'
        have eR4 := eR3.setAll T L' m
        go_quiet ((first | (go_at_call 14; exact left_q _ _ _ _ _ eB4 _) | (go_at_call 15; exact top_q _ _ _ _ _ eB4 _)))
        go_wp2
        go_roundw
        case rel => exact ⟨k + 1, L', m, by omega, by go_num, by omega, by omega, by omega, eB4.drewN _, eR4.drewN _, below_drewN ((((bnext (bgrow hbw g2 hwb) hb6).setCell hwr _).setCell hwr _).setCell hwr _) _⟩
        case measure => simp [intOf]; omega
      · obtain ⟨t, L', m', hs, hl1, hl2, hm1⟩ : ∃ t L' m', HeardIs T L m (f k / 4) t L' m' ∧ 1 ≤ L' ∧ L' ≤ T ∧ 0 ≤ m' := by
          by_cases h : m ≤ f k / 4
          · exact ⟨true, T, f k / 4, Or.inl ⟨h, rfl, rfl, rfl⟩, by omega, by omega, by omega⟩
          · exact ⟨false, L, m, Or.inr ⟨by omega, rfl, rfl, rfl⟩, by omega, by omega, by omega⟩
        go_wp2_with (first | (go_at_call 12; (with_reducible refine (heard_is _ _ _ _ _ _ _ _ _ eB hs).mono ?_); rintro e w5 ⟨rfl, eB2, g2⟩; have eR2 := eR.kept g2 nr; have hRl2 := eR2.lt; have hcell3 := g2.cell hcell2 nb; obtain ⟨c0, c1, c2, f0, f1, f2⟩ := id eR2))
        go_region_with (go_at_call 13; (with_reducible refine (rheard_is _ _ _ _ _ _ _ _ hs).mono ?_); rintro e w6 ⟨rfl, hb6⟩; have eB3 := eB2.drew.below hb6; have eR3 := eR2.drew.below hb6; have hRl3 := eR3.lt; obtain ⟨d0, d1, d2, j0, j1, j2⟩ := id eR3)
        all_goals
          go_wp2
          have eB4 := eB3.kept (gr_set (gr_set (gr_set (World.grownBy.refl w6 (some rb)) 0 (.int .i64 T)) 1 (.int .i64 L')) 2 (.int .u64 m')) nb'
          have eR4 := eR3.setAll T L' m'
          go_quiet ((first | (go_at_call 14; exact left_q _ _ _ _ _ eB4 _) | (go_at_call 15; exact top_q _ _ _ _ _ eB4 _)))
          go_wp2
          go_roundw
          case rel => exact ⟨k + 1, L', m', by omega, by go_num, by omega, by omega, by omega, eB4.drewN _, eR4.drewN _, below_drewN ((((bnext (bgrow hbw g2 hwb).drew hb6).setCell hwr _).setCell hwr _).setCell hwr _) _⟩
          case measure => simp [intOf]; omega
    · go_wp2_with (first | (go_at_call 10; (with_reducible refine (tick_nil _).mono ?_); rintro e w4 ⟨rfl, rfl⟩) | (go_at_call 12; (with_reducible refine (heard_nil _ _).mono ?_); rintro e w4 ⟨rfl, rfl⟩) | (go_at_call 14; (with_reducible refine (left_nil _).mono ?_); rintro e w4 ⟨rfl, rfl⟩) | (go_at_call 15; (with_reducible refine (top_nil _).mono ?_); rintro e w4 ⟨rfl, rfl⟩))
      go_ret
      exact ⟨rfl, hbw⟩

theorem getD_mem (zs : List Int) (i : Nat) (h : i < zs.length) : zs.getD i 0 ∈ zs := by
  simp [List.getD, List.getElem?_eq_getElem h]

theorem plays_row (n p : Int) (x : Addr) (len cap : Nat) (zs : List Int) (w : World) (hl : len ≤ cap) (hm : cap ≤ maxLen) (hz : zs.length = cap)
    (hcell : ∀ i, i < zs.length → w.cell? (x.add i) = some (.int .u64 (zs.getD i 0))) (hwf : ∀ n ∈ zs, (Lit.int .u64 n).wf = true) :
    Calls Try.prog 3 #[.int .i64 n, .int .i64 p, .slice (some x) len cap] w fun e w' => e = .returned (.bool true) ∧ Below w.heap.size w w' := by
  unfold maxLen at hm
  by_cases hb : 200 < len
  · exact plays_long n p _ len cap w hb (by omega)
  by_cases hn : ((0 ≤ n ∧ n < 32) ∧ 1 ≤ p) ∧ p ≤ 1000
  · obtain ⟨⟨⟨h0, h1⟩, h2⟩, h3⟩ := hn
    refine plays_any n p _ len cap (fun i => zs.getD i 0) w (by omega) h0 h1 h2 h3 fun i hi => ?_
    obtain ⟨blk, off, hx, hc⟩ := ints_at hcell (by omega)
    have hci := hc i (by omega)
    have hr := bounds_u64 (hwf _ (getD_mem zs i (by omega)))
    exact ⟨blk, off, by rw [hx], World.block_lt_of_cell? _ _ hci, hci, hr.1, by have := hr.2; omega⟩
  · exact plays_bad n p _ len cap w (by omega) hn

theorem plays_nil (n p : Int) (w : World) :
    Calls Try.prog 3 #[.int .i64 n, .int .i64 p, .slice none 0 0] w fun e w' => e = .returned (.bool true) ∧ Below w.heap.size w w' := by
  by_cases hn : ((0 ≤ n ∧ n < 32) ∧ 1 ≤ p) ∧ p ≤ 1000
  · obtain ⟨⟨⟨h0, h1⟩, h2⟩, h3⟩ := hn
    exact plays_any n p none 0 0 (fun _ => 0) w (by omega) h0 h1 h2 h3 fun i hi => by omega
  · exact plays_bad n p none 0 0 w (by omega) hn
end Go.Proofs.Ytjdnmgigongegaa
