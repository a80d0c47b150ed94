/-
  The walk of NetOrder.
-/
import Derived.Test.YtdlooafmjpbecaaOrderWd
namespace Go.Proofs.Ytdlooafmjpbecaa
open Go.ChangeShapes Go.WideShapes Go.ChangeAt Go.RowKit

theorem or_new (w : World) : Calls Try.prog 8 #[.int .i64 4] w fun e w' => ∃ nb, e = .returned (.tuple #[.pointer (some ⟨nb, 0, none⟩), .int .i64 0]) ∧ NetAt w' w.heap.size nb 4 (.slice none 0 0) [] ∧ Below w.heap.size w w' :=
  (new_ok 4 w.heap.size w (Nat.le_refl _) (by omega) (by omega)).mono fun e w' ⟨nb, he, hN, hS⟩ => ⟨nb, he, hN, hS.below⟩

theorem order_long (a : Option Addr) (len cap : Nat) (k : Int) (w : World) (hl : 30 < len) (hm : len ≤ 9223372036854775807) :
    Calls Try.prog 3 #[.slice a len cap, .int .u8 k] w fun e w' => e = .returned (.bool true) ∧ Below w.heap.size w w' := by
  go_enter Try.func3, Try.ntmps3
  go_wp2_with (first | (go_at_call 7; (with_reducible refine (awake_any _).mono ?_); rintro e w1 ⟨rfl, hb1⟩))
  go_ret
  exact ⟨rfl, hb1⟩

set_option maxRecDepth 100000 in
set_option maxHeartbeats 2000000 in
theorem order_any (ad : Option Addr) (len cap : Nat) (A : Nat → Option Addr) (L C : Nat → Nat) (Z : Nat → List Int) (a : Int) (w0 : World) (hl : len ≤ 30)
    (hr : ∀ r, r < len → ∃ blk off, ad = some ⟨blk, off, none⟩ ∧ blk < w0.heap.size ∧ RowAt w0 ⟨blk, off + r, none⟩ (A r) (L r) (C r) (Z r)) :
    Calls Try.prog 3 #[.slice ad len cap, .int .u8 a] w0 fun e w' => e = .returned (.bool true) ∧ Below w0.heap.size w0 w' := by
  obtain ⟨i0, hi0, hz0, hz1, hz2⟩ := info_parts info9
  go_enter Try.func3, Try.ntmps3
  go_wp2_with (first | (go_at_call 7; (with_reducible refine (awake_any _).mono ?_); rintro e w ⟨rfl, hb0⟩) | (go_at_call 8; (with_reducible refine (or_new _).mono ?_); rintro e w1 ⟨nb, rfl, hN1, hb1⟩))
  go_loopw [8, 9] (fun lv i wr => OrRel w nb L Z len lv i wr) (fun _ i _ => len - (intOf i).toNat)
  case atStart => exact ⟨0, _, [], none, 0, by omega, rfl, rfl, rfl, hN1, World.ownsRow_nil _ _ _ _, by intro r hr; simp at hr, hb1⟩
  case round =>
    obtain ⟨j, v, ps, la, lc, hj, rfl, rfl, hpl, hN, hrow, hT, hbw⟩ := hrel
    have hwsz := hbw.size
    by_cases hlt : j < len
    · obtain ⟨blk, off, rfl, hblk, hR⟩ := hr j hlt
      have hcell := ((bnext hb0 hbw).cell (p := ⟨blk, off + j, none⟩) hblk).trans hR.cell
      have hblr : blk < wr.heap.size := by have := hb0.size; omega
      have hle := hR.le
      have hmx2 := hR.max
      have hzl : ((Z j).take (L j)).length = L j := by rw [List.length_take, hR.len]; omega
      have s1 := hR.conv (bnext hb0 hbw)
      obtain ⟨cd, wq, s2, s3, hbq, hzq, hcq⟩ := conv_back wr ((Z j).take (L j)) (fun x hx => by have := bounds_u8 (hR.wf x (List.mem_of_mem_take hx)); omega)
      have e1 := i64_and3 j (by omega) (by omega)
      by_cases h50 : L j ≤ 50
      · have hcon : ∀ W c lv, NetAt W w.heap.size nb 4 v ps → W.ownsRow w.heap.size 9 1 lv (j + 1) (strs L Z (j + 1)) → Conv0 W wr.heap.size ((Z j).take (L j)) → Below w.heap.size w W → Calls Try.prog 9 #[.pointer (some ⟨nb, 0, none⟩), .agg #[.int .i64 ((j : Int) % 4), .int .i64 (3 - (j : Int) % 4), .slice (some ⟨wr.heap.size, 0, none⟩) (L j) c]] W (OrSent w W nb wr.heap.size L Z j lv ((Z j).take (L j))) := by
          intro W c lv k1 k2 k3 k4
          subst hpl
          have := or_send w wr W nb wr.heap.size c v lv ps L Z hN k1 hT k2 rfl k3 (by omega) k4 (by omega)
          rw [hzl] at this
          exact this
        have HC := Lib.hid hcon
        have hrq : wq.ownsRow w.heap.size 9 1 (.slice la j lc) j (strs L Z j) := hrow.kept (row := none) ⟨hbq.os, hbq.tape, hbq.output, hbq.size, fun k hk _ => hbq.block k hk⟩ (by cases hv : (Value.slice la j lc).ownBlock <;> simp)
        have HR := Lib.hid hrq
        have HRw := Lib.hid hrow
        have HN := Lib.hid hN
        have HQ := Lib.hid hcq
        have HS := Lib.hid (strs_succ L Z j)
        have HL := Lib.hid hzl
        have hzq' : wr.heap.size < wq.heap.size := by omega
        clear hzq
        rw [hzl] at s2 s3
        clear hr hR hN hT hcon hrow hrq hcq hzl
        generalize hxs : (Z j).take (L j) = xs at *
        generalize hss : strOfNums xs = ss at *
        generalize hA : A j = Aj at *
        generalize hC : C j = Cj at *
        generalize hL : L j = Lj at *
        cases xs with
        | nil =>
          have hL0 : Lj = 0 := by have := HL.out; simpa using this.symm
          subst hL0
          go_wp2_with (first
            | (at_builtin; (refine wpList_append_own_at _ rfl (.tmp 44) (.tmp 47) 28 rfl w.heap.size 9 i0 (.string ⟨#[]⟩) 1 16 Try.underlying28 hi0 hz0 hz1 hz2 rfl (by omega) (.slice la j lc) j (strs L Z j) rfl (HR.out.alloc _) ⟨wq.heap.size, 0, none⟩ 1 1 [.string ss] rfl rfl (cell_one_new _ _ _) (by simp [Value.oneCell']) (by simp only [maxLen]; omega) (by omega) (by simp; omega) ?_; intro lv4 w4 hown4 hgrow4 hnil4 hat4; obtain ⟨la4, lc4, rfl⟩ := strs_form hown4; rw [← HS.out] at hown4; have hb4 : Below w.heap.size w w4 := ((hbw.trans (hbq.mono hwsz)).alloc (by omega) _).grown hgrow4 (by simp; omega) (fun q hq => (HRw.out.lt q hq).1); have hN4 := ((HN.out.later hbq).later ((Below.refl _ _).alloc (Nat.le_refl _) _)).strs (HR.out.alloc _) hgrow4; have hQ4 := HQ.out.later ((hgrow4.block _ (by simp; omega) (fun e => Nat.lt_irrefl _ (HRw.out.lt _ e.symm).2)).trans (Below.heap_alloc _ _ _ hzq'))))
            | (go_at_call 9; ((with_reducible refine (HC.out _ _ _ hN4 hown4 hQ4 hb4).mono ?_); rintro e w5 ⟨v5, ps5, rfl, hl5, hN5, hT5, ha5, hr5, hc5, hb5, hz5⟩)))
          go_roundw
          case rel => exact ⟨j + 1, v5, ps5, la4, lc4, by omega, by go_num, rfl, hl5, hN5, hr5, hT5, hb5⟩
          case measure => simp [intOf]; omega
        | cons x xs =>
          have hLp : 0 < Lj := by have := HL.out; simp at this; omega
          go_wp2_with (first
            | (at_builtin; (refine wpList_append_own_at _ rfl (.tmp 44) (.tmp 47) 28 rfl w.heap.size 9 i0 (.string ⟨#[]⟩) 1 16 Try.underlying28 hi0 hz0 hz1 hz2 rfl (by omega) (.slice la j lc) j (strs L Z j) rfl (HR.out.alloc _) ⟨wq.heap.size, 0, none⟩ 1 1 [.string ss] rfl rfl (cell_one_new _ _ _) (by simp [Value.oneCell']) (by simp only [maxLen]; omega) (by omega) (by simp; omega) ?_; intro lv4 w4 hown4 hgrow4 hnil4 hat4; obtain ⟨la4, lc4, rfl⟩ := strs_form hown4; rw [← HS.out] at hown4; have hb4 : Below w.heap.size w w4 := ((hbw.trans (hbq.mono hwsz)).alloc (by omega) _).grown hgrow4 (by simp; omega) (fun q hq => (HRw.out.lt q hq).1); have hN4 := ((HN.out.later hbq).later ((Below.refl _ _).alloc (Nat.le_refl _) _)).strs (HR.out.alloc _) hgrow4; have hQ4 := HQ.out.later ((hgrow4.block _ (by simp; omega) (fun e => Nat.lt_irrefl _ (HRw.out.lt _ e.symm).2)).trans (Below.heap_alloc _ _ _ hzq'))))
            | (go_at_call 9; ((with_reducible refine (HC.out _ _ _ hN4 hown4 hQ4 hb4).mono ?_); rintro e w5 ⟨v5, ps5, rfl, hl5, hN5, hT5, ha5, hr5, hc5, hb5, hz5⟩; obtain ⟨f1, f2, f3⟩ := hc5.first)))
          obtain ⟨hN6, hr6, hb6⟩ := or_poke hN5 ha5 hr5 hc5 hb5 hwsz (.int .u8 (bits .xor .u8 x a))
          go_roundw
          case rel => exact ⟨j + 1, v5, ps5, la4, lc4, by omega, by go_num, rfl, hl5, hN6, hr6, hT5, hb6⟩
          case measure => simp [intOf]; omega
      · clear hr hR hN hT
        generalize hA : A j = Aj at *
        generalize hC : C j = Cj at *
        generalize hL : L j = Lj at *
        go_wp2
        go_ret
        exact ⟨rfl, bnext hb0 hbw⟩
    · have hjl : j = len := by omega
      subst hjl
      have HR := Lib.hid hrow
      have HT := Lib.hid hT
      have HN := Lib.hid hN
      have HP := Lib.hid hpl
      clear hrow hT hpl hr
      go_wp2
      go_loopw [11] (fun i wr => Or2Rel w nb L Z j (.slice la j lc) i wr) (fun i _ => j - (intOf i).toNat)
      case atStart => exact ⟨0, v, ps, by omega, rfl, by have := HP.out; omega, HN.out, HT.out, HR.out, hbw⟩
      case round =>
        obtain ⟨m, v6, qs, hm, rfl, hql, hN6, hT6, hr6, hb6⟩ := hrel
        by_cases hlt2 : m < j
        · cases qs with
          | nil => simp at hql; omega
          | cons q qs =>
            obtain ⟨hq, hqs⟩ := hT6.tail
            have hcon := or_take w _ nb m v6 q qs L Z hN6 hq hb6
            obtain ⟨gl, hgl, hlc⟩ := strs_cell hr6 hlt2
            subst hgl
            have e1 := i64_and3 m (by omega) (by omega)
            have HQ := Lib.hid hqs
            have HR6 := Lib.hid hr6
            have HL := Lib.hid hql
            clear hq hqs hr6 hN6 hT6 hql hN
            go_wp2_with (go_at_call 10; (with_reducible refine hcon.mono ?_); rintro e w7 ⟨v7, ad7, n7, c7, rfl, hs7, hN7, hS7⟩)
            have t1 := strs_after HR6.out hS7 hlt2
            have t2 := World.block_lt_of_cell? _ _ t1
            have z1 : (0 : Int) ≤ (m : Int) := by omega
            have z2 : (m : Int) < (j : Int) := by omega
            have s7 := hs7 (.cells #[.int .i64 ((m : Int) % 4), .int .i64 (3 - (m : Int) % 4), .slice ad7 n7 c7] 32)
            clear hs7
            generalize strOfNums ((Z m).take (L m)) = sm at *
            go_quiet (fail)
            go_wp2
            go_roundw
            case rel => exact ⟨m + 1, v7, qs, by omega, by go_num, by have := HL.out; simp at this; omega, (hN7.later ((Below.refl _ _).alloc (Nat.le_refl _) _)).drewN _, HQ.out, ((strs_row HR6.out hS7.bytes).alloc _), below_drewN ((hb6.trans hS7.below).alloc (by have := hb6.size; have := hS7.size; omega) _) _⟩
            case measure => simp [intOf]; omega
        · have hq0 : qs = [] := List.eq_nil_of_length_eq_zero (by omega)
          subst hq0
          go_wp2_with (go_at_call 11; (with_reducible refine (len_any _ w.heap.size nb 4 v6 [] hN6).mono ?_); rintro e w8 ⟨rfl, rfl⟩)
          go_ret
          exact ⟨rfl, bnext hb0 hb6⟩
end Go.Proofs.Ytdlooafmjpbecaa
