/-
  The walk of NetTwice.
-/
import Derived.Test.YtdlooafmjpbecaaTwiceWd
import Derived.BigQuiet
namespace Go.Proofs.Ytdlooafmjpbecaa
open Go.ChangeShapes Go.WideShapes Go.ChangeAt Go.RowKit

theorem tw_new (w : World) : Calls Try.prog 8 #[.int .i64 2] w fun e w' => ∃ nb, e = .returned (.tuple #[.pointer (some ⟨nb, 0, none⟩), .int .i64 0]) ∧ NetAt w' w.heap.size nb 2 (.slice none 0 0) [] ∧ Below w.heap.size w w' :=
  (new_ok 2 w.heap.size w (Nat.le_refl _) (by omega) (by omega)).mono fun e w' ⟨nb, he, hN, hS⟩ => ⟨nb, he, hN, hS.below⟩

theorem twice_trivial (a : Option Addr) (len cap : Nat) (k : Int) (w : World) (hl : len = 0 ∨ 20 < len) (hm : len ≤ 9223372036854775807) :
    Calls Try.prog 4 #[.slice a len cap, .int .u8 k] w fun e w' => e = .returned (.bool true) ∧ Below w.heap.size w w' := by
  rcases hl with rfl | hl
  · go_enter Try.func4, Try.ntmps4
    go_wp2_with (first | (go_at_call 7; (with_reducible refine (awake_any _).mono ?_); rintro e w1 ⟨rfl, hb1⟩))
    go_ret
    exact ⟨rfl, hb1⟩
  · have h0 : ¬ ((len : Int) = 0) := by omega
    go_enter Try.func4, Try.ntmps4
    go_wp2_with (first | (go_at_call 7; (with_reducible refine (awake_any _).mono ?_); rintro e w1 ⟨rfl, hb1⟩))
    go_ret
    exact ⟨rfl, hb1⟩

set_option maxRecDepth 100000 in
set_option maxHeartbeats 2000000 in
theorem twice_any (blk off len cap : Nat) (A : Nat → Option Addr) (L C : Nat → Nat) (Z : Nat → List Int) (a : Int) (w0 : World) (h0l : 0 < len) (hl : len ≤ 20) (hcap : len ≤ cap) (hmx : cap ≤ 9223372036854775807) (h0 : 0 ≤ a) (h1 : a ≤ 255)
    (hblk : blk < w0.heap.size)
    (hr : ∀ r, r < len → RowAt w0 ⟨blk, off + r, none⟩ (A r) (L r) (C r) (Z r)) :
    Calls Try.prog 4 #[.slice (some ⟨blk, off, none⟩) len cap, .int .u8 a] w0 fun e w' => e = .returned (.bool true) ∧ Below w0.heap.size w0 w' := by
  obtain ⟨k, hk⟩ : ∃ k : Nat, a.tmod len = k := ⟨(a.tmod len).toNat, by have := Int.tmod_nonneg (len : Int) h0; omega⟩
  have hkl : k < len := by have := Int.tmod_lt_of_pos a (show (0 : Int) < len by omega); omega
  have hne : ¬ ((len : Int) = 0) := by omega
  have q1 : ((len : Int) == 0) = false := by simp; omega
  have q2 : decide (20 < (len : Int)) = false := by simp; omega
  go_enter Try.func4, Try.ntmps4
  go_wp2_with (first | (go_at_call 7; (with_reducible refine (awake_any _).mono ?_); rintro e w ⟨rfl, hb0⟩) | (go_at_call 8; (with_reducible refine (tw_new _).mono ?_); rintro e w1 ⟨nb, rfl, hN1, hb1⟩))
  go_loopw [8] (fun i wr => TwRel w nb L Z len i wr) (fun i _ => len - (intOf i).toNat)
  case atStart => exact ⟨0, _, [], by omega, rfl, rfl, hN1, by intro r hr; simp at hr, hb1⟩
  case round =>
    obtain ⟨j, v, ps, hj, rfl, hpl, hN, hT, hbw⟩ := hrel
    have hwsz := hbw.size
    by_cases hlt : j < len
    · have hR := hr j hlt
      have hcell := ((bnext hb0 hbw).cell (p := ⟨blk, off + j, none⟩) hblk).trans hR.cell
      have hblr : blk < wr.heap.size := by have := hb0.size; omega
      have hle := hR.le
      have hmx2 := hR.max
      subst hpl
      by_cases h50 : L ps.length ≤ 50
      · have hcon := tw_send w0 w wr nb v ps L Z _ _ _ hN hT hb0 hbw hR h50 (by omega)
        clear hr hR hN hT
        generalize hA : A ps.length = Aj at *
        generalize hC : C ps.length = Cj at *
        generalize hL : L ps.length = Lj at *
        go_wp2_with (go_at_call 9; (with_reducible refine hcon.mono ?_); rintro e w3 ⟨v', ps', rfl, hl', hN3, hT3, hb3⟩)
        go_roundw
        case rel => exact ⟨ps.length + 1, v', ps', by omega, by go_num, hl', hN3, hT3, hb3⟩
        case measure => simp [intOf]; omega
      · clear hr hR hN hT
        generalize hA : A ps.length = Aj at *
        generalize hC : C ps.length = Cj at *
        generalize hL : L ps.length = Lj at *
        go_wp2
        go_ret
        exact ⟨rfl, bnext hb0 hbw⟩
    · have hpl2 : ps.length = len := by omega
      have hR := hr k hkl
      have hcell := ((bnext hb0 hbw).cell (p := ⟨blk, off + k, none⟩) hblk).trans hR.cell
      have H2 := tw_twice wr w.heap.size nb v ps L Z k hN hT hwsz (by omega) (by omega)
      clear hr
      have HT := Lib.hid hT
      have HPL := Lib.hid hpl2
      have HR := Lib.hid hR
      clear hpl hpl2 hT hR
      have hjl : j = len := by omega
      have HJ := Lib.hid hjl
      clear hjl
      go_wp2_with (first
        | (go_at_call 12; (with_reducible refine H2.mono ?_); rintro e w2 ⟨v2, p, rfl, pt, pb, hN2, hS2⟩; have PT := Lib.hid pt; clear pt)
        | (go_at_call 12; (with_reducible refine (tw_range _ w.heap.size nb v2 ps p len HPL.out hN2).mono ?_); rintro e w3 ⟨rfl, rfl⟩)
        | (go_at_call 11; (with_reducible refine (tw_len _ w.heap.size nb v2 ps p len HPL.out hN2).mono ?_); rintro e w4 ⟨rfl, rfl⟩)
        | (go_at_call 13; (with_reducible refine (tw_to _ w.heap.size nb v2 ps p L Z len HPL.out hN2 HT.out PT.out (by omega)).mono ?_); rintro e w5 ⟨ta, tc, rfl, hb5⟩; have hN5 := hN2.later hb5; have hz5 := hb5.size; have hz2 := hS2.size)
        | (go_at_call 10; (with_reducible refine (tw_last _ w.heap.size nb v2 ps p len HPL.out hN5 (by omega)).mono ?_); rintro e w6 ⟨v6, rfl, hN6, hS6⟩; have hz6 := hS6.size)
        | (go_at_call 10; (with_reducible refine (tw_kth _ w.heap.size nb v6 ps p k len HPL.out hkl hN6 ((hN5.dat p (by simp)).kept hS6.bytes) (by omega)).mono ?_); rintro e w7 ⟨v7, qs, rfl, hql, hN7, hS7, hd7, hp7, hc7, hlt7⟩))
      have hb7 : Below w.heap.size w w7 := (((hbw.trans hS2.below).trans (hb5.mono (by omega))).trans hS6.below).trans hS7.below
      have hz7 := hb7.size
      have hcell7 := ((bnext hb0 hb7).cell (p := ⟨blk, off + k, none⟩) hblk).trans HR.out.cell
      have hbl7 : blk < w7.heap.size := World.block_lt_of_cell? _ _ hcell7
      have z1 : (0 : Int) ≤ (k : Int) := by omega
      have z2 : (k : Int) < (len : Int) := by omega
      have hkp : k < ps.length := by have := HPL.out; omega
      generalize hps : ps[k]'hkp = q at *
      have hqb : q.bs = bz (L k) (Z k) := by rw [← hps]; exact (HT.out k hkp).2.2
      have s1 : ∀ n, (convert 29 9 (.slice p.ad p.n p.c)).run Try.prog ((w7.alloc (.cells #[.int .i64 q.fr, .int .i64 q.to, .slice q.ad q.n q.c] 32)).drewN n) = .ok (.string (strOfNums ((Z k).take (L k)))) ((w7.alloc (.cells #[.int .i64 q.fr, .int .i64 q.to, .slice q.ad q.n q.c] 32)).drewN n) := fun n => bz_string (hp7.kept (((Bytes.refl _).alloc _).drewN n)) pb
      have s2 : ∀ n, (convert 29 9 (.slice q.ad q.n q.c)).run Try.prog ((w7.alloc (.cells #[.int .i64 q.fr, .int .i64 q.to, .slice q.ad q.n q.c] 32)).drewN n) = .ok (.string (strOfNums ((Z k).take (L k)))) ((w7.alloc (.cells #[.int .i64 q.fr, .int .i64 q.to, .slice q.ad q.n q.c] 32)).drewN n) := fun n => bz_string (hd7.kept (((Bytes.refl _).alloc _).drewN n)) hqb
      have s3 : ∀ n, (convert 29 9 (.slice (A k) (L k) (C k))).run Try.prog ((w7.alloc (.cells #[.int .i64 q.fr, .int .i64 q.to, .slice q.ad q.n q.c] 32)).drewN n) = .ok (.string (strOfNums ((Z k).take (L k)))) ((w7.alloc (.cells #[.int .i64 q.fr, .int .i64 q.to, .slice q.ad q.n q.c] 32)).drewN n) := fun n => HR.out.conv (below_drewN ((bnext hb0 hb7).alloc (by have := hb0.size; omega) _) n)
      have hlen : ∀ n, Calls Try.prog 11 #[.pointer (some ⟨nb, 0, none⟩)] ((w7.alloc (.cells #[.int .i64 q.fr, .int .i64 q.to, .slice q.ad q.n q.c] 32)).drewN n) fun e w'' => e = .returned (.int .i64 ((len : Int) - 1)) ∧ ∃ m, w'' = (w7.alloc (.cells #[.int .i64 q.fr, .int .i64 q.to, .slice q.ad q.n q.c] 32)).drewN m := fun n => by
        have := len_q _ w.heap.size nb 2 v7 qs (hN7.later ((Below.refl _ _).alloc (Nat.le_refl _) (.cells #[.int .i64 q.fr, .int .i64 q.to, .slice q.ad q.n q.c] 32))) n
        rw [show (qs.length : Int) = (len : Int) - 1 by omega] at this
        exact this
      generalize strOfNums ((Z k).take (L k)) = sk at *
      go_quiet ((go_at_call 11; exact hlen _))
      go_wp2
      go_ret
      exact ⟨ret_bool (by simp), below_drewN ((bnext hb0 hb7).alloc (by have := hb0.size; omega) _) _⟩
end Go.Proofs.Ytdlooafmjpbecaa
