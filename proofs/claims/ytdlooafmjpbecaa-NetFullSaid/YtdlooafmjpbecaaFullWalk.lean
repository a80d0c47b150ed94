/-
  The walk of NetFull.
-/
import Derived.Test.YtdlooafmjpbecaaAwake
import Derived.Laws.BitsLemmas
namespace Go.Proofs.Ytdlooafmjpbecaa
open Go.ChangeShapes Go.WideShapes Go.ChangeAt Go.RowKit

theorem u8_and1 (x : Int) (h0 : 0 ≤ x) (h1 : x < 256) : bits .and .u8 x 1 = x % 2 := bits_mask .u8 8 (by decide) wraps_u8 1 (by decide) x h0 h1

/-- All packets go between the nodes 0 and 1. -/
def InTwo (ps : List Pk) : Prop := ∀ p ∈ ps, 0 ≤ p.fr ∧ p.fr < 2 ∧ 0 ≤ p.to ∧ p.to < 2
theorem InTwo.snoc {ps : List Pk} {p : Pk} (h : InTwo ps) (h0 : 0 ≤ p.fr) (h1 : p.fr < 2) (h2 : 0 ≤ p.to) (h3 : p.to < 2) : InTwo (ps ++ [p]) := by
  intro q hq
  rcases List.mem_append.1 hq with hq | hq
  · exact h q hq
  · obtain rfl := List.mem_singleton.1 hq; exact ⟨h0, h1, h2, h3⟩
theorem InTwo.at {ps : List Pk} (h : InTwo ps) (i : Nat) (hi : i < ps.length) : 0 ≤ (ps[i]).fr ∧ (ps[i]).fr < 2 ∧ 0 ≤ (ps[i]).to ∧ (ps[i]).to < 2 := h _ (List.getElem_mem hi)
theorem kept_two (ps : List Pk) (t : Int) (h : InTwo ps) (ht : t = 0 ∨ t = 1) : (kept t (kept (1 - t) ps)).length = 0 := by
  rw [List.length_eq_zero_iff]
  unfold kept
  rw [List.filter_filter, List.filter_eq_nil_iff]
  intro p hp
  obtain ⟨h0, h1, _, _⟩ := h p hp
  have : p.fr = t ∨ p.fr = 1 - t := by omega
  rcases this with e | e <;> simp [hit, e]

/-- A net of two nodes with k packets. -/
def Two (W : World) (w : World) (B nb k : Nat) : Prop := ∃ v ps, ps.length = k ∧ NetAt W B nb 2 v ps ∧ InTwo ps ∧ Below B w W

/-- What a call leaves that tells r, of a net of two nodes, k packets behind it. -/
def TwoTold (w : World) (B nb k : Nat) (r : Int) (e : Ending) (w' : World) : Prop := e = .returned (.int .i64 r) ∧ Two w' w B nb k

theorem two_send (w : World) (B nb k : Nat) (fr to : Int) (W : World) (h : Two W w B nb k) (hB : B ≤ w.heap.size) (hk : k < 4096) (h0 : 0 ≤ fr) (h1 : fr < 2) (h2 : 0 ≤ to) (h3 : to < 2) :
    Calls Try.prog 9 #[.pointer (some ⟨nb, 0, none⟩), .agg #[.int .i64 fr, .int .i64 to, .slice none 0 0]] W fun e w' => e = .returned (.int .i64 0) ∧ Two w' w B nb (k + 1) := by
  obtain ⟨v, ps, hl, hN, hI, hb⟩ := h
  have hsz := hb.size
  refine (send_ok W B nb 2 v ps fr to none 0 0 [] hN (by omega) (Src.nil W) h0 h1 h2 h3 (by omega)).mono fun e w' ⟨v', p, he, p1, p2, _, hN', hS, _⟩ => ⟨he, v', _, by simp [hl], hN', hI.snoc (by omega) (by omega) (by omega) (by omega), hb.trans hS.below⟩

theorem two_full (w : World) (B nb : Nat) (W : World) (h : Two W w B nb 4096) (hB : B ≤ w.heap.size) :
    Calls Try.prog 9 #[.pointer (some ⟨nb, 0, none⟩), .agg #[.int .i64 0, .int .i64 0, .slice none 0 0]] W fun e w' => e = .returned (.int .i64 13) ∧ Two w' w B nb 4096 := by
  obtain ⟨v, ps, hl, hN, hI, hb⟩ := h
  have hsz := hb.size
  exact (send_full W B nb 2 v ps 0 0 (.slice none 0 0) hN (by omega) (by omega) (by omega) (by omega) (by omega) (by omega)).mono fun e w' ⟨he, hN', hS⟩ => ⟨he, v, ps, hl, hN', hI, hb.trans hS.below⟩

theorem two_twice (w : World) (B nb k i : Nat) (W : World) (h : Two W w B nb k) (hB : B ≤ w.heap.size) (hk : k < 4096) (hi : i < k) :
    Calls Try.prog 12 #[.pointer (some ⟨nb, 0, none⟩), .int .i64 i] W fun e w' => e = .returned (.int .i64 0) ∧ Two w' w B nb (k + 1) := by
  obtain ⟨v, ps, hl, hN, hI, hb⟩ := h
  have hsz := hb.size
  have hii : i < ps.length := by omega
  obtain ⟨q0, q1, q2, q3⟩ := hI.at i hii
  exact (twice_ok W B nb 2 v ps i hii hN (by omega) q0 q1 q2 q3 (by omega)).mono fun e w' ⟨v', p, he, p1, p2, _, hN', hS, _⟩ => ⟨he, v', _, by simp [hl], hN', hI.snoc (by omega) (by omega) (by omega) (by omega), hb.trans hS.below⟩

theorem two_twice_full (w : World) (B nb : Nat) (W : World) (h : Two W w B nb 4096) (hB : B ≤ w.heap.size) :
    Calls Try.prog 12 #[.pointer (some ⟨nb, 0, none⟩), .int .i64 0] W fun e w' => e = .returned (.int .i64 13) ∧ Two w' w B nb 4096 := by
  obtain ⟨v, ps, hl, hN, hI, hb⟩ := h
  have hsz := hb.size
  have hii : 0 < ps.length := by omega
  obtain ⟨q0, q1, q2, q3⟩ := hI.at 0 hii
  exact (twice_full W B nb 2 v ps 0 hii hN (by omega) q0 q1 q2 q3 (by omega)).mono fun e w' ⟨he, hN', hS⟩ => ⟨he, v, ps, hl, hN', hI, hb.trans hS.below⟩

/-- What Take leaves of the last of 4096 packets. -/
def TwoTook (w : World) (B nb : Nat) (e : Ending) (w' : World) : Prop := ∃ p : Pk, e = .returned (.tuple #[p.val, .bool true]) ∧ Two w' w B nb 4095

theorem two_take (w : World) (B nb : Nat) (W : World) (h : Two W w B nb 4096) (hB : B ≤ w.heap.size) :
    Calls Try.prog 10 #[.pointer (some ⟨nb, 0, none⟩), .int .i64 4095] W (TwoTook w B nb) := by
  obtain ⟨v, ps, hl, hN, hI, hb⟩ := h
  have hsz := hb.size
  exact (take_ok W B nb 2 v ps 4095 (by omega) hN (by omega)).mono fun e w' ⟨v', he, hN', hS⟩ => ⟨_, he, v', _, by rw [List.length_eraseIdx, if_pos (by omega)]; omega, hN', fun q hq => hI q (List.mem_of_mem_eraseIdx hq), hb.trans hS.below⟩

theorem two_len (w : World) (B nb k : Nat) (W : World) (h : Two W w B nb k) :
    Calls Try.prog 11 #[.pointer (some ⟨nb, 0, none⟩)] W fun e w' => e = .returned (.int .i64 k) ∧ W = w' := by
  obtain ⟨v, ps, rfl, hN, hI, hb⟩ := h
  exact len_any W B nb 2 v ps hN

/-- What the first Clear leaves. -/
def TwoClr (w : World) (B nb : Nat) (t : Int) (e : Ending) (w' : World) : Prop :=
  ∃ m : Nat, m ≤ 4096 ∧ e = .returned (.int .i64 (4096 - (m : Int))) ∧ ∃ v ps, ps.length = m ∧ NetAt w' B nb 2 v ps ∧ (kept t ps).length = 0 ∧ Below B w w'

theorem two_clear (w : World) (B nb : Nat) (t : Int) (W : World) (h : Two W w B nb 4096) (hB : B ≤ w.heap.size) (ht : t = 0 ∨ t = 1) :
    Calls Try.prog 14 #[.pointer (some ⟨nb, 0, none⟩), .int .i64 (1 - t)] W (TwoClr w B nb t) := by
  obtain ⟨v, ps, hl, hN, hI, hb⟩ := h
  have hsz := hb.size
  refine (clear_any W B nb 2 v ps (1 - t) hN (by omega) (by omega)).mono fun e w' ⟨v', he, hN', hS⟩ => ⟨(kept (1 - t) ps).length, by have := kept_le (1 - t) ps; omega, ?_, v', _, rfl, hN', kept_two ps t hI ht, hb.trans hS.below⟩
  rw [he, hl]; rfl

/-- What the second Clear leaves. -/
theorem two_clear2 (w : World) (B nb m : Nat) (t : Int) (v : Value) (ps : List Pk) (W : World) (hl : ps.length = m) (hm : m ≤ 4096) (hN : NetAt W B nb 2 v ps) (hk : (kept t ps).length = 0) (hb : Below B w W) (hB : B ≤ w.heap.size) :
    Calls Try.prog 14 #[.pointer (some ⟨nb, 0, none⟩), .int .i64 t] W fun e w' => e = .returned (.int .i64 m) ∧ Below B w w' := by
  have hsz := hb.size
  refine (clear_any W B nb 2 v ps t hN (by omega) (by omega)).mono fun e w' ⟨v', he, hN', hS⟩ => ⟨?_, hb.trans hS.below⟩
  rw [he, hk, hl]; simp

theorem Two.alloc {w W : World} {B nb k : Nat} (h : Two W w B nb k) (hB : B ≤ w.heap.size) (o : Obj) : Two (W.alloc o) w B nb k := by
  obtain ⟨v, ps, hl, hN, hI, hb⟩ := h
  have := hb.size
  exact ⟨v, ps, hl, hN.later ((Below.refl _ _).alloc (Nat.le_refl _) _), hI, hb.alloc (by omega) o⟩

/-- What New leaves. -/
def TwoNew (w : World) (e : Ending) (w' : World) : Prop := ∃ nb, e = .returned (.tuple #[.pointer (some ⟨nb, 0, none⟩), .int .i64 0]) ∧ Two w' w w.heap.size nb 0
theorem two_new (w : World) : Calls Try.prog 8 #[.int .i64 2] w (TwoNew w) :=
  (new_ok 2 w.heap.size w (Nat.le_refl _) (by omega) (by omega)).mono fun e w' ⟨nb, he, hN, hS⟩ => ⟨nb, he, _, [], rfl, hN, by intro p hp; simp at hp, hS.below⟩

/-- What holds at the heads of the loops. -/
def FuRel (w : World) (nb : Nat) (c m : Nat) (i : Value) (wr : World) : Prop := ∃ k : Nat, k ≤ m ∧ i = .int .i64 k ∧ Two wr w w.heap.size nb (c + k)

set_option maxRecDepth 100000 in
set_option maxHeartbeats 1000000 in
theorem full_any (k a : Int) (w0 : World) (h0 : 0 ≤ k) (h1 : k ≤ 255) (h2 : 0 ≤ a) (h3 : a ≤ 255) :
    Calls Try.prog 6 #[.int .u8 k, .int .u8 a] w0 fun e w' => e = .returned (.bool true) ∧ Below w0.heap.size w0 w' := by
  obtain ⟨t, ht⟩ : ∃ t : Int, a % 2 = t := ⟨_, rfl⟩
  have t0 : 0 ≤ t := by omega
  have t1 : t < 2 := by omega
  obtain ⟨c, hc⟩ : ∃ c : Nat, k % 8 = (c : Int) := ⟨(k % 8).toNat, by omega⟩
  have c1 : c < 8 := by omega
  have e1 : bits BinOp.and IntKind.u8 a 1 = t := (u8_and1 a (by omega) (by omega)).trans ht
  have e2 : bits BinOp.and IntKind.u8 k 7 = (c : Int) := (u8_and7 (x := k) (by omega) (by omega)).trans hc
  clear ht hc
  go_enter Try.func6, Try.ntmps6
  go_wp2_with (first | (go_at_call 7; (with_reducible refine (awake_any _).mono ?_); rintro e w ⟨rfl, hb0⟩) | (go_at_call 8; (with_reducible refine (two_new _).mono ?_); rintro e w1 ⟨nb, rfl, hT⟩))
  have hle := Nat.le_refl w.heap.size
  go_loopw [9] (fun i wr => FuRel w nb 0 (4096 - c) i wr) (fun i _ => 4096 - (intOf i).toNat)
  case atStart => exact ⟨0, by omega, rfl, by simpa using hT⟩
  case round =>
    obtain ⟨j, hj, rfl, hTj⟩ := hrel
    rw [Nat.zero_add] at hTj
    by_cases hlt : j < 4096 - c
    · have hcon := two_send w w.heap.size nb j (1 - t) t wr hTj hle (by omega) (by omega) (by omega) (by omega) (by omega)
      go_wp2_with (go_at_call 9; (with_reducible refine hcon.mono ?_); rintro e w2 ⟨rfl, hT2⟩)
      go_roundw
      case rel => exact ⟨j + 1, by omega, by go_num, by rw [Nat.zero_add]; exact hT2⟩
      case measure => simp [intOf]; omega
    · have hj2 : j = 4096 - c := by omega
      subst hj2
      go_wp2
      go_loopw [10] (fun i wr => FuRel w nb (4096 - c) c i wr) (fun i _ => c - (intOf i).toNat)
      case atStart => exact ⟨0, by omega, rfl, hTj⟩
      case round =>
        obtain ⟨i, hi, rfl, hTi⟩ := hrel
        by_cases hlt2 : i < c
        · have hcon := two_twice w w.heap.size nb (4096 - c + i) i wr hTi hle (by omega) (by omega)
          go_wp2_with (go_at_call 12; (with_reducible refine hcon.mono ?_); rintro e w2 ⟨rfl, hT2⟩)
          go_roundw
          case rel => exact ⟨i + 1, by omega, by go_num, by rw [show 4096 - c + (i + 1) = 4096 - c + i + 1 by omega]; exact hT2⟩
          case measure => simp [intOf]; omega
        · have hi2 : i = c := by omega
          subst hi2
          have hTa : Two wr w w.heap.size nb 4096 := by rw [show 4096 - i + i = 4096 by omega] at hTi; exact hTi
          go_wp2_with (first
            | (go_at_call 9; (with_reducible refine (two_full w w.heap.size nb _ hTa hle).mono ?_); rintro e w2 ⟨rfl, hTb⟩)
            | (go_at_call 12; (with_reducible refine (two_twice_full w w.heap.size nb _ hTb hle).mono ?_); rintro e w3 ⟨rfl, hTc⟩)
            | (go_at_call 10; (with_reducible refine (two_take w w.heap.size nb _ hTc hle).mono ?_); rintro e w4 ⟨p, rfl, hTd⟩)
            | (go_at_call 9; (with_reducible refine (two_send w w.heap.size nb 4095 _ _ _ (hTd.alloc hle _) hle (by omega) (by omega) (by omega) (by omega) (by omega)).mono ?_); rintro e w5 ⟨rfl, hTe⟩)
            | (go_at_call 11; (with_reducible refine (two_len w w.heap.size nb _ _ hTe).mono ?_); rintro e w6 ⟨rfl, rfl⟩)
            | (go_at_call 14; (with_reducible refine (two_clear w w.heap.size nb t _ hTe hle (by omega)).mono ?_); rintro e w7 ⟨m, hm, rfl, v7, ps7, hl7, hN7, hk7, hb7⟩)
            | (go_at_call 14; (with_reducible refine (two_clear2 w w.heap.size nb m t v7 ps7 _ hl7 hm hN7 hk7 hb7 hle).mono ?_); rintro e w8 ⟨rfl, hb8⟩))
          go_ret
          exact ⟨ret_bool (by simp), bnext hb0 hb8⟩
end Go.Proofs.Ytdlooafmjpbecaa
