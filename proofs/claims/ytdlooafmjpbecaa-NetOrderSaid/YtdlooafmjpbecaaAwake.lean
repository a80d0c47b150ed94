/-
  The walk of the net laws' awake.
-/
import Derived.Test.YtdlooafmjpbecaaTo
import Derived.Test.YtdlooafmjpbecaaDlf
import Derived.Laws.BytesArg
import Derived.Lib.SlBytesConst
import Derived.BigQuiet
import Derived.Deep.QuietTactic
namespace Go.Proofs.Ytdlooafmjpbecaa
open Go.ChangeShapes Go.WideShapes Go.ChangeAt Go.RowKit

theorem Src.nil (w : World) : Src w none 0 [] := ⟨rfl, by omega, by simp, Or.inl ⟨rfl, rfl⟩⟩

theorem conv_zero (w : World) (a : Option Addr) (c : Nat) : (convert 29 9 (.slice a 0 c)).run Try.prog w = .ok (.string (strOfNums [])) w := by
  cases a with
  | none => exact run_convert_bytes_nil w 29 5 Try.underlying29 Try.underlying5 0 c 9 Try.underlying9
  | some ad =>
    rw [run_convert_bytes_string w 29 9 5 (some ad) 0 c Try.underlying29 Try.underlying5 Try.underlying9, run_bytesToString w ad 0 c [] (by simp [loadCells, loadCellsFrom])]
    rfl

/-- string(Data) of a packet. -/
theorem dat_string {w : World} {p : Pk} {xs : List Int} (h : Dat w p) (hx : p.bs = xs.map (Value.int .u8)) :
    (convert 29 9 (.slice p.ad p.n p.c)).run Try.prog w = .ok (.string (strOfNums xs)) w := by
  have hl : xs.length = p.n := by rw [← h.1, hx, List.length_map]
  rcases Nat.eq_zero_or_pos p.n with h0 | h0
  · have : xs = [] := List.eq_nil_of_length_eq_zero (by omega)
    subst this
    rw [h0]
    exact conv_zero w p.ad p.c
  · obtain ⟨g, cs, f, h1, h2, h3⟩ := h.2.2.2 h0
    rw [h1]
    refine run_convert_bytes_arg w 29 5 Try.underlying29 Try.underlying5 g 0 p.n p.c xs hl (fun i hi => ?_) 9 Try.underlying9
    rw [Nat.zero_add, cell_of_row w g i cs 5 f h2]
    refine h3 i _ ?_
    rw [hx, List.getElem?_map, List.getElem?_eq_getElem (by omega)]
    simp [List.getD, List.getElem?_eq_getElem (show i < xs.length by omega)]

/-- The places of three packets, the first and the last of which are for node 1. -/
theorem places_three (a b c : Pk) (ha : a.to = 1) (hb : b.to = 0) (hc : c.to = 1) : places 1 [a, b, c] 3 = [0, 2] := by
  have e : List.range 3 = [0, 1, 2] := rfl
  simp [places, e, isTo, ha, hb, hc]

/-- One byte in a block of its own, marked as a conversion's. -/
theorem src_one (w : World) (f : Nat × Nat) : Src (w.alloc (.cells #[.int .u8 97] 5 f)) (some ⟨w.heap.size, 0, none⟩) 1 [.int .u8 97] := by
  refine ⟨rfl, by omega, by simp [Value.oneCell'], Or.inr ⟨_, rfl, fun j u hj => ?_⟩⟩
  have := World.news_of_block (cs := #[.int .u8 97]) (t := 5) (fr := f) (heap_alloc_new w (.cells #[.int .u8 97] 5 f))
  exact this j u hj

theorem NetAt.drewN {w : World} {B nb : Nat} {N : Int} {v : Value} {ps : List Pk} (h : NetAt w B nb N v ps) (n : Nat) : NetAt (w.drewN n) B nb N v ps :=
  ⟨h.base, h.head, h.row, h.dat⟩
theorem len_q (w : World) (B nb : Nat) (N : Int) (v : Value) (ps : List Pk) (h : NetAt w B nb N v ps) (n : Nat) :
    Calls Try.prog 11 #[.pointer (some ⟨nb, 0, none⟩)] (w.drewN n) fun e w'' => e = .returned (.int .i64 ps.length) ∧ ∃ m, w'' = w.drewN m :=
  (len_any _ B nb N v ps (h.drewN n)).mono fun _ _ ⟨he, hw⟩ => ⟨he, n, hw.symm⟩

theorem Whole.kept6 {w w' : World} {g B : Nat} {cs : Array Value} (h : Whole w g 3 cs) (hs : Step B w w') : Whole w' g 3 cs := hs.bytes g cs 3 (0, 0) (by decide) h

/-- What Take leaves of a net's first packet. -/
def Front (w : World) (B nb : Nat) (N : Int) (p : Pk) (ps : List Pk) (e : Ending) (w' : World) : Prop :=
  ∃ v', e = .returned (.tuple #[p.val, .bool true]) ∧ NetAt w' B nb N v' ps ∧ Step B w w'
theorem take_front (w : World) (B nb : Nat) (N : Int) (v : Value) (p : Pk) (ps : List Pk) (h : NetAt w B nb N v (p :: ps)) (hB : B ≤ w.heap.size) :
    Calls Try.prog 10 #[.pointer (some ⟨nb, 0, none⟩), .int .i64 0] w (Front w B nb N p ps) :=
  take_ok w B nb N v (p :: ps) 0 (by simp) h hB

/-- string(Data) of a packet that was taken, behind a box. -/
theorem dat_boxed {w : World} {p : Pk} (h : Dat w p) (hx : p.bs = [Value.int .u8 97]) (o : Obj) :
    (convert 29 9 (.slice p.ad p.n p.c)).run Try.prog (w.alloc o) = .ok (.string ⟨#[97]⟩) (w.alloc o) :=
  dat_string (xs := [97]) (h.kept ((Bytes.refl w).alloc o)) hx

/-- What To tells of awake's three packets. -/
def Three (w : World) (e : Ending) (w' : World) : Prop := ∃ g c cs, e = .returned (.slice (some ⟨g, 0, none⟩) 2 c) ∧ Whole w' g 3 cs ∧ cs[1]? = some (.int .i64 2) ∧ 2 ≤ c ∧ c ≤ 9223372036854775807 ∧ Below w.heap.size w w'
theorem to_three (w : World) (B nb : Nat) (N : Int) (v : Value) (a b c : Pk) (h : NetAt w B nb N v ([] ++ [a] ++ [b] ++ [c])) (ha : a.to = 1) (hb : b.to = 0) (hc : c.to = 1) :
    Calls Try.prog 13 #[.pointer (some ⟨nb, 0, none⟩), .int .i64 1] w (Three w) := by
  have hp : places 1 ([] ++ [a] ++ [b] ++ [c]) ([] ++ [a] ++ [b] ++ [c]).length = [0, 2] := places_three a b c ha hb hc
  have ht := to_any w B nb N v _ 1 h (by simp)
  unfold Toed at ht
  rw [hp] at ht
  refine ht.mono fun e w' ⟨ad, cap, he, hr, hbel⟩ => ?_
  rcases hr.2 with ⟨_, h0⟩ | ⟨g, cap', cur, hv, _, hh, h1, h2, _, h4⟩
  · cases h0
  · injection hv with hv1 _ hv3
    subst hv1
    subst hv3
    refine ⟨g, cap, cur, he, hh, ?_, by simpa using h1, by unfold maxLen at h2; omega, hbel⟩
    have : (cur.toList.take 2)[1]? = some (.int .i64 2) := by rw [show (2 : Nat) = [0, 2].length * 1 from rfl, h4]; rfl
    rw [List.getElem?_take] at this
    simpa using this

set_option maxRecDepth 100000 in
set_option maxHeartbeats 1000000 in
theorem awake_any (w : World) : Calls Try.prog 7 #[] w fun e w' => e = .returned (.bool true) ∧ Below w.heap.size w w' := by
  have kc := fun (w : World) (C : Array Value) (n c : Nat) => Lib.run_convert_bytes_const (P := Try.prog) w 29 5 C n c Try.underlying29 Try.underlying5
  go_enter Try.func7, Try.ntmps7
  go_wp2_with (first
    | (go_at_call 8; (with_reducible refine (new_ok _ w.heap.size _ (by omega) (by omega) (by omega)).mono ?_); rintro e w1 ⟨nb, rfl, hN1, hS1⟩; have hz1 := hS1.size)
    | (go_at_call 9; (with_reducible refine (send_ok _ w.heap.size nb 3 _ [] _ _ _ 1 _ [.int .u8 97] (hN1.later ((Below.refl _ _).alloc (Nat.le_refl _) _)) (by simp; omega) (src_one _ _) (by omega) (by omega) (by omega) (by omega) (by simp)).mono ?_); rintro e w2 ⟨v2, p0, rfl, a1, a2, a3, hN2, hS2, _⟩; have hz2 := hS2.size; simp at hz2)
    | (go_at_call 9; (with_reducible refine (send_ok _ w.heap.size nb 3 _ ([] ++ [p0]) _ _ _ 0 _ [] hN2 (by omega) (Src.nil _) (by omega) (by omega) (by omega) (by omega) (by simp)).mono ?_); rintro e w3 ⟨v3, p1, rfl, b1, b2, b3, hN3, hS3, _⟩; have hz3 := hS3.size)
    | (go_at_call 9; (with_reducible refine (send_ok _ w.heap.size nb 3 _ ([] ++ [p0] ++ [p1]) _ _ _ 0 _ [] hN3 (by omega) (Src.nil _) (by omega) (by omega) (by omega) (by omega) (by simp)).mono ?_); rintro e w4 ⟨v4, p2, rfl, c1, c2, c3, hN4, hS4, _⟩; have hz4 := hS4.size)
    | (go_at_call 13; (with_reducible refine (to_three _ w.heap.size nb 3 _ p0 p1 p2 hN4 a2 b2 c2).mono ?_); rintro e w5 ⟨g, c, cs, rfl, hT, hT1, hc2, hc3, hB5⟩; have hN5 := hN4.later hB5; have hz5 := hB5.size)
    | (go_at_call 10; (with_reducible refine (take_front _ w.heap.size nb 3 _ p0 [p1, p2] hN5 (by omega)).mono ?_); rintro e w6 ⟨v6, rfl, hN6, hS6⟩; have hT6 := hT.kept6 hS6; have t1 := (hT6.cell 1).trans hT1; have t2 := hT6.lt; have t3 := dat_boxed ((hN5.dat p0 (by simp)).kept hS6.bytes) a3; have hz6 := hS6.size)
    | (go_at_call 11; (with_reducible refine (len_any _ w.heap.size nb 3 _ [p1, p2] (hN6.later ((Below.refl _ _).alloc (Nat.le_refl _) _))).mono ?_); rintro e w7 ⟨rfl, rfl⟩))
  go_ret
  exact ⟨rfl, ((((((hS1.below.alloc (by omega) _).trans hS2.below).trans hS3.below).trans hS4.below).trans (hB5.mono (by omega))).trans hS6.below).alloc (by omega) _⟩
end Go.Proofs.Ytdlooafmjpbecaa
