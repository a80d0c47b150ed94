/-
  The contract of awake.
-/
import Derived.Test.YtnbbbgoecndjhaaTake
import Derived.Lib.SlBytesConst
import Derived.Deep.QuietTactic
import Derived.BigQuiet
import Derived.Lib.Bytes
namespace Go.Proofs.Ytnbbbgoecndjhaa
open Go.ChangeShapes Go.WideShapes Go.ChangeAt Go.RowKit
set_option linter.unusedVariables false

theorem Row.one (w : World) (x : Int) (f : Nat × Nat) : Row (w.alloc (.cells #[.int .u8 x] 5 f)) (some ⟨w.heap.size, 0, none⟩) 1 [x] := by
  refine ⟨rfl, by omega, .inr ⟨_, 0, rfl, fun j hj => ?_⟩⟩
  obtain rfl : j = 0 := by omega
  exact cell_of_row _ _ 0 #[.int .u8 x] 5 f (heap_alloc_new w _)
theorem Row.nil (w : World) : Row w none 0 [] := ⟨rfl, by omega, .inl ⟨rfl, rfl⟩⟩

theorem note_same (w : World) (B vb mb n : Nat) (low next : Int) (M : Int → Option (List Int)) (F : Int → Value) (pos : Int) (a : Option Addr) (l c : Nat) (xs : List Int) (h : VMem w B vb mb n low next M F) (hr : Row w a l xs)
    (h0 : 0 ≤ pos) (h1 : pos < 18446744073709551615) (hlow : low ≤ pos) (hk : M pos = some xs) :
    Calls Try.prog 9 #[.pointer (some ⟨vb, 0, none⟩), .int .u64 pos, .slice a l c] w fun e w' => e = .returned (.int .i64 31) ∧ w = w' := by
  have := note_known w B vb mb n low next M F pos a l c xs xs h hr h0 h1 hlow hk (by have := hr.1; have := hr.2.1; omega)
  rw [if_pos (by simp)] at this
  exact this
theorem note_other (w : World) (B vb mb n : Nat) (low next : Int) (M : Int → Option (List Int)) (F : Int → Value) (pos : Int) (a : Option Addr) (l c : Nat) (xs ys : List Int) (h : VMem w B vb mb n low next M F) (hr : Row w a l xs)
    (h0 : 0 ≤ pos) (h1 : pos < 18446744073709551615) (hlow : low ≤ pos) (hk : M pos = some ys) (hy : ys.length ≤ 4096) (hne : ((strOfNums ys).toList == (strOfNums xs).toList) = false) :
    Calls Try.prog 9 #[.pointer (some ⟨vb, 0, none⟩), .int .u64 pos, .slice a l c] w fun e w' => e = .returned (.int .i64 33) ∧ w = w' := by
  have := note_known w B vb mb n low next M F pos a l c xs ys h hr h0 h1 hlow hk hy
  rw [if_neg (by rw [hne]; simp)] at this
  exact this

/-- nx is the first position from low on that isn't known. -/
structure Nx (M : Int → Option (List Int)) (low nx : Int) : Prop where
  ge : low ≤ nx
  top : nx ≤ 18446744073709551615
  free : M nx = none
  all : ∀ k, low ≤ k → k < nx → M k ≠ none

theorem Nx.unique {M : Int → Option (List Int)} {low a b : Int} (h : Nx M low a) (k : Nx M low b) : a = b := by
  rcases Int.lt_trichotomy a b with h1 | h1 | h1
  · exact absurd h.free (k.all a h.ge h1)
  · exact h1
  · exact absurd k.free (h.all b k.ge h1)

/-- What Note of a new position leaves. -/
def NotedX (w : World) (B vb mb n : Nat) (low : Int) (M : Int → Option (List Int)) (F : Int → Value) (pos : Int) (xs : List Int) (e : Ending) (w' : World) : Prop :=
  ∃ nx F', e = .returned (.int .i64 0) ∧ VMem w' B vb mb (n + 1) low nx (upd M pos xs) F' ∧ Step B w w' ∧ Nx (upd M pos xs) low nx ∧ ∀ k, F' k = F k ∨ ∃ g c, F' k = .slice (some ⟨g, 0, none⟩) xs.length c ∧ w.heap.size ≤ g
theorem note_xs (w : World) (B vb mb n : Nat) (low next : Int) (M : Int → Option (List Int)) (F : Int → Value) (pos : Int) (a : Option Addr) (l c : Nat) (xs : List Int) (h : VMem w B vb mb n low next M F) (hr : Src w a l (xs.map (Value.int .u8))) (hB : B ≤ w.heap.size)
    (h0 : 0 ≤ pos) (h1 : pos < 18446744073709551615) (hl0 : 0 ≤ low) (hlow : low ≤ pos) (hx : Nx M low next) (hk : M pos = none) (hlast : M 18446744073709551615 = none) (hn : n < 1000000) :
    Calls Try.prog 9 #[.pointer (some ⟨vb, 0, none⟩), .int .u64 pos, .slice a l c] w (NotedX w B vb mb n low M F pos xs) := by
  refine (note_ok w B vb mb n low next M F pos a l c xs h hr hB h0 h1 hl0 hlow (by have := hx.ge; omega) hx.top hk hlast hn).mono ?_
  rintro e w' ⟨nx, g, cg, he, hV, hg, hS, p1, p2, p3, p4, p5⟩
  refine ⟨nx, _, he, hV, hS, ⟨p1, p3, p5, fun k k1 k2 => ?_⟩, fun k => ?_⟩
  rotate_left
  · by_cases hk' : k = pos
    · exact .inr ⟨g, cg, if_pos hk', hg⟩
    · exact .inl (if_neg hk')
  by_cases hk' : next ≤ k
  · exact p4 k k1 hk' k2
  · have := hx.all k k1 (by omega)
    unfold upd
    split
    · simp
    · exact this

theorem note_x (w : World) (B vb mb n : Nat) (low next : Int) (M : Int → Option (List Int)) (F : Int → Value) (pos : Int) (a : Option Addr) (l c : Nat) (xs : List Int) (h : VMem w B vb mb n low next M F) (hr : Row w a l xs) (hB : B ≤ w.heap.size)
    (h0 : 0 ≤ pos) (h1 : pos < 18446744073709551615) (hl0 : 0 ≤ low) (hlow : low ≤ pos) (hx : Nx M low next) (hk : M pos = none) (hlast : M 18446744073709551615 = none) (hn : n < 1000000) :
    Calls Try.prog 9 #[.pointer (some ⟨vb, 0, none⟩), .int .u64 pos, .slice a l c] w (NotedX w B vb mb n low M F pos xs) :=
  note_xs w B vb mb n low next M F pos a l c xs h hr.src hB h0 h1 hl0 hlow hx hk hlast hn

/-- Two rows of bytes are one string just where they are one row. -/
theorem bytes_inj : ∀ (xs ys : List Int), (∀ x ∈ xs, 0 ≤ x ∧ x ≤ 255) → (∀ x ∈ ys, 0 ≤ x ∧ x ≤ 255) → xs.map (fun n => UInt8.ofNat n.toNat) = ys.map (fun n => UInt8.ofNat n.toNat) → xs = ys
  | [], [], _, _, _ => rfl
  | [], y :: ys, _, _, h => by cases h
  | x :: xs, [], _, _, h => by cases h
  | x :: xs, y :: ys, hx, hy, h => by
    simp only [List.map_cons, List.cons.injEq] at h
    have h1 := hx x (by simp)
    have h2 := hy y (by simp)
    have h3 := congrArg UInt8.toNat h.1
    simp at h3
    have : x = y := by omega
    rw [this, bytes_inj xs ys (fun z hz => hx z (by simp [hz])) (fun z hz => hy z (by simp [hz])) h.2]
theorem str_same {xs ys : List Int} (hx : ∀ x ∈ xs, 0 ≤ x ∧ x ≤ 255) (hy : ∀ x ∈ ys, 0 ≤ x ∧ x ≤ 255) : ((strOfNums xs).toList == (strOfNums ys).toList) = decide (xs = ys) := by
  rw [Lib.strOfNums_toList, Lib.strOfNums_toList]
  by_cases h : xs = ys
  · subst h; simp
  · rw [decide_eq_false h, beq_eq_false_iff_ne]
    exact fun e => h (bytes_inj xs ys hx hy e)
theorem ne_cd : ((strOfNums [99]).toList == (strOfNums [100]).toList) = false := by
  rw [str_same (by simp) (by simp)]; rfl

/-- What is known in awake. -/
def M3 : Int → Option (List Int) := upd (upd (upd (fun _ => none) 0 [97]) 1 []) 3 [99]
theorem M3_short (k : Int) (xs : List Int) (h : M3 k = some xs) : xs.length ≤ 4096 := by
  unfold M3 upd at h
  simp only at h
  split at h
  · injection h with h; subst h; simp
  · split at h
    · injection h with h; subst h; simp
    · split at h
      · injection h with h; subst h; simp
      · cases h

/-- What Take tells in awake. -/
def Two (w : World) (e : Ending) (w' : World) : Prop := ∃ a c, e = .returned (.tuple #[.slice a 2 c, .int .u64 2]) ∧ Below w.heap.size w w'
theorem take_two (w : World) (B vb mb nn : Nat) (next : Int) (FF : Int → Value) (hV : VMem w B vb mb nn 0 next M3 FF) :
    Calls Try.prog 10 #[.pointer (some ⟨vb, 0, none⟩), .int .u64 0, .int .i64 9] w (Two w) := by
  refine (take_ok w B vb mb nn 0 next M3 FF 0 0 9 hV M3_short rfl (by omega) (by omega) (by omega) (by omega) (by simp) (by omega)).mono ?_
  rintro e w' ⟨v2, vs, rfl, hrow, hrec, hle, hend, hb⟩
  have h2 : vs.length = 2 := by
    have hk : ∀ i, i < vs.length → M3 (0 + i) ≠ none := fun i hi => by
      obtain ⟨xs, h, _⟩ := hrec i _ (List.getElem?_eq_getElem hi)
      rw [h]; simp
    have h3 : vs.length ≤ 2 := by
      rcases Nat.lt_or_ge 2 vs.length with h | h
      · exact absurd (by rfl) (hk 2 h)
      · exact h
    rcases hend with h | h
    · have : (9 : Int).toNat = 9 := rfl
      omega
    · rcases Nat.lt_or_ge vs.length 2 with h4 | h4
      · exfalso
        have : vs.length = 0 ∨ vs.length = 1 := by omega
        rcases this with h5 | h5
        · rw [h5] at h; cases h
        · rw [h5] at h; cases h
      · omega
  rcases hrow.2 with ⟨rfl, h⟩ | ⟨g, cap, cur, rfl, _⟩
  · omega
  · rw [h2]; exact ⟨_, _, rfl, hb⟩

theorem nx0 : Nx (fun _ => none) 0 0 := ⟨by omega, by omega, rfl, fun k h1 h2 => by omega⟩
theorem nx3 : Nx M3 0 2 := ⟨by omega, by omega, rfl, fun k h1 h2 => by
  have : k = 0 ∨ k = 1 := by omega
  rcases this with rfl | rfl
  · intro h; cases h
  · intro h; cases h⟩

set_option maxRecDepth 100000 in
set_option maxHeartbeats 1000000 in
theorem awake_any (w : World) : Calls Try.prog 7 #[] w fun e w' => e = .returned (.bool true) ∧ Below w.heap.size w w' := by
  have kc := fun (w : World) (C : Array Value) (n c : Nat) => Lib.run_convert_bytes_const (P := Try.prog) w 23 5 C n c Try.underlying23 Try.underlying5
  go_enter Try.func7, Try.ntmps7
  go_wp2_with (first
    | (go_at_call 8; (with_reducible refine (new_ok w.heap.size _ (by omega)).mono ?_); rintro e w1 ⟨vb, mb, rfl, hV1, hS1⟩; have hz1 := hS1.size)
    | (go_at_call 9; (with_reducible refine (note_x _ w.heap.size vb mb 0 0 0 _ _ 0 _ _ _ [97] (hV1.later ((Below.refl _ _).alloc (Nat.le_refl _) _)) (Row.one _ _ _) (by simp; omega) (by omega) (by omega) (by omega) (by omega) nx0 rfl rfl (by omega)).mono ?_); rintro e w2 ⟨n2, F2, rfl, hV2, hS2, hx2, _⟩; have hz2 := hS2.size; simp at hz2)
    | (go_at_call 9; (with_reducible refine (note_x _ w.heap.size vb mb _ 0 n2 _ _ 1 _ _ _ [] hV2 (Row.nil _) (by omega) (by omega) (by omega) (by omega) (by omega) hx2 rfl rfl (by omega)).mono ?_); rintro e w3 ⟨n3, F3, rfl, hV3, hS3, hx3, _⟩; have hz3 := hS3.size)
    | (go_at_call 9; (with_reducible refine (note_x _ w.heap.size vb mb _ 0 n3 _ _ 3 _ _ _ [99] (hV3.later ((Below.refl _ _).alloc (Nat.le_refl _) _)) (Row.one _ _ _) (by simp; omega) (by omega) (by omega) (by omega) (by omega) hx3 rfl rfl (by omega)).mono ?_); rintro e w4 ⟨n4, F4, rfl, hV4, hS4, hx4, _⟩; obtain rfl : n4 = 2 := hx4.unique nx3; have hz4 := hS4.size; simp at hz4)
    | (go_at_call 9; (with_reducible refine (note_other _ w.heap.size vb mb _ 0 2 _ _ 3 _ _ _ [100] [99] (hV4.later ((Below.refl _ _).alloc (Nat.le_refl _) _)) (Row.one _ _ _) (by omega) (by omega) (by omega) rfl (by simp) ne_cd).mono ?_); rintro e w5 ⟨rfl, rfl⟩; have hV5 := hV4.later ((Below.refl _ _).alloc (Nat.le_refl _) (.cells #[.int .u8 100] 5 (1, 2))))
    | (go_at_call 10; (with_reducible refine (take_two _ w.heap.size vb mb _ 2 _ hV5).mono ?_); rintro e w6 ⟨ta, tc, rfl, hB6⟩; have hz6 := hB6.size; have hV6 := hV5.later hB6)
    | (go_at_call 9; (with_reducible refine (note_same _ w.heap.size vb mb _ 0 2 _ _ 1 _ _ _ [] hV6 (Row.nil _) (by omega) (by omega) (by omega) rfl).mono ?_); rintro e w7 ⟨rfl, rfl⟩)
    | (go_at_call 11; (with_reducible refine (next_ok _ w.heap.size vb mb _ 0 2 _ _ hV6).mono ?_); rintro e w8 ⟨rfl, rfl⟩))
  go_ret
  exact ⟨rfl, ((((((hS1.below.alloc (by omega) _).trans hS2.below).trans hS3.below).alloc (by omega) _).trans hS4.below).alloc (by omega) _).trans (hB6.mono (by simp; omega))⟩
end Go.Proofs.Ytnbbbgoecndjhaa
