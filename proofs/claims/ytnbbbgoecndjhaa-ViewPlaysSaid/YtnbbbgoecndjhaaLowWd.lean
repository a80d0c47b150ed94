/-
  Words and contracts of ViewLow's walk.
-/
import Derived.Test.YtnbbbgoecndjhaaRaise
import Derived.Test.YtnbbbgoecndjhaaOwnWalk
import Derived.Laws.BitsLemmas
namespace Go.Proofs.Ytnbbbgoecndjhaa
open Go.ChangeShapes Go.WideShapes Go.ChangeAt Go.RowKit
set_option linter.unusedVariables false

theorem u8_and31 (x : Int) (h0 : 0 ≤ x) (h1 : x < 256) : bits .and .u8 x 31 = x % 32 := bits_mask .u8 8 (by decide) wraps_u8 5 (by decide) x h0 h1

/-- Get of a position that was given up; of one that isn't known. -/
theorem get_low (w : World) (B vb mb n : Nat) (low next : Int) (M : Int → Option (List Int)) (F : Int → Value) (pos : Int) (h : VMem w B vb mb n low next M F) (h0 : 0 ≤ pos) (hlow : pos < low) :
    Calls Try.prog 12 #[.pointer (some ⟨vb, 0, none⟩), .int .u64 pos] w fun e w' => e = .returned (.tuple #[.slice none 0 0, .int .i64 35]) ∧ w = w' := by
  have c1 : w.cell? ⟨vb, 1, none⟩ = some (.int .u64 low) := h.head.cell 1
  have hlt := h.head.lt
  clear h
  go_enter Try.func12, Try.ntmps12
  go_wp2
  go_ret2
  exact ⟨rfl, rfl⟩
theorem get_none (w : World) (B vb mb n : Nat) (low next : Int) (M : Int → Option (List Int)) (F : Int → Value) (pos : Int) (h : VMem w B vb mb n low next M F) (h0 : 0 ≤ pos) (h1 : pos ≤ 18446744073709551615) (hlow : low ≤ pos) (hk : M pos = none) :
    Calls Try.prog 12 #[.pointer (some ⟨vb, 0, none⟩), .int .u64 pos] w fun e w' => e = .returned (.tuple #[.slice none 0 0, .int .i64 36]) ∧ w = w' := by
  have c0 : w.cell? ⟨vb, 0, none⟩ = some (.map (some mb)) := h.head.cell 0
  have c1 : w.cell? ⟨vb, 1, none⟩ = some (.int .u64 low) := h.head.cell 1
  have hlt := h.head.lt
  have hlook := h.map.look (k := pos) h0 h1
  rw [h.absent pos hk] at hlook
  have hnn := @Lib.run_eql_slice_nil Try.prog
  clear h
  go_enter Try.func12, Try.ntmps12
  go_wp2
  go_ret2
  exact ⟨rfl, rfl⟩

/-- What is known: from lo on, each position that was noted holds its own number. -/
def MK (lo : Int) (h : Nat → Bool) : Int → Option (List Int) := fun k => if lo ≤ k ∧ 0 ≤ k ∧ k < 32 ∧ h k.toNat = true then some [k] else none
/-- One more was noted. -/
def setb (h : Nat → Bool) (c : Nat) : Nat → Bool := fun k => k == c || h k

theorem MK_short (lo : Int) (h : Nat → Bool) (k : Int) (xs : List Int) (e : MK lo h k = some xs) : xs.length ≤ 4096 := by
  unfold MK at e; split at e
  · injection e with e; subst e; simp
  · cases e
theorem MK_last (lo : Int) (h : Nat → Bool) : MK lo h 18446744073709551615 = none := by unfold MK; rw [if_neg (by omega)]
theorem MK_none : MK 0 (fun _ => false) = fun _ => none := by funext k; unfold MK; simp
theorem MK_cut (lo : Int) (h : Nat → Bool) (h0 : 0 ≤ lo) : cut lo (MK 0 h) = MK lo h := by
  funext k
  unfold cut MK
  by_cases hk : k < lo
  · rw [if_pos hk, if_neg (by omega)]
  · rw [if_neg hk]
    by_cases h2 : lo ≤ k ∧ 0 ≤ k ∧ k < 32 ∧ h k.toNat = true
    · rw [if_pos h2, if_pos ⟨by omega, h2.2⟩]
    · rw [if_neg h2, if_neg (by intro h3; exact h2 ⟨by omega, h3.2⟩)]
theorem MK_set {lo : Int} {h : Nat → Bool} {c : Nat} (hc : c < 32) (hl : lo ≤ c) : upd (MK lo h) c [(c : Int)] = MK lo (setb h c) := by
  funext k
  unfold upd MK setb
  by_cases hk : k = c
  · subst hk
    rw [if_pos rfl, if_pos ⟨hl, by omega, by omega, by simp⟩]
  · rw [if_neg hk]
    by_cases h0 : 0 ≤ k
    · have : (k.toNat == c) = false := by simp; omega
      simp [this]
    · rw [if_neg (by omega), if_neg (by omega)]
theorem MK_below {lo : Int} {h : Nat → Bool} {c : Nat} (hl : (c : Int) < lo) : MK lo h = MK lo (setb h c) := by
  funext k
  unfold MK setb
  by_cases hk : lo ≤ k
  · have : (k.toNat == c) = false := by simp; omega
    simp [this]
  · rw [if_neg (by omega), if_neg (by omega)]
theorem MK_has {lo : Int} {h : Nat → Bool} {c : Nat} (hh : h c = true) : MK lo h = MK lo (setb h c) := by
  have : h = setb h c := by
    funext k; unfold setb
    by_cases hk : k = c
    · subst hk; simp [hh]
    · have : (k == c) = false := by simpa using hk
      simp [this]
  rw [← this]
theorem MK_at {lo : Int} {h : Nat → Bool} {c : Nat} (hc : c < 32) (hl : lo ≤ c) (hh : h c = true) : MK lo h c = some [(c : Int)] := by
  unfold MK; rw [if_pos ⟨hl, by omega, by omega, by simpa using hh⟩]
theorem MK_off {lo : Int} {h : Nat → Bool} {c : Nat} (hh : h c = false) : MK lo h c = none := by
  unfold MK; rw [if_neg (by simp [hh])]
theorem MK_high {lo k : Int} {h : Nat → Bool} (hk : 32 ≤ k) : MK lo h k = none := by unfold MK; rw [if_neg (by omega)]

/-- What Note says. -/
def code (lo : Int) (h : Nat → Bool) (c : Nat) : Int := if (c : Int) < lo then 35 else if h c = true then 31 else 0

/-- What stands of the view. -/
def LV (w W : World) (vb mb n : Nat) (lo : Int) (h : Nat → Bool) : Prop := ∃ nx F, VMem W w.heap.size vb mb n lo nx (MK lo h) F ∧ Nx (MK lo h) lo nx

/-- What Note leaves. -/
def LNoted (w W : World) (vb mb n : Nat) (lo : Int) (h : Nat → Bool) (c : Nat) (r : Int) (e : Ending) (w' : World) : Prop :=
  ∃ n', e = .returned (.int .i64 r) ∧ n' ≤ n + 1 ∧ LV w w' vb mb n' lo (setb h c) ∧ Step w.heap.size W w'
theorem low_note (w W : World) (vb mb n : Nat) (lo : Int) (h : Nat → Bool) (c : Nat) (a : Option Addr) (cap : Nat) (r : Int) (hV : LV w W vb mb n lo h) (hr : Row W a 1 [(c : Int)]) (hB : w.heap.size ≤ W.heap.size) (hc : c < 32) (h0 : 0 ≤ lo) (hn : n < 1000000) (hcode : code lo h c = r) :
    Calls Try.prog 9 #[.pointer (some ⟨vb, 0, none⟩), .int .u64 c, .slice a 1 cap] W (LNoted w W vb mb n lo h c r) := by
  obtain ⟨nx, F, hM, hx⟩ := hV
  unfold code at hcode
  by_cases h1 : (c : Int) < lo
  · rw [if_pos h1] at hcode
    subst hcode
    refine (note_low W w.heap.size vb mb n lo nx _ F c _ hM (by omega) (by omega) h1).mono ?_
    rintro e w' ⟨rfl, rfl⟩
    rw [MK_below h1] at hM hx
    exact ⟨n, rfl, by omega, ⟨nx, F, hM, hx⟩, Step.refl _ _⟩
  · rw [if_neg h1] at hcode
    by_cases h2 : h c = true
    · rw [if_pos h2] at hcode
      subst hcode
      refine (note_same W w.heap.size vb mb n lo nx _ F c a 1 cap _ hM hr (by omega) (by omega) (by omega) (MK_at hc (by omega) h2)).mono ?_
      rintro e w' ⟨rfl, rfl⟩
      rw [MK_has h2] at hM hx
      exact ⟨n, rfl, by omega, ⟨nx, F, hM, hx⟩, Step.refl _ _⟩
    · rw [if_neg h2] at hcode
      subst hcode
      refine (note_x W w.heap.size vb mb n lo nx _ F c a 1 cap _ hM hr hB (by omega) (by omega) h0 (by omega) hx (MK_off (by simpa using h2)) (MK_last _ _) hn).mono ?_
      rintro e w' ⟨nx', F', rfl, hM', hS, hx', _⟩
      rw [MK_set hc (by omega)] at hM' hx'
      exact ⟨n + 1, rfl, by omega, ⟨nx', F', hM', hx'⟩, hS⟩

/-- What Raise leaves. -/
def LRaised (w W : World) (vb mb n : Nat) (lo : Int) (h : Nat → Bool) (e : Ending) (w' : World) : Prop := e = .returned (.tuple #[]) ∧ LV w w' vb mb n lo h ∧ Step w.heap.size W w'
theorem low_raise (w W : World) (vb mb n : Nat) (lo : Int) (h : Nat → Bool) (hV : LV w W vb mb n 0 h) (hB : w.heap.size ≤ W.heap.size) (h0 : 0 ≤ lo) (h1 : lo < 32) :
    Calls Try.prog 13 #[.pointer (some ⟨vb, 0, none⟩), .int .u64 lo] W (LRaised w W vb mb n lo h) := by
  obtain ⟨nx, F, hM, hx⟩ := hV
  by_cases hl : lo = 0
  · subst hl
    refine (raise_low W w.heap.size vb mb n 0 nx _ F 0 hM (by omega) (by omega) (by omega)).mono ?_
    rintro e w' ⟨rfl, rfl⟩
    exact ⟨rfl, ⟨nx, F, hM, hx⟩, Step.refl _ _⟩
  · refine (raise_up W w.heap.size vb mb n 0 nx _ F lo hM hB hx (MK_last _ _) (by omega) h0 (by omega) (by omega)).mono ?_
    rintro e w' ⟨nx', rfl, hM', hS, hx'⟩
    rw [MK_cut lo h h0] at hM' hx'
    exact ⟨rfl, ⟨nx', _, hM', hx'⟩, hS⟩

/-- The row of what was noted. -/
def HasAt (W : World) (hb : Nat) (h : Nat → Bool) : Prop := ∃ cs, Whole W hb 4 cs ∧ cs.size = 32 ∧ ∀ k, k < 32 → cs[k]? = some (.bool (h k))
theorem HasAt.cell {W : World} {hb : Nat} {h : Nat → Bool} (hh : HasAt W hb h) {k : Nat} (hk : k < 32) : W.cell? ⟨hb, k, none⟩ = some (.bool (h k)) := by
  obtain ⟨cs, h1, _, h3⟩ := hh; exact (h1.cell k).trans (h3 k hk)
theorem HasAt.free {W : World} {hb : Nat} {h : Nat → Bool} (hh : HasAt W hb h) (k : Nat) : W.frozen? ⟨hb, k, none⟩ = false := by obtain ⟨cs, h1, _⟩ := hh; exact h1.free k
theorem HasAt.lt {W : World} {hb : Nat} {h : Nat → Bool} (hh : HasAt W hb h) : hb < W.heap.size := by obtain ⟨cs, h1, _⟩ := hh; exact h1.lt
theorem HasAt.kept {W W' : World} {hb : Nat} {h : Nat → Bool} (hh : HasAt W hb h) (hS : Bytes W W') : HasAt W' hb h := by
  obtain ⟨cs, h1, h2, h3⟩ := hh; exact ⟨cs, hS hb cs 4 (0, 0) (by decide) h1, h2, h3⟩
theorem HasAt.put {W : World} {hb : Nat} {h : Nat → Bool} (hh : HasAt W hb h) {c : Nat} (hc : c < 32) : HasAt (W.setCell ⟨hb, c, none⟩ (.bool true)) hb (setb h c) := by
  obtain ⟨cs, h1, h2, h3⟩ := hh
  refine ⟨_, h1.put c (.bool true), by simpa using h2, fun k hk => ?_⟩
  unfold setb
  rw [Array.getElem?_setIfInBounds]
  by_cases e : c = k
  · subst e
    simp [h2, hk]
  · have : (k == c) = false := by simp; omega
    simp [e, this, h3 k hk]
theorem HasAt.made (W : World) (cs : Array Value) (h : cs = Array.replicate 32 (.bool false)) : HasAt (W.alloc (.cells cs 4)) W.heap.size (fun _ => false) := by
  subst h
  exact ⟨_, Whole.made W 4 _, by simp, fun k hk => by simp [hk]⟩

/-- A store into the row leaves the view. -/
theorem VMem.other {w : World} {B vb mb n : Nat} {low next : Int} {M : Int → Option (List Int)} {F : Int → Value} {g0 i : Nat} {cs : Array Value} {t : TypeId} {f : Nat × Nat} (h : VMem w B vb mb n low next M F) (h5 : w.heap[g0]? = some (.cells cs t f)) (ht : t ≠ 58) (ht5 : t ≠ 5) (u : Value) : VMem (w.setCell ⟨g0, i, none⟩ u) B vb mb n low next M F := by
  refine ⟨h.base, h.baseM, h.head.apart (p := ⟨g0, i, none⟩) (type_ne h.head h5 (Ne.symm ht)) u, h.map.put (a := ⟨g0, i, none⟩) (h.apart h5).symm u, h.absent, fun k xs hk => ?_⟩
  obtain ⟨g, c, cs', fr, q1, q2, q3⟩ := h.known k xs hk
  exact ⟨g, c, cs', fr, q1, (Below.heap_setCell w ⟨g0, i, none⟩ u g (type_ne q2 h5 (Ne.symm ht5))).trans q2, q3⟩
theorem LV.store {w W : World} {vb mb n : Nat} {lo : Int} {h g : Nat → Bool} {hb c : Nat} (hV : LV w W vb mb n lo h) (hh : HasAt W hb g) (u : Value) : LV w (W.setCell ⟨hb, c, none⟩ u) vb mb n lo h := by
  obtain ⟨nx, F, hM, hx⟩ := hV
  obtain ⟨cs, h1, _⟩ := hh
  exact ⟨nx, F, hM.other h1 (by decide) (by decide) u, hx⟩
theorem LV.later {w W W' : World} {vb mb n : Nat} {lo : Int} {h : Nat → Bool} (hV : LV w W vb mb n lo h) (hb : Below W.heap.size W W') : LV w W' vb mb n lo h := by
  obtain ⟨nx, F, hM, hx⟩ := hV
  exact ⟨nx, F, hM.later hb, hx⟩

/-- What Get of what was noted leaves. -/
def LGot (W : World) (c : Nat) (e : Ending) (w' : World) : Prop :=
  ∃ g cap, e = .returned (.tuple #[.slice (some ⟨g, 0, none⟩) 1 cap, .int .i64 0]) ∧ w'.cell? ⟨g, 0, none⟩ = some (.int .u8 c) ∧ g < w'.heap.size ∧ Below W.heap.size W w'
theorem low_got (w W : World) (vb mb n : Nat) (lo : Int) (h : Nat → Bool) (c : Nat) (hV : LV w W vb mb n lo h) (hc : c < 32) (hl : lo ≤ c) (hh : h c = true) :
    Calls Try.prog 12 #[.pointer (some ⟨vb, 0, none⟩), .int .u64 c] W (LGot W c) := by
  obtain ⟨nx, F, hM, hx⟩ := hV
  refine (get_ok W w.heap.size vb mb n lo nx _ F c [(c : Int)] hM (by omega) (by omega) hl (MK_at hc hl hh) (by simp)).mono ?_
  rintro e w' ⟨a, cap, rfl, hd, hb⟩
  obtain ⟨g, cs, rfl, hw, hxx, hg⟩ := hd (by simp)
  exact ⟨g, cap, rfl, (hw.cell 0).trans (hxx 0 _ rfl), hw.lt, hb⟩
theorem low_gone (w W : World) (vb mb n : Nat) (lo : Int) (h : Nat → Bool) (c : Nat) (hV : LV w W vb mb n lo h) (hl : (c : Int) < lo) :
    Calls Try.prog 12 #[.pointer (some ⟨vb, 0, none⟩), .int .u64 c] W fun e w' => e = .returned (.tuple #[.slice none 0 0, .int .i64 35]) ∧ W = w' := by
  obtain ⟨nx, F, hM, hx⟩ := hV
  exact get_low W w.heap.size vb mb n lo nx _ F c hM (by omega) hl
theorem low_none (w W : World) (vb mb n : Nat) (lo : Int) (h : Nat → Bool) (c : Nat) (hV : LV w W vb mb n lo h) (hc : c < 32) (hl : lo ≤ c) (hh : h c = false) :
    Calls Try.prog 12 #[.pointer (some ⟨vb, 0, none⟩), .int .u64 c] W fun e w' => e = .returned (.tuple #[.slice none 0 0, .int .i64 36]) ∧ W = w' := by
  obtain ⟨nx, F, hM, hx⟩ := hV
  exact get_none W w.heap.size vb mb n lo nx _ F c hM (by omega) (by omega) hl (MK_off hh)
theorem low_low (w W : World) (vb mb n : Nat) (lo : Int) (h : Nat → Bool) (hV : LV w W vb mb n lo h) :
    Calls Try.prog 19 #[.pointer (some ⟨vb, 0, none⟩)] W fun e w' => e = .returned (.int .u64 lo) ∧ W = w' := by
  obtain ⟨nx, F, hM, hx⟩ := hV
  exact low_ok W w.heap.size vb mb n lo nx _ F hM
theorem low_next (w W : World) (vb mb n : Nat) (lo : Int) (h : Nat → Bool) (q : Nat) (hV : LV w W vb mb n lo h) (hlo : 0 ≤ lo) (hq : lo ≤ q) (hq2 : q ≤ 32) (hall : ∀ k : Nat, lo ≤ k → k < q → h k = true) (hfree : q < 32 → h q = false) :
    Calls Try.prog 11 #[.pointer (some ⟨vb, 0, none⟩)] W fun e w' => e = .returned (.int .u64 q) ∧ W = w' := by
  obtain ⟨nx, F, hM, hx⟩ := hV
  have : nx = q := hx.unique ⟨hq, by omega, by
    by_cases h1 : q < 32
    · exact MK_off (hfree h1)
    · exact MK_high (by omega), fun k k1 k2 => by
    obtain ⟨m, rfl⟩ : ∃ m : Nat, k = m := ⟨k.toNat, by omega⟩
    rw [MK_at (by omega) k1 (hall m k1 (by omega))]
    simp⟩
  subst this
  exact next_ok W w.heap.size vb mb n lo _ _ F hM
end Go.Proofs.Ytnbbbgoecndjhaa
