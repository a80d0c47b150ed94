/-
  Words and contracts of ViewPlays' walk.
-/
import Derived.Test.YtnbbbgoecndjhaaRefRaise
namespace Go.Proofs.Ytnbbbgoecndjhaa
open Go.ChangeShapes Go.WideShapes Go.ChangeAt Go.RowKit
set_option linter.unusedVariables false

/-! The view that isn't there. -/
theorem raise_nilp (w : World) (low : Int) : Calls Try.prog 13 #[.pointer none, .int .u64 low] w fun e w' => e = .returned (.tuple #[]) ∧ w = w' := by
  go_enter Try.func13, Try.ntmps13
  go_wp2
  refine bodyPost_ret (results_none rfl _ _ _) rfl ?_
  exact ⟨rfl, rfl⟩
theorem get_nilp (w : World) (pos : Int) : Calls Try.prog 12 #[.pointer none, .int .u64 pos] w fun e w' => e = .returned (.tuple #[.slice none 0 0, .int .i64 1]) ∧ w = w' := by
  go_enter Try.func12, Try.ntmps12
  go_wp2
  go_ret2
  exact ⟨rfl, rfl⟩
theorem take_nilp (w : World) (pos most : Int) : Calls Try.prog 10 #[.pointer none, .int .u64 pos, .int .i64 most] w fun e w' => e = .returned (.tuple #[.slice none 0 0, .int .u64 0]) ∧ Below w.heap.size w w' := by
  go_enter Try.func10, Try.ntmps10
  go_wp2
  go_ret2
  exact ⟨rfl, (Below.refl _ _).alloc (Nat.le_refl _) _⟩
theorem note_nilp (w : World) (pos : Int) (v : Value) : Calls Try.prog 9 #[.pointer none, .int .u64 pos, v] w fun e w' => e = .returned (.int .i64 1) ∧ w = w' := by
  go_enter Try.func9, Try.ntmps9
  go_wp2
  go_ret
  exact ⟨rfl, rfl⟩
theorem next_nilp (w : World) : Calls Try.prog 11 #[.pointer none] w fun e w' => e = .returned (.int .u64 0) ∧ w = w' := by
  go_enter Try.func11, Try.ntmps11
  go_wp2
  go_ret
  exact ⟨rfl, rfl⟩
theorem low_nilp (w : World) : Calls Try.prog 19 #[.pointer none] w fun e w' => e = .returned (.int .u64 0) ∧ w = w' := by
  go_enter Try.func19, Try.ntmps19
  go_wp2
  go_ret
  exact ⟨rfl, rfl⟩

/-- Short rows of bytes. -/
def Bytes40 (xs : List Int) : Prop := xs.length ≤ 40 ∧ ∀ z ∈ xs, 0 ≤ z ∧ z ≤ 255

/-- What stands of the view. -/
structure PVw (w : World) (vb mb : Nat) (low : Int) (M : Int → Option (List Int)) (q : Nat) (W : World) : Prop where
  view : ∃ c nx F, c ≤ q ∧ VMem W w.heap.size vb mb c low nx M F ∧ Nx M low nx
  short : ∀ k xs, M k = some xs → Bytes40 xs
  last : M 18446744073709551615 = none
  lo0 : 0 ≤ low
  lo1 : low ≤ 18446744073709551615
  below : Below w.heap.size w W

theorem PVw.later {w W W' : World} {vb mb : Nat} {low : Int} {M : Int → Option (List Int)} {q : Nat} (h : PVw w vb mb low M q W) (hb : Below W.heap.size W W') : PVw w vb mb low M q W' := by
  obtain ⟨⟨c, nx, F, h1, h2, h3⟩, h4, h5, h6, h7, h8⟩ := h
  exact ⟨⟨c, nx, F, h1, h2.later hb, h3⟩, h4, h5, h6, h7, h8.trans (hb.mono h8.size)⟩
theorem PVw.other {w W : World} {vb mb : Nat} {low : Int} {M : Int → Option (List Int)} {q g i : Nat} {cs : Array Value} (h : PVw w vb mb low M q W) (hg : Whole W g 40 cs) (hw : w.heap.size ≤ g) (u : Value) : PVw w vb mb low M q (W.setCell ⟨g, i, none⟩ u) := by
  obtain ⟨⟨c, nx, F, h1, h2, h3⟩, h4, h5, h6, h7, h8⟩ := h
  exact ⟨⟨c, nx, F, h1, h2.other hg (by decide) (by decide) u, h3⟩, h4, h5, h6, h7, h8.setCell (p := ⟨g, i, none⟩) hw u⟩
theorem PVw.mono {w W : World} {vb mb : Nat} {low : Int} {M : Int → Option (List Int)} {q q' : Nat} (h : PVw w vb mb low M q W) (hq : q ≤ q') : PVw w vb mb low M q' W := by
  obtain ⟨⟨c, nx, F, h1, h2⟩, h3, h4, h5, h6, h7⟩ := h
  exact ⟨⟨c, nx, F, by omega, h2⟩, h3, h4, h5, h6, h7⟩

/-! What an act does. -/
def rl (low pos : Int) : Int := if pos ≤ low then low else pos
def rm (low pos : Int) (M : Int → Option (List Int)) : Int → Option (List Int) := if pos ≤ low then M else cut pos M
def nc (low : Int) (M : Int → Option (List Int)) (pos : Int) (xs : List Int) : Int :=
  if pos = 18446744073709551615 then 37 else if pos < low then 35 else if M pos = none then 0 else if M pos = some xs then 31 else 33
def nm (low : Int) (M : Int → Option (List Int)) (pos : Int) (xs : List Int) : Int → Option (List Int) :=
  if pos = 18446744073709551615 then M else if pos < low then M else if M pos = none then upd M pos xs else M

theorem plays_raise (w W : World) (vb mb q : Nat) (low pos : Int) (M : Int → Option (List Int)) (h : PVw w vb mb low M q W) (hq : q ≤ 1000) (h0 : 0 ≤ pos) (h1 : pos ≤ 18446744073709551615) :
    Calls Try.prog 13 #[.pointer (some ⟨vb, 0, none⟩), .int .u64 pos] W fun e w' => e = .returned (.tuple #[]) ∧ PVw w vb mb (rl low pos) (rm low pos M) q w' ∧ Step w.heap.size W w' := by
  have h' := h
  obtain ⟨⟨c, nx, F, hc, h2, h3⟩, h4, h5, h6, h7, h8⟩ := h
  by_cases hp : pos ≤ low
  · unfold rl rm
    rw [if_pos hp, if_pos hp]
    refine (raise_low W _ vb mb c low nx M F pos h2 h0 h1 hp).mono ?_
    rintro e w' ⟨rfl, rfl⟩
    exact ⟨rfl, h', Step.refl _ _⟩
  · unfold rl rm
    rw [if_neg hp, if_neg hp]
    refine (raise_up W _ vb mb c low nx M F pos h2 h8.size h3 h5 h6 h0 h1 (by omega)).mono ?_
    rintro e w' ⟨nx', rfl, hV, hS, hx⟩
    refine ⟨rfl, ⟨⟨c, nx', _, hc, hV, hx⟩, fun k xs hk => ?_, ?_, h0, h1, h8.trans hS.below⟩, hS⟩
    · unfold cut at hk; split at hk
      · cases hk
      · exact h4 k xs hk
    · unfold cut; split
      · rfl
      · exact h5

theorem plays_note (w W : World) (vb mb q : Nat) (low pos : Int) (M : Int → Option (List Int)) (A : Option Addr) (L C : Nat) (xs : List Int) (h : PVw w vb mb low M q W) (hq : q ≤ 1000) (h0 : 0 ≤ pos) (h1 : pos ≤ 18446744073709551615) (hx : Bytes40 xs)
    (hs : Src W A L (xs.map (Value.int .u8))) (hv : (convert 23 9 (.slice A L C)).run Try.prog W = .ok (.string (strOfNums xs)) W) :
    Calls Try.prog 9 #[.pointer (some ⟨vb, 0, none⟩), .int .u64 pos, .slice A L C] W fun e w' => e = .returned (.int .i64 (nc low M pos xs)) ∧ PVw w vb mb low (nm low M pos xs) (q + 1) w' ∧ Step w.heap.size W w' := by
  have h' := h.mono (show q ≤ q + 1 by omega)
  obtain ⟨⟨c, nx, F, hc, h2, h3⟩, h4, h5, h6, h7, h8⟩ := h
  unfold nc nm
  by_cases hp : pos = 18446744073709551615
  · rw [if_pos hp, if_pos hp]
    subst hp
    refine (note_worn W vb _).mono ?_
    rintro e w' ⟨rfl, rfl⟩
    exact ⟨rfl, h', Step.refl _ _⟩
  · rw [if_neg hp, if_neg hp]
    by_cases hl : pos < low
    · rw [if_pos hl, if_pos hl]
      refine (note_low W _ vb mb c low nx M F pos _ h2 h0 (by omega) hl).mono ?_
      rintro e w' ⟨rfl, rfl⟩
      exact ⟨rfl, h', Step.refl _ _⟩
    · rw [if_neg hl, if_neg hl]
      cases hM : M pos with
      | none =>
        rw [if_pos rfl, if_pos rfl]
        refine (note_xs W _ vb mb c low nx M F pos A L C xs h2 hs h8.size h0 (by omega) h6 (by omega) h3 hM h5 (by omega)).mono ?_
        rintro e w' ⟨nx', F', rfl, hV, hS, hx', _⟩
        refine ⟨rfl, ⟨⟨c + 1, nx', F', by omega, hV, hx'⟩, fun k ys hk => ?_, ?_, h6, h7, h8.trans hS.below⟩, hS⟩
        · unfold upd at hk; split at hk
          · injection hk with hk; subst hk; exact hx
          · exact h4 k ys hk
        · unfold upd; rw [if_neg (by omega)]; exact h5
      | some ys =>
        have e0 : ¬ ((some ys : Option (List Int)) = none) := by simp
        rw [if_neg e0, if_neg e0]
        have hb := h4 pos ys hM
        have := note_known_c W _ vb mb c low nx M F pos A L C xs ys h2 hv h0 (by omega) (by omega) hM (by have := hb.1; omega)
        rw [str_same hb.2 hx.2] at this
        refine this.mono ?_
        rintro e w' ⟨rfl, rfl⟩
        refine ⟨?_, h', Step.refl _ _⟩
        by_cases e : ys = xs
        · subst e; simp
        · rw [if_neg (by simp [e]), if_neg (by intro h; injection h with h; exact e h)]

/-- What the reference's Raise leaves. -/
def PRaised (w W : World) (n : Nat) (low pos : Int) (M : Int → Option (List Int)) (e : Ending) (w' : World) : Prop :=
  ∃ a' n' c' ks', e = .returned (.agg #[.slice a' n' c', .int .u64 (rl low pos)]) ∧ n' ≤ n ∧ RefRow w' w.heap.size a' n' c' ks' ∧ lookK ks' = rm low pos M ∧ Below W.heap.size W w'
theorem plays_rraise (w W : World) (a : Option Addr) (n c : Nat) (ks : KL) (low pos : Int) (h : RefRow W w.heap.size a n c ks) (hB : w.heap.size ≤ W.heap.size) (hn : n ≤ 1000) :
    Calls Try.prog 14 #[.agg #[.slice a n c, .int .u64 low], .int .u64 pos] W (PRaised w W n low pos (lookK ks)) := by
  have hlen := h.len
  by_cases hp : pos ≤ low
  · refine (rraise_low W _ a n c ks low pos h hp).mono ?_
    rintro e w' ⟨rfl, hb⟩
    exact ⟨a, n, c, ks, by unfold rl; rw [if_pos hp], by omega, h.later hb, by unfold rm; rw [if_pos hp], hb⟩
  · refine (rraise_up W w.heap.size a n c ks low pos h hB (by omega) (by omega)).mono ?_
    rintro e w' ⟨a', n', c', rfl, hn', hR, hb⟩
    exact ⟨a', n', c', _, by unfold rl; rw [if_neg hp], by omega, hR, by unfold rm; rw [if_neg hp, look_keep], hb⟩

theorem look_snoc : ∀ (ks : KL) (pos : Int) (xs : List Int), lookK ks pos = none → lookK (ks ++ [(pos, xs)]) = upd (lookK ks) pos xs
  | [], pos, xs, _ => by
    funext k; unfold upd
    show (if pos = k then some xs else none) = if k = pos then some xs else none
    by_cases e : k = pos
    · rw [if_pos e.symm, if_pos e]
    · rw [if_neg (Ne.symm e), if_neg e]
  | p :: ks, pos, xs, h => by
    rw [lookK_cons] at h
    by_cases hp : p.1 = pos
    · rw [if_pos hp] at h; cases h
    · rw [if_neg hp] at h
      have ih := look_snoc ks pos xs h
      funext k
      have ihk := congrFun ih k
      show (if p.1 = k then some p.2 else lookK (ks ++ [(pos, xs)]) k) = _
      rw [ihk]
      unfold upd
      by_cases e : k = pos
      · rw [if_pos e, if_neg (by omega), if_pos e]
      · rw [if_neg e, if_neg e]; rfl

/-- What the reference's Note leaves. -/
def PNoted (w W : World) (n : Nat) (low pos : Int) (M : Int → Option (List Int)) (xs : List Int) (e : Ending) (w' : World) : Prop :=
  ∃ a' n' c' ks', e = .returned (.tuple #[.agg #[.slice a' n' c', .int .u64 low], .int .i64 (nc low M pos xs)]) ∧ n' ≤ n + 1 ∧ RefRow w' w.heap.size a' n' c' ks' ∧ lookK ks' = nm low M pos xs ∧ Below W.heap.size W w'
theorem plays_rnote (w W : World) (a : Option Addr) (n c : Nat) (ks : KL) (low pos : Int) (xs : List Int) (h : RefRow W w.heap.size a n c ks) (hB : w.heap.size ≤ W.heap.size) (hn : n ≤ 1000) (h0 : 0 ≤ pos) (h1 : pos ≤ 18446744073709551615) (hx : Bytes40 xs) (hsh : ∀ k ys, lookK ks k = some ys → Bytes40 ys) :
    Calls Try.prog 15 #[.agg #[.slice a n c, .int .u64 low], .int .u64 pos, .string (strOfNums xs)] W (PNoted w W n low pos (lookK ks) xs) := by
  unfold PNoted nc nm
  by_cases hp : pos = 18446744073709551615
  · rw [if_pos hp, if_pos hp]
    subst hp
    refine (rnote_worn W _ a n c ks low _ h).mono ?_
    rintro e w' ⟨rfl, hb⟩
    exact ⟨a, n, c, ks, rfl, by omega, h.later hb, rfl, hb⟩
  · rw [if_neg hp, if_neg hp]
    by_cases hl : pos < low
    · rw [if_pos hl, if_pos hl]
      refine (rnote_low W _ a n c ks low pos _ h hl (by omega)).mono ?_
      rintro e w' ⟨rfl, hb⟩
      exact ⟨a, n, c, ks, rfl, by omega, h.later hb, rfl, hb⟩
    · rw [if_neg hl, if_neg hl]
      cases hM : lookK ks pos with
      | none =>
        rw [if_pos rfl, if_pos rfl]
        refine (rnote_new W w.heap.size a n c ks low pos xs h hB (by omega) (by omega) (by omega) hM).mono ?_
        rintro e w' ⟨a', n', c', rfl, hR, hb⟩
        have h1 := hR.len
        have h2 := h.len
        simp at h1
        exact ⟨a', n', c', _, rfl, by omega, hR, look_snoc ks pos xs hM, hb⟩
      | some ys =>
        have e0 : ¬ ((some ys : Option (List Int)) = none) := by simp
        rw [if_neg e0, if_neg e0]
        have hb := hsh pos ys hM
        refine (rnote_known W w.heap.size a n c ks low pos ys (strOfNums xs) _ h (by omega) (by omega) (by omega) hM rfl).mono ?_
        rintro e w' ⟨rfl, hbb⟩
        refine ⟨a, n, c, ks, ?_, by omega, h.later hbb, rfl, hbb⟩
        rw [str_same hb.2 hx.2]
        by_cases e : ys = xs
        · subst e; simp
        · rw [if_neg (by simp [e]), if_neg (by intro h; injection h with h; exact e h)]
end Go.Proofs.Ytnbbbgoecndjhaa
