/-
  Words and contracts of ViewReads' walk.
-/
import Derived.Test.YtnbbbgoecndjhaaLowWd
namespace Go.Proofs.Ytnbbbgoecndjhaa
open Go.ChangeShapes Go.WideShapes Go.ChangeAt Go.RowKit
set_option linter.unusedVariables false

/-- A row of bytes that came in: its slice lies in the cell c. -/
structure RowAt (w : World) (c : Addr) (A : Option Addr) (L C : Nat) (Z : List Int) : Prop where
  cell : w.cell? c = some (.slice A L C)
  le : L ≤ C
  max : C ≤ 9223372036854775807
  len : Z.length = C
  wf : ∀ n ∈ Z, (Lit.int .u8 n).wf = true
  nil : A = none → C = 0
  bytes : ∀ a, A = some a → ∀ i, i < C → w.cell? (a.add i) = some (.int .u8 (Z.getD i 0))

theorem RowAt.src {w W : World} {c : Addr} {A : Option Addr} {L C : Nat} {Z : List Int} (h : RowAt w c A L C Z) (hb : Below w.heap.size w W) (hl : L ≤ 4096) : Src W A L ((Z.take L).map (Value.int .u8)) := by
  have h1 := h.le
  have h2 := h.len
  refine ⟨by simp; omega, hl, by intro u hu; obtain ⟨x, _, rfl⟩ := List.mem_map.1 hu; rfl, ?_⟩
  cases hA : A with
  | none => exact Or.inl ⟨rfl, by have := h.nil hA; omega⟩
  | some a =>
    refine Or.inr ⟨a, rfl, fun j u hj => ?_⟩
    have hjl : j < L := by have := (List.getElem?_eq_some_iff.1 hj).1; simp at this; omega
    have hc := h.bytes a hA j (by omega)
    rw [hb.cell (World.block_lt_of_cell? _ _ hc), hc]
    rw [← hj]
    rw [List.getElem?_map, List.getElem?_take, if_pos hjl, List.getD_eq_getElem?_getD, List.getElem?_eq_getElem (by omega)]
    rfl

theorem RowAt.conv {w W : World} {c : Addr} {A : Option Addr} {L C : Nat} {Z : List Int} (h : RowAt w c A L C Z) (hb : Below w.heap.size w W) :
    (convert 23 9 (.slice A L C)).run Try.prog W = .ok (.string (strOfNums (Z.take L))) W := by
  have h1 := h.le
  have h2 := h.len
  rcases Nat.eq_zero_or_pos L with h0 | h0
  · subst h0; exact conv_zero W A C
  · cases hA : A with
    | none => have := h.nil hA; omega
    | some a =>
      obtain ⟨b, off, rfl, hc⟩ := ints_at (w := w) (a := a) (k := .u8) (zs := Z) (fun i hi => h.bytes a hA i (by omega)) (by omega)
      refine run_convert_bytes_arg W 23 5 Try.underlying23 Try.underlying5 b off L C (Z.take L) (by simp; omega) (fun i hi => ?_) 9 Try.underlying9
      have := hc i (by omega)
      rw [hb.cell (World.block_lt_of_cell? _ _ this), this, List.getD_eq_getElem?_getD, List.getD_eq_getElem?_getD, List.getElem?_take, if_pos hi]

/-- What is known: the row of each position that was noted. -/
def MZ (n : Nat) (S : Nat → Bool) (T : Nat → List Int) : Int → Option (List Int) := fun k => if 0 ≤ k ∧ k < n ∧ S k.toNat = true then some (T k.toNat) else none
theorem MZ_at {n : Nat} {S : Nat → Bool} {T : Nat → List Int} {k : Nat} (hk : k < n) (hs : S k = true) : MZ n S T k = some (T k) := by
  unfold MZ; rw [if_pos ⟨by omega, by omega, by simpa using hs⟩]; simp
theorem MZ_off {n : Nat} {S : Nat → Bool} {T : Nat → List Int} {k : Nat} (hs : S k = false) : MZ n S T k = none := by
  unfold MZ; rw [if_neg (by simp [hs])]
theorem MZ_some {n : Nat} {S : Nat → Bool} {T : Nat → List Int} {k : Nat} {xs : List Int} (h : MZ n S T k = some xs) : k < n ∧ S k = true ∧ xs = T k := by
  unfold MZ at h
  split at h
  · rename_i h1
    injection h with h
    refine ⟨by omega, by simpa using h1.2.2, by rw [← h]; simp⟩
  · cases h
theorem MZ_past {n : Nat} {S : Nat → Bool} {T : Nat → List Int} {k : Int} (hk : n ≤ k) : MZ n S T k = none := by unfold MZ; rw [if_neg (by omega)]
theorem MZ_none (n : Nat) (T : Nat → List Int) : MZ n (fun _ => false) T = fun _ => none := by funext k; unfold MZ; simp
theorem MZ_set {n : Nat} {S : Nat → Bool} {T : Nat → List Int} {c : Nat} (hc : c < n) : upd (MZ n S T) c (T c) = MZ n (setb S c) T := by
  funext k
  unfold upd MZ setb
  by_cases hk : k = c
  · subst hk
    rw [if_pos rfl, if_pos ⟨by omega, by omega, by simp⟩]
    simp
  · rw [if_neg hk]
    by_cases h0 : 0 ≤ k
    · have : (k.toNat == c) = false := by simp; omega
      simp [this]
    · rw [if_neg (by omega), if_neg (by omega)]
theorem setb_has {h : Nat → Bool} {c : Nat} (hh : h c = true) : setb h c = h := by
  funext k; unfold setb
  by_cases hk : k = c
  · subst hk; simp [hh]
  · have : (k == c) = false := by simpa using hk
    simp [this]

/-- What stands of the view. -/
structure RV (w W : World) (vb mb c n : Nat) (S : Nat → Bool) (T : Nat → List Int) : Prop where
  view : ∃ nx F, VMem W w.heap.size vb mb c 0 nx (MZ n S T) F ∧ Nx (MZ n S T) 0 nx
  short : ∀ k, S k = true → (T k).length ≤ 40
  below : Below w.heap.size w W

theorem RV.later {w W W' : World} {vb mb c n : Nat} {S : Nat → Bool} {T : Nat → List Int} (h : RV w W vb mb c n S T) (hb : Below W.heap.size W W') : RV w W' vb mb c n S T := by
  obtain ⟨⟨nx, F, h1, h2⟩, h3, h4⟩ := h
  exact ⟨⟨nx, F, h1.later hb, h2⟩, h3, h4.trans (hb.mono h4.size)⟩
theorem RV.drewN {w W : World} {vb mb c n : Nat} {S : Nat → Bool} {T : Nat → List Int} (h : RV w W vb mb c n S T) (m : Nat) : RV w (W.drewN m) vb mb c n S T := h.later (below_drewN _ _ _)

/-- What Note leaves. -/
def RNoted (w : World) (vb mb c n : Nat) (S : Nat → Bool) (T : Nat → List Int) (k : Nat) (r : Int) (e : Ending) (w' : World) : Prop :=
  ∃ c', e = .returned (.int .i64 r) ∧ c' ≤ c + 1 ∧ RV w w' vb mb c' n (setb S k) T
theorem reads_note (w W : World) (vb mb c n : Nat) (S : Nat → Bool) (T : Nat → List Int) (k L C : Nat) (A : Option Addr) (r : Int) (h : RV w W vb mb c n S T) (hk : k < n) (hn : n ≤ 20) (hc : c < 1000000) (hs : Src W A L ((T k).map (Value.int .u8))) (hv : (convert 23 9 (.slice A L C)).run Try.prog W = .ok (.string (strOfNums (T k))) W) (hl : (T k).length ≤ 40)
    (hr : r = if S k = true then 31 else 0) :
    Calls Try.prog 9 #[.pointer (some ⟨vb, 0, none⟩), .int .u64 k, .slice A L C] W (RNoted w vb mb c n S T k r) := by
  obtain ⟨⟨nx, F, h1, h2⟩, h3, h4⟩ := h
  by_cases hS : S k = true
  · rw [if_pos hS] at hr
    subst hr
    have := note_known_c W w.heap.size vb mb c 0 nx _ F k A L C (T k) (T k) h1 hv (by omega) (by omega) (by omega) (MZ_at hk hS) (by omega)
    rw [if_pos (by simp)] at this
    refine this.mono ?_
    rintro e w' ⟨rfl, rfl⟩
    exact ⟨c, rfl, by omega, by rw [setb_has hS]; exact ⟨⟨nx, F, h1, h2⟩, h3, h4⟩⟩
  · rw [if_neg hS] at hr
    subst hr
    refine (note_xs W w.heap.size vb mb c 0 nx _ F k A L C (T k) h1 hs h4.size (by omega) (by omega) (by omega) (by omega) h2 (MZ_off (by simpa using hS)) (MZ_past (by omega)) hc).mono ?_
    rintro e w' ⟨nx', F', rfl, hM', hS', hx', _⟩
    rw [MZ_set hk] at hM' hx'
    refine ⟨c + 1, rfl, by omega, ⟨⟨nx', F', hM', hx'⟩, fun j hj => ?_, h4.trans hS'.below⟩⟩
    unfold setb at hj
    by_cases e : j = k
    · rw [e]; exact hl
    · have : (j == k) = false := by simpa using e
      rw [this] at hj
      exact h3 j hj

/-- What Take told, while it is looked at. -/
structure RT (w W : World) (vb mb c n : Nat) (S : Nat → Bool) (T : Nat → List Int) (g : Nat) (a : Option Addr) (cp : Nat) (vs : List Value) : Prop where
  view : RV w W vb mb c n S T
  row : W.ownsRow w.heap.size 23 1 (.slice a vs.length cp) vs.length vs
  recs : ∀ (i : Nat) (v : Value), vs[i]? = some v → g + i < n ∧ S (g + i) = true ∧ Bs 0 v (T (g + i)) W
theorem RT.drewN {w W : World} {vb mb c n : Nat} {S : Nat → Bool} {T : Nat → List Int} {g : Nat} {a : Option Addr} {cp : Nat} {vs : List Value} (h : RT w W vb mb c n S T g a cp vs) (m : Nat) : RT w (W.drewN m) vb mb c n S T g a cp vs :=
  ⟨h.view.drewN m, h.row, fun i v hi => by obtain ⟨h1, h2, h3⟩ := h.recs i v hi; exact ⟨h1, h2, h3⟩⟩

/-- What Take leaves. -/
def RTook (w : World) (vb mb c n : Nat) (S : Nat → Bool) (T : Nat → List Int) (g : Nat) (e : Ending) (w' : World) : Prop :=
  ∃ a cp vs, e = .returned (.tuple #[.slice a vs.length cp, .int .u64 ((g : Int) + (vs.length : Int))]) ∧ RT w w' vb mb c n S T g a cp vs ∧ g + vs.length ≤ n ∧ (vs.length = 0 → MZ n S T g = none)
theorem reads_take (w W : World) (vb mb c n : Nat) (S : Nat → Bool) (T : Nat → List Int) (g : Nat) (most : Int) (h : RV w W vb mb c n S T) (hg : g ≤ n) (hn : n ≤ 20) (hm : 1 ≤ most) (hm2 : most ≤ 1000) :
    Calls Try.prog 10 #[.pointer (some ⟨vb, 0, none⟩), .int .u64 g, .int .i64 most] W (RTook w vb mb c n S T g) := by
  have h' := h
  obtain ⟨⟨nx, F, h1, h2⟩, h3, h4⟩ := h
  refine (take_ok W w.heap.size vb mb c 0 nx _ F g g most h1 (fun k xs hk => ?_) (MZ_past (by omega)) (by omega) (by omega) (by omega) (by omega) (if_neg (by omega)) hm2).mono ?_
  · unfold MZ at hk
    split at hk
    · rename_i hh
      injection hk with hk
      have := h3 _ hh.2.2
      rw [hk] at this
      omega
    · cases hk
  · rintro e w' ⟨v2, vs, rfl, hrow, hrec, hle, hend, hb⟩
    have hv : ∃ a cp, v2 = .slice a vs.length cp := by
      rcases hrow.2 with ⟨rfl, h⟩ | ⟨g', cap, cur, rfl, _⟩
      · exact ⟨none, 0, by rw [h]⟩
      · exact ⟨_, _, rfl⟩
    obtain ⟨a, cp, rfl⟩ := hv
    have hrow' : w'.ownsRow w.heap.size 23 1 (.slice a vs.length cp) vs.length vs := ⟨hrow.1, by
      rcases hrow.2 with h | ⟨g', cap, cur, q1, q2, q3⟩
      · exact .inl h
      · exact .inr ⟨g', cap, cur, q1, by have := h4.size; omega, q3⟩⟩
    have hrecs : ∀ (i : Nat) (v : Value), vs[i]? = some v → g + i < n ∧ S (g + i) = true ∧ Bs 0 v (T (g + i)) w' := fun i v hi => by
      obtain ⟨xs, q1, q2⟩ := hrec i v hi
      have e : ((g : Int) + (i : Int)) = ((g + i : Nat) : Int) := by omega
      rw [e] at q1
      obtain ⟨m1, m2, rfl⟩ := MZ_some q1
      obtain ⟨g5, cap, cs, z1, z2, z3, _⟩ := q2
      exact ⟨m1, m2, g5, cap, cs, z1, z2, z3, by omega⟩
    refine ⟨a, cp, vs, rfl, ⟨h'.later hb, hrow', hrecs⟩, ?_, fun h0 => ?_⟩
    · rcases Nat.eq_zero_or_pos vs.length with h0 | h0
      · omega
      · obtain ⟨q1, _⟩ := hrecs (vs.length - 1) _ (List.getElem?_eq_getElem (by omega))
        omega
    · rcases hend with hend | hend
      · omega
      · rw [h0] at hend
        simpa using hend

/-- One record that was told. -/
theorem RT.elem {w W : World} {vb mb c n : Nat} {S : Nat → Bool} {T : Nat → List Int} {g : Nat} {a : Option Addr} {cp : Nat} {vs : List Value} (h : RT w W vb mb c n S T g a cp vs) {q : Nat} (hq : q < vs.length) :
    ∃ gr g5 c5, a = some ⟨gr, 0, none⟩ ∧ W.cell? ⟨gr, q, none⟩ = some (.slice (some ⟨g5, 0, none⟩) (T (g + q)).length c5) ∧ gr < W.heap.size ∧ (∀ m, (convert 23 9 (.slice (some ⟨g5, 0, none⟩) (T (g + q)).length c5)).run Try.prog (W.drewN m) = .ok (.string (strOfNums (T (g + q)))) (W.drewN m)) ∧ g + q < n := by
  obtain ⟨h1, h2, g5, c5, cs, h3, h4, h5, _⟩ := h.recs q _ (List.getElem?_eq_getElem hq)
  rcases h.row.2 with ⟨_, hn⟩ | ⟨gr, cap, cur, hv, _, hh, k1, k2, k3, k4⟩
  · omega
  · injection hv with hv1
    refine ⟨gr, g5, c5, hv1, ?_, heap_lt hh, fun m => (Row.ofCells (w := W.drewN m) h4 h5 (by have := h.view.short _ h2; omega)).conv c5, h1⟩
    rw [cell_of_row W gr q cur 23 (0, 0) hh]
    have : (cur.toList.take (vs.length * 1))[q]? = some vs[q] := by rw [k4]; exact List.getElem?_eq_getElem hq
    rw [List.getElem?_take, if_pos (by omega), h3] at this
    simpa using this

theorem reads_next (w W : World) (vb mb c n : Nat) (S : Nat → Bool) (T : Nat → List Int) (h : RV w W vb mb c n S T) (hall : ∀ k, k < n → S k = true) (hn : n ≤ 20) :
    Calls Try.prog 11 #[.pointer (some ⟨vb, 0, none⟩)] W fun e w' => e = .returned (.int .u64 n) ∧ W = w' := by
  obtain ⟨⟨nx, F, h1, h2⟩, h3, h4⟩ := h
  have : nx = n := h2.unique ⟨by omega, by omega, MZ_past (by omega), fun k k1 k2 => by
    obtain ⟨m, rfl⟩ : ∃ m : Nat, k = m := ⟨k.toNat, by omega⟩
    rw [MZ_at (by omega) (hall m (by omega))]
    simp⟩
  subst this
  exact next_ok W w.heap.size vb mb c 0 _ _ F h1
end Go.Proofs.Ytnbbbgoecndjhaa
