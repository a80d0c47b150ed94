/-
  Contracts of ViewPlays' walk: what is told by the view, and by the reference.
-/
import Derived.Test.YtnbbbgoecndjhaaPlaysWd
namespace Go.Proofs.Ytnbbbgoecndjhaa
open Go.ChangeShapes Go.WideShapes Go.ChangeAt Go.RowKit
set_option linter.unusedVariables false

/-- Bytes that are read; of none nothing is said. -/
def DRow (w : World) (a : Option Addr) (l : Nat) (xs : List Int) : Prop := xs.length = l ∧ (l = 0 ∨ Row w a l xs)
theorem DRow.later {w w' : World} {a : Option Addr} {l : Nat} {xs : List Int} (h : DRow w a l xs) (hb : Below w.heap.size w w') : DRow w' a l xs := by
  obtain ⟨h1, h2⟩ := h
  exact ⟨h1, h2.imp id (·.later hb)⟩
theorem DRow.conv {w : World} {a : Option Addr} {l : Nat} {xs : List Int} (h : DRow w a l xs) (c : Nat) : (convert 23 9 (.slice a l c)).run Try.prog w = .ok (.string (strOfNums xs)) w := by
  obtain ⟨h1, h2⟩ := h
  rcases h2 with rfl | h2
  · have : xs = [] := List.eq_nil_of_length_eq_zero h1
    subst this
    exact conv_zero w a c
  · exact h2.conv c

/-- What Get tells. -/
def PGot (W : World) (low pos : Int) (M : Int → Option (List Int)) (e : Ending) (w' : World) : Prop :=
  ∃ a l c, e = .returned (.tuple #[.slice a l c, .int .i64 (gc M low pos)]) ∧ DRow w' a l (gb M low pos) ∧ Below W.heap.size W w'
theorem plays_get (w W : World) (vb mb q : Nat) (low pos : Int) (M : Int → Option (List Int)) (h : PVw w vb mb low M q W) (h0 : 0 ≤ pos) (h1 : pos ≤ 18446744073709551615) :
    Calls Try.prog 12 #[.pointer (some ⟨vb, 0, none⟩), .int .u64 pos] W (PGot W low pos M) := by
  obtain ⟨⟨c, nx, F, hc, h2, h3⟩, h4, h5, h6, h7, h8⟩ := h
  unfold PGot gc gb
  by_cases hl : pos < low
  · rw [if_pos hl, if_pos hl]
    refine (get_low W _ vb mb c low nx M F pos h2 h0 hl).mono ?_
    rintro e w' ⟨rfl, rfl⟩
    exact ⟨none, 0, 0, rfl, ⟨rfl, .inl rfl⟩, Below.refl _ _⟩
  · rw [if_neg hl, if_neg hl]
    cases hM : M pos with
    | none =>
      refine (get_none W _ vb mb c low nx M F pos h2 h0 h1 (by omega) hM).mono ?_
      rintro e w' ⟨rfl, rfl⟩
      exact ⟨none, 0, 0, by simp, ⟨rfl, .inl rfl⟩, Below.refl _ _⟩
    | some xs =>
      have hb := (h4 pos xs hM).1
      refine (get_ok W _ vb mb c low nx M F pos xs h2 h0 h1 (by omega) hM (by omega)).mono ?_
      rintro e w' ⟨a, cc, rfl, hd, hbe⟩
      refine ⟨a, xs.length, cc, by simp, ⟨rfl, ?_⟩, hbe⟩
      by_cases h0 : xs.length = 0
      · exact .inl h0
      · obtain ⟨g, cs, rfl, hw, hx, hg⟩ := hd (by omega)
        exact .inr (Row.ofCells hw hx (by omega))

/-- Where a take begins. -/
def tp (low fr : Int) : Int := if fr < low then low else fr

/-- What Take tells. -/
structure PT (w : World) (M : Int → Option (List Int)) (p : Int) (a : Option Addr) (cp : Nat) (vs : List Value) (W : World) : Prop where
  row : W.ownsRow w.heap.size 23 1 (.slice a vs.length cp) vs.length vs
  recs : ∀ (i : Nat) (v : Value), vs[i]? = some v → ∃ xs, M (p + (i : Int)) = some xs ∧ Bs 0 v xs W
theorem own_later {W W' : World} {base : Nat} {e : TypeId} {size n : Nat} {v : Value} {xs : List Value} (h : W.ownsRow base e size v n xs) (hb : Below W.heap.size W W') : W'.ownsRow base e size v n xs := by
  obtain ⟨h1, h2⟩ := h
  refine ⟨h1, ?_⟩
  rcases h2 with h2 | ⟨g, cap, cur, q1, q2, q3, q4⟩
  · exact .inl h2
  · exact .inr ⟨g, cap, cur, q1, q2, (hb.block g (heap_lt q3)).trans q3, q4⟩
theorem Bs.later {H : Nat} {v : Value} {xs : List Int} {W W' : World} (h : Bs H v xs W) (hb : Below W.heap.size W W') : Bs H v xs W' := by
  obtain ⟨g, cap, cs, h1, h2, h3, h4⟩ := h
  exact ⟨g, cap, cs, h1, h2.below hb h2.lt, h3, h4⟩
theorem PT.later {w : World} {M : Int → Option (List Int)} {p : Int} {a : Option Addr} {cp : Nat} {vs : List Value} {W W' : World} (h : PT w M p a cp vs W) (hb : Below W.heap.size W W') : PT w M p a cp vs W' :=
  ⟨own_later h.row hb, fun i v hi => by obtain ⟨xs, h1, h2⟩ := h.recs i v hi; exact ⟨xs, h1, h2.later hb⟩⟩

/-- What Take leaves. -/
def PTook (w W : World) (M : Int → Option (List Int)) (p most : Int) (e : Ending) (w' : World) : Prop :=
  ∃ a cp vs, e = .returned (.tuple #[.slice a vs.length cp, .int .u64 (p + (vs.length : Int))]) ∧ PT w M p a cp vs w' ∧ vs.length ≤ most.toNat ∧ (vs.length = most.toNat ∨ M (p + (vs.length : Int)) = none) ∧ Below W.heap.size W w'
theorem plays_take (w W : World) (vb mb q : Nat) (low fr most : Int) (M : Int → Option (List Int)) (h : PVw w vb mb low M q W) (h0 : 0 ≤ fr) (h1 : fr ≤ 18446744073709551615) (hm : most ≤ 100) :
    Calls Try.prog 10 #[.pointer (some ⟨vb, 0, none⟩), .int .u64 fr, .int .i64 most] W (PTook w W M (tp low fr) most) := by
  obtain ⟨⟨c, nx, F, hc, h2, h3⟩, h4, h5, h6, h7, h8⟩ := h
  refine (take_ok W _ vb mb c low nx M F fr (tp low fr) most h2 (fun k xs hk => by have := (h4 k xs hk).1; omega) h5 h0 h1 h6 h7 rfl (by omega)).mono ?_
  rintro e w' ⟨v2, vs, rfl, hrow, hrec, hle, hend, hb⟩
  have hv : ∃ a cp, v2 = .slice a vs.length cp := by
    rcases hrow.2 with ⟨rfl, h⟩ | ⟨g', cap, cur, rfl, _⟩
    · exact ⟨none, 0, by rw [h]⟩
    · exact ⟨_, _, rfl⟩
  obtain ⟨a, cp, rfl⟩ := hv
  refine ⟨a, cp, vs, rfl, ⟨⟨hrow.1, ?_⟩, fun i v hi => ?_⟩, hle, hend, hb⟩
  · rcases hrow.2 with h | ⟨g', cap, cur, q1, q2, q3⟩
    · exact .inl h
    · exact .inr ⟨g', cap, cur, q1, by have := h8.size; omega, q3⟩
  · obtain ⟨xs, q1, g5, cap, cs, z1, z2, z3, _⟩ := hrec i v hi
    exact ⟨xs, q1, g5, cap, cs, z1, z2, z3, by omega⟩

/-- What the reference's Take leaves. -/
def PRTook (w W : World) (M : Int → Option (List Int)) (p : Int) (N : Nat) (e : Ending) (w' : World) : Prop :=
  ∃ oa oc, e = .returned (.tuple #[.slice oa N oc, .int .u64 (p + (N : Int))]) ∧ w'.ownsRow w.heap.size 9 1 (.slice oa N oc) N (strsAt M p N) ∧ Below W.heap.size W w'
theorem plays_rtake (w W : World) (vb mb q : Nat) (a : Option Addr) (n c : Nat) (ks : KL) (low fr most : Int) (av : Option Addr) (cp : Nat) (vs : List Value) (V : World) (h : PVw w vb mb low (lookK ks) q W) (hR : RefRow W w.heap.size a n c ks) (hn : n ≤ 1000) (h0 : 0 ≤ fr) (h1 : fr ≤ 18446744073709551615) (hm : most ≤ 100)
    (hT : PT w (lookK ks) (tp low fr) av cp vs V) (hle : vs.length ≤ most.toNat) (hend : vs.length = most.toNat ∨ lookK ks (tp low fr + (vs.length : Int)) = none) :
    Calls Try.prog 17 #[.agg #[.slice a n c, .int .u64 low], .int .u64 fr, .int .i64 most] W (PRTook w W (lookK ks) (tp low fr) vs.length) := by
  have hs := h.below.size
  refine (rtake_ok W w.heap.size a n c ks low fr (tp low fr) most vs.length hR (by omega) h.last h0 h1 h.lo0 h.lo1 rfl (by omega) hle (fun i hi => ?_) hend).mono ?_
  · obtain ⟨xs, h1, _⟩ := hT.recs i _ (List.getElem?_eq_getElem hi)
    rw [h1]; simp
  · rintro e w' ⟨oa, oc, rfl, hrow, hb⟩
    refine ⟨oa, oc, rfl, ⟨hrow.1, ?_⟩, hb⟩
    rcases hrow.2 with h | ⟨g', cap, cur, q1, q2, q3⟩
    · exact .inl h
    · exact .inr ⟨g', cap, cur, q1, by omega, q3⟩

theorem plays_rget (W : World) (B : Nat) (a : Option Addr) (n c : Nat) (ks : KL) (low pos : Int) (h : RefRow W B a n c ks) (hn : n ≤ 1000) :
    Calls Try.prog 16 #[.agg #[.slice a n c, .int .u64 low], .int .u64 pos] W fun e w' => e = .returned (.tuple #[.string (strOfNums (gb (lookK ks) low pos)), .int .i64 (gc (lookK ks) low pos)]) ∧ Below W.heap.size W w' :=
  rget_ok W B a n c ks low pos h (by omega)

/-- Next, both. -/
theorem plays_next (w W : World) (vb mb q : Nat) (a : Option Addr) (n c : Nat) (ks : KL) (low : Int) (h : PVw w vb mb low (lookK ks) q W) (hn : n ≤ 1000) :
    ∃ nx, (∀ W', Below W.heap.size W W' → Calls Try.prog 11 #[.pointer (some ⟨vb, 0, none⟩)] W' fun e w' => e = .returned (.int .u64 nx) ∧ W' = w') ∧ (∀ W', RefRow W' w.heap.size a n c ks → Calls Try.prog 18 #[.agg #[.slice a n c, .int .u64 low]] W' fun e w' => e = .returned (.int .u64 nx) ∧ Below W'.heap.size W' w') := by
  obtain ⟨⟨c', nx, F, hc, h2, h3⟩, h4, h5, h6, h7, h8⟩ := h
  exact ⟨nx, fun W' hb => next_ok W' _ vb mb c' low nx _ F (h2.later hb), fun W' hR => rnext_ok W' _ a n c ks low nx hR (by omega) h3 h6⟩
theorem plays_low (w W : World) (vb mb q : Nat) (low : Int) (M : Int → Option (List Int)) (h : PVw w vb mb low M q W) :
    Calls Try.prog 19 #[.pointer (some ⟨vb, 0, none⟩)] W fun e w' => e = .returned (.int .u64 low) ∧ W = w' := by
  obtain ⟨⟨c', nx, F, hc, h2, h3⟩, _⟩ := h
  exact low_ok W _ vb mb c' low nx _ F h2

/-- One record that was told, by both. -/
theorem PT.elem {w : World} {M : Int → Option (List Int)} {p : Int} {a : Option Addr} {cp : Nat} {vs : List Value} {W : World} (h : PT w M p a cp vs W) (hsh : ∀ k xs, M k = some xs → Bytes40 xs) {q : Nat} (hq : q < vs.length) :
    ∃ gr g5 l5 c5 xs, a = some ⟨gr, 0, none⟩ ∧ M (p + (q : Int)) = some xs ∧ W.cell? ⟨gr, q, none⟩ = some (.slice (some ⟨g5, 0, none⟩) l5 c5) ∧ gr < W.heap.size ∧ (∀ m, (convert 23 9 (.slice (some ⟨g5, 0, none⟩) l5 c5)).run Try.prog (W.drewN m) = .ok (.string (strOfNums xs)) (W.drewN m)) := by
  obtain ⟨xs, hM, g5, c5, cs, h3, h4, h5, _⟩ := h.recs q _ (List.getElem?_eq_getElem hq)
  rcases h.row.2 with ⟨_, hn⟩ | ⟨gr, cap, cur, hv, _, hh, k1, k2, k3, k4⟩
  · omega
  · injection hv with hv1
    refine ⟨gr, g5, xs.length, c5, xs, hv1, hM, ?_, heap_lt hh, fun m => (Row.ofCells (w := W.drewN m) h4 h5 (by have := (hsh _ _ hM).1; omega)).conv c5⟩
    rw [cell_of_row W gr q cur 23 (0, 0) hh]
    have : (cur.toList.take (vs.length * 1))[q]? = some vs[q] := by rw [k4]; exact List.getElem?_eq_getElem hq
    rw [List.getElem?_take, if_pos (by omega), h3] at this
    simpa using this
theorem strs_elem {w W : World} {M : Int → Option (List Int)} {p : Int} {oa : Option Addr} {oc N : Nat} (h : W.ownsRow w.heap.size 9 1 (.slice oa N oc) N (strsAt M p N)) {q : Nat} (hq : q < N) {xs : List Int} (hM : M (p + (q : Int)) = some xs) :
    ∃ go, oa = some ⟨go, 0, none⟩ ∧ W.cell? ⟨go, q, none⟩ = some (.string (strOfNums xs)) ∧ go < W.heap.size := by
  rcases h.2 with ⟨_, hn⟩ | ⟨gr, cap, cur, hv, _, hh, k1, k2, k3, k4⟩
  · omega
  · injection hv with hv1
    refine ⟨gr, hv1, ?_, heap_lt hh⟩
    rw [cell_of_row W gr q cur 9 (0, 0) hh]
    have : (cur.toList.take (N * 1))[q]? = some (.string (strOfNums xs)) := by rw [k4]; simp [strsAt, hq, hM]
    rw [List.getElem?_take, if_pos (by omega)] at this
    simpa using this
end Go.Proofs.Ytnbbbgoecndjhaa
