/-
  The reference's row in memory; the contracts of find, Get and Next.
-/
import Derived.Test.YtnbbbgoecndjhaaReadsWd
namespace Go.Proofs.Ytnbbbgoecndjhaa
open Go.ChangeShapes Go.WideShapes Go.ChangeAt Go.RowKit
set_option linter.unusedVariables false

/-- Records by positions, in the order in which they were noted. -/
abbrev KL := List (Int × List Int)
def cellsK : KL → List Value
  | [] => []
  | p :: ks => .int .u64 p.1 :: .string (strOfNums p.2) :: cellsK ks
def lookK : KL → Int → Option (List Int)
  | [], _ => none
  | p :: ks, k => if p.1 = k then some p.2 else lookK ks k
def fi : KL → Int → Option Nat
  | [], _ => none
  | p :: ks, k => if p.1 = k then some 0 else (fi ks k).map (· + 1)

theorem cellsK_len : ∀ ks : KL, (cellsK ks).length = ks.length * 2
  | [] => rfl
  | p :: ks => by simp [cellsK, cellsK_len ks]; omega
theorem cellsK_append : ∀ (ks ls : KL), cellsK (ks ++ ls) = cellsK ks ++ cellsK ls
  | [], ls => rfl
  | p :: ks, ls => by simp [cellsK, cellsK_append ks ls]
theorem cellsK_at : ∀ (ks : KL) (i : Nat) (h : i < ks.length), (cellsK ks)[i * 2]? = some (.int .u64 (ks[i]).1) ∧ (cellsK ks)[i * 2 + 1]? = some (.string (strOfNums (ks[i]).2))
  | p :: ks, 0, _ => ⟨rfl, rfl⟩
  | p :: ks, i + 1, h => by
    have := cellsK_at ks i (by simpa using h)
    have e1 : (i + 1) * 2 = i * 2 + 1 + 1 := by omega
    have e2 : (i + 1) * 2 + 1 = i * 2 + 1 + 1 + 1 := by omega
    rw [e1]
    simpa [cellsK] using this
theorem cellsK_one (ks : KL) : ∀ u ∈ cellsK ks, u.oneCell' = true := by
  induction ks with
  | nil => intro u hu; simp [cellsK] at hu
  | cons p ks ih =>
    intro u hu
    simp only [cellsK, List.mem_cons] at hu
    rcases hu with rfl | rfl | hu
    · rfl
    · rfl
    · exact ih u hu

theorem fi_none : ∀ {ks : KL} {k : Int}, (∀ (j : Nat) (h : j < ks.length), (ks[j]).1 ≠ k) → fi ks k = none
  | [], _, _ => rfl
  | p :: ks, k, h => by
    have h0 := h 0 (by simp)
    simp only [List.getElem_cons_zero] at h0
    unfold fi
    rw [if_neg h0, fi_none (fun j hj => h (j + 1) (Nat.succ_lt_succ hj))]
    rfl
theorem fi_first : ∀ {ks : KL} {k : Int} {i : Nat} (hi : i < ks.length), (∀ (j : Nat) (h : j < ks.length), j < i → (ks[j]).1 ≠ k) → (ks[i]).1 = k → fi ks k = some i
  | p :: ks, k, 0, _, _, h => by unfold fi; rw [if_pos (by simpa using h)]
  | p :: ks, k, i + 1, hi, hj, h => by
    have h0 := hj 0 (by simp) (by omega)
    simp only [List.getElem_cons_zero] at h0
    unfold fi
    rw [if_neg h0, fi_first (ks := ks) (i := i) (Nat.lt_of_succ_lt_succ hi) (fun j h1 h2 => hj (j + 1) (Nat.succ_lt_succ h1) (by omega)) h]
    rfl
theorem fi_some : ∀ {ks : KL} {k : Int} {i : Nat}, fi ks k = some i → ∃ h : i < ks.length, lookK ks k = some (ks[i]).2
  | p :: ks, k, i, h => by
    unfold fi at h
    by_cases h0 : p.1 = k
    · rw [if_pos h0] at h
      injection h with h
      subst h
      exact ⟨by simp, by unfold lookK; rw [if_pos h0]; rfl⟩
    · rw [if_neg h0] at h
      cases hf : fi ks k with
      | none => rw [hf] at h; cases h
      | some m =>
        rw [hf] at h
        simp at h
        subst h
        obtain ⟨h1, h2⟩ := fi_some hf
        exact ⟨by simpa using h1, by unfold lookK; rw [if_neg h0, h2]; rfl⟩
theorem look_of_none : ∀ {ks : KL} {k : Int}, fi ks k = none → lookK ks k = none
  | [], _, _ => rfl
  | p :: ks, k, h => by
    unfold fi at h
    by_cases h0 : p.1 = k
    · rw [if_pos h0] at h; cases h
    · rw [if_neg h0] at h
      unfold lookK
      rw [if_neg h0]
      exact look_of_none (by simpa using h)
theorem fi_of_look {ks : KL} {k : Int} (h : lookK ks k = none) : fi ks k = none := by
  cases hf : fi ks k with
  | none => rfl
  | some i => obtain ⟨_, h2⟩ := fi_some hf; rw [h] at h2; cases h2

/-- The reference's slice. -/
structure RefRow (w : World) (B : Nat) (a : Option Addr) (n c : Nat) (ks : KL) : Prop where
  len : ks.length = n
  row : w.ownsRow B 65 2 (.slice a n c) n (cellsK ks)
  nil : n = 0 → a = none ∧ c = 0
theorem RefRow.cells {w : World} {B : Nat} {a : Option Addr} {n c : Nat} {ks : KL} (h : RefRow w B a n c ks) {i : Nat} (hi : i < n) :
    ∃ (g : Nat) (p : Int) (xs : List Int), a = some ⟨g, 0, none⟩ ∧ g < w.heap.size ∧ (∃ h : i < ks.length, ks[i] = (p, xs)) ∧ w.cell? ⟨g, i * 2, none⟩ = some (.int .u64 p) ∧ w.cell? ⟨g, i * 2 + 1, none⟩ = some (.string (strOfNums xs)) := by
  have hl := h.len
  rcases h.row.2 with ⟨_, hn⟩ | ⟨g, cap, cur, hv, _, hh, k1, k2, k3, k4⟩
  · omega
  · injection hv with hv1
    obtain ⟨e1, e2⟩ := cellsK_at ks i (by omega)
    rw [← k4, List.getElem?_take, if_pos (by omega)] at e1
    rw [← k4, List.getElem?_take, if_pos (by omega)] at e2
    refine ⟨g, (ks[i]'(by omega)).1, (ks[i]'(by omega)).2, hv1, heap_lt hh, ⟨by omega, rfl⟩, ?_, ?_⟩
    · rw [cell_of_row w g _ cur 65 (0, 0) hh]; simpa using e1
    · rw [cell_of_row w g _ cur 65 (0, 0) hh]; simpa using e2
theorem RefRow.kept {w w' : World} {B : Nat} {a : Option Addr} {n c : Nat} {ks : KL} (h : RefRow w B a n c ks) (hb : Bytes w w') : RefRow w' B a n c ks := by
  obtain ⟨h1, ⟨h2, h3⟩, h4⟩ := h
  refine ⟨h1, ⟨h2, ?_⟩, h4⟩
  rcases h3 with h3 | ⟨g, cap, cur, q1, q2, q3, q4⟩
  · exact Or.inl h3
  · exact Or.inr ⟨g, cap, cur, q1, q2, hb g cur 65 (0, 0) (by decide) q3, q4⟩
theorem RefRow.later {w w' : World} {B : Nat} {a : Option Addr} {n c : Nat} {ks : KL} (h : RefRow w B a n c ks) (hb : Below w.heap.size w w') : RefRow w' B a n c ks := h.kept ((Bytes.refl w).below hb)

/-- What find tells. -/
def fiZ (ks : KL) (k : Int) : Int := match fi ks k with | some i => i | none => -1
theorem find_ok (w : World) (B : Nat) (a : Option Addr) (n c : Nat) (ks : KL) (low k : Int) (h : RefRow w B a n c ks) (hn : n ≤ 4096) :
    Calls Try.prog 24 #[.agg #[.slice a n c, .int .u64 low], .int .u64 k] w fun e w' => e = .returned (.int .i64 (fiZ ks k)) ∧ Below w.heap.size w w' := by
  have hb : Below w.heap.size w (w.alloc (.cells #[.slice a n c, .int .u64 low] 40)) := (Below.refl _ _).alloc (Nat.le_refl _) _
  have HR := Lib.hid (h.later hb)
  have HB := Lib.hid hb
  clear h hb
  go_enter Try.func24, Try.ntmps24
  go_wp2
  go_loop [5] (fun i => ∃ j : Nat, j ≤ n ∧ i = .int .i64 j ∧ ∀ (r : Nat) (h : r < ks.length), r < j → (ks[r]).1 ≠ k) (fun i => n - (intOf i).toNat)
  case atStart => exact ⟨0, by omega, rfl, fun r _ h => by omega⟩
  case round =>
    obtain ⟨j, hj, rfl, hall⟩ := hrel
    have HA := Lib.hid hall
    clear hall
    by_cases hlt : j < n
    · obtain ⟨g, p, xs, rfl, hg, ⟨hjl, hks⟩, d1, d2⟩ := HR.out.cells hlt
      have HK := Lib.hid hks
      clear hks d2
      by_cases hp : p = k
      · subst hp
        go_wp2
        go_ret
        refine ⟨?_, HB.out⟩
        have := fi_first (ks := ks) (k := p) hjl HA.out (by rw [HK.out])
        unfold fiZ
        rw [this]
        rfl
      · have hq : (p == k) = false := by simpa using hp
        clear hp
        go_wp2
        go_round
        case rel =>
          refine ⟨j + 1, by omega, by go_num, fun r h1 h2 => ?_⟩
          by_cases e : r = j
          · subst e; rw [HK.out]; simpa using hq
          · exact HA.out r h1 (by omega)
        case measure => simp [intOf]; omega
    · obtain rfl : j = n := by omega
      go_wp2
      go_ret
      refine ⟨?_, HB.out⟩
      have := fi_none (ks := ks) (k := k) (fun r h1 => HA.out r h1 (by have := HR.out.len; omega))
      unfold fiZ
      rw [this]
      rfl
theorem find_none (w : World) (B : Nat) (a : Option Addr) (n c : Nat) (ks : KL) (low k : Int) (h : RefRow w B a n c ks) (hn : n ≤ 4096) (hk : lookK ks k = none) :
    Calls Try.prog 24 #[.agg #[.slice a n c, .int .u64 low], .int .u64 k] w fun e w' => e = .returned (.int .i64 (-1)) ∧ Below w.heap.size w w' := by
  have := find_ok w B a n c ks low k h hn
  unfold fiZ at this
  rw [fi_of_look hk] at this
  exact this
theorem find_some (w : World) (B : Nat) (a : Option Addr) (n c : Nat) (ks : KL) (low k : Int) (xs : List Int) (h : RefRow w B a n c ks) (hn : n ≤ 4096) (hk : lookK ks k = some xs) :
    ∃ i g : Nat, i < n ∧ a = some ⟨g, 0, none⟩ ∧ g < w.heap.size ∧ w.cell? ⟨g, i * 2 + 1, none⟩ = some (.string (strOfNums xs)) ∧ Calls Try.prog 24 #[.agg #[.slice a n c, .int .u64 low], .int .u64 k] w fun e w' => e = .returned (.int .i64 (i : Int)) ∧ Below w.heap.size w w' := by
  have := find_ok w B a n c ks low k h hn
  unfold fiZ at this
  cases hf : fi ks k with
  | none => rw [look_of_none hf] at hk; cases hk
  | some i =>
    rw [hf] at this
    obtain ⟨h1, h2⟩ := fi_some hf
    rw [hk] at h2
    injection h2 with h2
    have hl := h.len
    obtain ⟨g, p, ys, q1, q2, ⟨q3, q4⟩, q5, q6⟩ := h.cells (i := i) (by omega)
    rw [q4] at h2
    simp only at h2
    subst h2
    exact ⟨i, g, by omega, q1, q2, q6, this⟩
end Go.Proofs.Ytnbbbgoecndjhaa
