/-
  The contract of slices.Delete of one packet.
-/
import Derived.Test.YtdlooafmjpbecaaSend
import Derived.Laws.IdiomCopy
namespace Go.Proofs.Ytdlooafmjpbecaa
open Go.ChangeShapes Go.WideShapes Go.ChangeAt Go.RowKit

/-- Cells that are stored into a block that is known whole. -/
theorem Whole.puts {g : Nat} {t : TypeId} : ∀ (vs : List Value) (w : World) (cs : Array Value) (o : Nat), Whole w g t cs → o + vs.length ≤ cs.size →
    ∃ cs', Whole (w.setCells g o vs) g t cs' ∧ cs'.size = cs.size ∧ (∀ j, j < o → cs'[j]? = cs[j]?) ∧ (∀ j u, vs[j]? = some u → cs'[o + j]? = some u) ∧ (∀ j, o + vs.length ≤ j → cs'[j]? = cs[j]?) ∧ w.grownBy (w.setCells g o vs) (some g)
  | [], w, cs, o, h, _ => ⟨cs, h, rfl, fun _ _ => rfl, fun j u hu => by simp at hu, fun _ _ => rfl, World.grownBy.refl _ _⟩
  | v :: r, w, cs, o, h, hl => by
    obtain ⟨cs', h1, h2, h3, h4, h5, h6⟩ := Whole.puts r (w.setCell ⟨g, o, none⟩ v) (cs.setIfInBounds o v) (o + 1) (h.put o v) (by simp at hl ⊢; omega)
    refine ⟨cs', h1, by simpa using h2, fun j hj => ?_, fun j u hu => ?_, fun j hj => ?_, (gr_set (World.grownBy.refl w (some g)) o v).trans h6⟩
    · rw [h3 j (by omega), Array.getElem?_setIfInBounds, if_neg (by omega)]
    · cases j with
      | zero =>
        simp at hu hl
        subst hu
        rw [Nat.add_zero, h3 o (by omega), Array.getElem?_setIfInBounds, if_pos rfl, if_pos (by omega)]
      | succ j => rw [show o + (j + 1) = o + 1 + j by omega]; exact h4 j u (by simpa using hu)
    · rw [h5 j (by simp at hj; omega), Array.getElem?_setIfInBounds, if_neg (by simp at hj; omega)]

/-- A packet of zeros. -/
abbrev zeroPk : Array Value := #[.int .i64 0, .int .i64 0, .slice none 0 0]
theorem zeroV (w : World) : (zeroValue 32).run Try.prog w = .ok (.agg zeroPk) w := by kernel_rfl

/-- clear of m packets. -/
theorem run_clear (w : World) (ty : TypeId) (b o m c : Nat) (hm : 0 < m) (hc : ∀ j, j < m * 3 → (w.cell? ⟨b, o + j, none⟩).isSome = true) (hf : ∀ j, j < m * 3 → w.frozen? ⟨b, o + j, none⟩ = false) :
    (Builtin.clear_ #[44] ty #[.slice (some ⟨b, o, none⟩) m c]).run Try.prog w = .ok (.tuple #[]) (w.setCells b o (Builtin.zeroCells zeroPk m).toList) := by
  have hs : (Builtin.zeroCells zeroPk m).toList.length = m * 3 := by simp [Builtin.zeroCells]
  have h1 : ∀ v ∈ (Builtin.zeroCells zeroPk m).toList, v.oneCell' = true := by
    intro v hv
    simp only [Builtin.zeroCells, Array.toList_map, List.mem_map] at hv
    obtain ⟨i, _, hi⟩ := hv
    rw [← hi, show zeroPk.size = 3 from rfl]
    have : i % 3 = 0 ∨ i % 3 = 1 ∨ i % 3 = 2 := by omega
    rcases this with h | h | h <;> rw [h] <;> rfl
  have hst := run_storeCells_cells (P := Try.prog) b o (Builtin.zeroCells zeroPk m).toList 0 w (by rw [hs]; simpa using hc) (by rw [hs]; simpa using hf) h1
  simp only [Nat.add_zero] at hst
  obtain ⟨m', rfl⟩ : ∃ m', m = m' + 1 := ⟨m - 1, by omega⟩
  have hz : Value.cells (.agg zeroPk) = zeroPk := rfl
  simp [Builtin.clear_, run_underlying Try.underlying44, hz, hst]

theorem eraseIdx_take_drop (ps : List Pk) (i : Nat) : rowOf (ps.eraseIdx i) = rowOf (ps.take i) ++ rowOf (ps.drop (i + 1)) := by
  rw [← rowOf_append, List.eraseIdx_eq_take_drop_succ]

/-- What Delete leaves. -/
def Deleted (w : World) (B g cap : Nat) (ps : List Pk) (i : Nat) (e : Ending) (w' : World) : Prop :=
  e = .returned (.slice (some ⟨g, 0, none⟩) (ps.length - 1) cap) ∧ w'.ownsRow B 32 3 (.slice (some ⟨g, 0, none⟩) (ps.length - 1) cap) (ps.length - 1) (rowOf (ps.eraseIdx i)) ∧ w.grownBy w' (some g)

set_option maxRecDepth 100000 in
theorem delete_at (w : World) (B g cap : Nat) (ps : List Pk) (i : Nat) (cur : Array Value) (hi : i < ps.length) (hg : B ≤ g) (hh : Whole w g 32 cur) (hle : ps.length ≤ cap) (hmx : cap ≤ maxLen) (hsz : cur.size = cap * 3) (htk : cur.toList.take (ps.length * 3) = rowOf ps) :
    Calls Try.prog 18 #[.slice (some ⟨g, 0, none⟩) ps.length cap, .int .i64 i, .int .i64 (i + 1)] w (Deleted w B g cap ps i) := by
  obtain ⟨i0, hi0, hz0, hz1, hz2⟩ := info_parts info32
  unfold maxLen at hmx
  have HH := Lib.hid hh
  have HT := Lib.hid htk
  have HS := Lib.hid hsz
  clear hh htk hsz
  have hne : ((i : Int) == (i : Int) + 1) = false := by simp; omega
  -- the cells that move
  have hget : ∀ j u, (rowOf (ps.drop (i + 1)))[j]? = some u → cur[(i + 1) * 3 + j]? = some u := by
    intro j u hu
    rw [← rowOf_drop, List.getElem?_drop, ← HT.out, List.getElem?_take] at hu
    split at hu
    · simpa using hu
    · cases hu
  have hnl : (rowOf (ps.drop (i + 1))).length = (ps.length - (i + 1)) * 3 := by rw [rowOf_length, List.length_drop]
  obtain ⟨A, hA, hsrc⟩ : ∃ A : Addr, (if cap = i + 1 then some (⟨g, 0, none⟩ : Addr) else some ⟨g, (i + 1) * 3, none⟩) = some A ∧ Hid (∀ j u, (rowOf (ps.drop (i + 1)))[j]? = some u → w.drew.cell? (A.add j) = some u) := by
    by_cases h : cap = i + 1
    · refine ⟨⟨g, 0, none⟩, by simp [h], fun j u hu => ?_⟩
      have h0 : (rowOf (ps.drop (i + 1))).length = 0 := by rw [hnl]; omega
      rw [List.length_eq_zero_iff.1 h0] at hu
      simp at hu
    · refine ⟨⟨g, (i + 1) * 3, none⟩, by simp [h], fun j u hu => ?_⟩
      rw [Addr.add_lit]
      exact (HH.out.cell _).trans (hget j u hu)
  have HNL := Lib.hid hnl
  have h1c : Hid (∀ u ∈ rowOf (ps.drop (i + 1)), u.oneCell' = true) := by
    intro u hu
    simp only [rowOf, List.mem_flatMap] at hu
    obtain ⟨q, _, hq⟩ := hu
    exact q.vals_one u hq
  have hspare : Hid (∀ j, j < (rowOf (ps.drop (i + 1))).length → (w.drew.cell? ⟨g, 0 + i * 3 + j, none⟩).isSome = true ∧ w.drew.frozen? ⟨g, 0 + i * 3 + j, none⟩ = false) := by
    intro j hj
    rw [hnl] at hj
    refine ⟨?_, HH.out.free _⟩
    have : (w.drew.cell? ⟨g, 0 + i * 3 + j, none⟩) = cur[0 + i * 3 + j]? := HH.out.cell _
    rw [this, Array.getElem?_eq_getElem (by rw [HS.out]; omega)]; rfl
  -- the world behind the move
  obtain ⟨W1, hW1⟩ : ∃ W1, W1 = w.drew.setCells g (0 + i * 3) (rowOf (ps.drop (i + 1))) := ⟨_, rfl⟩
  obtain ⟨cs1, q1, q2, q3, q4, q5, q6⟩ := Whole.puts (rowOf (ps.drop (i + 1))) w.drew cur (0 + i * 3) HH.out.drew (by rw [hnl, HS.out]; omega)
  rw [← hW1] at q1 q6
  have hcl : ∀ ty, (Builtin.clear_ #[44] ty #[.slice (some ⟨g, (i + (ps.length - (i + 1))) * 3, none⟩) (ps.length - (i + (ps.length - (i + 1)))) (cap - (i + (ps.length - (i + 1))))]).run Try.prog W1 = .ok (.tuple #[]) (W1.setCells g ((i + (ps.length - (i + 1))) * 3) (Builtin.zeroCells zeroPk (ps.length - (i + (ps.length - (i + 1))))).toList) := fun ty =>
    run_clear W1 ty g _ _ _ (by omega) (fun j hj => by rw [q1.cell, Array.getElem?_eq_getElem (by rw [q2, HS.out]; omega)]; rfl) (fun j hj => q1.free _)
  have HW := Lib.hid hW1
  have Q1 := Lib.hid q1
  have Q2 := Lib.hid q2
  have Q3 := Lib.hid q3
  have Q4 := Lib.hid q4
  have hic : i ≤ cap := by omega
  have hjc : i + 1 ≤ cap := by omega
  have z1 : (0 : Int) ≤ (i : Int) + 1 := by omega
  have z2 : (i : Int) + 1 ≤ (ps.length : Int) := by omega
  have z3 : (0 : Int) ≤ (i : Int) := by omega
  have z4 : (i : Int) ≤ (cap : Int) := by omega
  clear hget hnl hW1 q1 q2 q3 q4 q5
  go_enter Try.func18, Try.ntmps18
  go_wp2
  go_region_law (refine step_append_room rfl (.tmp 22) (.tmp 25) 44 rfl 32 i0 3 Try.underlying44 hi0 hz1 g 0 i cap (by simp [Act.eval, Act.put]) A (ps.length - (i + 1)) (cap - (i + 1)) (rowOf (ps.drop (i + 1))) (by simp [Act.eval, Act.put]) HNL.out hsrc.out h1c.out (by omega) hspare.out ?_; rw [← HW.out])
  go_wp2
  go_ret
  have e1 : i + (ps.length - (i + 1)) = ps.length - 1 := by omega
  have hzl : (Builtin.zeroCells zeroPk (ps.length - (i + (ps.length - (i + 1))))).toList.length = (ps.length - (i + (ps.length - (i + 1)))) * 3 := by simp [Builtin.zeroCells]
  obtain ⟨cs2, p1, p2, p3, _, _, p6⟩ := Whole.puts (Builtin.zeroCells zeroPk (ps.length - (i + (ps.length - (i + 1))))).toList W1 cs1 ((i + (ps.length - (i + 1))) * 3) Q1.out (by rw [hzl, Q2.out, HS.out]; omega)
  have q6' : w.grownBy W1 (some g) := (gr_drew (World.grownBy.refl w (some g))).trans q6
  refine ⟨by rw [← e1]; rfl, ⟨by rw [rowOf_length, List.length_eraseIdx, if_pos hi], .inr ⟨g, cap, cs2, rfl, hg, p1, by omega, by unfold maxLen; omega, by rw [p2, Q2.out, HS.out], ?_⟩⟩, q6'.trans p6⟩
  rw [eraseIdx_take_drop]
  have hl1 : (rowOf (ps.take i)).length = i * 3 := by rw [rowOf_length, List.length_take]; congr 1; omega
  apply List.ext_getElem?
  intro j
  rw [List.getElem?_take]
  by_cases hj : j < (ps.length - 1) * 3
  · rw [if_pos hj, Array.getElem?_toList, p3 j (by rw [e1]; exact hj)]
    by_cases hji : j < i * 3
    · rw [Q3.out j (by omega), List.getElem?_append_left (by rw [hl1]; exact hji), ← rowOf_take, List.getElem?_take, if_pos hji, ← HT.out, List.getElem?_take, if_pos (by omega), Array.getElem?_toList]
    · rw [List.getElem?_append_right (by rw [hl1]; omega), hl1]
      have hlt : j - i * 3 < (rowOf (ps.drop (i + 1))).length := by rw [HNL.out]; omega
      rw [List.getElem?_eq_getElem hlt]
      have := Q4.out (j - i * 3) _ (List.getElem?_eq_getElem hlt)
      rw [show 0 + i * 3 + (j - i * 3) = j by omega] at this
      exact this
  · rw [if_neg hj, List.getElem?_eq_none]
    rw [List.length_append, hl1, HNL.out]; omega
end Go.Proofs.Ytdlooafmjpbecaa
