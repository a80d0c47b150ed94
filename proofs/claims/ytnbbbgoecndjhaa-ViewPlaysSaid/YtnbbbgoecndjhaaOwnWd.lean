/-
  Words and contracts of ViewOwn's walk.
-/
import Derived.Test.YtnbbbgoecndjhaaAwake
import Derived.Lib.ConvBytes
import Derived.Laws.BitsAllLaws
namespace Go.Proofs.Ytnbbbgoecndjhaa
open Go.ChangeShapes Go.WideShapes Go.ChangeAt Go.RowKit
set_option linter.unusedVariables false

/-- The block g bears a conversion's bytes. -/
def Conv0 (w : World) (g : Nat) (xs : List Int) : Prop :=
  ∃ (cs : Array Value) (n : Nat), w.heap[g]? = some (.cells cs 5 (n, n + 1)) ∧ xs.length ≤ n ∧ ∀ (j : Nat) (u : Value), (xs.map (Value.int .u8))[j]? = some u → cs[j]? = some u

theorem Conv0.lt {w : World} {g : Nat} {xs : List Int} (h : Conv0 w g xs) : g < w.heap.size := by obtain ⟨cs, n, h1, _⟩ := h; exact heap_lt h1
theorem Conv0.kept {w w' : World} {g : Nat} {xs : List Int} (h : Conv0 w g xs) (hb : Bytes w w') : Conv0 w' g xs := by
  obtain ⟨cs, n, h1, h2, h3⟩ := h
  exact ⟨cs, n, hb g cs 5 (n, n + 1) (by decide) h1, h2, h3⟩
theorem Conv0.first {w : World} {g : Nat} {x : Int} {xs : List Int} (h : Conv0 w g (x :: xs)) : w.cell? ⟨g, 0, none⟩ = some (.int .u8 x) ∧ w.frozen? ⟨g, 0, none⟩ = false ∧ g < w.heap.size := by
  obtain ⟨cs, n, h1, h2, h3⟩ := h
  simp at h2
  refine ⟨(cell_of_row w g 0 cs 5 _ h1).trans (h3 0 _ rfl), ?_, heap_lt h1⟩
  simp [World.frozen?, h1]
  omega

/-- Cells of a block, as bytes that are read. -/
theorem Row.ofCells {w : World} {g : Nat} {cs : Array Value} {f : Nat × Nat} {xs : List Int} (h : w.heap[g]? = some (.cells cs 5 f)) (hx : ∀ (j : Nat) (u : Value), (xs.map (Value.int .u8))[j]? = some u → cs[j]? = some u) (hl : xs.length ≤ 4096) : Row w (some ⟨g, 0, none⟩) xs.length xs := by
  refine ⟨rfl, hl, .inr ⟨g, 0, rfl, fun j hj => ?_⟩⟩
  rw [Nat.zero_add, cell_of_row w g j cs 5 f h]
  refine hx j _ ?_
  rw [List.getElem?_map, List.getElem?_eq_getElem hj]
  simp [List.getD, List.getElem?_eq_getElem hj]
theorem Conv0.row {w : World} {g : Nat} {xs : List Int} (h : Conv0 w g xs) (hl : xs.length ≤ 4096) : Row w (some ⟨g, 0, none⟩) xs.length xs := by
  obtain ⟨cs, n, h1, _, h3⟩ := h
  exact Row.ofCells h1 h3 hl
theorem cells_set {cs : Array Value} {x y : Int} {xs : List Int} (h : ∀ (j : Nat) (u : Value), ((x :: xs).map (Value.int .u8))[j]? = some u → cs[j]? = some u) : ∀ (j : Nat) (u : Value), ((y :: xs).map (Value.int .u8))[j]? = some u → (cs.setIfInBounds 0 (.int .u8 y))[j]? = some u := by
  intro j u hj
  cases j with
  | zero =>
    have h0 := h 0 (.int .u8 x) rfl
    have hlt := (Array.getElem?_eq_some_iff.1 h0).1
    simp at hj
    subst hj
    simp [hlt]
  | succ j =>
    have h1 := h (j + 1) u (by simpa using hj)
    rw [Array.getElem?_setIfInBounds]
    simpa using h1
theorem Conv0.poke {w : World} {g : Nat} {x y : Int} {xs : List Int} (h : Conv0 w g (x :: xs)) : Conv0 (w.setCell ⟨g, 0, none⟩ (.int .u8 y)) g (y :: xs) := by
  obtain ⟨cs, n, h1, h2, h3⟩ := h
  refine ⟨cs.setIfInBounds 0 (.int .u8 y), n, ?_, h2, cells_set h3⟩
  simp [World.setCell, Array.getElem?_modify, h1]

/-- []byte(s) and back. -/
theorem conv_back (w : World) (xs : List Int) (hx : ∀ x ∈ xs, 0 ≤ x ∧ x ≤ 255) :
    ∃ cap wq, (convert 9 23 (.string (strOfNums xs))).run Try.prog w = .ok (.slice (some ⟨w.heap.size, 0, none⟩) xs.length cap) wq ∧ Below w.heap.size w wq ∧ wq.heap.size = w.heap.size + 1 ∧ Conv0 wq w.heap.size xs := by
  have hsz := strOfNums_size xs
  have hC : Conv0 (Lib.bytesWorld w 5 (strOfNums xs)) w.heap.size xs := by
    refine ⟨_, _, Lib.bytesWorld_at_new w 5 (strOfNums xs), ?_, fun j u hj => ?_⟩
    · have : (strOfNums xs).data.size = xs.length := hsz
      simp [Lib.bytesCells, this]
    · have hjl : j < xs.length := by have := (List.getElem?_eq_some_iff.1 hj).1; simpa using this
      have hd : (strOfNums xs).data.size = xs.length := hsz
      rw [← hj]
      unfold Lib.bytesCells
      rw [Array.getElem?_append_left (by simp [hd]; exact hjl)]
      have h2 := hx xs[j] (List.getElem_mem hjl)
      simp [strOfNums, hjl]
      omega
  refine ⟨grownCap w (strOfNums xs).size 0 5, Lib.bytesWorld w 5 (strOfNums xs), ?_, ⟨rfl, rfl, rfl, by rw [Lib.bytesWorld_size]; omega, fun j hj => Lib.bytesWorld_at_old w 5 _ j hj⟩, Lib.bytesWorld_size w 5 _, hC⟩
  have := Lib.run_convert_string_bytes (P := Try.prog) w 9 23 5 (strOfNums xs) Try.underlying9 Try.underlying23 Try.underlying5
  rw [hsz] at this ⊢
  exact this

/-- A store into a block of bytes that the view doesn't share leaves the view. -/
theorem VMem.poke {w : World} {B vb mb n : Nat} {low next : Int} {M : Int → Option (List Int)} {F : Int → Value} {g0 i : Nat} {cs : Array Value} {f : Nat × Nat} (h : VMem w B vb mb n low next M F) (h5 : w.heap[g0]? = some (.cells cs 5 f))
    (ha : ∀ k ys, M k = some ys → ∀ g l c, F k = .slice (some ⟨g, 0, none⟩) l c → g ≠ g0) (u : Value) : VMem (w.setCell ⟨g0, i, none⟩ u) B vb mb n low next M F := by
  refine ⟨h.base, h.baseM, h.head.apart (p := ⟨g0, i, none⟩) (type_ne h.head h5 (by decide)) u, h.map.put (a := ⟨g0, i, none⟩) (h.apart h5).symm u, h.absent, fun k xs hk => ?_⟩
  obtain ⟨g, c, cs', fr, q1, q2, q3⟩ := h.known k xs hk
  exact ⟨g, c, cs', fr, q1, (Below.heap_setCell w ⟨g0, i, none⟩ u g (ha k xs hk g _ _ q1)).trans q2, q3⟩
/-- What the view shares lay ahead. -/
theorem VMem.old {w : World} {B vb mb n : Nat} {low next : Int} {M : Int → Option (List Int)} {F : Int → Value} (h : VMem w B vb mb n low next M F) {g0 : Nat} (hg : w.heap.size ≤ g0) : ∀ k ys, M k = some ys → ∀ g l c, F k = .slice (some ⟨g, 0, none⟩) l c → g ≠ g0 := by
  intro k ys hk g l c hF
  obtain ⟨g', c', cs, fr, q1, q2, _⟩ := h.known k ys hk
  rw [q1] at hF
  injection hF with hF
  injection hF with hF
  injection hF with hF
  subst hF
  have := heap_lt q2
  omega

/-- What is known where just one record was noted. -/
def M1 (pos : Int) (xs : List Int) : Int → Option (List Int) := upd (fun _ => none) pos xs
theorem M1_at (pos : Int) (xs : List Int) : M1 pos xs pos = some xs := if_pos rfl
theorem M1_off {pos k : Int} (xs : List Int) (h : k ≠ pos) : M1 pos xs k = none := if_neg h
theorem M1_only {pos k : Int} {xs ys : List Int} (h : M1 pos xs k = some ys) : k = pos ∧ ys = xs := by
  by_cases e : k = pos
  · subst e; rw [M1_at] at h; injection h with h; exact ⟨rfl, h.symm⟩
  · rw [M1_off xs e] at h; cases h

/-- What Note leaves, beside what it was handed. -/
def OwnN (w : World) (vb mb : Nat) (pos : Int) (xs : List Int) (g0 : Nat) (e : Ending) (w' : World) : Prop :=
  ∃ nx F, e = .returned (.int .i64 0) ∧ VMem w' w.heap.size vb mb 1 0 nx (M1 pos xs) F ∧ Below w.heap.size w w' ∧ (∀ k ys, M1 pos xs k = some ys → ∀ g l c, F k = .slice (some ⟨g, 0, none⟩) l c → g ≠ g0) ∧ Conv0 w' g0 xs
theorem own_note (w wq : World) (vb mb g0 c : Nat) (pos : Int) (xs : List Int) (F : Int → Value) (hV : VMem wq w.heap.size vb mb 0 0 0 (fun _ => none) F) (hC : Conv0 wq g0 xs) (hl : xs.length ≤ 40) (hb : Below w.heap.size w wq) (h0 : 0 ≤ pos) (h1 : pos < 18446744073709551615) :
    Calls Try.prog 9 #[.pointer (some ⟨vb, 0, none⟩), .int .u64 pos, .slice (some ⟨g0, 0, none⟩) xs.length c] wq (OwnN w vb mb pos xs g0) := by
  refine (note_x wq w.heap.size vb mb 0 0 0 _ F pos _ _ c xs hV (hC.row (by omega)) hb.size h0 h1 (by omega) h0 nx0 rfl rfl (by omega)).mono ?_
  rintro e w' ⟨nx, F', he, hV', hS, hx, hF⟩
  refine ⟨nx, F', he, hV', hb.trans hS.below, fun k ys hk g l c' hFk => ?_, hC.kept hS.bytes⟩
  obtain ⟨rfl, rfl⟩ := M1_only hk
  rcases hF k with h | ⟨g', c2, h, hle⟩
  · rw [h, hV.absent k rfl] at hFk
    injection hFk with hFk
    cases hFk
  · rw [h] at hFk
    injection hFk with hFk
    injection hFk with hFk
    injection hFk with hFk
    have := hC.lt
    omega

/-- What Get leaves. -/
def OwnG (W : World) (x : Int) (rest : List Int) (e : Ending) (w' : World) : Prop :=
  ∃ g c cs, e = .returned (.tuple #[.slice (some ⟨g, 0, none⟩) (rest.length + 1) c, .int .i64 0]) ∧ Whole w' g 5 cs ∧ (∀ (j : Nat) (u : Value), ((x :: rest).map (Value.int .u8))[j]? = some u → cs[j]? = some u) ∧ W.heap.size ≤ g ∧ Below W.heap.size W w'
theorem own_get (W : World) (B vb mb n : Nat) (nx pos x : Int) (rest : List Int) (F : Int → Value) (hV : VMem W B vb mb n 0 nx (M1 pos (x :: rest)) F) (hl : (x :: rest).length ≤ 40) (h0 : 0 ≤ pos) (h1 : pos < 18446744073709551615) :
    Calls Try.prog 12 #[.pointer (some ⟨vb, 0, none⟩), .int .u64 pos] W (OwnG W x rest) := by
  refine (get_ok W B vb mb n 0 nx _ F pos (x :: rest) hV h0 (by omega) h0 (M1_at _ _) (by omega)).mono ?_
  rintro e w' ⟨a, c, he, hd, hb⟩
  obtain ⟨g, cs, rfl, hw, hx, hg⟩ := hd (by simp)
  exact ⟨g, c, cs, he, hw, hx, hg, hb⟩

/-- What Take leaves. -/
def OwnT (W : World) (pos x : Int) (rest : List Int) (e : Ending) (w' : World) : Prop :=
  ∃ gr cr g c cs, e = .returned (.tuple #[.slice (some ⟨gr, 0, none⟩) 1 cr, .int .u64 (pos + 1)]) ∧ w'.cell? ⟨gr, 0, none⟩ = some (.slice (some ⟨g, 0, none⟩) (rest.length + 1) c) ∧ Whole w' g 5 cs ∧ (∀ (j : Nat) (u : Value), ((x :: rest).map (Value.int .u8))[j]? = some u → cs[j]? = some u) ∧ W.heap.size ≤ g ∧ Below W.heap.size W w'
theorem own_take (W : World) (B vb mb n : Nat) (nx pos x : Int) (rest : List Int) (F : Int → Value) (hV : VMem W B vb mb n 0 nx (M1 pos (x :: rest)) F) (hl : (x :: rest).length ≤ 40) (h0 : 0 ≤ pos) (h1 : pos < 18446744073709551615) :
    Calls Try.prog 10 #[.pointer (some ⟨vb, 0, none⟩), .int .u64 pos, .int .i64 3] W (OwnT W pos x rest) := by
  refine (take_ok W B vb mb n 0 nx _ F pos pos 3 hV (fun k ys hk => by obtain ⟨_, rfl⟩ := M1_only hk; omega) (M1_off _ (by omega)) h0 (by omega) (by omega) (by omega) (if_neg (by omega)) (by omega)).mono ?_
  rintro e w' ⟨v2, vs, rfl, hrow, hrec, hle, hend, hb⟩
  have h3 : (3 : Int).toNat = 3 := rfl
  have hv1 : vs.length = 1 := by
    have hk : ∀ i : Nat, i < vs.length → i = 0 := fun i hi => by
      obtain ⟨xs, h, _⟩ := hrec i _ (List.getElem?_eq_getElem hi)
      have := (M1_only h).1
      omega
    have : vs.length ≤ 1 := by
      rcases Nat.lt_or_ge 1 vs.length with h | h
      · have := hk 1 h; omega
      · exact h
    rcases hend with h | h
    · omega
    · rcases Nat.lt_or_ge vs.length 1 with h4 | h4
      · have : vs.length = 0 := by omega
        rw [this] at h
        simp [M1_at] at h
      · omega
  obtain ⟨v, rfl⟩ : ∃ v, vs = [v] := List.length_eq_one_iff.1 hv1
  obtain ⟨xs, h, hbs⟩ := hrec 0 v rfl
  have := (M1_only h).2
  subst this
  obtain ⟨g, c, cs, rfl, hw, hx, hg⟩ := hbs
  rcases hrow.2 with ⟨rfl, h⟩ | ⟨gr, cr, cur, rfl, hgr, hh, q1, q2, q3, q4⟩
  · simp at h
  · refine ⟨gr, cr, g, c, cs, rfl, ?_, hw, hx, hg, hb⟩
    rw [cell_of_row w' gr 0 cur 23 (0, 0) hh]
    have : (cur.toList.take (1 * 1))[0]? = some (Value.slice (some ⟨g, 0, none⟩) (rest.length + 1) c) := by
      have e : ([Value.slice (some ⟨g, 0, none⟩) (x :: rest).length c] : List Value).length * 1 = 1 * 1 := rfl
      rw [← e, q4]; rfl
    rw [List.getElem?_take] at this
    simpa using this

/-- Two bytes that part. -/
theorem xor_ne {a b : Int} (h1 : 0 ≤ a) (h2 : a ≤ 255) (h3 : 0 < b) (h4 : b ≤ 255) : bits .xor .u8 a b ≠ a ∧ 0 ≤ bits .xor .u8 a b ∧ bits .xor .u8 a b ≤ 255 := by
  have h := u8_xor a b h1 (by omega) (by omega) (by omega)
  rw [h]
  have hlt : a.toNat ^^^ b.toNat < 2 ^ 8 := Nat.xor_lt_two_pow (by omega) (by omega)
  refine ⟨fun e => ?_, by omega, by omega⟩
  have e2 : a.toNat ^^^ b.toNat = a.toNat := by omega
  have e3 : b.toNat = 0 := by
    have := congrArg (fun z => a.toNat ^^^ z) e2
    simp only [← Nat.xor_assoc, Nat.xor_self, Nat.zero_xor] at this
    exact this
  omega
end Go.Proofs.Ytnbbbgoecndjhaa
