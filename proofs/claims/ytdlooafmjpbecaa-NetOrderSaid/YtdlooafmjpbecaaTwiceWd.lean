/-
  Rows of bytes that came in; Take with what it keeps; the contracts of NetTwice's calls.
-/
import Derived.Test.YtdlooafmjpbecaaAwake
import Derived.Laws.BitsLemmas
namespace Go.Proofs.Ytdlooafmjpbecaa
open Go.ChangeShapes Go.WideShapes Go.ChangeAt Go.RowKit

/-- A row of bytes that came in: its slice lies in the cell c. -/
structure RowAt (w : World) (c : Addr) (A : Option Addr) (L C : Nat) (Z : List Int) : Prop where
  cell : w.cell? c = some (.slice A L C)
  le : L ≤ C
  max : C ≤ 9223372036854775807
  len : Z.length = C
  wf : ∀ n ∈ Z, (Lit.int .u8 n).wf = true
  nil : A = none → C = 0
  bytes : ∀ a, A = some a → ∀ i, i < C → w.cell? (a.add i) = some (.int .u8 (Z.getD i 0))

/-- Its bytes. -/
def bz (L : Nat) (Z : List Int) : List Value := (Z.take L).map (Value.int .u8)

theorem RowAt.src {w W : World} {c : Addr} {A : Option Addr} {L C : Nat} {Z : List Int} (h : RowAt w c A L C Z) (hb : Below w.heap.size w W) (hl : L ≤ 4096) : Src W A L (bz L Z) := by
  have h1 := h.le
  have h2 := h.len
  refine ⟨by simp [bz]; omega, hl, by intro u hu; obtain ⟨x, _, rfl⟩ := List.mem_map.1 hu; rfl, ?_⟩
  cases hA : A with
  | none => exact Or.inl ⟨rfl, by have := h.nil hA; omega⟩
  | some a =>
    refine Or.inr ⟨a, rfl, fun j u hj => ?_⟩
    have hjl : j < L := by have := (List.getElem?_eq_some_iff.1 hj).1; simp [bz] at this; omega
    have hc := h.bytes a hA j (by omega)
    rw [hb.cell (World.block_lt_of_cell? _ _ hc), hc]
    rw [← hj]
    unfold bz
    rw [List.getElem?_map, List.getElem?_take, if_pos hjl, List.getD_eq_getElem?_getD, List.getElem?_eq_getElem (by omega)]
    rfl

theorem RowAt.conv {w W : World} {c : Addr} {A : Option Addr} {L C : Nat} {Z : List Int} (h : RowAt w c A L C Z) (hb : Below w.heap.size w W) :
    (convert 29 9 (.slice A L C)).run Try.prog W = .ok (.string (strOfNums (Z.take L))) W := by
  have h1 := h.le
  have h2 := h.len
  rcases Nat.eq_zero_or_pos L with h0 | h0
  · subst h0; exact conv_zero W A C
  · cases hA : A with
    | none => have := h.nil hA; omega
    | some a =>
      obtain ⟨b, off, rfl, hc⟩ := ints_at (w := w) (a := a) (k := .u8) (zs := Z) (fun i hi => h.bytes a hA i (by omega)) (by omega)
      refine run_convert_bytes_arg W 29 5 Try.underlying29 Try.underlying5 b off L C (Z.take L) (by simp; omega) (fun i hi => ?_) 9 Try.underlying9
      have := hc i (by omega)
      rw [hb.cell (World.block_lt_of_cell? _ _ this), this, List.getD_eq_getElem?_getD, List.getD_eq_getElem?_getD, List.getElem?_take, if_pos hi]

theorem bz_string {W : World} {p : Pk} {L : Nat} {Z : List Int} (h : Dat W p) (hx : p.bs = bz L Z) :
    (convert 29 9 (.slice p.ad p.n p.c)).run Try.prog W = .ok (.string (strOfNums (Z.take L))) W := dat_string h hx

/-- What lay below, but for the net's head and its row, is kept. -/
def Kept (w w' : World) (nb : Nat) (v : Value) : Prop := ∀ k, k < w.heap.size → k ≠ nb → v.ownBlock ≠ some k → w'.heap[k]? = w.heap[k]?

/-- What Take leaves, with what it keeps. -/
def TakenK (w : World) (B nb : Nat) (N : Int) (v : Value) (ps : List Pk) (i : Nat) (p : Pk) (e : Ending) (w' : World) : Prop :=
  ∃ v', e = .returned (.tuple #[p.val, .bool true]) ∧ NetAt w' B nb N v' (ps.eraseIdx i) ∧ Step B w w' ∧ Kept w w' nb v

set_option maxRecDepth 100000 in
theorem take_kept (w : World) (B nb : Nat) (N : Int) (v : Value) (ps : List Pk) (i : Nat) (hi : i < ps.length) (h : NetAt w B nb N v ps) (hB : B ≤ w.heap.size) :
    Calls Try.prog 10 #[.pointer (some ⟨nb, 0, none⟩), .int .i64 i] w (TakenK w B nb N v ps i ps[i]) := by
  obtain ⟨g, cap, cur, rfl, hg, hh, hle, hmx, hsz, htk, hgn⟩ := h.form (by omega)
  obtain ⟨d0, d1, d2⟩ := row_cells hh htk i hi
  have c1 := h.cell1
  have f1 := h.head.free 1
  have hlt := h.head.lt
  have hglt := hh.lt
  have HN := Lib.hid h
  have HH := Lib.hid hh
  have HT := Lib.hid htk
  have HS := Lib.hid hsz
  have hm2 : cap ≤ 9223372036854775807 := by unfold maxLen at hmx; omega
  have z1 : (i : Int) < (ps.length : Int) := by omega
  clear h hh htk hsz
  generalize hp : ps[i] = p at *
  go_enter Try.func10, Try.ntmps10
  go_wp2_with (first | (go_at_call 17; (with_reducible refine (there_any _ B nb N _ ps _ true (HN.out.later ((Below.refl _ _).alloc (Nat.le_refl _) _)) (Or.inl ⟨by omega, by omega, rfl⟩)).mono ?_); rintro e w1 ⟨rfl, rfl⟩) | (go_at_call 18; (with_reducible refine (delete_at _ B g cap ps i cur hi hg ((HH.out.alloc _).alloc _) hle hmx HS.out HT.out).mono ?_); rintro e w2 ⟨rfl, hrow2, hg2⟩; obtain ⟨a1, a2, a3, a4, a5, a6, a7, a8, a9, a10, a11, a12, a13, a14, a15, a16⟩ := after_delete HN.out.head hg2 hgn hglt))
  have hS1 : Step B w ((w.alloc (.cells #[.int .i64 0, .int .i64 0, .slice none 0 0] 32)).alloc (.cells #[.int .i64 p.fr, .int .i64 p.to, .slice p.ad p.n p.c] 32)) := ((Step.refl B w).alloc hB _).alloc (by simp; omega) _
  have hr1 := ((HN.out.row.alloc (.cells #[.int .i64 0, .int .i64 0, .slice none 0 0] 32)).alloc (.cells #[.int .i64 p.fr, .int .i64 p.to, .slice p.ad p.n p.c] 32))
  have hS2 : Step B w w2 := hS1.grown hr1 (by simp; omega) hg2
  have hN2 : NetAt (w2.setCell ⟨nb, 1, none⟩ (.slice (some ⟨g, 0, none⟩) (ps.length - 1) cap)) B nb N (.slice (some ⟨g, 0, none⟩) (ps.length - 1) cap) (ps.eraseIdx i) :=
    NetAt.store HN.out.base a1 (by rw [List.length_eraseIdx, if_pos hi]; exact hrow2) (fun q hq => (HN.out.dat q (List.mem_of_mem_eraseIdx hq)).kept hS2.bytes)
  have hS3 := hS2.put a1 (by decide) HN.out.base 1 (.slice (some ⟨g, 0, none⟩) (ps.length - 1) cap)
  have a8' := a8.apart (p := ⟨nb, 1, none⟩) (show w.heap.size ≠ nb by omega) (.slice (some ⟨g, 0, none⟩) (ps.length - 1) cap)
  have hgw : (Value.slice (some ⟨g, 0, none⟩) (ps.length - 1) cap).ownBlock ≠ some w.heap.size := by simp [Value.ownBlock]; omega
  have hN3 := ((hN2.aside a8' (by decide) (by omega) hgw 0 (.int .i64 p.fr)).aside (a8'.put 0 _) (by decide) (by omega) hgw 1 (.int .i64 p.to)).aside ((a8'.put 0 _).put 1 _) (by decide) (by omega) hgw 2 (.slice p.ad p.n p.c)
  have hS4 := ((hS3.put a8' (by decide) hB 0 (.int .i64 p.fr)).put (a8'.put 0 _) (by decide) hB 1 (.int .i64 p.to)).put ((a8'.put 0 _).put 1 _) (by decide) hB 2 (.slice p.ad p.n p.c)
  have a9' := ((a8'.put 0 (.int .i64 p.fr)).put 1 (.int .i64 p.to)).put 2 (.slice p.ad p.n p.c)
  have b0 : _ = some (Value.int .i64 p.fr) := a9'.cell 0
  have b1 : _ = some (Value.int .i64 p.to) := a9'.cell 1
  have b2 : _ = some (Value.slice p.ad p.n p.c) := a9'.cell 2
  refine bodyPost_ret (v := .tuple #[p.val, .bool true]) ?_ rfl ⟨_, rfl, hN3, hS4, fun k hk hkn hkg => ?_⟩
  · simp only [results, Try.results10]
    simp [go_sem, b0, b1, b2]
  · have hkg' : some k ≠ some g := fun e => hkg (by simp [Value.ownBlock] at e ⊢; omega)
    rw [Below.heap_setCell _ _ _ _ (show k ≠ w.heap.size by omega), Below.heap_setCell _ _ _ _ (show k ≠ w.heap.size by omega), Below.heap_setCell _ _ _ _ (show k ≠ w.heap.size by omega), Below.heap_setCell _ _ _ _ (show k ≠ nb by omega), hg2.block k (by simp; omega) hkg', Below.heap_alloc _ _ _ (by simp; omega), Below.heap_alloc _ _ _ hk]

/-- Packets from 0 to 1, with these bytes. -/
def Tw (L : Nat → Nat) (Z : Nat → List Int) (ps : List Pk) : Prop := ∀ r (h : r < ps.length), (ps[r]).fr = 0 ∧ (ps[r]).to = 1 ∧ (ps[r]).bs = bz (L r) (Z r)
theorem Tw.snoc {L : Nat → Nat} {Z : Nat → List Int} {ps : List Pk} (h : Tw L Z ps) {p : Pk} (h0 : p.fr = 0) (h1 : p.to = 1) (h2 : p.bs = bz (L ps.length) (Z ps.length)) : Tw L Z (ps ++ [p]) := by
  intro r hr
  by_cases hlt : r < ps.length
  · rw [List.getElem_append_left hlt]; exact h r hlt
  · have : r = ps.length := by simp at hr; omega
    subst this
    rw [List.getElem_append_right (Nat.le_refl _)]
    simpa using ⟨h0, h1, h2⟩

/-- What holds at the head of the loop. -/
def TwRel (w : World) (nb : Nat) (L : Nat → Nat) (Z : Nat → List Int) (len : Nat) (i : Value) (wr : World) : Prop :=
  ∃ (j : Nat) (v : Value) (ps : List Pk), j ≤ len ∧ i = .int .i64 j ∧ ps.length = j ∧ NetAt wr w.heap.size nb 2 v ps ∧ Tw L Z ps ∧ Below w.heap.size w wr

def TwSent (w : World) (nb : Nat) (L : Nat → Nat) (Z : Nat → List Int) (j : Nat) (e : Ending) (w' : World) : Prop :=
  ∃ v' ps', e = .returned (.int .i64 0) ∧ ps'.length = j + 1 ∧ NetAt w' w.heap.size nb 2 v' ps' ∧ Tw L Z ps' ∧ Below w.heap.size w w'
theorem tw_send (w0 w W : World) (nb : Nat) (v : Value) (ps : List Pk) (L : Nat → Nat) (Z : Nat → List Int) (A : Option Addr) (C : Nat) (c : Addr) (h : NetAt W w.heap.size nb 2 v ps) (ht : Tw L Z ps) (hb0 : Below w0.heap.size w0 w) (hb : Below w.heap.size w W)
    (hr : RowAt w0 c A (L ps.length) C (Z ps.length)) (hl : L ps.length ≤ 50) (hp : ps.length < 4096) :
    Calls Try.prog 9 #[.pointer (some ⟨nb, 0, none⟩), .agg #[.int .i64 0, .int .i64 1, .slice A (L ps.length) C]] W (TwSent w nb L Z ps.length) :=
  (send_ok W w.heap.size nb 2 v ps 0 1 A _ C _ h hb.size (hr.src (bnext hb0 hb) (by omega)) (by omega) (by omega) (by omega) (by omega) hp).mono fun e w' ⟨v', p, he, p1, p2, p3, hN', hS, _⟩ =>
    ⟨v', _, he, by simp, hN', ht.snoc p1 p2 p3, hb.trans hS.below⟩

/-- What Twice leaves. -/
def TwDup (W : World) (B nb : Nat) (L : Nat → Nat) (Z : Nat → List Int) (k : Nat) (ps : List Pk) (e : Ending) (w' : World) : Prop :=
  ∃ v' p, e = .returned (.int .i64 0) ∧ p.to = 1 ∧ p.bs = bz (L k) (Z k) ∧ NetAt w' B nb 2 v' (ps ++ [p]) ∧ Step B W w'
theorem tw_twice (W : World) (B nb : Nat) (v : Value) (ps : List Pk) (L : Nat → Nat) (Z : Nat → List Int) (k : Nat) (h : NetAt W B nb 2 v ps) (ht : Tw L Z ps) (hB : B ≤ W.heap.size) (hk : k < ps.length) (hl : ps.length < 4096) :
    Calls Try.prog 12 #[.pointer (some ⟨nb, 0, none⟩), .int .i64 k] W (TwDup W B nb L Z k ps) := by
  obtain ⟨t1, t2, t3⟩ := ht k hk
  exact (twice_ok W B nb 2 v ps k hk h hB (by omega) (by omega) (by omega) (by omega) hl).mono fun e w' ⟨v', p, he, p1, p2, p3, hN', hS, _⟩ => ⟨v', p, he, p2.trans t2, p3.trans t3, hN', hS⟩
theorem tw_range (W : World) (B nb : Nat) (v : Value) (ps : List Pk) (p : Pk) (len : Nat) (hl : ps.length = len) (h : NetAt W B nb 2 v (ps ++ [p])) :
    Calls Try.prog 12 #[.pointer (some ⟨nb, 0, none⟩), .int .i64 ((len : Int) + 1)] W fun e w' => e = .returned (.int .i64 15) ∧ W = w' :=
  twice_range W B nb 2 v (ps ++ [p]) _ (by simp; omega) h
theorem tw_len (W : World) (B nb : Nat) (v : Value) (ps : List Pk) (p : Pk) (len : Nat) (hl : ps.length = len) (h : NetAt W B nb 2 v (ps ++ [p])) :
    Calls Try.prog 11 #[.pointer (some ⟨nb, 0, none⟩)] W fun e w' => e = .returned (.int .i64 ((len : Int) + 1)) ∧ W = w' := by
  have := len_any W B nb 2 v (ps ++ [p]) h
  rw [show (((ps ++ [p]).length : Nat) : Int) = (len : Int) + 1 by simp [hl]] at this
  exact this
theorem places_all (k : Int) (qs : List Pk) (h : ∀ p ∈ qs, p.to = k) : (places k qs qs.length).length = qs.length := by
  unfold places
  rw [List.filter_eq_self.2, List.length_range]
  intro i hi
  unfold isTo
  have := List.mem_range.1 hi
  rw [List.getElem?_eq_getElem this]
  simpa using h _ (List.getElem_mem this)
def TwTo (W : World) (len : Nat) (e : Ending) (w' : World) : Prop := ∃ a cap, e = .returned (.slice a (len + 1) cap) ∧ Below W.heap.size W w'
theorem tw_to (W : World) (B nb : Nat) (v : Value) (ps : List Pk) (p : Pk) (L : Nat → Nat) (Z : Nat → List Int) (len : Nat) (hl : ps.length = len) (h : NetAt W B nb 2 v (ps ++ [p])) (ht : Tw L Z ps) (hp : p.to = 1) (h4 : len < 4096) :
    Calls Try.prog 13 #[.pointer (some ⟨nb, 0, none⟩), .int .i64 1] W (TwTo W len) := by
  have ht' := to_any W B nb 2 v _ 1 h (by simp; omega)
  refine ht'.mono fun e w' ⟨a, cap, he, _, hb⟩ => ⟨a, cap, ?_, hb⟩
  rw [he, places_all 1 _ (by
    intro q hq
    rcases List.mem_append.1 hq with hq | hq
    · obtain ⟨r, hr, rfl⟩ := List.mem_iff_getElem.1 hq; exact (ht r hr).2.1
    · obtain rfl := List.mem_singleton.1 hq; exact hp)]
  simp [hl]
/-- What Take of the last leaves. -/
def TwLast (W : World) (B nb : Nat) (ps : List Pk) (p : Pk) (e : Ending) (w' : World) : Prop := ∃ v', e = .returned (.tuple #[p.val, .bool true]) ∧ NetAt w' B nb 2 v' ps ∧ Step B W w'
theorem tw_last (W : World) (B nb : Nat) (v : Value) (ps : List Pk) (p : Pk) (len : Nat) (hl : ps.length = len) (h : NetAt W B nb 2 v (ps ++ [p])) (hB : B ≤ W.heap.size) :
    Calls Try.prog 10 #[.pointer (some ⟨nb, 0, none⟩), .int .i64 len] W (TwLast W B nb ps p) := by
  subst hl
  refine (take_ok W B nb 2 v (ps ++ [p]) ps.length (by simp) h hB).mono fun e w' ⟨v', he, hN, hS⟩ => ⟨v', ?_, ?_, hS⟩
  · rw [he, List.getElem_append_right (Nat.le_refl _)]; simp
  · rw [List.eraseIdx_append_of_length_le (Nat.le_refl _)] at hN; simpa using hN
/-- What Take of the k-th leaves, behind a box. -/
def TwKth (W : World) (B nb len : Nat) (q p : Pk) (e : Ending) (w' : World) : Prop :=
  ∃ v' qs, e = .returned (.tuple #[q.val, .bool true]) ∧ qs.length = len - 1 ∧ NetAt w' B nb 2 v' qs ∧ Step B W w' ∧ Dat w' q ∧ Dat w' p ∧ w'.cell? ⟨W.heap.size, 2, none⟩ = some (.slice p.ad p.n p.c) ∧ W.heap.size < w'.heap.size
theorem tw_kth (W : World) (B nb : Nat) (v : Value) (ps : List Pk) (p : Pk) (k len : Nat) (hl : ps.length = len) (hk : k < len) (h : NetAt W B nb 2 v ps) (hp : Dat W p) (hB : B ≤ W.heap.size) :
    Calls Try.prog 10 #[.pointer (some ⟨nb, 0, none⟩), .int .i64 k] (W.alloc (.cells #[.int .i64 p.fr, .int .i64 p.to, .slice p.ad p.n p.c] 32)) (TwKth W B nb len (ps[k]'(by omega)) p) := by
  refine (take_kept _ B nb 2 v ps k (by omega) (h.later ((Below.refl _ _).alloc (Nat.le_refl _) _)) (by simp; omega)).mono fun e w' ⟨v', he, hN, hS, hK⟩ => ?_
  have hbox : Whole w' W.heap.size 32 #[.int .i64 p.fr, .int .i64 p.to, .slice p.ad p.n p.c] :=
    (hK W.heap.size (by simp) (by have := h.head.lt; omega) (fun e => by have := (h.row.lt _ e).2; omega)).trans (Whole.made W 32 _)
  exact ⟨v', _, he, by rw [List.length_eraseIdx, if_pos (by omega), hl], hN, ((Step.refl B W).alloc hB _).trans hS, (h.dat _ (List.getElem_mem _)).kept (((Bytes.refl W).alloc _).trans hS.bytes), hp.kept (((Bytes.refl W).alloc _).trans hS.bytes), hbox.cell 2, hbox.lt⟩
end Go.Proofs.Ytdlooafmjpbecaa
