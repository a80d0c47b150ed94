/-
  The contracts of Take and Twice.
-/
import Derived.Test.YtdlooafmjpbecaaDel
namespace Go.Proofs.Ytdlooafmjpbecaa
open Go.ChangeShapes Go.WideShapes Go.ChangeAt Go.RowKit

/-- A packet as a value. -/
abbrev Pk.val (p : Pk) : Value := .agg #[.int .i64 p.fr, .int .i64 p.to, .slice p.ad p.n p.c]

/-- What Take leaves. -/
def Taken (w : World) (B nb : Nat) (N : Int) (ps : List Pk) (i : Nat) (p : Pk) (e : Ending) (w' : World) : Prop :=
  ∃ v', e = .returned (.tuple #[p.val, .bool true]) ∧ NetAt w' B nb N v' (ps.eraseIdx i) ∧ Step B w w'

/-- A net with packets: its row lies in a block, known whole. -/
theorem NetAt.form {w : World} {B nb : Nat} {N : Int} {v : Value} {ps : List Pk} (h : NetAt w B nb N v ps) (hp : 0 < ps.length) :
    ∃ g cap cur, v = .slice (some ⟨g, 0, none⟩) ps.length cap ∧ B ≤ g ∧ Whole w g 32 cur ∧ ps.length ≤ cap ∧ cap ≤ maxLen ∧ cur.size = cap * 3 ∧ cur.toList.take (ps.length * 3) = rowOf ps ∧ g ≠ nb := by
  rcases h.row.2 with ⟨_, hn⟩ | ⟨g, cap, cur, hv, hg, hh, h1, h2, h3, h4⟩
  · omega
  · exact ⟨g, cap, cur, hv, hg, hh, h1, h2, h3, h4, type_ne hh h.head (by decide)⟩

/-- The three cells of a packet of the row. -/
theorem row_cells {w : World} {g : Nat} {cur : Array Value} {ps : List Pk} (hh : Whole w g 32 cur) (ht : cur.toList.take (ps.length * 3) = rowOf ps) (i : Nat) (hi : i < ps.length) :
    w.cell? ⟨g, i * 3, none⟩ = some (.int .i64 (ps[i]).fr) ∧ w.cell? ⟨g, i * 3 + 1, none⟩ = some (.int .i64 (ps[i]).to) ∧ w.cell? ⟨g, i * 3 + 2, none⟩ = some (.slice (ps[i]).ad (ps[i]).n (ps[i]).c) := by
  have h : ∀ j, j < 3 → w.cell? ⟨g, i * 3 + j, none⟩ = (ps[i]).vals[j]? := by
    intro j hj
    rw [← rowOf_get ps i j hi hj, ← ht, List.getElem?_take, if_pos (by omega), Array.getElem?_toList]
    exact hh.cell _
  exact ⟨h 0 (by omega), h 1 (by omega), h 2 (by omega)⟩

/-- A store into another block leaves the net. -/
theorem NetAt.aside {w : World} {B nb : Nat} {N : Int} {v : Value} {ps : List Pk} (h : NetAt w B nb N v ps) {R : Nat} {t : TypeId} {cs : Array Value} (hR : Whole w R t cs) (ht : t = 32 ∨ t = 46) (h1 : nb ≠ R) (h2 : v.ownBlock ≠ some R) (i : Nat) (u : Value) :
    NetAt (w.setCell ⟨R, i, none⟩ u) B nb N v ps :=
  ⟨h.base, h.head.apart (p := ⟨R, i, none⟩) h1 u, h.row.kept (gr_set (World.grownBy.refl w (some R)) i u) (Or.inr h2), fun p hp => (h.dat p hp).kept ((Bytes.refl w).put hR ht i u)⟩

/-- Behind Delete: the net's head, the packet that was taken, the result's place. -/
theorem after_delete {w w2 : World} {nb g : Nat} {N v x y z a b c : Value} (h : Whole w nb 46 #[N, v]) (hg : (((w.alloc (.cells #[a, b, c] 32)).alloc (.cells #[x, y, z] 32))).grownBy w2 (some g)) (hn : g ≠ nb) (hlt : g < w.heap.size) :
    Whole w2 nb 46 #[N, v] ∧ w2.cell? ⟨nb, 1, none⟩ = some v ∧ w2.frozen? ⟨nb, 1, none⟩ = false ∧
    Whole w2 (w.heap.size + 1) 32 #[x, y, z] ∧ w2.cell? ⟨w.heap.size + 1, 0, none⟩ = some x ∧ w2.cell? ⟨w.heap.size + 1, 1, none⟩ = some y ∧ w2.cell? ⟨w.heap.size + 1, 2, none⟩ = some z ∧
    Whole w2 w.heap.size 32 #[a, b, c] ∧ w2.cell? ⟨w.heap.size, 0, none⟩ = some a ∧ w2.cell? ⟨w.heap.size, 1, none⟩ = some b ∧ w2.cell? ⟨w.heap.size, 2, none⟩ = some c ∧
    w2.frozen? ⟨w.heap.size, 0, none⟩ = false ∧ w2.frozen? ⟨w.heap.size, 1, none⟩ = false ∧ w2.frozen? ⟨w.heap.size, 2, none⟩ = false ∧ nb < w.heap.size ∧ w.heap.size + 1 < w2.heap.size := by
  have h1 : Whole w2 nb 46 #[N, v] := ((h.alloc _).alloc _).grown hg (by simp; omega)
  have h2 : Whole w2 (w.heap.size + 1) 32 #[x, y, z] := (Whole.madeAt (w.alloc (.cells #[a, b, c] 32)) 32 #[x, y, z] (w.heap.size + 1) (by simp)).grown hg (by simp; omega)
  have h3 : Whole w2 w.heap.size 32 #[a, b, c] := ((Whole.made w 32 #[a, b, c]).alloc _).grown hg (by simp; omega)
  exact ⟨h1, h1.cell 1, h1.free 1, h2, h2.cell 0, h2.cell 1, h2.cell 2, h3, h3.cell 0, h3.cell 1, h3.cell 2, h3.free 0, h3.free 1, h3.free 2, h.lt, h2.lt⟩

set_option maxRecDepth 100000 in
theorem take_ok (w : World) (B nb : Nat) (N : Int) (v : Value) (ps : List Pk) (i : Nat) (hi : i < ps.length) (h : NetAt w B nb N v ps) (hB : B ≤ w.heap.size) :
    Calls Try.prog 10 #[.pointer (some ⟨nb, 0, none⟩), .int .i64 i] w (Taken w B nb N ps i ps[i]) := by
  obtain ⟨g, cap, cur, rfl, hg, hh, hle, hmx, hsz, htk, hgn⟩ := h.form (by omega)
  obtain ⟨d0, d1, d2⟩ := row_cells hh htk i hi
  have c1 := h.cell1
  have f1 := h.head.free 1
  have hlt := h.head.lt
  have hglt := hh.lt
  have HN := Lib.hid h
  have HH := Lib.hid hh
  have HT := Lib.hid htk
  have HS := Lib.hid hsz
  have hm2 : cap ≤ 9223372036854775807 := by unfold maxLen at hmx; omega
  have z1 : (i : Int) < (ps.length : Int) := by omega
  clear h hh htk hsz
  generalize hp : ps[i] = p at *
  go_enter Try.func10, Try.ntmps10
  go_wp2_with (first | (go_at_call 17; (with_reducible refine (there_any _ B nb N _ ps _ true (HN.out.later ((Below.refl _ _).alloc (Nat.le_refl _) _)) (Or.inl ⟨by omega, by omega, rfl⟩)).mono ?_); rintro e w1 ⟨rfl, rfl⟩) | (go_at_call 18; (with_reducible refine (delete_at _ B g cap ps i cur hi hg ((HH.out.alloc _).alloc _) hle hmx HS.out HT.out).mono ?_); rintro e w2 ⟨rfl, hrow2, hg2⟩; obtain ⟨a1, a2, a3, a4, a5, a6, a7, a8, a9, a10, a11, a12, a13, a14, a15, a16⟩ := after_delete HN.out.head hg2 hgn hglt))
  have hS1 : Step B w ((w.alloc (.cells #[.int .i64 0, .int .i64 0, .slice none 0 0] 32)).alloc (.cells #[.int .i64 p.fr, .int .i64 p.to, .slice p.ad p.n p.c] 32)) := ((Step.refl B w).alloc hB _).alloc (by simp; omega) _
  have hr1 := ((HN.out.row.alloc (.cells #[.int .i64 0, .int .i64 0, .slice none 0 0] 32)).alloc (.cells #[.int .i64 p.fr, .int .i64 p.to, .slice p.ad p.n p.c] 32))
  have hS2 : Step B w w2 := hS1.grown hr1 (by simp; omega) hg2
  have hN2 : NetAt (w2.setCell ⟨nb, 1, none⟩ (.slice (some ⟨g, 0, none⟩) (ps.length - 1) cap)) B nb N (.slice (some ⟨g, 0, none⟩) (ps.length - 1) cap) (ps.eraseIdx i) :=
    NetAt.store HN.out.base a1 (by rw [List.length_eraseIdx, if_pos hi]; exact hrow2) (fun q hq => (HN.out.dat q (List.mem_of_mem_eraseIdx hq)).kept hS2.bytes)
  have hS3 := hS2.put a1 (by decide) HN.out.base 1 (.slice (some ⟨g, 0, none⟩) (ps.length - 1) cap)
  have a8' := a8.apart (p := ⟨nb, 1, none⟩) (show w.heap.size ≠ nb by omega) (.slice (some ⟨g, 0, none⟩) (ps.length - 1) cap)
  have hgw : (Value.slice (some ⟨g, 0, none⟩) (ps.length - 1) cap).ownBlock ≠ some w.heap.size := by simp [Value.ownBlock]; omega
  have hN3 := ((hN2.aside a8' (by decide) (by omega) hgw 0 (.int .i64 p.fr)).aside (a8'.put 0 _) (by decide) (by omega) hgw 1 (.int .i64 p.to)).aside ((a8'.put 0 _).put 1 _) (by decide) (by omega) hgw 2 (.slice p.ad p.n p.c)
  have hS4 := ((hS3.put a8' (by decide) hB 0 (.int .i64 p.fr)).put (a8'.put 0 _) (by decide) hB 1 (.int .i64 p.to)).put ((a8'.put 0 _).put 1 _) (by decide) hB 2 (.slice p.ad p.n p.c)
  have a9' := ((a8'.put 0 (.int .i64 p.fr)).put 1 (.int .i64 p.to)).put 2 (.slice p.ad p.n p.c)
  have b0 : _ = some (Value.int .i64 p.fr) := a9'.cell 0
  have b1 : _ = some (Value.int .i64 p.to) := a9'.cell 1
  have b2 : _ = some (Value.slice p.ad p.n p.c) := a9'.cell 2
  refine bodyPost_ret (v := .tuple #[p.val, .bool true]) ?_ rfl ⟨_, rfl, hN3, hS4⟩
  simp only [results, Try.results10]
  simp [go_sem, b0, b1, b2]

theorem Dat.src {w : World} {p : Pk} (h : Dat w p) : Src w p.ad p.n p.bs := by
  refine ⟨h.1, h.2.1, h.2.2.1, ?_⟩
  rcases Nat.eq_zero_or_pos p.n with h0 | h0
  · have hb : p.bs = [] := List.eq_nil_of_length_eq_zero (by rw [h.1, h0])
    rcases hp : p.ad with _ | ad
    · exact Or.inl ⟨rfl, h0⟩
    · exact Or.inr ⟨ad, rfl, fun j u hj => by rw [hb] at hj; simp at hj⟩
  · obtain ⟨g, cs, f, h1, h2, h3⟩ := h.2.2.2 h0
    refine Or.inr ⟨_, h1, fun j u hj => ?_⟩
    rw [Addr.add_lit, Nat.zero_add, cell_of_row w g j cs 5 f h2]
    exact h3 j u hj

set_option maxRecDepth 100000 in
theorem twice_ok (w : World) (B nb : Nat) (N : Int) (v : Value) (ps : List Pk) (i : Nat) (hi : i < ps.length) (h : NetAt w B nb N v ps) (hB : B ≤ w.heap.size)
    (h0 : 0 ≤ (ps[i]).fr) (h1 : (ps[i]).fr < N) (h2 : 0 ≤ (ps[i]).to) (h3 : (ps[i]).to < N) (hfull : ps.length < 4096) :
    Calls Try.prog 12 #[.pointer (some ⟨nb, 0, none⟩), .int .i64 i] w (Sent w B nb N ps (ps[i]).fr (ps[i]).to (ps[i]).bs) := by
  obtain ⟨g, cap, cur, rfl, hg, hh, hle, hmx, hsz, htk, hgn⟩ := h.form (by omega)
  obtain ⟨d0, d1, d2⟩ := row_cells hh htk i hi
  have hs := Lib.hid (h.dat _ (List.getElem_mem hi)).src
  have c1 := h.cell1
  have hm2 : cap ≤ 9223372036854775807 := by unfold maxLen at hmx; omega
  have z1 : (i : Int) < (ps.length : Int) := by omega
  have HN := Lib.hid h
  clear h hh htk hsz
  generalize hp : ps[i] = p at *
  go_enter Try.func12, Try.ntmps12
  go_wp2_with (first | (go_at_call 17; (with_reducible refine (there_any _ B nb N _ ps _ true HN.out (Or.inl ⟨by omega, by omega, rfl⟩)).mono ?_); rintro e w1 ⟨rfl, rfl⟩) | (go_at_call 9; (with_reducible refine (send_ok _ B nb N _ ps _ _ _ _ _ _ HN.out hB hs.out h0 h1 h2 h3 hfull).mono ?_); rintro e w2 ⟨v', q, rfl, q1, q2, q3, q4, q5, q6⟩))
  go_ret
  exact ⟨v', q, rfl, q1, q2, q3, q4, q5, q6⟩

theorem twice_range (w : World) (B nb : Nat) (N : Int) (v : Value) (ps : List Pk) (i : Int) (hi : (ps.length : Int) ≤ i) (h : NetAt w B nb N v ps) :
    Calls Try.prog 12 #[.pointer (some ⟨nb, 0, none⟩), .int .i64 i] w fun e w' => e = .returned (.int .i64 15) ∧ w = w' := by
  go_enter Try.func12, Try.ntmps12
  go_wp2_with (first | (go_at_call 17; (with_reducible refine (there_any _ B nb N _ ps _ false h (Or.inr ⟨by omega, rfl⟩)).mono ?_); rintro e w1 ⟨rfl, rfl⟩))
  go_ret
  exact ⟨rfl, rfl⟩

set_option maxRecDepth 100000 in
theorem twice_full (w : World) (B nb : Nat) (N : Int) (v : Value) (ps : List Pk) (i : Nat) (hi : i < ps.length) (h : NetAt w B nb N v ps) (hB : B ≤ w.heap.size)
    (h0 : 0 ≤ (ps[i]).fr) (h1 : (ps[i]).fr < N) (h2 : 0 ≤ (ps[i]).to) (h3 : (ps[i]).to < N) (hfull : 4096 ≤ ps.length) :
    Calls Try.prog 12 #[.pointer (some ⟨nb, 0, none⟩), .int .i64 i] w (Told w B nb N v ps 13) := by
  obtain ⟨g, cap, cur, rfl, hg, hh, hle, hmx, hsz, htk, hgn⟩ := h.form (by omega)
  obtain ⟨d0, d1, d2⟩ := row_cells hh htk i hi
  have c1 := h.cell1
  have hm2 : cap ≤ 9223372036854775807 := by unfold maxLen at hmx; omega
  have z1 : (i : Int) < (ps.length : Int) := by omega
  have HN := Lib.hid h
  clear h hh htk hsz
  generalize hp : ps[i] = p at *
  go_enter Try.func12, Try.ntmps12
  go_wp2_with (first | (go_at_call 17; (with_reducible refine (there_any _ B nb N _ ps _ true HN.out (Or.inl ⟨by omega, by omega, rfl⟩)).mono ?_); rintro e w1 ⟨rfl, rfl⟩) | (go_at_call 9; (with_reducible refine (send_full _ B nb N _ ps _ _ _ HN.out hB h0 h1 h2 h3 hfull).mono ?_); rintro e w2 ⟨rfl, q4, q5⟩))
  go_ret
  exact ⟨rfl, q4, q5⟩
end Go.Proofs.Ytdlooafmjpbecaa
