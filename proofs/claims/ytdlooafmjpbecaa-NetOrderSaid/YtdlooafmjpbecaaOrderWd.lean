/-
  Words and contracts of NetOrder's walk.
-/
import Derived.Test.YtdlooafmjpbecaaTwiceWd
import Derived.Lib.ConvBytes
namespace Go.Proofs.Ytdlooafmjpbecaa
open Go.ChangeShapes Go.WideShapes Go.ChangeAt Go.RowKit

theorem wraps_i64s (n : Int) (h₀ : 0 ≤ n) (h₁ : n < 2 ^ 8) : IntKind.i64.wrap n = n := by rw [IntKind.wrap_i64]; omega
theorem i64_and3 (x : Int) (h0 : 0 ≤ x) (h1 : x < 256) : bits .and .i64 x 3 = x % 4 := bits_mask .i64 8 (by decide) wraps_i64s 2 (by decide) x h0 h1

theorem info9 : (Try.prog.info? 9).map (fun i => (i.zero, i.size, i.bytes)) = some (some (.string ⟨#[]⟩), 1, 16) := by kernel_rfl

/-- The block g bears a conversion's bytes. -/
def Conv0 (w : World) (g : Nat) (xs : List Int) : Prop :=
  ∃ (cs : Array Value) (n : Nat), w.heap[g]? = some (.cells cs 5 (n, n + 1)) ∧ xs.length ≤ n ∧ ∀ (j : Nat) (u : Value), (xs.map (Value.int .u8))[j]? = some u → cs[j]? = some u

theorem Conv0.kept {w w' : World} {g : Nat} {xs : List Int} (h : Conv0 w g xs) (hb : Bytes w w') : Conv0 w' g xs := by
  obtain ⟨cs, n, h1, h2, h3⟩ := h
  exact ⟨cs, n, hb g cs 5 (n, n + 1) (by decide) h1, h2, h3⟩
theorem Conv0.later {w w' : World} {g : Nat} {xs : List Int} (h : Conv0 w g xs) (hb : w'.heap[g]? = w.heap[g]?) : Conv0 w' g xs := by
  obtain ⟨cs, n, h1, h2, h3⟩ := h
  exact ⟨cs, n, hb.trans h1, h2, h3⟩
theorem Conv0.src {w : World} {g : Nat} {xs : List Int} (h : Conv0 w g xs) (hl : xs.length ≤ 4096) : Src w (some ⟨g, 0, none⟩) xs.length (xs.map (Value.int .u8)) := by
  obtain ⟨cs, n, h1, h2, h3⟩ := h
  refine ⟨by simp, hl, by intro u hu; obtain ⟨x, _, rfl⟩ := List.mem_map.1 hu; rfl, Or.inr ⟨_, rfl, fun j u hj => ?_⟩⟩
  rw [Addr.add_lit, Nat.zero_add, cell_of_row w g j cs 5 _ h1]
  exact h3 j u hj
theorem Conv0.first {w : World} {g : Nat} {x : Int} {xs : List Int} (h : Conv0 w g (x :: xs)) : w.cell? ⟨g, 0, none⟩ = some (.int .u8 x) ∧ w.frozen? ⟨g, 0, none⟩ = false ∧ g < w.heap.size := by
  obtain ⟨cs, n, h1, h2, h3⟩ := h
  simp at h2
  refine ⟨(cell_of_row w g 0 cs 5 _ h1).trans (h3 0 _ rfl), ?_, heap_lt h1⟩
  simp [World.frozen?, h1]
  omega

/-- []byte(s) and back. -/
theorem conv_back (w : World) (xs : List Int) (hx : ∀ x ∈ xs, 0 ≤ x ∧ x ≤ 255) :
    ∃ cap wq, (convert 9 29 (.string (strOfNums xs))).run Try.prog w = .ok (.slice (some ⟨w.heap.size, 0, none⟩) xs.length cap) wq ∧ (convert 29 9 (.slice (some ⟨w.heap.size, 0, none⟩) xs.length cap)).run Try.prog wq = .ok (.string (strOfNums xs)) wq ∧ Below w.heap.size w wq ∧ wq.heap.size = w.heap.size + 1 ∧ Conv0 wq w.heap.size xs := by
  have hsz := strOfNums_size xs
  have hC : Conv0 (Lib.bytesWorld w 5 (strOfNums xs)) w.heap.size xs := by
    refine ⟨_, _, Lib.bytesWorld_at_new w 5 (strOfNums xs), ?_, fun j u hj => ?_⟩
    · have : (strOfNums xs).data.size = xs.length := hsz
      simp [Lib.bytesCells, this]
    · have hjl : j < xs.length := by have := (List.getElem?_eq_some_iff.1 hj).1; simpa using this
      have hd : (strOfNums xs).data.size = xs.length := hsz
      rw [← hj]
      unfold Lib.bytesCells
      rw [Array.getElem?_append_left (by simp [hd]; exact hjl)]
      have h2 := hx xs[j] (List.getElem_mem hjl)
      simp [strOfNums, hjl]
      omega
  refine ⟨grownCap w (strOfNums xs).size 0 5, Lib.bytesWorld w 5 (strOfNums xs), ?_, ?_, ⟨rfl, rfl, rfl, by rw [Lib.bytesWorld_size]; omega, fun j hj => Lib.bytesWorld_at_old w 5 _ j hj⟩, Lib.bytesWorld_size w 5 _, hC⟩
  · have := Lib.run_convert_string_bytes (P := Try.prog) w 9 29 5 (strOfNums xs) Try.underlying9 Try.underlying29 Try.underlying5
    rw [hsz] at this ⊢
    exact this
  · obtain ⟨cs, n, h1, h2, h3⟩ := hC
    refine run_convert_bytes_arg _ 29 5 Try.underlying29 Try.underlying5 _ 0 xs.length _ xs rfl (fun i hi => ?_) 9 Try.underlying9
    rw [Nat.zero_add, cell_of_row _ _ i cs 5 _ h1]
    refine h3 i _ ?_
    rw [List.getElem?_map, List.getElem?_eq_getElem hi]
    simp [List.getD, List.getElem?_eq_getElem hi]

/-- A write to a row of the law's own strings leaves the net. -/
theorem NetAt.strs {w w' : World} {B nb : Nat} {N : Int} {v lv : Value} {ps : List Pk} {n : Nat} {xs : List Value} (h : NetAt w B nb N v ps) (hl : w.ownsRow B 9 1 lv n xs) (hg : w.grownBy w' lv.ownBlock) : NetAt w' B nb N v ps := by
  refine ⟨h.base, h.head.grown hg (own_ne hl h.head (by decide)), h.row.kept hg ?_, fun p hp => ?_⟩
  · rcases h.row.2 with ⟨rfl, _⟩ | ⟨g, cap, cur, rfl, _, hh, _⟩
    · exact Or.inl rfl
    · exact Or.inr (fun e => own_ne hl hh (by decide) e)
  · obtain ⟨h1, h2, h3, h4⟩ := h.dat p hp
    refine ⟨h1, h2, h3, fun hn => ?_⟩
    obtain ⟨g, cs, f, q1, q2, q3⟩ := h4 hn
    exact ⟨g, cs, f, q1, (hg.block g (heap_lt q2) (own_ne hl q2 (by decide))).trans q2, q3⟩

theorem strs_form {w : World} {B : Nat} {v : Value} {n : Nat} {xs : List Value} (h : w.ownsRow B 9 1 v n xs) : ∃ a c, v = .slice a n c := by
  rcases h.2 with ⟨rfl, hn⟩ | ⟨g, cap, cur, rfl, _⟩
  · exact ⟨none, 0, by rw [hn]⟩
  · exact ⟨_, _, rfl⟩
theorem strs_row {w w' : World} {B : Nat} {lv : Value} {n : Nat} {xs : List Value} (h : w.ownsRow B 9 1 lv n xs) (hb : Bytes w w') : w'.ownsRow B 9 1 lv n xs := by
  obtain ⟨h1, h2⟩ := h
  refine ⟨h1, ?_⟩
  rcases h2 with h2 | ⟨g, cap, cur, q1, q2, q3, q4⟩
  · exact Or.inl h2
  · exact Or.inr ⟨g, cap, cur, q1, q2, hb g cur 9 (0, 0) (by decide) q3, q4⟩

/-- A store into a block of bytes that is no packet's leaves the net. -/
theorem NetAt.poke {w : World} {B nb : Nat} {N : Int} {v : Value} {ps : List Pk} {g0 i : Nat} {cs : Array Value} {f : Nat × Nat} (h : NetAt w B nb N v ps) (h5 : w.heap[g0]? = some (.cells cs 5 f)) (ha : ∀ p ∈ ps, 0 < p.n → ∀ g, p.ad = some ⟨g, 0, none⟩ → g ≠ g0) (u : Value) :
    NetAt (w.setCell ⟨g0, i, none⟩ u) B nb N v ps := by
  refine ⟨h.base, h.head.apart (p := ⟨g0, i, none⟩) (type_ne h.head h5 (by decide)) u, h.row.kept (gr_set (World.grownBy.refl w (some g0)) i u) ?_, fun p hp => ?_⟩
  · exact Or.inr (fun e => own_ne h.row h5 (by decide) e.symm)
  · obtain ⟨h1, h2, h3, h4⟩ := h.dat p hp
    refine ⟨h1, h2, h3, fun hn => ?_⟩
    obtain ⟨g, cs', f', q1, q2, q3⟩ := h4 hn
    exact ⟨g, cs', f', q1, (Below.heap_setCell w ⟨g0, i, none⟩ u g (ha p hp hn g q1)).trans q2, q3⟩

/-- The strings of the first j rows. -/
def strs (L : Nat → Nat) (Z : Nat → List Int) (j : Nat) : List Value := (List.range j).map fun r => .string (strOfNums ((Z r).take (L r)))
theorem strs_succ (L : Nat → Nat) (Z : Nat → List Int) (j : Nat) : strs L Z (j + 1) = strs L Z j ++ [.string (strOfNums ((Z j).take (L j)))] := by simp [strs, List.range_succ]
theorem strs_length (L : Nat → Nat) (Z : Nat → List Int) (j : Nat) : (strs L Z j).length = j := by simp [strs]

/-- The packets from the m-th place on. -/
def OrdP (L : Nat → Nat) (Z : Nat → List Int) (m : Nat) (ps : List Pk) : Prop := ∀ r (h : r < ps.length), (ps[r]).fr = ((m + r : Nat) : Int) % 4 ∧ (ps[r]).to = 3 - ((m + r : Nat) : Int) % 4 ∧ (ps[r]).bs = bz (L (m + r)) (Z (m + r))
theorem OrdP.snoc {L : Nat → Nat} {Z : Nat → List Int} {ps : List Pk} (h : OrdP L Z 0 ps) {p : Pk} (h0 : p.fr = (ps.length : Int) % 4) (h1 : p.to = 3 - (ps.length : Int) % 4) (h2 : p.bs = bz (L ps.length) (Z ps.length)) : OrdP L Z 0 (ps ++ [p]) := by
  intro r hr
  by_cases hlt : r < ps.length
  · rw [List.getElem_append_left hlt]; exact h r hlt
  · have : r = ps.length := by simp at hr; omega
    subst this
    rw [List.getElem_append_right (Nat.le_refl _)]
    simpa using ⟨h0, h1, h2⟩
theorem OrdP.tail {L : Nat → Nat} {Z : Nat → List Int} {m : Nat} {p : Pk} {ps : List Pk} (h : OrdP L Z m (p :: ps)) : (p.fr = (m : Int) % 4 ∧ p.to = 3 - (m : Int) % 4 ∧ p.bs = bz (L m) (Z m)) ∧ OrdP L Z (m + 1) ps := by
  refine ⟨by have := h 0 (by simp); rw [List.getElem_cons_zero, Nat.add_zero] at this; exact this, fun r hr => ?_⟩
  have := h (r + 1) (by simp; omega)
  rw [List.getElem_cons_succ, show m + (r + 1) = m + 1 + r by omega] at this
  exact this

/-- What holds at the head of the first loop. -/
def OrRel (w : World) (nb : Nat) (L : Nat → Nat) (Z : Nat → List Int) (len : Nat) (lv i : Value) (wr : World) : Prop :=
  ∃ (j : Nat) (v : Value) (ps : List Pk) (la : Option Addr) (lc : Nat), j ≤ len ∧ i = .int .i64 j ∧ lv = .slice la j lc ∧ ps.length = j ∧ NetAt wr w.heap.size nb 4 v ps ∧ wr.ownsRow w.heap.size 9 1 lv j (strs L Z j) ∧ OrdP L Z 0 ps ∧ Below w.heap.size w wr

/-- What Send leaves: the net, and the bytes that were sent, which no packet shares. -/
def OrSent (w _W : World) (nb g0 : Nat) (L : Nat → Nat) (Z : Nat → List Int) (j : Nat) (lv : Value) (xs : List Int) (e : Ending) (w' : World) : Prop :=
  ∃ v' ps', e = .returned (.int .i64 0) ∧ ps'.length = j + 1 ∧ NetAt w' w.heap.size nb 4 v' ps' ∧ OrdP L Z 0 ps' ∧ (∀ p ∈ ps', 0 < p.n → ∀ g, p.ad = some ⟨g, 0, none⟩ → g ≠ g0) ∧ w'.ownsRow w.heap.size 9 1 lv (j + 1) (strs L Z (j + 1)) ∧ Conv0 w' g0 xs ∧ Below w.heap.size w w' ∧ g0 < w'.heap.size

theorem or_send (w wr W : World) (nb g0 c : Nat) (v lv : Value) (ps : List Pk) (L : Nat → Nat) (Z : Nat → List Int) (h0 : NetAt wr w.heap.size nb 4 v ps) (h : NetAt W w.heap.size nb 4 v ps) (hT : OrdP L Z 0 ps) (hr : W.ownsRow w.heap.size 9 1 lv (ps.length + 1) (strs L Z (ps.length + 1)))
    (hg : g0 = wr.heap.size) (hc : Conv0 W g0 ((Z ps.length).take (L ps.length))) (hl : ((Z ps.length).take (L ps.length)).length ≤ 50) (hb : Below w.heap.size w W) (hp : ps.length < 4096) :
    Calls Try.prog 9 #[.pointer (some ⟨nb, 0, none⟩), .agg #[.int .i64 ((ps.length : Int) % 4), .int .i64 (3 - (ps.length : Int) % 4), .slice (some ⟨g0, 0, none⟩) ((Z ps.length).take (L ps.length)).length c]] W (OrSent w W nb g0 L Z ps.length lv ((Z ps.length).take (L ps.length))) := by
  have hlt : g0 < W.heap.size := by obtain ⟨cs, n, h1, _⟩ := hc; exact heap_lt h1
  refine (send_ok W w.heap.size nb 4 v ps _ _ _ _ c _ h hb.size (hc.src (by omega)) (by omega) (by omega) (by omega) (by omega) hp).mono fun e w' ⟨v', p, he, p1, p2, p3, hN', hS, hfr⟩ => ?_
  refine ⟨v', _, he, by simp, hN', hT.snoc p1 p2 p3, fun q hq hn g hg' => ?_, strs_row hr hS.bytes, hc.kept hS.bytes, hb.trans hS.below, by have := hS.size; omega⟩
  rcases List.mem_append.1 hq with hq | hq
  · obtain ⟨g', cs, f, z1, z2, _⟩ := (h0.dat q hq).2.2.2 hn
    rw [z1] at hg'
    injection hg' with hg'
    injection hg' with hg'
    have := heap_lt z2
    omega
  · obtain rfl := List.mem_singleton.1 hq
    obtain ⟨g', z1, z2⟩ := hfr hn
    rw [z1] at hg'
    injection hg' with hg'
    injection hg' with hg'
    omega

/-- Behind the store into the bytes that were sent. -/
theorem or_poke {w w5 : World} {nb g0 j : Nat} {L : Nat → Nat} {Z : Nat → List Int} {lv v' : Value} {xs : List Int} {ps' : List Pk} (hN : NetAt w5 w.heap.size nb 4 v' ps') (ha : ∀ p ∈ ps', 0 < p.n → ∀ g, p.ad = some ⟨g, 0, none⟩ → g ≠ g0) (hr : w5.ownsRow w.heap.size 9 1 lv (j + 1) (strs L Z (j + 1))) (hc : Conv0 w5 g0 xs) (hb : Below w.heap.size w w5) (hg : w.heap.size ≤ g0) (u : Value) :
    NetAt (w5.setCell ⟨g0, 0, none⟩ u) w.heap.size nb 4 v' ps' ∧ (w5.setCell ⟨g0, 0, none⟩ u).ownsRow w.heap.size 9 1 lv (j + 1) (strs L Z (j + 1)) ∧ Below w.heap.size w (w5.setCell ⟨g0, 0, none⟩ u) := by
  obtain ⟨cs, n, h1, _⟩ := hc
  exact ⟨hN.poke h1 ha u, hr.kept (gr_set (World.grownBy.refl w5 (some g0)) 0 u) (Or.inr (fun e => own_ne hr h1 (by decide) e.symm)), hb.setCell (p := ⟨g0, 0, none⟩) hg u⟩

/-- What holds at the head of the second loop. -/
def Or2Rel (w : World) (nb : Nat) (L : Nat → Nat) (Z : Nat → List Int) (len : Nat) (lv i : Value) (wr : World) : Prop :=
  ∃ (m : Nat) (v : Value) (qs : List Pk), m ≤ len ∧ i = .int .i64 m ∧ m + qs.length = len ∧ NetAt wr w.heap.size nb 4 v qs ∧ OrdP L Z m qs ∧ wr.ownsRow w.heap.size 9 1 lv len (strs L Z len) ∧ Below w.heap.size w wr

/-- What Take leaves. -/
def OrTook (w W : World) (nb m : Nat) (L : Nat → Nat) (Z : Nat → List Int) (qs : List Pk) (e : Ending) (w' : World) : Prop :=
  ∃ v' ad n c, e = .returned (.tuple #[.agg #[.int .i64 ((m : Int) % 4), .int .i64 (3 - (m : Int) % 4), .slice ad n c], .bool true]) ∧ (∀ o k, (convert 29 9 (.slice ad n c)).run Try.prog ((w'.alloc o).drewN k) = .ok (.string (strOfNums ((Z m).take (L m)))) ((w'.alloc o).drewN k)) ∧ NetAt w' w.heap.size nb 4 v' qs ∧ Step w.heap.size W w'
theorem or_take (w W : World) (nb m : Nat) (v : Value) (p : Pk) (qs : List Pk) (L : Nat → Nat) (Z : Nat → List Int) (h : NetAt W w.heap.size nb 4 v (p :: qs)) (hp : p.fr = (m : Int) % 4 ∧ p.to = 3 - (m : Int) % 4 ∧ p.bs = bz (L m) (Z m)) (hb : Below w.heap.size w W) :
    Calls Try.prog 10 #[.pointer (some ⟨nb, 0, none⟩), .int .i64 0] W (OrTook w W nb m L Z qs) := by
  refine (take_front W w.heap.size nb 4 v p qs h hb.size).mono fun e w' ⟨v', he, hN, hS⟩ => ?_
  have hd := (h.dat p (by simp)).kept hS.bytes
  exact ⟨v', p.ad, p.n, p.c, by rw [he, Pk.val, hp.1, hp.2.1], fun o k => bz_string (hd.kept (((Bytes.refl _).alloc o).drewN k)) hp.2.2, hN, hS⟩

theorem strs_cell {w : World} {B : Nat} {la : Option Addr} {lc : Nat} {L : Nat → Nat} {Z : Nat → List Int} {len : Nat} (h : w.ownsRow B 9 1 (.slice la len lc) len (strs L Z len)) {m : Nat} (hm : m < len) :
    ∃ g, la = some ⟨g, 0, none⟩ ∧ w.cell? ⟨g, m, none⟩ = some (.string (strOfNums ((Z m).take (L m)))) := by
  rcases h.2 with ⟨_, hn⟩ | ⟨g, cap, cur, hv, _, hh, h1, h2, h3, h4⟩
  · omega
  · injection hv with hv1
    refine ⟨g, hv1, ?_⟩
    rw [cell_of_row w g m cur 9 (0, 0) hh]
    have : (cur.toList.take (len * 1))[m]? = some (.string (strOfNums ((Z m).take (L m)))) := by rw [h4]; simp [strs, hm]
    rw [List.getElem?_take, if_pos (by omega)] at this
    simpa using this
theorem strs_after {w w' : World} {B g : Nat} {lc : Nat} {L : Nat → Nat} {Z : Nat → List Int} {len : Nat} (h : w.ownsRow B 9 1 (.slice (some ⟨g, 0, none⟩) len lc) len (strs L Z len)) (hs : Step B w w') {m : Nat} (hm : m < len) :
    w'.cell? ⟨g, m, none⟩ = some (.string (strOfNums ((Z m).take (L m)))) := by
  obtain ⟨g', e, hc⟩ := strs_cell (strs_row h hs.bytes) hm
  injection e with e
  injection e with e
  subst e
  exact hc
end Go.Proofs.Ytdlooafmjpbecaa
