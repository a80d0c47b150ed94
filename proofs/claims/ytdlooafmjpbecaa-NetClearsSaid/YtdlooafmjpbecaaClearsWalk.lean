/-
  The walk of NetClears.
-/
import Derived.Test.YtdlooafmjpbecaaAwake
import Derived.Laws.BitsLemmas
namespace Go.Proofs.Ytdlooafmjpbecaa
open Go.ChangeShapes Go.WideShapes Go.ChangeAt Go.RowKit

theorem u8_and3 (x : Int) (h0 : 0 ≤ x) (h1 : x < 256) : bits .and .u8 x 3 = x % 4 := bits_mask .u8 8 (by decide) wraps_u8 2 (by decide) x h0 h1

/-- The packets bear these bytes, one each. -/
def Same (qs : List Pk) (ls : List Int) : Prop := qs.map Pk.bs = ls.map fun x => [Value.int .u8 x]
theorem Same.length {qs : List Pk} {ls : List Int} (h : Same qs ls) : qs.length = ls.length := by have := congrArg List.length h; simpa using this
theorem Same.snoc {qs : List Pk} {ls : List Int} {p : Pk} {x : Int} (h : Same qs ls) (hp : p.bs = [Value.int .u8 x]) : Same (qs ++ [p]) (ls ++ [x]) := by
  unfold Same at *; rw [List.map_append, List.map_append, h]; simp [hp]

/-- No packet's bytes lie in the block of lv. -/
def Apart (ps : List Pk) (lv : Value) : Prop := ∀ p ∈ ps, 0 < p.n → ∀ g, p.ad = some ⟨g, 0, none⟩ → lv.ownBlock ≠ some g

/-- A write to a row of bytes of the law's own, apart from all packets', leaves the net. -/
theorem NetAt.left {w w' : World} {B nb : Nat} {N : Int} {v lv : Value} {ps : List Pk} {n : Nat} {xs : List Value} (h : NetAt w B nb N v ps) (hl : w.ownsRow B 5 1 lv n xs) (hg : w.grownBy w' lv.ownBlock) (ha : Apart ps lv) : NetAt w' B nb N v ps := by
  refine ⟨h.base, h.head.grown hg (own_ne hl h.head (by decide)), h.row.kept hg ?_, fun p hp => ?_⟩
  · rcases h.row.2 with ⟨rfl, _⟩ | ⟨g, cap, cur, rfl, _, hh, _⟩
    · exact Or.inl rfl
    · exact Or.inr (fun e => own_ne hl hh (by decide) e)
  · obtain ⟨h1, h2, h3, h4⟩ := h.dat p hp
    refine ⟨h1, h2, h3, fun hn => ?_⟩
    obtain ⟨g, cs, f, q1, q2, q3⟩ := h4 hn
    exact ⟨g, cs, f, q1, (hg.block g (heap_lt q2) (fun e => ha p hp hn g q1 e.symm)).trans q2, q3⟩

theorem bytes_form {w : World} {B : Nat} {v : Value} {n : Nat} {xs : List Value} (h : w.ownsRow B 5 1 v n xs) : ∃ a c, v = .slice a n c := by
  rcases h.2 with ⟨rfl, hn⟩ | ⟨g, cap, cur, rfl, _⟩
  · exact ⟨none, 0, by rw [hn]⟩
  · exact ⟨_, _, rfl⟩

theorem src_byte (w : World) (x : Int) (f : Nat × Nat) : Src (w.alloc (.cells #[.int .u8 x] 5 f)) (some ⟨w.heap.size, 0, none⟩) 1 [.int .u8 x] := by
  refine ⟨rfl, by omega, by simp [Value.oneCell'], Or.inr ⟨_, rfl, fun j u hj => ?_⟩⟩
  have := World.news_of_block (cs := #[.int .u8 x]) (t := 5) (fr := f) (heap_alloc_new w (.cells #[.int .u8 x] 5 f))
  exact this j u hj

/-- What holds at the head of the first loop. -/
def ClRel (w : World) (nb : Nat) (k : Int) (len : Nat) (lv i : Value) (wr : World) : Prop :=
  ∃ (j : Nat) (v : Value) (ps : List Pk) (ls : List Int) (la : Option Addr) (lc : Nat), j ≤ len ∧ i = .int .i64 j ∧ lv = .slice la ls.length lc ∧ ps.length = j ∧ NetAt wr w.heap.size nb 4 v ps ∧ wr.ownsRow w.heap.size 5 1 lv ls.length (ls.map (Value.int .u8)) ∧ Same (kept k ps) ls ∧ Apart ps lv ∧ Below w.heap.size w wr

/-- What Send of one byte leaves. -/
def ClSent (w W : World) (nb : Nat) (ps : List Pk) (lv : Value) (ls : List Int) (x : Int) (e : Ending) (w' : World) : Prop :=
  ∃ v' p, e = .returned (.int .i64 0) ∧ p.fr = x % 4 ∧ p.to = x / 4 % 4 ∧ p.bs = [Value.int .u8 x] ∧ NetAt w' w.heap.size nb 4 v' (ps ++ [p]) ∧ w'.ownsRow w.heap.size 5 1 lv ls.length (ls.map (Value.int .u8)) ∧ Apart (ps ++ [p]) lv ∧ Below w.heap.size w w' ∧ W.heap.size ≤ w'.heap.size

theorem bytes_row {w w' : World} {B : Nat} {lv : Value} {n : Nat} {xs : List Value} (h : w.ownsRow B 5 1 lv n xs) (hb : Bytes w w') : w'.ownsRow B 5 1 lv n xs := by
  obtain ⟨h1, h2⟩ := h
  refine ⟨h1, ?_⟩
  rcases h2 with h2 | ⟨g, cap, cur, q1, q2, q3, q4⟩
  · exact Or.inl h2
  · exact Or.inr ⟨g, cap, cur, q1, q2, hb g cur 5 (0, 0) (by decide) q3, q4⟩

theorem cl_send (w W : World) (nb : Nat) (v : Value) (ps : List Pk) (lv : Value) (ls : List Int) (x : Int) (h : NetAt W w.heap.size nb 4 v ps) (hr : W.ownsRow w.heap.size 5 1 lv ls.length (ls.map (Value.int .u8))) (ha : Apart ps lv) (hb : Below w.heap.size w W) (hl : ps.length < 4096) :
    Calls Try.prog 9 #[.pointer (some ⟨nb, 0, none⟩), .agg #[.int .i64 (x % 4), .int .i64 (x / 4 % 4), .slice (some ⟨W.heap.size, 0, none⟩) 1 1]] (W.alloc (.cells #[.int .u8 x] 5)) (ClSent w W nb ps lv ls x) := by
  have hsz := hb.size
  refine (send_ok _ w.heap.size nb 4 v ps (x % 4) (x / 4 % 4) _ 1 1 [.int .u8 x] (h.later ((Below.refl _ _).alloc (Nat.le_refl _) _)) (by simp; omega) (src_byte W x _) (by omega) (by omega) (by omega) (by omega) hl).mono fun e w' ⟨v', p, he, p1, p2, p3, hN', hS, hfr⟩ => ?_
  refine ⟨v', p, he, p1, p2, p3, hN', bytes_row (hr.alloc _) hS.bytes, ?_, (hb.alloc hsz _).trans hS.below, ?_⟩
  · intro q hq hn g hg
    rcases List.mem_append.1 hq with hq | hq
    · exact ha q hq hn g hg
    · obtain rfl := List.mem_singleton.1 hq
      obtain ⟨g', e1, e2⟩ := hfr hn
      rw [e1] at hg
      injection hg with hg
      injection hg with hg
      subst hg
      intro e
      have := (hr.lt _ e).2
      simp at e2
      omega
  · have := hS.size; simp at this; omega

theorem places_none (k : Int) (qs : List Pk) (m : Nat) (h : ∀ p ∈ qs, p.to ≠ k) : places k qs m = [] := by
  unfold places
  rw [List.filter_eq_nil_iff]
  intro i _
  unfold isTo
  cases hq : qs[i]? with
  | none => simp
  | some p => simpa using h p (List.mem_of_getElem? hq)
theorem kept_to (k : Int) (ps : List Pk) : ∀ p ∈ kept k ps, p.to ≠ k := by
  intro p hp
  have := (List.mem_filter.1 hp).2
  simp [hit] at this
  exact this.2

/-- What Clear, Len and To tell. -/
def ClClr (w W : World) (nb : Nat) (k : Int) (ps : List Pk) (len n : Nat) (e : Ending) (w' : World) : Prop := ∃ v', e = .returned (.int .i64 ((len : Int) - (n : Int))) ∧ NetAt w' w.heap.size nb 4 v' (kept k ps) ∧ Step w.heap.size W w'
theorem cl_clear (w W : World) (nb : Nat) (k : Int) (v : Value) (ps : List Pk) (ls : List Int) (h : NetAt W w.heap.size nb 4 v ps) (hs : Same (kept k ps) ls) (hb : Below w.heap.size w W) (hl : ps.length ≤ 4096) :
    Calls Try.prog 14 #[.pointer (some ⟨nb, 0, none⟩), .int .i64 k] W (ClClr w W nb k ps ps.length ls.length) :=
  (clear_any W w.heap.size nb 4 v ps k h hb.size hl).mono fun e w' ⟨v', he, hN, hS⟩ => ⟨v', by rw [he, hs.length], hN, hS⟩
theorem cl_len (W : World) (B nb : Nat) (v : Value) (qs : List Pk) (ls : List Int) (h : NetAt W B nb 4 v qs) (hs : Same qs ls) :
    Calls Try.prog 11 #[.pointer (some ⟨nb, 0, none⟩)] W fun e w' => e = .returned (.int .i64 ls.length) ∧ W = w' := by
  rw [← hs.length]; exact len_any W B nb 4 v qs h
def ClTo (W : World) (e : Ending) (w' : World) : Prop := ∃ a cap, e = .returned (.slice a 0 cap) ∧ Below W.heap.size W w'
theorem cl_to (W : World) (B nb : Nat) (k : Int) (v : Value) (ps : List Pk) (h : NetAt W B nb 4 v (kept k ps)) (hl : (kept k ps).length ≤ 4096) :
    Calls Try.prog 13 #[.pointer (some ⟨nb, 0, none⟩), .int .i64 k] W (ClTo W) := by
  have ht := to_any W B nb 4 v _ k h hl
  unfold Toed at ht
  rw [places_none k _ _ (kept_to k ps)] at ht
  exact ht.mono fun e w' ⟨a, cap, he, _, hb⟩ => ⟨a, cap, he, hb⟩

/-- What holds at the head of the second loop. -/
def Cl2Rel (w : World) (nb : Nat) (lv : Value) (ls : List Int) (i : Value) (wr : World) : Prop :=
  ∃ (m : Nat) (v : Value) (qs : List Pk), m ≤ ls.length ∧ i = .int .i64 m ∧ NetAt wr w.heap.size nb 4 v qs ∧ Same qs (ls.drop m) ∧ wr.ownsRow w.heap.size 5 1 lv ls.length (ls.map (Value.int .u8)) ∧ Below w.heap.size w wr

/-- A packet of one byte: where it lies. -/
theorem one_byte {w : World} {p : Pk} {x : Int} (h : Dat w p) (hx : p.bs = [Value.int .u8 x]) : ∃ g, p.ad = some ⟨g, 0, none⟩ ∧ p.n = 1 ∧ w.cell? ⟨g, 0, none⟩ = some (.int .u8 x) := by
  have hn : p.n = 1 := by rw [← h.1, hx]; rfl
  obtain ⟨g, cs, f, q1, q2, q3⟩ := h.2.2.2 (by omega)
  exact ⟨g, q1, hn, (cell_of_row w g 0 cs 5 f q2).trans (q3 0 _ (by rw [hx]; rfl))⟩

/-- What Take leaves of a packet of one byte. -/
def ClTook (w W : World) (nb : Nat) (x : Int) (qs : List Pk) (e : Ending) (w' : World) : Prop :=
  ∃ v' fr to g c, e = .returned (.tuple #[.agg #[.int .i64 fr, .int .i64 to, .slice (some ⟨g, 0, none⟩) 1 c], .bool true]) ∧ w'.cell? ⟨g, 0, none⟩ = some (.int .u8 x) ∧ NetAt w' w.heap.size nb 4 v' qs ∧ Step w.heap.size W w'
theorem cl_take (w W : World) (nb : Nat) (v : Value) (p : Pk) (qs : List Pk) (x : Int) (h : NetAt W w.heap.size nb 4 v (p :: qs)) (hx : p.bs = [Value.int .u8 x]) (hb : Below w.heap.size w W) :
    Calls Try.prog 10 #[.pointer (some ⟨nb, 0, none⟩), .int .i64 0] W (ClTook w W nb x qs) := by
  refine (take_front W w.heap.size nb 4 v p qs h hb.size).mono fun e w' ⟨v', he, hN, hS⟩ => ?_
  obtain ⟨g, q1, q2, q3⟩ := one_byte ((h.dat p (by simp)).kept hS.bytes) hx
  refine ⟨v', p.fr, p.to, g, p.c, ?_, q3, hN, hS⟩
  rw [he, Pk.val, q1, q2]

theorem left_cell {w : World} {B : Nat} {la : Option Addr} {lc : Nat} {ls : List Int} (h : w.ownsRow B 5 1 (.slice la ls.length lc) ls.length (ls.map (Value.int .u8))) {m : Nat} (hm : m < ls.length) :
    ∃ g, la = some ⟨g, 0, none⟩ ∧ w.cell? ⟨g, m, none⟩ = some (.int .u8 ls[m]) := by
  rcases h.2 with ⟨_, hn⟩ | ⟨g, cap, cur, hv, _, hh, h1, h2, h3, h4⟩
  · omega
  · injection hv with hv1
    refine ⟨g, hv1, ?_⟩
    rw [cell_of_row w g m cur 5 (0, 0) hh]
    have : (cur.toList.take (ls.length * 1))[m]? = some (.int .u8 ls[m]) := by rw [h4, List.getElem?_map, List.getElem?_eq_getElem hm]; rfl
    rw [List.getElem?_take, if_pos (by omega)] at this
    simpa using this
theorem left_after {w w' : World} {B g : Nat} {lc : Nat} {ls : List Int} (h : w.ownsRow B 5 1 (.slice (some ⟨g, 0, none⟩) ls.length lc) ls.length (ls.map (Value.int .u8))) (hs : Step B w w') {m : Nat} (hm : m < ls.length) :
    w'.cell? ⟨g, m, none⟩ = some (.int .u8 ls[m]) := by
  obtain ⟨g', e, hc⟩ := left_cell (bytes_row h hs.bytes) hm
  injection e with e
  injection e with e
  subst e
  exact hc

theorem clears_long (a : Option Addr) (len cap : Nat) (k : Int) (w : World) (hl : 60 < len) (hm : len ≤ 9223372036854775807) :
    Calls Try.prog 5 #[.slice a len cap, .int .u8 k] w fun e w' => e = .returned (.bool true) ∧ Below w.heap.size w w' := by
  go_enter Try.func5, Try.ntmps5
  go_wp2_with (first | (go_at_call 7; (with_reducible refine (awake_any _).mono ?_); rintro e w1 ⟨rfl, hb1⟩))
  go_ret
  exact ⟨rfl, hb1⟩

/-- What New leaves. -/
def ClNew (w : World) (e : Ending) (w' : World) : Prop := ∃ nb, e = .returned (.tuple #[.pointer (some ⟨nb, 0, none⟩), .int .i64 0]) ∧ NetAt w' w.heap.size nb 4 (.slice none 0 0) [] ∧ Below w.heap.size w w'
theorem cl_new (w : World) : Calls Try.prog 8 #[.int .i64 4] w (ClNew w) :=
  (new_ok 4 w.heap.size w (Nat.le_refl _) (by omega) (by omega)).mono fun e w' ⟨nb, he, hN, hS⟩ => ⟨nb, he, hN, hS.below⟩

set_option maxRecDepth 100000 in
set_option maxHeartbeats 2000000 in
theorem clears_any (ad : Option Addr) (len cap : Nat) (f : Nat → Int) (a : Int) (w0 : World) (hl : len ≤ 60) (h0 : 0 ≤ a) (h1 : a ≤ 255)
    (hc : ∀ i, i < len → ∃ blk off, ad = some ⟨blk, off, none⟩ ∧ blk < w0.heap.size ∧ w0.cell? ⟨blk, off + i, none⟩ = some (.int .u8 (f i)) ∧ 0 ≤ f i ∧ f i ≤ 255) :
    Calls Try.prog 5 #[.slice ad len cap, .int .u8 a] w0 fun e w' => e = .returned (.bool true) ∧ Below w0.heap.size w0 w' := by
  obtain ⟨i0, hi0, hz0, hz1, hz2⟩ := info_parts info5
  obtain ⟨k, hk⟩ : ∃ k : Int, a % 4 = k := ⟨_, rfl⟩
  have k0 : 0 ≤ k := by omega
  have k1 : k < 4 := by omega
  have e1 : bits BinOp.and IntKind.u8 a 3 = k := (u8_and3 a (by omega) (by omega)).trans hk
  clear hk
  go_enter Try.func5, Try.ntmps5
  go_wp2_with (first | (go_at_call 7; (with_reducible refine (awake_any _).mono ?_); rintro e w ⟨rfl, hb0⟩) | (go_at_call 8; (with_reducible refine (cl_new _).mono ?_); rintro e w1 ⟨nb, rfl, hN1, hb1⟩))
  go_loopw [9, 10] (fun lv i wr => ClRel w nb k len lv i wr) (fun _ i _ => len - (intOf i).toNat)
  case atStart => exact ⟨0, _, [], [], none, 0, by omega, rfl, rfl, rfl, hN1, World.ownsRow_nil _ _ _ _, rfl, by intro p hp; simp at hp, hb1⟩
  case round =>
    obtain ⟨j, v, ps, ls, la, lc, hj, rfl, rfl, hpl, hN, hrow, hsame, hap, hbw⟩ := hrel
    have hwsz := hbw.size
    by_cases hlt : j < len
    · obtain ⟨blk, off, rfl, hblk, hcell, hf0, hf1⟩ := hc j hlt
      have hcell2 := ((bnext hb0 hbw).cell (p := ⟨blk, off + j, none⟩) hblk).trans hcell
      have hblr : blk < wr.heap.size := by have := hb0.size; omega
      have hblw : blk < w.heap.size := by have := hb0.size; omega
      have hcw := (hb0.cell (p := ⟨blk, off + j, none⟩) hblk).trans hcell
      have hll : ls.length ≤ 60 := by have := hsame.length; have := kept_le k ps; omega
      generalize hx : f j = x at *
      have b1 := u8_and3 x (by omega) (by omega)
      have b2 := u8_and3 (x / 4) (by omega) (by omega)
      have hcon := cl_send w wr nb v ps _ ls x hN hrow hap hbw (by omega)
      clear hc hcell
      have HR := Lib.hid hrow
      have HA := Lib.hid hap
      have HN := Lib.hid hN
      have HS := Lib.hid hsame
      have HC := Lib.hid hcw
      clear hrow hap hN hsame hcw
      by_cases hh : x % 4 = k ∨ x / 4 % 4 = k
      · have HH := Lib.hid hh
        have d1 : (x % 4 != k && x / 4 % 4 != k) = false := by rcases hh with h | h <;> simp [h]
        clear hh
        by_cases hq : x % 4 = k
        · have q1 : (x % 4 != k) = false := by simp [hq]
          clear hq
          go_wp2_with (go_at_call 9; (with_reducible refine hcon.mono ?_); rintro e w3 ⟨v', p, rfl, p1, p2, p3, hN3, hr3, ha3, hb3, hz3⟩)
          go_roundw
          case rel => exact ⟨j + 1, v', ps ++ [p], ls, la, lc, by omega, by go_num, rfl, by simp [hpl], hN3, hr3, by rw [kept_snoc, if_pos (by simp [hit, p1, p2]; have := HH.out; omega)]; exact HS.out, ha3, hb3⟩
          case measure => simp [intOf]; omega
        · have q1 : (x % 4 != k) = true := by simp [hq]
          have q2 : (x / 4 % 4 != k) = false := by have := HH.out; simp; omega
          clear hq
          go_wp2_with (go_at_call 9; (with_reducible refine hcon.mono ?_); rintro e w3 ⟨v', p, rfl, p1, p2, p3, hN3, hr3, ha3, hb3, hz3⟩)
          go_roundw
          case rel => exact ⟨j + 1, v', ps ++ [p], ls, la, lc, by omega, by go_num, rfl, by simp [hpl], hN3, hr3, by rw [kept_snoc, if_pos (by simp [hit, p1, p2]; have := HH.out; omega)]; exact HS.out, ha3, hb3⟩
          case measure => simp [intOf]; omega
      · have q1 : (x % 4 != k) = true := by simp; omega
        have q2 : (x / 4 % 4 != k) = true := by simp; omega
        go_wp2_with (first
          | (go_at_call 9; (with_reducible refine hcon.mono ?_); rintro e w3 ⟨v', p, rfl, p1, p2, p3, hN3, hr3, ha3, hb3, hz3⟩; have hcell3 := (hb3.cell (p := ⟨blk, off + j, none⟩) hblw).trans HC.out; have hbl3 := World.block_lt_of_cell? _ _ hcell3)
          | (at_builtin; refine wpList_append_own_at _ rfl (.tmp 69) (.tmp 74) 29 rfl w.heap.size 5 i0 (.int .u8 0) 1 1 Try.underlying29 hi0 hz0 hz1 hz2 rfl (by omega) (.slice la ls.length lc) ls.length (ls.map (Value.int .u8)) rfl (hr3.alloc _) ⟨w3.heap.size, 0, none⟩ 1 1 [.int .u8 x] rfl rfl (cell_one_new _ _ _) (by simp [Value.oneCell']) (by simp only [maxLen]; omega) (by omega) (by have := hb3.size; simp; omega) ?_; intro lv4 w4 hown4 hgrow4 hnil4 hat4; obtain ⟨la4, lc4, rfl⟩ := bytes_form hown4))
        go_roundw
        case rel =>
          refine ⟨j + 1, v', ps ++ [p], ls ++ [x], la4, lc4, by omega, by go_num, by simp, by simp [hpl], (hN3.later ((Below.refl _ _).alloc (Nat.le_refl _) _)).left (hr3.alloc _) hgrow4 ha3, by simpa using hown4, ?_, ?_, ?_⟩
          · rw [kept_snoc, if_neg (by simp [hit, p1, p2]; omega)]; exact HS.out.snoc p3
          · intro q hq hn g hg e
            rcases hat4 with h | h
            · rw [h] at e; exact ha3 q hq hn g hg e
            · rw [h] at e
              injection e with e
              obtain ⟨g', cs, f', z1, z2, _⟩ := (hN3.dat q hq).2.2.2 hn
              rw [z1] at hg
              injection hg with hg
              injection hg with hg
              have := heap_lt z2
              simp at e
              omega
          · exact (hb3.alloc hb3.size _).grown hgrow4 (by have := hb3.size; simp; omega) (fun q hq => (hr3.lt q hq).1)
        case measure => simp [intOf]; omega
    · have hpl2 : ps.length = len := by omega
      have h14 := cl_clear w wr nb k v ps ls hN hsame hbw (by omega)
      rw [hpl2] at h14
      have hll : ls.length ≤ 60 := by have := hsame.length; have := kept_le k ps; omega
      have hkl : (kept k ps).length ≤ 4096 := by have := kept_le k ps; omega
      have HR := Lib.hid hrow
      have HS := Lib.hid hsame
      clear hrow hap hN hsame hc hpl
      have hjl : j = len := by omega
      have HJ := Lib.hid hjl
      clear hjl hpl2
      go_wp2_with (first
        | (go_at_call 14; (with_reducible refine h14.mono ?_); rintro e w2 ⟨v2, rfl, hN2, hS2⟩)
        | (go_at_call 11; (with_reducible refine (cl_len _ w.heap.size nb v2 _ ls hN2 HS.out).mono ?_); rintro e w3 ⟨rfl, rfl⟩)
        | (go_at_call 13; (with_reducible refine (cl_to _ w.heap.size nb k v2 ps hN2 hkl).mono ?_); rintro e w4 ⟨ta, tc, rfl, hb4⟩))
      have hz2 := hS2.size
      have hN5 := hN2.later hb4
      have hb5 : Below w.heap.size w w4 := (hbw.trans hS2.below).trans (hb4.mono (by omega))
      have hr5 : w4.ownsRow w.heap.size 5 1 (.slice la ls.length lc) ls.length (ls.map (Value.int .u8)) := bytes_row (bytes_row HR.out hS2.bytes) ((Bytes.refl _).below hb4)
      go_loopw [13] (fun i wr => Cl2Rel w nb (.slice la ls.length lc) ls i wr) (fun i _ => ls.length - (intOf i).toNat)
      case atStart => exact ⟨0, v2, kept k ps, by omega, rfl, hN5, HS.out, hr5, hb5⟩
      case round =>
        obtain ⟨m, v6, qs, hm, rfl, hN6, hs6, hr6, hb6⟩ := hrel
        by_cases hlt2 : m < ls.length
        · have hd : ls.drop m = ls[m] :: ls.drop (m + 1) := List.drop_eq_getElem_cons hlt2
          rw [hd] at hs6
          cases qs with
          | nil => exact absurd hs6.length (by simp only [List.length_nil, List.length_cons]; omega)
          | cons q qs =>
            have hqs' : q.bs = [Value.int .u8 ls[m]] ∧ Same qs (ls.drop (m + 1)) := by
              unfold Same at hs6 ⊢
              rw [List.map_cons, List.map_cons] at hs6
              injection hs6 with z1 z2
              exact ⟨z1, z2⟩
            obtain ⟨hq, hqs⟩ := hqs'
            clear hs6
            have hcon := cl_take w _ nb v6 q qs ls[m] hN6 hq hb6
            obtain ⟨gl, hgl, hlc⟩ := left_cell hr6 hlt2
            subst hgl
            have HQ := Lib.hid hqs
            have HR6 := Lib.hid hr6
            clear hq hqs hd hr6 hN6 hr5 hN5 hb5 hN2
            generalize hx : ls[m] = x at *
            go_wp2_with (go_at_call 10; (with_reducible refine hcon.mono ?_); rintro e w7 ⟨v7, fr, to, g, c, rfl, hcell, hN7, hS7⟩)
            have t1 := (left_after HR6.out hS7 hlt2).trans (by rw [hx])
            have t2 := World.block_lt_of_cell? _ _ t1
            have t3 := World.block_lt_of_cell? _ _ hcell
            have z1 : (0 : Int) ≤ (m : Int) := by omega
            have z2 : (m : Int) < (ls.length : Int) := by omega
            go_quiet (fail)
            go_wp2
            go_roundw
            case rel => exact ⟨m + 1, v7, qs, by omega, by go_num, (hN7.later ((Below.refl _ _).alloc (Nat.le_refl _) _)).drewN _, HQ.out, (bytes_row HR6.out hS7.bytes).alloc _, below_drewN ((hb6.trans hS7.below).alloc (by have := hb6.size; have := hS7.size; omega) _) _⟩
            case measure => simp [intOf]; omega
        · go_wp2
          go_ret
          exact ⟨rfl, bnext hb0 hb6⟩

theorem clears_row (a : Int) (x : Addr) (len cap : Nat) (zs : List Int) (w : World) (hl : len ≤ cap) (hm : cap ≤ maxLen) (hz : zs.length = cap)
    (hcell : ∀ i, i < zs.length → w.cell? (x.add i) = some (.int .u8 (zs.getD i 0))) (hwf : ∀ n ∈ zs, (Lit.int .u8 n).wf = true) (h0 : 0 ≤ a) (h1 : a ≤ 255) :
    Calls Try.prog 5 #[.slice (some x) len cap, .int .u8 a] w fun e w' => e = .returned (.bool true) ∧ Below w.heap.size w w' := by
  unfold maxLen at hm
  by_cases hb : 60 < len
  · exact clears_long _ len cap a w hb (by omega)
  · refine clears_any _ len cap (fun i => zs.getD i 0) a w (by omega) h0 h1 fun i hi => ?_
    obtain ⟨blk, off, hx, hc⟩ := ints_at hcell (by omega)
    have hci := hc i (by omega)
    have hr := range_u8 hwf i
    refine ⟨blk, off, by rw [hx], World.block_lt_of_cell? _ _ hci, hci, ?_⟩
    simpa using hr

theorem clears_nil (a : Int) (w : World) (h0 : 0 ≤ a) (h1 : a ≤ 255) :
    Calls Try.prog 5 #[.slice none 0 0, .int .u8 a] w fun e w' => e = .returned (.bool true) ∧ Below w.heap.size w w' :=
  clears_any none 0 0 (fun _ => 0) a w (by omega) h0 h1 fun i hi => by omega
end Go.Proofs.Ytdlooafmjpbecaa
