/-
  The walk of ViewOwn.
-/
import Derived.Test.YtnbbbgoecndjhaaOwnWd
namespace Go.Proofs.Ytnbbbgoecndjhaa
open Go.ChangeShapes Go.WideShapes Go.ChangeAt Go.RowKit
set_option linter.unusedVariables false

theorem own_out (pos x : Int) (a : Option Addr) (len cap : Nat) (w : World) (hm : len ≤ 9223372036854775807) (h : len = 0 ∨ 40 < len) :
    Calls Try.prog 4 #[.int .u64 pos, .slice a len cap, .int .u8 x] w fun e w' => e = .returned (.bool true) ∧ Below w.heap.size w w' := by
  rcases h with rfl | h
  · go_enter Try.func4, Try.ntmps4
    go_wp2_with (first | (go_at_call 7; (with_reducible refine (awake_any _).mono ?_); rintro e w1 ⟨rfl, hb1⟩))
    go_ret
    exact ⟨rfl, hb1⟩
  · go_enter Try.func4, Try.ntmps4
    go_wp2_with (first | (go_at_call 7; (with_reducible refine (awake_any _).mono ?_); rintro e w1 ⟨rfl, hb1⟩))
    go_ret
    exact ⟨rfl, hb1⟩
theorem own_zero (pos : Int) (a : Option Addr) (len cap : Nat) (w : World) (h0 : 0 < len) (hl : len ≤ 40) :
    Calls Try.prog 4 #[.int .u64 pos, .slice a len cap, .int .u8 0] w fun e w' => e = .returned (.bool true) ∧ Below w.heap.size w w' := by
  go_enter Try.func4, Try.ntmps4
  go_wp2_with (first | (go_at_call 7; (with_reducible refine (awake_any _).mono ?_); rintro e w1 ⟨rfl, hb1⟩))
  go_ret
  exact ⟨rfl, hb1⟩
theorem own_worn (x : Int) (a : Option Addr) (len cap : Nat) (w : World) (h0 : 0 < len) (hl : len ≤ 40) (hx : 0 < x) :
    Calls Try.prog 4 #[.int .u64 18446744073709551615, .slice a len cap, .int .u8 x] w fun e w' => e = .returned (.bool true) ∧ Below w.heap.size w w' := by
  go_enter Try.func4, Try.ntmps4
  go_wp2_with (first | (go_at_call 7; (with_reducible refine (awake_any _).mono ?_); rintro e w1 ⟨rfl, hb1⟩))
  go_ret
  exact ⟨rfl, hb1⟩

theorem Conv0.apart {w : World} {g : Nat} {xs : List Int} (h : Conv0 w g xs) {p : Addr} (hp : g ≠ p.block) (u : Value) : Conv0 (w.setCell p u) g xs := by
  obtain ⟨cs, n, h1, h2, h3⟩ := h
  exact ⟨cs, n, (Below.heap_setCell w p u g hp).trans h1, h2, h3⟩
theorem Conv0.later {w w' : World} {g : Nat} {xs : List Int} (h : Conv0 w g xs) (hb : Below w.heap.size w w') : Conv0 w' g xs := by
  obtain ⟨cs, n, h1, h2, h3⟩ := h
  exact ⟨cs, n, (hb.block g (heap_lt h1)).trans h1, h2, h3⟩

theorem Row.ofCells1 {w : World} {g : Nat} {cs : Array Value} {f : Nat × Nat} {x : Int} {rest : List Int} (h : w.heap[g]? = some (.cells cs 5 f)) (hx : ∀ (j : Nat) (u : Value), ((x :: rest).map (Value.int .u8))[j]? = some u → cs[j]? = some u) (hl : rest.length + 1 ≤ 40) : Row w (some ⟨g, 0, none⟩) (rest.length + 1) (x :: rest) :=
  Row.ofCells h hx (show rest.length + 1 ≤ 4096 by omega)
/-- Note of other bytes at the known position. -/
theorem own_state {w W : World} {vb mb g0 c : Nat} {nx pos x y : Int} {rest : List Int} {F : Int → Value} (hV : VMem W w.heap.size vb mb 1 0 nx (M1 pos (x :: rest)) F) (hC : Conv0 W g0 (y :: rest)) (hl : rest.length + 1 ≤ 40) (h0 : 0 ≤ pos) (h1 : pos < 18446744073709551615) (hne : ((strOfNums (x :: rest)).toList == (strOfNums (y :: rest)).toList) = false) :
    Calls Try.prog 9 #[.pointer (some ⟨vb, 0, none⟩), .int .u64 pos, .slice (some ⟨g0, 0, none⟩) (rest.length + 1) c] W fun e w' => e = .returned (.int .i64 33) ∧ W = w' :=
  note_other W w.heap.size vb mb 1 0 nx _ F pos _ _ c (y :: rest) (x :: rest) hV (hC.row (show rest.length + 1 ≤ 4096 by omega)) h0 h1 h0 (M1_at _ _) (show rest.length + 1 ≤ 4096 by omega) hne
theorem own_note1 (w wq : World) (vb mb g0 c : Nat) (pos x : Int) (rest : List Int) (F : Int → Value) (hV : VMem wq w.heap.size vb mb 0 0 0 (fun _ => none) F) (hC : Conv0 wq g0 (x :: rest)) (hl : rest.length + 1 ≤ 40) (hb : Below w.heap.size w wq) (h0 : 0 ≤ pos) (h1 : pos < 18446744073709551615) :
    Calls Try.prog 9 #[.pointer (some ⟨vb, 0, none⟩), .int .u64 pos, .slice (some ⟨g0, 0, none⟩) (rest.length + 1) c] wq (OwnN w vb mb pos (x :: rest) g0) :=
  own_note w wq vb mb g0 c pos (x :: rest) F hV hC hl hb h0 h1

/-- Behind the store into what was noted. -/
theorem own_poke {w w3 : World} {vb mb g0 : Nat} {nx pos x0 : Int} {rest : List Int} {F : Int → Value} (hV : VMem w3 w.heap.size vb mb 1 0 nx (M1 pos (x0 :: rest)) F) (hC : Conv0 w3 g0 (x0 :: rest)) (ha : ∀ k ys, M1 pos (x0 :: rest) k = some ys → ∀ g l c, F k = .slice (some ⟨g, 0, none⟩) l c → g ≠ g0) (hb : Below w.heap.size w w3) (hg : w.heap.size ≤ g0) (y : Int) :
    VMem (w3.setCell ⟨g0, 0, none⟩ (.int .u8 y)) w.heap.size vb mb 1 0 nx (M1 pos (x0 :: rest)) F ∧ Conv0 (w3.setCell ⟨g0, 0, none⟩ (.int .u8 y)) g0 (y :: rest) ∧ Below w.heap.size w (w3.setCell ⟨g0, 0, none⟩ (.int .u8 y)) := by
  obtain ⟨cs, n, h1, _⟩ := id hC
  exact ⟨hV.poke h1 ha _, hC.poke, hb.setCell (p := ⟨g0, 0, none⟩) hg _⟩
/-- Behind the store into what was told. -/
theorem own_poke2 {w w4 w5 : World} {vb mb g0 g5 : Nat} {nx pos x0 : Int} {rest ys : List Int} {F : Int → Value} {cs : Array Value} (hV : VMem w4 w.heap.size vb mb 1 0 nx (M1 pos (x0 :: rest)) F) (hC : Conv0 w4 g0 ys) (hb : Below w.heap.size w w4) (hb5 : Below w4.heap.size w4 w5) (hW : Whole w5 g5 5 cs) (hg : w4.heap.size ≤ g5) (y : Int) :
    VMem (w5.setCell ⟨g5, 0, none⟩ (.int .u8 y)) w.heap.size vb mb 1 0 nx (M1 pos (x0 :: rest)) F ∧ Conv0 (w5.setCell ⟨g5, 0, none⟩ (.int .u8 y)) g0 ys ∧ Below w.heap.size w (w5.setCell ⟨g5, 0, none⟩ (.int .u8 y)) ∧ Below w.heap.size w w5 := by
  have h5 : Below w.heap.size w w5 := hb.trans (hb5.mono hb.size)
  exact ⟨(hV.later hb5).poke hW (hV.old hg) _, (hC.later hb5).apart (p := ⟨g5, 0, none⟩) (show g0 ≠ g5 by have := hC.lt; omega) _, h5.setCell (p := ⟨g5, 0, none⟩) (show w.heap.size ≤ g5 by have := hb.size; omega) _, h5⟩

set_option maxRecDepth 100000 in
set_option maxHeartbeats 2000000 in
theorem own_main (pos x x0 : Int) (rest : List Int) (a : Option Addr) (cap : Nat) (w : World) (hr : Row w a (rest.length + 1) (x0 :: rest)) (hl : rest.length + 1 ≤ 40) (hx0 : 0 < x) (hx1 : x ≤ 255) (h0 : 0 ≤ pos) (h1 : pos < 18446744073709551615)
    (hby : ∀ z ∈ x0 :: rest, 0 ≤ z ∧ z ≤ 255) :
    Calls Try.prog 4 #[.int .u64 pos, .slice a (rest.length + 1) cap, .int .u8 x] w fun e w' => e = .returned (.bool true) ∧ Below w.heap.size w w' := by
  obtain ⟨y1, y2, y3⟩ := xor_ne (hby x0 (by simp)).1 (hby x0 (by simp)).2 hx0 hx1
  have hne : ((strOfNums (x0 :: rest)).toList == (strOfNums (bits .xor .u8 x0 x :: rest)).toList) = false := by
    rw [str_same hby (fun z hz => by rcases List.mem_cons.1 hz with rfl | hz; exact ⟨y2, y3⟩; exact hby z (by simp [hz]))]
    rw [decide_eq_false]
    intro e
    injection e with e
    exact y1 e.symm
  have HNE := Lib.hid hne
  have HR := Lib.hid hr
  have HBY := Lib.hid hby
  clear hne hr hby y1 y2 y3
  have hB1 : ((rest.length : Int) + 1 == 0) = false := by simp; omega
  have hB2 : decide (40 < (rest.length : Int) + 1) = false := by simp; omega
  have hB3 : (x == 0) = false := by simp; omega
  have hB4 : (pos == 18446744073709551615) = false := by simp; omega
  go_enter Try.func4, Try.ntmps4
  go_wp2_with (first
    | (go_at_call 7; (with_reducible refine (awake_any _).mono ?_); rintro e w1 ⟨rfl, hb1⟩; have hz1 := hb1.size)
    | (go_at_call 8; go_loud ((with_reducible refine (new_ok w.heap.size _ hz1).mono ?_); rintro e w2 ⟨vb, mb, rfl, hV2, hS2⟩; have hb2 := hb1.trans hS2.below; have hz2 := hb2.size; have s1 := (HR.out.later hb2).conv cap; obtain ⟨cq, wq, k1, hbq, hzq, hcq⟩ := conv_back w2 (x0 :: rest) HBY.out; have hzq' : w2.heap.size < wq.heap.size := (by rw [hzq]; omega); clear hzq; have HQ := Lib.hid (own_note1 w wq vb mb w2.heap.size cq pos x0 rest _ (hV2.later hbq) hcq hl (hb2.trans (hbq.mono hz2)) h0 h1); have HQ2 := Lib.hid hcq; clear hcq))
    | (go_at_call 9; go_loud ((with_reducible refine HQ.out.mono ?_); rintro e w3 ⟨nx, F, rfl, hV3, hb3, hap, hC3⟩; clear HQ HQ2 hV2 hbq; obtain ⟨f1, f2, f3⟩ := hC3.first; have hz3 := hb3.size; obtain ⟨hV4, hC4, hb4⟩ := own_poke hV3 hC3 hap hb3 hz2 (bits .xor .u8 x0 x); have HG4 := Lib.hid (own_get _ w.heap.size vb mb 1 nx pos x0 rest F hV4 hl h0 h1)))
    | (go_at_call 12; go_loud ((with_reducible refine HG4.out.mono ?_); rintro e w5 ⟨g5, c5, cs5, rfl, hW5, hx5, hg5, hb5⟩; clear HG4; obtain ⟨hV6, hC6, hb6, hb5w⟩ := own_poke2 hV4 hC4 hb4 hb5 hW5 hg5 (bits .xor .u8 x0 x); have t1 := (Row.ofCells1 hW5 hx5 hl).conv c5; have t2 := (HR.out.later hb5w).conv cap; have u1 := (hW5.cell 0).trans (hx5 0 _ rfl); have u2 := hW5.free 0; have u3 := hW5.lt; have HT6 := Lib.hid (own_take _ w.heap.size vb mb 1 nx pos x0 rest F hV6 hl h0 h1)))
    | (go_at_call 10; go_loud ((with_reducible refine HT6.out.mono ?_); rintro e w7 ⟨gr, cr, g7, c7, cs7, rfl, hc7, hW7, hx7, hg7, hb7⟩; clear HT6; have hb7w := hb6.trans (hb7.mono hb6.size); have r0 := hc7; have r1 := fun m : Nat => (Row.ofCells1 (w := w7.drewN m) hW7 hx7 hl).conv c7; have r2 := fun m : Nat => (HR.out.later (hb7w.trans (below_drewN w.heap.size w7 m))).conv cap; have v1 := (hW7.cell 0).trans (hx7 0 _ rfl); have v2 := hW7.free 0; have v3 := hW7.lt)))
  go_quiet (fail)
  clear r1 r2 t1 t2 s1 k1 u1 u2 u3 f1 f2 f3
  obtain ⟨hV8, hC8, hb8, hb7x⟩ := own_poke2 hV6 hC6 hb6 (hb7.trans (below_drewN _ _ nq)) (hW7.drewN nq) hg7 (bits .xor .u8 x0 x)
  have hd7 : (w7.drewN nq).cell? ⟨gr, 0, none⟩ = some (.slice (some ⟨g7, 0, none⟩) (rest.length + 1) c7) := hc7
  have d1 : (w7.drewN nq).cell? ⟨g7, 0, none⟩ = some (.int .u8 x0) := v1
  have d2 : (w7.drewN nq).frozen? ⟨g7, 0, none⟩ = false := v2
  have d3 : g7 < (w7.drewN nq).heap.size := v3
  clear hc7 v1 v2 v3 hW7 hb7 hV6 hC6 hb6 hb7x hb7w
  generalize w7.drewN nq = wd at *
  have HG8 := Lib.hid (own_get _ w.heap.size vb mb 1 nx pos x0 rest F hV8 hl h0 h1)
  go_wp2_with (first
    | (go_at_call 12; go_loud ((with_reducible refine HG8.out.mono ?_); rintro e w9 ⟨g9, c9, cs9, rfl, hW9, hx9, hg9, hb9⟩; clear HG8; have hV9 := hV8.later hb9; have hb9w := hb8.trans (hb9.mono hb8.size); have t1 := (Row.ofCells1 hW9 hx9 hl).conv c9; have t2 := (HR.out.later hb9w).conv cap; have HN9 := Lib.hid (own_state (c := cq) hV9 (hC8.later hb9) hl h0 h1 HNE.out)))
    | (go_at_call 9; go_loud ((with_reducible refine HN9.out.mono ?_); rintro e wx ⟨rfl, rfl⟩)))
  go_ret
  exact ⟨rfl, hb9w⟩

/-- Bytes that came in. -/
theorem row_arg {w : World} {x : Addr} {len cap : Nat} {zs : List Int} (h0 : 0 < len) (hl : len ≤ 4096) (hc : len ≤ cap) (hz : zs.length = cap) (hcell : ∀ i, i < zs.length → w.cell? (x.add i) = some (.int .u8 (zs.getD i 0))) (hw : ∀ n ∈ zs, (Lit.int .u8 n).wf = true) :
    ∃ xs, Row w (some x) len xs ∧ ∀ z ∈ xs, 0 ≤ z ∧ z ≤ 255 := by
  obtain ⟨blk, off, spot⟩ := x
  have hspot : spot = none := by simpa [Addr.add] using World.cell?_spot (hcell 0 (by omega))
  subst hspot
  refine ⟨zs.take len, ⟨by simp; omega, hl, .inr ⟨blk, off, rfl, fun j hj => ?_⟩⟩, fun z hz' => ?_⟩
  · have := hcell j (by omega)
    rw [Go.WideShapes.add_plain] at this
    rw [this]
    simp [List.getD, hj]
  · have := bounds_u8 (hw z (List.mem_of_mem_take hz'))
    omega

theorem own_all (pos x : Int) (a : Option Addr) (len cap : Nat) (w : World) (hm : len ≤ 9223372036854775807) (hx : 0 ≤ x ∧ x ≤ 255) (hp : 0 ≤ pos ∧ pos ≤ 18446744073709551615) (hr : 0 < len → len ≤ 40 → ∃ xs, Row w a len xs ∧ ∀ z ∈ xs, 0 ≤ z ∧ z ≤ 255) :
    Calls Try.prog 4 #[.int .u64 pos, .slice a len cap, .int .u8 x] w fun e w' => e = .returned (.bool true) ∧ Below w.heap.size w w' := by
  by_cases hl : len = 0 ∨ 40 < len
  · exact own_out pos x a len cap w hm hl
  · by_cases hx0 : x = 0
    · subst hx0; exact own_zero pos a len cap w (by omega) (by omega)
    · by_cases hp1 : pos = 18446744073709551615
      · subst hp1; exact own_worn x a len cap w (by omega) (by omega) (by omega)
      · obtain ⟨xs, hrow, hby⟩ := hr (by omega) (by omega)
        have hlen := hrow.1
        cases xs with
        | nil => simp at hlen; omega
        | cons x0 rest =>
          simp only [List.length_cons] at hlen
          subst hlen
          exact own_main pos x x0 rest a cap w hrow (by omega) (by omega) hx.2 hp.1 (by omega) hby
end Go.Proofs.Ytnbbbgoecndjhaa
