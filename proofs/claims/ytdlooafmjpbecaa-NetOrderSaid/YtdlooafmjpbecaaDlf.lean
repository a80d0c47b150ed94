/-
  The contract of slices.DeleteFunc at packets, with Clear's closure.
-/
import Derived.Test.YtdlooafmjpbecaaClr
namespace Go.Proofs.Ytdlooafmjpbecaa
open Go.ChangeShapes Go.WideShapes Go.ChangeAt Go.RowKit

/-- The packets that stay. -/
def kept (k : Int) (ps : List Pk) : List Pk := ps.filter fun p => !hit k p
theorem kept_snoc (k : Int) (ps : List Pk) (p : Pk) : kept k (ps ++ [p]) = if hit k p then kept k ps else kept k ps ++ [p] := by
  unfold kept; rw [List.filter_append]; cases h : hit k p <;> simp [h]
theorem kept_le (k : Int) (ps : List Pk) : (kept k ps).length ≤ ps.length := List.length_filter_le _ _
theorem kept_all (k : Int) (ps : List Pk) (h : ∀ p ∈ ps, hit k p = false) : kept k ps = ps := by
  unfold kept; rw [List.filter_eq_self]; intro p hp; rw [h p hp]; rfl
theorem kept_take (k : Int) (ps : List Pk) (j : Nat) (hj : j < ps.length) : kept k (ps.take (j + 1)) = if hit k (ps[j]) then kept k (ps.take j) else kept k (ps.take j) ++ [ps[j]] := by
  rw [List.take_succ_eq_append_getElem hj, kept_snoc]

/-- What DeleteFunc leaves. -/
def Left (w : World) (B : Nat) (v : Value) (k : Int) (ps : List Pk) (e : Ending) (w' : World) : Prop :=
  ∃ v', e = .returned v' ∧ w'.ownsRow B 32 3 v' (kept k ps).length (rowOf (kept k ps)) ∧ w.grownBy w' v.ownBlock ∧ (v'.ownBlock = v.ownBlock)

theorem deletef_none (w : World) (B : Nat) (a : Option Addr) (cap : Nat) (ps : List Pk) (k : Int) (b : Nat) (hr : w.ownsRow B 32 3 (.slice a ps.length cap) ps.length (rowOf ps)) (hn : ∀ p ∈ ps, hit k p = false)
    (hx : Calls Try.prog 23 #[.slice a ps.length cap, .func (.func 21) #[] #[.pointer (some ⟨b, 0, none⟩)]] w (Indexed w k ps)) :
    Calls Try.prog 20 #[.slice a ps.length cap, .func (.func 21) #[] #[.pointer (some ⟨b, 0, none⟩)]] w (Left w B (.slice a ps.length cap) k ps) := by
  have hx2 : Calls Try.prog 23 #[.slice a ps.length cap, .func (.func 21) #[] #[.pointer (some ⟨b, 0, none⟩)]] w fun e w' => e = .returned (.int .i64 (-1)) ∧ Below w.heap.size w w' := by
    refine hx.mono fun e w' ⟨r, he, hi, hb⟩ => ⟨?_, hb⟩
    rcases hi with ⟨rfl, _⟩ | ⟨i, h, _, h2, _⟩
    · exact he
    · rw [hn _ (List.getElem_mem h)] at h2; cases h2
  have HR := Lib.hid hr
  have HN := Lib.hid hn
  clear hr hn hx
  go_enter Try.func20, Try.ntmps20
  go_wp2_with (go_at_call 23; (with_reducible refine hx2.mono ?_); rintro e w2 ⟨rfl, hb2⟩)
  go_ret
  have hg : w.grownBy w2 (Value.slice a ps.length cap).ownBlock := ⟨hb2.os, hb2.tape, hb2.output, hb2.size, fun k hk _ => hb2.block k hk⟩
  refine ⟨_, rfl, ?_, hg, rfl⟩
  rw [kept_all k ps HN.out]
  exact HR.out.kept (row := none) ⟨hb2.os, hb2.tape, hb2.output, hb2.size, fun k hk _ => hb2.block k hk⟩ (by cases a <;> simp [Value.ownBlock])

/-- Three cells are laid behind what stands. -/
theorem take_put3 (cs : Array Value) (o : Nat) (a b c : Value) (h : o + 2 < cs.size) :
    (((cs.setIfInBounds o a).setIfInBounds (o + 1) b).setIfInBounds (o + 2) c).toList.take (o + 3) = cs.toList.take o ++ [a, b, c] := by
  have hl : (cs.toList.take o).length = o := by rw [List.length_take, Array.length_toList]; omega
  apply List.ext_getElem?
  intro j
  rw [List.getElem?_take]
  by_cases hj : j < o + 3
  · rw [if_pos hj, Array.getElem?_toList]
    simp only [Array.getElem?_setIfInBounds, Array.size_setIfInBounds]
    by_cases h0 : j < o
    · rw [if_neg (by omega), if_neg (by omega), if_neg (by omega), List.getElem?_append_left (by rw [hl]; exact h0), List.getElem?_take, if_pos h0, Array.getElem?_toList]
    · rw [List.getElem?_append_right (by rw [hl]; omega), hl]
      have : j = o ∨ j = o + 1 ∨ j = o + 2 := by omega
      rcases this with rfl | rfl | rfl
      · rw [if_neg (by omega), if_neg (by omega), if_pos rfl, if_pos (by omega), Nat.sub_self]; rfl
      · rw [if_neg (by omega), if_pos rfl, if_pos (by omega), show o + 1 - o = 1 by omega]; rfl
      · rw [if_pos rfl, if_pos (by omega), show o + 2 - o = 2 by omega]; rfl
  · rw [if_neg hj, List.getElem?_eq_none]
    rw [List.length_append, hl]; simp; omega

/-- What holds at the head of DeleteFunc's loop: j packets have been looked at, i stay. -/
def DfRel (w : World) (g cap : Nat) (cur : Array Value) (k : Int) (ps : List Pk) (s5 s6 : Value) (wr : World) : Prop :=
  ∃ (i j : Nat) (cs : Array Value), s5 = .int .i64 i ∧ s6 = .int .i64 j ∧ i < j ∧ j ≤ ps.length ∧ i = (kept k (ps.take j)).length ∧ Whole wr g 32 cs ∧ cs.size = cap * 3 ∧
    cs.toList.take (i * 3) = rowOf (kept k (ps.take j)) ∧ (∀ t, j * 3 ≤ t → cs[t]? = cur[t]?) ∧ w.grownBy wr (some g)

/-- Behind the closure: the row, the box and the place to be written. -/
theorem after_hit {w w2 : World} {g : Nat} {cs : Array Value} {x y z : Value} (h : Whole w g 32 cs) (hb : Below (w.alloc (.cells #[x, y, z] 32)).heap.size (w.alloc (.cells #[x, y, z] 32)) w2) (i : Nat) (hi : i * 3 + 2 < cs.size) :
    Whole w2 g 32 cs ∧ Whole w2 w.heap.size 32 #[x, y, z] ∧ w2.cell? ⟨w.heap.size, 0, none⟩ = some x ∧ w2.cell? ⟨w.heap.size, 1, none⟩ = some y ∧ w2.cell? ⟨w.heap.size, 2, none⟩ = some z ∧
    w2.cell? ⟨g, i * 3, none⟩ = some (cs[i * 3]'(by omega)) ∧ w2.cell? ⟨g, i * 3 + 1, none⟩ = some (cs[i * 3 + 1]'(by omega)) ∧ w2.cell? ⟨g, i * 3 + 2, none⟩ = some (cs[i * 3 + 2]'(by omega)) ∧
    w2.frozen? ⟨g, i * 3, none⟩ = false ∧ w2.frozen? ⟨g, i * 3 + 1, none⟩ = false ∧ w2.frozen? ⟨g, i * 3 + 2, none⟩ = false ∧ w.grownBy w2 (some g) := by
  have h1 : Whole w2 g 32 cs := (h.alloc _).below hb (by have := h.lt; simp; omega)
  have h2 : Whole w2 w.heap.size 32 #[x, y, z] := (Whole.made w 32 #[x, y, z]).below hb (by simp)
  exact ⟨h1, h2, h2.cell 0, h2.cell 1, h2.cell 2, (h1.cell _).trans (Array.getElem?_eq_getElem _), (h1.cell _).trans (Array.getElem?_eq_getElem _), (h1.cell _).trans (Array.getElem?_eq_getElem _), h1.free _, h1.free _, h1.free _,
    (gr_alloc (World.grownBy.refl w (some g)) _).trans ⟨hb.os, hb.tape, hb.output, hb.size, fun k hk _ => hb.block k hk⟩⟩

set_option maxRecDepth 100000 in
set_option maxHeartbeats 1000000 in
theorem deletef_some (w : World) (B g cap : Nat) (ps : List Pk) (k : Int) (b i0 : Nat) (cur : Array Value) (hg : B ≤ g) (hh : Whole w g 32 cur) (hle : ps.length ≤ cap) (hmx : cap ≤ maxLen) (hsz : cur.size = cap * 3) (htk : cur.toList.take (ps.length * 3) = rowOf ps)
    (hc : w.cell? ⟨b, 0, none⟩ = some (.int .i64 k)) (hbg : b ≠ g) (hi : i0 < ps.length) (h1 : hit k (ps[i0]) = true) (h2 : ∀ j, (hj : j < i0) → hit k (ps[j]'(by omega)) = false)
    (hx : Calls Try.prog 23 #[.slice (some ⟨g, 0, none⟩) ps.length cap, .func (.func 21) #[] #[.pointer (some ⟨b, 0, none⟩)]] w (Indexed w k ps)) :
    Calls Try.prog 20 #[.slice (some ⟨g, 0, none⟩) ps.length cap, .func (.func 21) #[] #[.pointer (some ⟨b, 0, none⟩)]] w (Left w B (.slice (some ⟨g, 0, none⟩) ps.length cap) k ps) := by
  have eg : ∀ args w, (callFunc 21 args).run Try.prog w = .ok (.enter 21 args) w := enters_of Try.func21 (by kernel_rfl) rfl
  have hx2 : Calls Try.prog 23 #[.slice (some ⟨g, 0, none⟩) ps.length cap, .func (.func 21) #[] #[.pointer (some ⟨b, 0, none⟩)]] w fun e w' => e = .returned (.int .i64 i0) ∧ Below w.heap.size w w' := by
    refine hx.mono fun e w' ⟨r, he, hi', hb⟩ => ⟨?_, hb⟩
    rcases hi' with ⟨_, hn⟩ | ⟨i, h, rfl, q1, q2⟩
    · rw [hn _ (List.getElem_mem hi)] at h1; cases h1
    · have : i = i0 := by
        rcases Nat.lt_trichotomy i i0 with hlt | heq | hgt
        · rw [h2 i hlt] at q1; cases q1
        · exact heq
        · rw [q2 i0 hgt] at h1; cases h1
      rw [he, this]
  have hk0 : kept k (ps.take (i0 + 1)) = ps.take i0 := by
    rw [kept_take k ps i0 hi, if_pos h1, kept_all]
    intro p hp
    obtain ⟨j, hj, rfl⟩ := List.getElem_of_mem hp
    rw [List.length_take] at hj
    rw [List.getElem_take]
    exact h2 j (by omega)
  have hm2 : cap ≤ 9223372036854775807 := by unfold maxLen at hmx; omega
  have HH := Lib.hid hh
  have HT := Lib.hid htk
  have HS := Lib.hid hsz
  have HC := Lib.hid hc
  have HK := Lib.hid hk0
  have z5 : ((i0 : Int) == -1) = false := by simp
  have hglt := hh.lt
  have hblt := World.block_lt_of_cell? _ _ hc
  clear hh htk hsz hc hk0 h1 h2 hx
  go_enter Try.func20, Try.ntmps20
  go_wp2_with (go_at_call 23; (with_reducible refine hx2.mono ?_); rintro e w2 ⟨rfl, hb2⟩)
  go_loopw [5, 6, 7] (fun s5 s6 _ wr => DfRel w g cap cur k ps s5 s6 wr) (fun _ s6 _ _ => ps.length - (intOf s6).toNat)
  case atStart =>
    refine ⟨i0, i0 + 1, cur, rfl, by go_num, by omega, by omega, by rw [HK.out, List.length_take]; omega, HH.out.below hb2 hglt, HS.out, ?_, fun _ _ => rfl, ⟨hb2.os, hb2.tape, hb2.output, hb2.size, fun k hk _ => hb2.block k hk⟩⟩
    rw [HK.out, ← rowOf_take, ← HT.out, List.take_take, Nat.min_eq_left (by omega)]
  case round =>
    obtain ⟨i, j, cs, rfl, rfl, hij, hj, hil, hh, hsz, htk, hhi, hgr⟩ := hrel
    have hbw : wr.cell? ⟨b, 0, none⟩ = some (.int .i64 k) := hgr.cell HC.out (by simpa using hbg)
    have HHr := Lib.hid hh
    have HSr := Lib.hid hsz
    have HTr := Lib.hid htk
    have HIr := Lib.hid hhi
    have HIL := Lib.hid hil
    have hglr := hh.lt
    have hblr := World.block_lt_of_cell? _ _ hbw
    by_cases hlt : j < ps.length
    · obtain ⟨c0, c1, c2⟩ := row_cells HH.out HT.out j hlt
      have d0 : wr.cell? ⟨g, j * 3, none⟩ = some (.int .i64 (ps[j]).fr) := (hh.cell _).trans ((hhi _ (by omega)).trans ((HH.out.cell _).symm.trans c0))
      have d1 : wr.cell? ⟨g, j * 3 + 1, none⟩ = some (.int .i64 (ps[j]).to) := (hh.cell _).trans ((hhi _ (by omega)).trans ((HH.out.cell _).symm.trans c1))
      have d2 : wr.cell? ⟨g, j * 3 + 2, none⟩ = some (.slice (ps[j]).ad (ps[j]).n (ps[j]).c) := (hh.cell _).trans ((hhi _ (by omega)).trans ((HH.out.cell _).symm.trans c2))
      have hkt := Lib.hid (kept_take k ps j hlt)
      have hi3 : i * 3 + 2 < cs.size := by omega
      clear c0 c1 c2 hh hsz htk hhi hil
      generalize hp : ps[j] = p at *
      have hcon := hit_any p k b (wr.alloc (.cells #[.int .i64 p.fr, .int .i64 p.to, .slice p.ad p.n p.c] 32)) ((World.cell?_alloc_lt _ _ _ hblr).trans hbw)
      cases hhit : hit k p
      · rw [hhit] at hcon
        go_wp2_with (go_at_call 21; (with_reducible refine hcon.mono ?_); rintro e w3 ⟨rfl, hb3⟩; obtain ⟨t1, t2, t3, t4, t5, t6, t7, t8, t9, t10, t11, t12⟩ := after_hit HHr.out hb3 i hi3)
        rw [hhit] at hkt
        have hk1 := hkt.out
        simp only [Bool.false_eq_true, if_false] at hk1
        go_roundw
        case rel =>
          refine ⟨i + 1, j + 1, _, by go_num, by go_num, by omega, by omega, ?_, ((t1.put (i * 3) _).put (i * 3 + 1) _).put (i * 3 + 2) _, by simp [HSr.out], ?_, fun t ht => ?_, gr_set (gr_set (gr_set (hgr.trans t12) _ _) _ _) _ _⟩
          · rw [hk1, List.length_append, ← HIL.out]; rfl
          · rw [show (i + 1) * 3 = i * 3 + 3 by omega, take_put3 _ _ _ _ _ hi3, HTr.out, hk1, rowOf_append, rowOf_one]; rfl
          · simp only [Array.getElem?_setIfInBounds]
            rw [if_neg (by omega), if_neg (by omega), if_neg (by omega)]
            exact HIr.out t (by omega)
        case measure => simp [intOf]; omega
      · rw [hhit] at hcon
        go_wp2_with (go_at_call 21; (with_reducible refine hcon.mono ?_); rintro e w3 ⟨rfl, hb3⟩; obtain ⟨t1, t2, t3, t4, t5, t6, t7, t8, t9, t10, t11, t12⟩ := after_hit HHr.out hb3 i hi3)
        rw [hhit] at hkt
        have hk1 := hkt.out
        simp only [if_true] at hk1
        go_roundw
        case rel => exact ⟨i, j + 1, cs, rfl, by go_num, by omega, by omega, by rw [hk1]; exact HIL.out, t1, HSr.out, by rw [hk1]; exact HTr.out, fun t ht => HIr.out t (by omega), hgr.trans t12⟩
        case measure => simp [intOf]; omega
    · obtain rfl : j = ps.length := by omega
      have hcl : ∀ ty, (Builtin.clear_ #[44] ty #[.slice (some ⟨g, i * 3, none⟩) (ps.length - i) (cap - i)]).run Try.prog wr = .ok (.tuple #[]) (wr.setCells g (i * 3) (Builtin.zeroCells zeroPk (ps.length - i)).toList) := fun ty =>
        run_clear wr ty g _ _ _ (by omega) (fun t ht => by rw [HHr.out.cell, Array.getElem?_eq_getElem (by rw [HSr.out]; omega)]; rfl) (fun t ht => HHr.out.free _)
      have hzl : (Builtin.zeroCells zeroPk (ps.length - i)).toList.length = (ps.length - i) * 3 := by simp [Builtin.zeroCells]
      obtain ⟨cs2, p1, p2, p3, _, _, p6⟩ := Whole.puts (Builtin.zeroCells zeroPk (ps.length - i)).toList wr cs (i * 3) HHr.out (by rw [hzl, HSr.out]; omega)
      have P2 := Lib.hid p2
      have P3 := Lib.hid p3
      have HZ := Lib.hid hzl
      have hcap : ¬ cap = i := by omega
      clear hh hsz htk hhi hil p2 p3 hzl
      go_wp2
      go_ret
      have hkl : (kept k ps).length = i := by have := HIL.out; rw [List.take_length] at this; exact this.symm
      refine ⟨.slice (some ⟨g, 0, none⟩) i cap, rfl, ?_, hgr.trans p6, rfl⟩
      rw [hkl]
      refine ⟨by rw [rowOf_length, hkl], .inr ⟨g, cap, cs2, rfl, hg, p1, by omega, hmx, by rw [P2.out, HSr.out], ?_⟩⟩
      rw [← List.take_length (l := ps), ← HTr.out]
      apply List.ext_getElem?
      intro t
      rw [List.getElem?_take, List.getElem?_take]
      by_cases ht : t < i * 3
      · rw [if_pos ht, if_pos ht, Array.getElem?_toList, Array.getElem?_toList, P3.out t ht]
      · rw [if_neg ht, if_neg ht]

theorem deletef_any (w : World) (B nb : Nat) (N : Int) (v : Value) (ps : List Pk) (k : Int) (b : Nat) (h : NetAt w B nb N v ps) (hc : w.cell? ⟨b, 0, none⟩ = some (.int .i64 k)) (hbv : some b ≠ v.ownBlock) (hl : ps.length ≤ 4096) :
    Calls Try.prog 20 #[v, .func (.func 21) #[] #[.pointer (some ⟨b, 0, none⟩)]] w (Left w B v k ps) := by
  by_cases hp : 0 < ps.length
  · obtain ⟨g, cap, cur, rfl, hg, hh, hle, hmx, hsz, htk, hgn⟩ := h.form hp
    have hx := index_any w (some ⟨g, 0, none⟩) cap ps k b hc hl fun i hi => ⟨g, rfl, hh.lt, row_cells hh htk i hi⟩
    by_cases hn : ∀ p ∈ ps, hit k p = false
    · exact deletef_none w B _ cap ps k b h.row hn hx
    · have hex : ∃ i : Nat, ∃ hi : i < ps.length, hit k (ps[i]) = true := by
        simp only [Classical.not_forall] at hn
        obtain ⟨p, hpm, hph⟩ := hn
        obtain ⟨i, hi, rfl⟩ := List.getElem_of_mem hpm
        exact ⟨i, hi, by simpa using hph⟩
      have hmin : ∃ i : Nat, (∃ hi : i < ps.length, hit k (ps[i]) = true) ∧ ∀ j, j < i → ¬ ∃ hj : j < ps.length, hit k (ps[j]) = true := by
        obtain ⟨i, hi⟩ := hex
        induction i using Nat.strongRecOn with
        | ind i ih =>
          by_cases hs : ∃ j, j < i ∧ ∃ hj : j < ps.length, hit k (ps[j]) = true
          · obtain ⟨j, hj, hj'⟩ := hs
            exact ih j hj hj'
          · exact ⟨i, hi, fun j hj hj' => hs ⟨j, hj, hj'⟩⟩
      obtain ⟨i0, ⟨hi, h1⟩, h2⟩ := hmin
      exact deletef_some w B g cap ps k b i0 cur hg hh hle hmx hsz htk hc (fun e => hbv (by rw [e]; rfl)) hi h1 (fun j hj => by
        have := h2 j hj
        cases hq : hit k (ps[j]'(by omega))
        · rfl
        · exact absurd ⟨by omega, hq⟩ this) hx
  · obtain rfl : ps = [] := List.eq_nil_of_length_eq_zero (by omega)
    obtain ⟨a, cap, rfl⟩ : ∃ a cap, v = .slice a 0 cap := by
      rcases h.row.2 with ⟨rfl, _⟩ | ⟨g, cap, cur, rfl, _⟩
      · exact ⟨none, 0, rfl⟩
      · exact ⟨_, _, rfl⟩
    have hx := index_any w a cap [] k b hc (by simp) fun i hi => by simp at hi
    exact deletef_none w B a cap [] k b h.row (by simp) hx

theorem row_form {w : World} {B : Nat} {v : Value} {n : Nat} {xs : List Value} (h : w.ownsRow B 32 3 v n xs) : ∃ a c, v = .slice a n c := by
  rcases h.2 with ⟨rfl, hn⟩ | ⟨g, cap, cur, rfl, _⟩
  · exact ⟨none, 0, by rw [hn]⟩
  · exact ⟨_, _, rfl⟩

/-- What Clear leaves. -/
def Clrd (w : World) (B nb : Nat) (N : Int) (k : Int) (ps : List Pk) (e : Ending) (w' : World) : Prop :=
  ∃ v', e = .returned (.int .i64 ((ps.length : Int) - ((kept k ps).length : Int))) ∧ NetAt w' B nb N v' (kept k ps) ∧ Step B w w'

/-- Behind DeleteFunc: the net's head. -/
theorem head_after_left {w w2 : World} {B nb : Nat} {N : Int} {v : Value} {ps : List Pk} (h : NetAt w B nb N v ps) (hg : w.grownBy w2 v.ownBlock) :
    Whole w2 nb 46 #[.int .i64 N, v] ∧ w2.cell? ⟨nb, 1, none⟩ = some v ∧ w2.frozen? ⟨nb, 1, none⟩ = false := head_after h.head hg (own_ne h.row h.head (by decide))

set_option maxRecDepth 100000 in
theorem clear_any (w : World) (B nb : Nat) (N : Int) (v : Value) (ps : List Pk) (k : Int) (h : NetAt w B nb N v ps) (hB : B ≤ w.heap.size) (hl : ps.length ≤ 4096) :
    Calls Try.prog 14 #[.pointer (some ⟨nb, 0, none⟩), .int .i64 k] w (Clrd w B nb N k ps) := by
  have h1 : NetAt (w.alloc (.cells #[.int .i64 k] 3)) B nb N v ps := h.later ((Below.refl _ _).alloc (Nat.le_refl _) _)
  have hbv : some w.heap.size ≠ v.ownBlock := fun e => by have := (h.row.lt _ e.symm).2; omega
  have hdf := deletef_any _ B nb N v ps k w.heap.size h1 (World.cell?_alloc_new _ _ _ 0) hbv hl
  have hS1 : Step B w (w.alloc (.cells #[.int .i64 k] 3)) := (Step.refl B w).alloc hB _
  obtain ⟨va, vc, rfl⟩ : ∃ a cap, v = .slice a ps.length cap := by
    rcases h.row.2 with ⟨rfl, hn⟩ | ⟨g, cap, cur, rfl, _⟩
    · exact ⟨none, 0, by rw [hn]⟩
    · exact ⟨_, _, rfl⟩
  have c1 := h.cell1
  have hlt := h.head.lt
  have hkl := kept_le k ps
  have HN := Lib.hid h1
  clear h h1
  go_enter Try.func14, Try.ntmps14
  go_wp2_with (go_at_call 20; (with_reducible refine hdf.mono ?_); rintro e w2 ⟨v', rfl, hrow, hg, hown⟩; obtain ⟨hh2, k1, k2⟩ := head_after_left HN.out hg; obtain ⟨a2, c2, rfl⟩ := row_form hrow)
  go_ret
  have hS2 : Step B w w2 := hS1.grown HN.out.row (by simp; omega) hg
  refine ⟨.slice a2 (kept k ps).length c2, rfl, NetAt.store HN.out.base hh2 hrow (fun p hp => (HN.out.dat p (List.mem_filter.1 hp).1).kept ?_), hS2.put hh2 (by decide) HN.out.base 1 _⟩
  exact ((Step.refl B _).grown HN.out.row (by simp; omega) hg).bytes
end Go.Proofs.Ytdlooafmjpbecaa
