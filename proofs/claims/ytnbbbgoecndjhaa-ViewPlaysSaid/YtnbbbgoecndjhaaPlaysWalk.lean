/-
  The walk of ViewPlays.
-/
import Derived.Test.YtnbbbgoecndjhaaPlaysCmp
import Derived.Deep.RegionHeld3
namespace Go.Proofs.Ytnbbbgoecndjhaa
open Go.ChangeShapes Go.WideShapes Go.ChangeAt Go.RowKit
set_option linter.unusedVariables false

/-- An act that came in. -/
structure ActAt (w : World) (blk o : Nat) (kind pos : Int) (A : Option Addr) (L C : Nat) (Z : List Int) (most : Int) : Prop where
  c0 : w.cell? ⟨blk, o, none⟩ = some (.int .i64 kind)
  c1 : w.cell? ⟨blk, o + 1, none⟩ = some (.int .u64 pos)
  row : RowAt w ⟨blk, o + 2, none⟩ A L C Z
  c3 : w.cell? ⟨blk, o + 3, none⟩ = some (.int .i64 most)
  p0 : 0 ≤ pos
  p1 : pos ≤ 18446744073709551615

/-- What holds at the head of the loop. -/
def P1 (w : World) (vb mb g5 len : Nat) (i : Value) (wr : World) : Prop :=
  ∃ (j : Nat) (low : Int) (a : Option Addr) (n c : Nat) (ks : KL), j ≤ len ∧ j ≤ 60 ∧ i = .int .i64 j ∧ n ≤ j ∧ PVw w vb mb low (lookK ks) j wr ∧ RefRow wr w.heap.size a n c ks ∧ Whole wr g5 40 #[.slice a n c, .int .u64 low]

/-- What stands in a round. -/
structure PS (w : World) (vb mb g5 bk : Nat) (low : Int) (a : Option Addr) (n c : Nat) (ks : KL) (q : Nat) (ac : Array Value) (W : World) : Prop where
  pv : PVw w vb mb low (lookK ks) q W
  ref : RefRow W w.heap.size a n c ks
  box : Whole W g5 40 #[.slice a n c, .int .u64 low]
  act : Whole W bk 42 ac
  few : n ≤ q
  hi : w.heap.size ≤ g5
theorem PS.later {w : World} {vb mb g5 bk : Nat} {low : Int} {a : Option Addr} {n c : Nat} {ks : KL} {q : Nat} {ac : Array Value} {W W' : World} (h : PS w vb mb g5 bk low a n c ks q ac W) (hb : Below W.heap.size W W') : PS w vb mb g5 bk low a n c ks q ac W' :=
  ⟨h.pv.later hb, h.ref.later hb, h.box.below hb h.box.lt, h.act.below hb h.act.lt, h.few, h.hi⟩
theorem PS.facts {w : World} {vb mb g5 bk : Nat} {low : Int} {a : Option Addr} {n c : Nat} {ks : KL} {q : Nat} {k0 k1 k2 k3 : Value} {W : World} (h : PS w vb mb g5 bk low a n c ks q #[k0, k1, k2, k3] W) :
    W.cell? ⟨g5, 0, none⟩ = some (.slice a n c) ∧ W.cell? ⟨g5, 1, none⟩ = some (.int .u64 low) ∧ g5 < W.heap.size ∧ W.cell? ⟨bk, 0, none⟩ = some k0 ∧ W.cell? ⟨bk, 1, none⟩ = some k1 ∧ W.cell? ⟨bk, 2, none⟩ = some k2 ∧ W.cell? ⟨bk, 3, none⟩ = some k3 ∧ bk < W.heap.size :=
  ⟨h.box.cell 0, h.box.cell 1, h.box.lt, h.act.cell 0, h.act.cell 1, h.act.cell 2, h.act.cell 3, h.act.lt⟩
theorem PS.free {w : World} {vb mb g5 bk : Nat} {low : Int} {a : Option Addr} {n c : Nat} {ks : KL} {q : Nat} {ac : Array Value} {W : World} (h : PS w vb mb g5 bk low a n c ks q ac W) : W.frozen? ⟨g5, 0, none⟩ = false ∧ W.frozen? ⟨g5, 1, none⟩ = false := ⟨h.box.free 0, h.box.free 1⟩

theorem RefRow.other {w : World} {B : Nat} {a : Option Addr} {n c : Nat} {ks : KL} (h : RefRow w B a n c ks) {g i : Nat} {cs : Array Value} (hg : Whole w g 40 cs) (u : Value) : RefRow (w.setCell ⟨g, i, none⟩ u) B a n c ks := by
  obtain ⟨h1, ⟨h2, h3⟩, h4⟩ := h
  refine ⟨h1, ⟨h2, ?_⟩, h4⟩
  rcases h3 with h3 | ⟨g', cap, cur, q1, q2, q3, q4⟩
  · exact .inl h3
  · exact .inr ⟨g', cap, cur, q1, q2, (Below.heap_setCell w ⟨g, i, none⟩ u g' (type_ne q3 hg (by decide))).trans q3, q4⟩

/-- What holds at the head of the inner loop. -/
def P3 (w : World) (vb mb g5 bk : Nat) (low : Int) (a : Option Addr) (n c : Nat) (ks : KL) (q : Nat) (ac : Array Value) (p : Int) (ta : Option Addr) (tcp : Nat) (vs : List Value) (oa : Option Addr) (oc : Nat) (jj : Value) (wq : World) : Prop :=
  ∃ t : Nat, t ≤ vs.length ∧ jj = .int .i64 t ∧ PS w vb mb g5 bk low a n c ks q ac wq ∧ PT w (lookK ks) p ta tcp vs wq ∧ wq.ownsRow w.heap.size 9 1 (.slice oa vs.length oc) vs.length (strsAt (lookK ks) p vs.length)

/-- The reference's new value is stored. -/
theorem ps_store {w W : World} {vb mb g5 bk : Nat} {low : Int} {a : Option Addr} {n c q : Nat} {ks : KL} {ac cs : Array Value} (hp : PVw w vb mb low (lookK ks) q W) (hr : RefRow W w.heap.size a n c ks) (hb : Whole W g5 40 cs) (hc : cs.size = 2) (ha : Whole W bk 42 ac) (hn : n ≤ q) (hi : w.heap.size ≤ g5) :
    PS w vb mb g5 bk low a n c ks q ac ((W.setCell ⟨g5, 0, none⟩ (.slice a n c)).setCell ⟨g5, 1, none⟩ (.int .u64 low)) := by
  have hb1 := hb.put 0 (.slice a n c)
  have hb2 := hb1.put 1 (.int .u64 low)
  refine ⟨(hp.other hb hi _).other hb1 hi _, (hr.other hb _).other hb1 _, ?_, ?_, hn, hi⟩
  · have : (cs.setIfInBounds 0 (.slice a n c)).setIfInBounds 1 (.int .u64 low) = #[.slice a n c, .int .u64 low] := by
      obtain ⟨l⟩ := cs
      match l, hc with
      | [x, y], _ => rfl
    rw [this] at hb2
    exact hb2
  · have hne : bk ≠ g5 := type_ne ha hb (by decide)
    exact (ha.apart (p := ⟨g5, 0, none⟩) hne _).apart (p := ⟨g5, 1, none⟩) hne _

set_option maxRecDepth 100000 in
set_option maxHeartbeats 4000000 in
theorem plays_main (blk off len cap : Nat) (w : World) (hm : len ≤ 9223372036854775807) (hblk : 0 < len → blk < w.heap.size) (hr : ∀ r, r < len → ∃ kind pos A L C Z most, ActAt w blk (off + r * 4) kind pos A L C Z most) (ad : Option Addr) (had : 0 < len → ad = some ⟨blk, off, none⟩) :
    Calls Try.prog 5 #[.slice ad len cap] w fun e w' => e = .returned (.bool true) ∧ Below w.heap.size w w' := by
  have HR := Lib.hid hr
  clear hr
  go_enter Try.func5, Try.ntmps5
  go_wp2_with (first
    | (go_at_call 7; (with_reducible refine (awake_any _).mono ?_); rintro e w1 ⟨rfl, hb1⟩; have hz1 := hb1.size)
    | (go_at_call 8; (with_reducible refine (new_ok w.heap.size _ hz1).mono ?_); rintro e w2 ⟨vb, mb, rfl, hV2, hS2⟩; have hb2 := hb1.trans hS2.below; have hz2 := hb2.size))
  have hz5 : w.heap.size ≤ w2.heap.size := hz2
  have hP0 : P1 w vb mb w2.heap.size len (.int .i64 0) (w2.alloc (.cells #[.slice none 0 0, .int .u64 0] 40)) :=
    ⟨0, 0, none, 0, 0, [], by omega, by omega, rfl, by omega, ⟨⟨0, 0, _, by omega, hV2.later ((Below.refl _ _).alloc (Nat.le_refl _) _), nx0⟩, fun k xs h => (by cases h), rfl, by omega, by omega, hb2.alloc hz2 _⟩, ⟨rfl, World.ownsRow_nil _ _ _ _, fun _ => ⟨rfl, rfl⟩⟩, Whole.made _ _ _⟩
  clear hV2 hS2
  generalize w2.heap.size = g5 at *
  generalize w2.alloc (.cells #[.slice none 0 0, .int .u64 0] 40) = w3 at *
  go_loopw [6] (fun i wr => P1 w vb mb g5 len i wr) (fun i _ => len - (intOf i).toNat)
  case atStart => exact hP0
  case round =>
    clear hP0
    obtain ⟨j, low, a, n, c, ks, hj, hj60, rfl, hn, hPV, hRR, hBX⟩ := hrel
    have hbw := hPV.below
    have hbs := hbw.size
    by_cases hlt : j < len ∧ j < 60
    · obtain ⟨hlt, h60⟩ := hlt
      have hbk := hblk (by omega)
      obtain ⟨kind, pos, A, L, C, Z, most, hA⟩ := HR.out j hlt
      have hp0 := hA.p0
      have hp1 := hA.p1
      have hbw' : blk < wr.heap.size := by omega
      have k0 := (hbw.cell (p := ⟨blk, off + j * 4, none⟩) hbk).trans hA.c0
      have k1 := (hbw.cell (p := ⟨blk, off + j * 4 + 1, none⟩) hbk).trans hA.c1
      have k2 := (hbw.cell (p := ⟨blk, off + j * 4 + 2, none⟩) hbk).trans hA.row.cell
      have k3 := (hbw.cell (p := ⟨blk, off + j * 4 + 3, none⟩) hbk).trans hA.c3
      have hle1 := hA.row.le
      have hmx1 := hA.row.max
      have hRA := Lib.hid hA.row
      have hb1 : Below wr.heap.size wr (wr.alloc (.cells #[.int .i64 kind, .int .u64 pos, .slice A L C, .int .i64 most] 42)) := (Below.refl _ _).alloc (Nat.le_refl _) _
      have HS1 : Hid (PS w vb mb g5 wr.heap.size low a n c ks j #[.int .i64 kind, .int .u64 pos, .slice A L C, .int .i64 most] (wr.alloc (.cells #[.int .i64 kind, .int .u64 pos, .slice A L C, .int .i64 most] 42))) :=
        ⟨hPV.later hb1, hRR.later hb1, hBX.below hb1 hBX.lt, Whole.made _ _ _, hn, hz5⟩
      obtain rfl := had (by omega)
      clear hA hPV hRR hBX hb1 had hblk hb2 hz2
      by_cases hbig : 40 < L ∨ 100 < most
      · rcases hbig with hbig | hbig
        · go_wp2
          go_ret
          exact ⟨rfl, HS1.out.pv.below⟩
        · by_cases hb40 : 40 < L
          · go_wp2
            go_ret
            exact ⟨rfl, HS1.out.pv.below⟩
          · go_wp2
            go_ret
            exact ⟨rfl, HS1.out.pv.below⟩
      · have hL40 : ¬ 40 < L := by omega
        have hm100 : ¬ 100 < most := by omega
        have hm1 : most ≤ 100 := by omega
        have hj1000 : j ≤ 1000 := by omega
        have hn1000 : n ≤ 1000 := by omega
        have hX : Hid (Bytes40 (Z.take L)) := ⟨by have := hRA.out.len; simp; omega, fun z hz => by have := bounds_u8 (hRA.out.wf z (List.mem_of_mem_take hz)); omega⟩
        clear hbig
        obtain ⟨f0, f1, f2, f3, f4, f5, f6, f7⟩ := HS1.out.facts

        cases hk : (bits BinOp.and IntKind.i64 kind 3 == 0) with
        | true =>
          go_wp2_with (first
            | (go_at_call 13; go_loud ((with_reducible refine (plays_raise w _ vb mb j low pos _ HS1.out.pv (by omega) hp0 hp1).mono ?_); rintro e w4 ⟨rfl, hP4, hS4⟩; have hR4 := HS1.out.ref.kept hS4.bytes; have hX4 : Whole w4 g5 40 _ := hS4.bytes _ _ 40 (0, 0) (by decide) HS1.out.box; have hA4 : Whole w4 wr.heap.size 42 _ := hS4.bytes _ _ 42 (0, 0) (by decide) HS1.out.act; clear f0 f1 f2 f3 f4 f5 f6 f7; have x0 := hX4.cell 0; have x1 := hX4.cell 1; have x2 := hX4.lt; have x3 := hA4.cell 1; have x4 := hA4.lt; have HP4 := Lib.hid hP4; have HR4 := Lib.hid hR4; have HX4 := Lib.hid hX4; have HA4 := Lib.hid hA4; clear hP4 hR4 hX4 hA4))
            | (go_at_call 14; go_loud ((with_reducible refine (plays_rraise w _ a n c ks low pos HR4.out HP4.out.below.size (by omega)).mono ?_); rintro e w5 ⟨a', n', c', ks', rfl, hn', hR5, hl5, hb5⟩; have hX5 := HX4.out.below hb5 HX4.out.lt; clear x0 x1 x2 x3 x4; have x0 := hX5.cell 0; have x1 := hX5.cell 1; have x2 := hX5.lt; have x3 := hX5.free 0; have x4 := hX5.free 1; have hP5 := HP4.out.later hb5; rw [← hl5] at hP5; have HS6 := Lib.hid (ps_store (hP5.mono (show j ≤ j + 1 by omega)) hR5 hX5 rfl (HA4.out.below hb5 HA4.out.lt) (by omega) hz5); clear hP5 hR5 hX5 hl5; have hn6 : n' ≤ 1000 := (by omega); obtain ⟨y0, y1, y2, y3, y4, y5, y6, y7⟩ := HS6.out.facts))
            | (go_at_call 12; go_loud ((with_reducible refine (plays_get w _ vb mb (j + 1) (rl low pos) pos _ HS6.out.pv hp0 hp1).mono ?_); rintro e wa ⟨ga, gl, gcp, rfl, hDa, hba⟩; have HSa := Lib.hid (HS6.out.later hba); clear y0 y1 y2 y3 y4 y5 y6 y7; obtain ⟨y0, y1, y2, y3, y4, y5, y6, y7⟩ := HSa.out.facts))
            | (go_at_call 16; go_loud ((with_reducible refine (plays_rget _ w.heap.size a' n' c' ks' (rl low pos) pos HSa.out.ref hn6).mono ?_); rintro e wb ⟨rfl, hbb⟩; have HSb := Lib.hid (HSa.out.later hbb); clear y0 y1 y2 y3 y4 y5 y6 y7; obtain ⟨y0, y1, y2, y3, y4, y5, y6, y7⟩ := HSb.out.facts))
            | (go_at_call 10; go_loud ((with_reducible refine (plays_take w _ vb mb (j + 1) (rl low pos) pos most _ HSb.out.pv hp0 hp1 hm1).mono ?_); rintro e wc ⟨ta, tcp, vs, rfl, hTc, hTl, hTe, hbc⟩; have HTe := Lib.hid hTe; clear hTe; have HSc := Lib.hid (HSb.out.later hbc); clear y0 y1 y2 y3 y4 y5 y6 y7; obtain ⟨y0, y1, y2, y3, y4, y5, y6, y7⟩ := HSc.out.facts))
            | (go_at_call 17; go_loud ((with_reducible refine (plays_rtake w _ vb mb (j + 1) a' n' c' ks' (rl low pos) pos most ta tcp vs _ HSc.out.pv HSc.out.ref hn6 hp0 hp1 hm1 hTc hTl HTe.out).mono ?_); rintro e wd ⟨oa, oc, rfl, hrow, hbd⟩; have HSd := Lib.hid (HSc.out.later hbd); clear y0 y1 y2 y3 y4 y5 y6 y7; obtain ⟨y0, y1, y2, y3, y4, y5, y6, y7⟩ := HSd.out.facts))
            )
          obtain ⟨nx, hnx1, hnx2⟩ := plays_next w wd vb mb (j + 1) a' n' c' ks' (rl low pos) HSd.out.pv hn6
          have HT := Lib.hid (hTc.later hbd)
          have HROW := Lib.hid hrow
          have HX1 := Lib.hid (hnx1 wd.drew (Below.refl _ _).drew)
          have HX2 := Lib.hid (hnx2 wd.drew (HSd.out.ref.later (Below.refl _ _).drew))
          have hcv := (((hDa.later hbb).later hbc).later hbd |>.later (Below.refl _ _).drew).conv gcp
          clear hnx1 hnx2 hTc hrow
          have HCV := Lib.hid hcv
          clear hcv
          have HD4 := Lib.hid (((hDa.later hbb).later hbc).later hbd)
          clear hDa
          go_region_held3 (fun W' => W'.cell? ⟨g5, 0, none⟩ = some (.slice a' n' c') ∧ W'.cell? ⟨g5, 1, none⟩ = some (.int .u64 (rl low pos)) ∧ (convert 23 9 (.slice ga gl gcp)).run Try.prog W' = .ok (.string (strOfNums (gb (lookK ks') (rl low pos) pos))) W') (first | exact ⟨y0, y1, HCV.out⟩ | exact ⟨z0, z1, HCN.out⟩)
            (first
            | (go_at_call 11; (with_reducible refine HX1.out.mono ?_); rintro e we ⟨rfl, rfl⟩)
            | (go_at_call 18; (with_reducible refine HX2.out.mono ?_); rintro e wn ⟨rfl, hbn⟩; have HSn := Lib.hid (HSd.out.later ((Below.refl _ _).drew.trans hbn)); obtain ⟨z0, z1, z2, z3, z4, z5, z6, z7⟩ := HSn.out.facts; have HLW := Lib.hid (plays_low w wn vb mb (j + 1) (rl low pos) _ HSn.out.pv); have HCN := Lib.hid ((HD4.out.later ((Below.refl _ _).drew.trans hbn)).conv gcp))
            | (go_at_call 19; (with_reducible refine HLW.out.mono ?_); rintro e wl ⟨rfl, rfl⟩))
          go_wp2
          have hbn0 : Below wd.heap.size wd wn := (Below.refl _ _).drew.trans hbn
          have hP3 : P3 w vb mb g5 wr.heap.size (rl low pos) a' n' c' ks' (j + 1) #[.int .i64 kind, .int .u64 pos, .slice A L C, .int .i64 most] (tp (rl low pos) pos) ta tcp vs oa oc (.int .i64 0) wn := ⟨0, by omega, rfl, HSn.out, HT.out.later hbn0, own_later HROW.out hbn0⟩
          have HP3 := Lib.hid hP3
          clear hP3 HX1 HX2 HCV HD4 HCN HLW HSn HT HROW z0 z1 z2 z3 z4 z5 z6 z7 y0 y1 y2 y3 y4 y5 y6 y7 hbn hbn0 x0 x1 x2 x3 x4
          go_loopw [19] (fun jj wq => P3 w vb mb g5 wr.heap.size (rl low pos) a' n' c' ks' (j + 1) #[.int .i64 kind, .int .u64 pos, .slice A L C, .int .i64 most] (tp (rl low pos) pos) ta tcp vs oa oc jj wq) (fun jj _ => vs.length - (intOf jj).toNat)
          case atStart => exact HP3.out
          case round =>
            clear HP3
            obtain ⟨t, ht, rfl, hS, hT, hRo⟩ := hrel
            by_cases htl : t < vs.length
            · obtain ⟨gr, g6, l6, c6, xs, rfl, hMx, e1, e2, e3⟩ := hT.elem hS.pv.short htl
              obtain ⟨go, rfl, e4, e5⟩ := strs_elem hRo htl hMx
              have HS := Lib.hid hS
              have HT := Lib.hid hT
              have HRo := Lib.hid hRo
              clear hS hT hRo hMx
              go_wp2
              go_quiet (fail)
              go_wp2
              go_roundw
              case rel => exact ⟨t + 1, by omega, by go_num, HS.out.later (below_drewN _ _ _), HT.out.later (below_drewN _ _ _), own_later HRo.out (below_drewN _ _ _)⟩
              case measure => simp [intOf]; omega
            · obtain rfl : t = vs.length := by omega
              have HS := Lib.hid hS
              clear hS hT hRo
              go_wp2
              go_roundw
              case rel => exact ⟨j + 1, (rl low pos), a', n', c', ks', by omega, by omega, by go_num, HS.out.few, HS.out.pv, HS.out.ref, HS.out.box⟩
              case measure => simp [intOf]; omega

        | false =>
          have hb0 : Below w.heap.size w (wr.alloc (.cells #[.int .i64 kind, .int .u64 pos, .slice A L C, .int .i64 most] 42)) := HS1.out.pv.below
          have hsrc := Lib.hid (hRA.out.src hb0 (by omega))
          have hcv1 := Lib.hid (hRA.out.conv hb0)
          go_wp2_with (first
            | (go_at_call 9; go_loud ((with_reducible refine (plays_note w _ vb mb j low pos _ A L C (Z.take L) HS1.out.pv hj1000 hp0 hp1 hX.out hsrc.out hcv1.out).mono ?_); rintro e w4 ⟨rfl, hP4, hS4⟩; have hR4 := HS1.out.ref.kept hS4.bytes; have hX4 : Whole w4 g5 40 _ := hS4.bytes _ _ 40 (0, 0) (by decide) HS1.out.box; have hA4 : Whole w4 wr.heap.size 42 _ := hS4.bytes _ _ 42 (0, 0) (by decide) HS1.out.act; clear f0 f1 f2 f3 f4 f5 f6 f7; have x0 := hX4.cell 0; have x1 := hX4.cell 1; have x2 := hX4.lt; have x3 := hA4.cell 1; have x4 := hA4.lt; have x5 := hA4.cell 2; have x6 := hRA.out.conv (hb0.trans hS4.below); have HP4 := Lib.hid hP4; have HR4 := Lib.hid hR4; have HX4 := Lib.hid hX4; have HA4 := Lib.hid hA4; clear hP4 hR4 hX4 hA4))
            | (go_at_call 15; go_loud ((with_reducible refine (plays_rnote w _ a n c ks low pos (Z.take L) HR4.out HP4.out.below.size hn1000 hp0 hp1 hX.out HS1.out.pv.short).mono ?_); rintro e w5 ⟨a', n', c', ks', rfl, hn', hR5, hl5, hb5⟩; have hb5a : Below w4.heap.size w4 (w5.alloc (.cells #[.slice a' n' c', .int .u64 low] 40)) := hb5.alloc hb5.size _; have hX5 := HX4.out.below hb5a HX4.out.lt; clear x0 x1 x2 x3 x4 x5 x6; have x0 := hX5.cell 0; have x1 := hX5.cell 1; have x2 := hX5.lt; have x3 := hX5.free 0; have x4 := hX5.free 1; have hP5 := HP4.out.later hb5a; rw [← hl5] at hP5; have HS6 := Lib.hid (ps_store hP5 (hR5.later ((Below.refl _ _).alloc (Nat.le_refl _) _)) hX5 rfl (HA4.out.below hb5a HA4.out.lt) (by omega) hz5); clear hP5 hR5 hX5 hl5; have hn6 : n' ≤ 1000 := (by omega); obtain ⟨y0, y1, y2, y3, y4, y5, y6, y7⟩ := HS6.out.facts))
            | (go_at_call 12; go_loud ((with_reducible refine (plays_get w _ vb mb (j + 1) low pos _ HS6.out.pv hp0 hp1).mono ?_); rintro e wa ⟨ga, gl, gcp, rfl, hDa, hba⟩; have HSa := Lib.hid (HS6.out.later hba); clear y0 y1 y2 y3 y4 y5 y6 y7; obtain ⟨y0, y1, y2, y3, y4, y5, y6, y7⟩ := HSa.out.facts))
            | (go_at_call 16; go_loud ((with_reducible refine (plays_rget _ w.heap.size a' n' c' ks' low pos HSa.out.ref hn6).mono ?_); rintro e wb ⟨rfl, hbb⟩; have HSb := Lib.hid (HSa.out.later hbb); clear y0 y1 y2 y3 y4 y5 y6 y7; obtain ⟨y0, y1, y2, y3, y4, y5, y6, y7⟩ := HSb.out.facts))
            | (go_at_call 10; go_loud ((with_reducible refine (plays_take w _ vb mb (j + 1) low pos most _ HSb.out.pv hp0 hp1 hm1).mono ?_); rintro e wc ⟨ta, tcp, vs, rfl, hTc, hTl, hTe, hbc⟩; have HTe := Lib.hid hTe; clear hTe; have HSc := Lib.hid (HSb.out.later hbc); clear y0 y1 y2 y3 y4 y5 y6 y7; obtain ⟨y0, y1, y2, y3, y4, y5, y6, y7⟩ := HSc.out.facts))
            | (go_at_call 17; go_loud ((with_reducible refine (plays_rtake w _ vb mb (j + 1) a' n' c' ks' low pos most ta tcp vs _ HSc.out.pv HSc.out.ref hn6 hp0 hp1 hm1 hTc hTl HTe.out).mono ?_); rintro e wd ⟨oa, oc, rfl, hrow, hbd⟩; have HSd := Lib.hid (HSc.out.later hbd); clear y0 y1 y2 y3 y4 y5 y6 y7; obtain ⟨y0, y1, y2, y3, y4, y5, y6, y7⟩ := HSd.out.facts))
            )
          obtain ⟨nx, hnx1, hnx2⟩ := plays_next w wd vb mb (j + 1) a' n' c' ks' low HSd.out.pv hn6
          have HT := Lib.hid (hTc.later hbd)
          have HROW := Lib.hid hrow
          have HX1 := Lib.hid (hnx1 wd.drew (Below.refl _ _).drew)
          have HX2 := Lib.hid (hnx2 wd.drew (HSd.out.ref.later (Below.refl _ _).drew))
          have hcv := (((hDa.later hbb).later hbc).later hbd |>.later (Below.refl _ _).drew).conv gcp
          clear hnx1 hnx2 hTc hrow
          have HCV := Lib.hid hcv
          clear hcv
          have HD4 := Lib.hid (((hDa.later hbb).later hbc).later hbd)
          clear hDa
          go_region_held3 (fun W' => W'.cell? ⟨g5, 0, none⟩ = some (.slice a' n' c') ∧ W'.cell? ⟨g5, 1, none⟩ = some (.int .u64 low) ∧ (convert 23 9 (.slice ga gl gcp)).run Try.prog W' = .ok (.string (strOfNums (gb (lookK ks') low pos))) W') (first | exact ⟨y0, y1, HCV.out⟩ | exact ⟨z0, z1, HCN.out⟩)
            (first
            | (go_at_call 11; (with_reducible refine HX1.out.mono ?_); rintro e we ⟨rfl, rfl⟩)
            | (go_at_call 18; (with_reducible refine HX2.out.mono ?_); rintro e wn ⟨rfl, hbn⟩; have HSn := Lib.hid (HSd.out.later ((Below.refl _ _).drew.trans hbn)); obtain ⟨z0, z1, z2, z3, z4, z5, z6, z7⟩ := HSn.out.facts; have HLW := Lib.hid (plays_low w wn vb mb (j + 1) low _ HSn.out.pv); have HCN := Lib.hid ((HD4.out.later ((Below.refl _ _).drew.trans hbn)).conv gcp))
            | (go_at_call 19; (with_reducible refine HLW.out.mono ?_); rintro e wl ⟨rfl, rfl⟩))
          go_wp2
          have hbn0 : Below wd.heap.size wd wn := (Below.refl _ _).drew.trans hbn
          have hP3 : P3 w vb mb g5 wr.heap.size low a' n' c' ks' (j + 1) #[.int .i64 kind, .int .u64 pos, .slice A L C, .int .i64 most] (tp low pos) ta tcp vs oa oc (.int .i64 0) wn := ⟨0, by omega, rfl, HSn.out, HT.out.later hbn0, own_later HROW.out hbn0⟩
          have HP3 := Lib.hid hP3
          clear hP3 HX1 HX2 HCV HD4 HCN HLW HSn HT HROW z0 z1 z2 z3 z4 z5 z6 z7 y0 y1 y2 y3 y4 y5 y6 y7 hbn hbn0 x0 x1 x2 x3 x4
          go_loopw [19] (fun jj wq => P3 w vb mb g5 wr.heap.size low a' n' c' ks' (j + 1) #[.int .i64 kind, .int .u64 pos, .slice A L C, .int .i64 most] (tp low pos) ta tcp vs oa oc jj wq) (fun jj _ => vs.length - (intOf jj).toNat)
          case atStart => exact HP3.out
          case round =>
            clear HP3
            obtain ⟨t, ht, rfl, hS, hT, hRo⟩ := hrel
            by_cases htl : t < vs.length
            · obtain ⟨gr, g6, l6, c6, xs, rfl, hMx, e1, e2, e3⟩ := hT.elem hS.pv.short htl
              obtain ⟨go, rfl, e4, e5⟩ := strs_elem hRo htl hMx
              have HS := Lib.hid hS
              have HT := Lib.hid hT
              have HRo := Lib.hid hRo
              clear hS hT hRo hMx
              go_wp2
              go_quiet (fail)
              go_wp2
              go_roundw
              case rel => exact ⟨t + 1, by omega, by go_num, HS.out.later (below_drewN _ _ _), HT.out.later (below_drewN _ _ _), own_later HRo.out (below_drewN _ _ _)⟩
              case measure => simp [intOf]; omega
            · obtain rfl : t = vs.length := by omega
              have HS := Lib.hid hS
              clear hS hT hRo
              go_wp2
              go_roundw
              case rel => exact ⟨j + 1, low, a', n', c', ks', by omega, by omega, by go_num, HS.out.few, HS.out.pv, HS.out.ref, HS.out.box⟩
              case measure => simp [intOf]; omega
    · have hout : ¬ j < len ∨ (j < len ∧ ¬ j < 60) := by omega
      clear HR
      rcases hout with ho | ⟨ho, ho2⟩
      all_goals
        go_wp2_with (first
          | (go_at_call 13; (with_reducible refine (raise_nilp _ _).mono ?_); rintro e wx ⟨rfl, rfl⟩)
          | (go_at_call 12; (with_reducible refine (get_nilp _ _).mono ?_); rintro e wx ⟨rfl, rfl⟩)
          | (go_at_call 10; (with_reducible refine (take_nilp _ _ _).mono ?_); rintro e wx ⟨rfl, hbx⟩)
          | (go_at_call 9; (with_reducible refine (note_nilp _ _ _).mono ?_); rintro e wy ⟨rfl, rfl⟩)
          | (go_at_call 11; (with_reducible refine (next_nilp _).mono ?_); rintro e wy ⟨rfl, rfl⟩)
          | (go_at_call 19; (with_reducible refine (low_nilp _).mono ?_); rintro e wy ⟨rfl, rfl⟩))
        go_ret
        exact ⟨rfl, hbw.trans (hbx.mono hbs)⟩
end Go.Proofs.Ytnbbbgoecndjhaa
