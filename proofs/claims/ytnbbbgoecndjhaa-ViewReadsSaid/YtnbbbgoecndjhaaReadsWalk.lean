/-
  The walk of ViewReads.
-/
import Derived.Test.YtnbbbgoecndjhaaReadsWd
namespace Go.Proofs.Ytnbbbgoecndjhaa
open Go.ChangeShapes Go.WideShapes Go.ChangeAt Go.RowKit
set_option linter.unusedVariables false

set_option maxRecDepth 100000 in
theorem reads_out (a ao : Option Addr) (len cap lo co : Nat) (y : Int) (w : World) (hm : len ≤ 9223372036854775807) (hm' : lo ≤ 9223372036854775807) (h : 20 < len ∨ 100 < lo) :
    Calls Try.prog 3 #[.slice a len cap, .slice ao lo co, .int .u8 y] w fun e w' => e = .returned (.bool true) ∧ Below w.heap.size w w' := by
  by_cases h1 : 20 < len
  · go_enter Try.func3, Try.ntmps3
    go_wp2_with (first | (go_at_call 7; (with_reducible refine (awake_any _).mono ?_); rintro e w1 ⟨rfl, hb1⟩))
    go_ret
    exact ⟨rfl, hb1⟩
  · have h2 : 100 < lo := by omega
    go_enter Try.func3, Try.ntmps3
    go_wp2_with (first | (go_at_call 7; (with_reducible refine (awake_any _).mono ?_); rintro e w1 ⟨rfl, hb1⟩))
    go_ret
    exact ⟨rfl, hb1⟩

theorem reads_new (w W : World) (n : Nat) (T : Nat → List Int) (hb : Below w.heap.size w W) : Calls Try.prog 8 #[] W fun e w' => ∃ vb mb, e = .returned (.pointer (some ⟨vb, 0, none⟩)) ∧ RV w w' vb mb 0 n (fun _ => false) T :=
  (new_ok w.heap.size W hb.size).mono fun e w' ⟨vb, mb, he, hV, hS⟩ => ⟨vb, mb, he, ⟨⟨0, _, by rw [MZ_none]; exact hV, by rw [MZ_none]; exact nx0⟩, fun k hk => (by cases hk), hb.trans hS.below⟩⟩

set_option maxRecDepth 100000 in
theorem reads_zero (a ao : Option Addr) (cap lo co : Nat) (y : Int) (w : World) (hm' : lo ≤ 100) :
    Calls Try.prog 3 #[.slice a 0 cap, .slice ao lo co, .int .u8 y] w fun e w' => e = .returned (.bool true) ∧ Below w.heap.size w w' := by
  go_enter Try.func3, Try.ntmps3
  go_wp2_with (first
    | (go_at_call 7; (with_reducible refine (awake_any _).mono ?_); rintro e w1 ⟨rfl, hb1⟩)
    | (go_at_call 8; (with_reducible refine (reads_new w _ 0 (fun _ => []) hb1).mono ?_); rintro e w2 ⟨vb, mb, rfl, hV2⟩))
  have HN : Hid (Calls Try.prog 11 #[.pointer (some ⟨vb, 0, none⟩)] w2 fun e w' => e = .returned (.int .u64 0) ∧ w2 = w') := reads_next w w2 vb mb 0 0 _ _ hV2 (fun k hk => by omega) (by omega)
  go_loopw [10, 11, 12] (fun at' got i wr => at' = .int .u64 0 ∧ got = .int .i64 0 ∧ i = .int .i64 0 ∧ wr = w2) (fun _ _ _ _ => 0)
  case atStart => exact ⟨rfl, rfl, rfl, rfl⟩
  case round =>
    obtain ⟨rfl, rfl, rfl, rfl⟩ := hrel
    by_cases h : 0 < lo
    · go_wp2_with (first
        | (go_at_call 11; (with_reducible refine HN.out.mono ?_); rintro e w9 ⟨rfl, rfl⟩))
      go_ret
      exact ⟨rfl, hV2.below⟩
    · obtain rfl : lo = 0 := by omega
      go_wp2_with (first
        | (go_at_call 11; (with_reducible refine HN.out.mono ?_); rintro e w9 ⟨rfl, rfl⟩))
      go_ret
      exact ⟨rfl, hV2.below⟩

/-- What holds at the head of the first loop; of the second; of the third. -/
def O1 (w : World) (vb mb n lo : Nat) (T : Nat → List Int) (at' got i : Value) (wr : World) : Prop :=
  ∃ (j : Nat) (S : Nat → Bool) (g c : Nat), j ≤ lo + n ∧ i = .int .i64 j ∧ at' = .int .u64 g ∧ got = .int .i64 g ∧ c ≤ j ∧ g ≤ n ∧ RV w wr vb mb c n S T ∧ (∀ k, k < n → lo + k < j → S k = true) ∧ MZ n S T g = none
def O2 (w : World) (vb mb c n : Nat) (S : Nat → Bool) (T : Nat → List Int) (at' got : Value) (wr : World) : Prop :=
  ∃ g : Nat, g ≤ n ∧ at' = .int .u64 g ∧ got = .int .i64 g ∧ RV w wr vb mb c n S T
def O3 (w : World) (vb mb c n : Nat) (S : Nat → Bool) (T : Nat → List Int) (g : Nat) (a : Option Addr) (cp : Nat) (vs : List Value) (got j : Value) (wr : World) : Prop :=
  ∃ q : Nat, q ≤ vs.length ∧ got = .int .i64 ((g : Int) + (q : Int)) ∧ j = .int .i64 q ∧ RT w wr vb mb c n S T g a cp vs

theorem order_at {w wr : World} {a : Option Addr} {len n : Nat} (hr0 : 0 < len → ∃ xs, Row w a len xs ∧ ∀ z ∈ xs, 0 ≤ z ∧ z ≤ 255) (hb : Below w.heap.size w wr) {j : Nat} (hj : j < len) (hn : 0 < n) :
    ∃ g off z kk, a = some ⟨g, off, none⟩ ∧ wr.cell? ⟨g, off + j, none⟩ = some (.int .u8 z) ∧ 0 ≤ z ∧ z ≤ 255 ∧ kk < n ∧ z % (n : Int) = ((kk : Nat) : Int) ∧ g < wr.heap.size := by
  obtain ⟨xs, ⟨h1, h2, h3⟩, hx⟩ := hr0 (by omega)
  rcases h3 with ⟨_, h3⟩ | ⟨g, off, rfl, hc⟩
  · omega
  · have hz : xs.getD j 0 ∈ xs := by
      rw [List.getD_eq_getElem?_getD, List.getElem?_eq_getElem (by omega)]
      exact List.getElem_mem _
    have hzz := hx _ hz
    have hlt := World.block_lt_of_cell? _ _ (hc j hj)
    have h5 := Int.emod_nonneg (xs.getD j 0) (show (n : Int) ≠ 0 by omega)
    have h6 := Int.emod_lt_of_pos (xs.getD j 0) (show (0 : Int) < n by omega)
    refine ⟨g, off, xs.getD j 0, (xs.getD j 0 % n).toNat, rfl, (hb.cell (p := ⟨g, off + j, none⟩) hlt).trans (hc j hj), by omega, by omega, by omega, by omega, by have := hb.size; exact Nat.lt_of_lt_of_le hlt this⟩

/-- One more was noted, and all that can be was told. -/
theorem reads_more {w wr : World} {vb mb n lo j kk c c' g : Nat} {S : Nat → Bool} {T : Nat → List Int} {vs : List Value} (hV : RV w wr vb mb c' n (setb S kk) T) (hc : c ≤ j) (hc' : c' ≤ c + 1) (_ : True) (hlt : j < lo + n) (hkk : kk < n) (hS : ∀ k, k < n → lo + k < j → S k = true) (hj : j < lo ∨ j = lo + kk) (hN : vs.length = 0 → MZ n (setb S kk) T g = none) (h0 : vs.length = 0) (hg : g ≤ n) :
    O1 w vb mb n lo T (.int .u64 ((g : Int) + (vs.length : Int))) (.int .i64 ((g : Int) + (vs.length : Int))) (.int .i64 ((j : Int) + 1)) wr := by
  refine ⟨j + 1, setb S kk, g, c', by omega, by go_num, by rw [h0]; simp, by rw [h0]; simp, by omega, hg, hV, fun k hk h => ?_, hN h0⟩
  unfold setb
  by_cases e : k = kk
  · subst e; simp
  · have : (k == kk) = false := by simpa using e
    rw [this, Bool.false_or]
    exact hS k hk (by omega)

set_option maxRecDepth 100000 in
set_option maxHeartbeats 4000000 in
theorem reads_main (blk off len cap lo co : Nat) (A : Nat → Option Addr) (L C : Nat → Nat) (Z : Nat → List Int) (ao : Option Addr) (y : Int) (w : World) (h0l : 0 < len) (hl : len ≤ 20) (hlo : lo ≤ 100) (hy0 : 0 ≤ y) (hy1 : y ≤ 255) (hblk : blk < w.heap.size)
    (hord : 0 < lo → ∃ xs, Row w ao lo xs ∧ ∀ z ∈ xs, 0 ≤ z ∧ z ≤ 255) (hr : ∀ r, r < len → RowAt w ⟨blk, off + r, none⟩ (A r) (L r) (C r) (Z r)) :
    Calls Try.prog 3 #[.slice (some ⟨blk, off, none⟩) len cap, .slice ao lo co, .int .u8 y] w fun e w' => e = .returned (.bool true) ∧ Below w.heap.size w w' := by
  obtain ⟨T, hT⟩ : ∃ T : Nat → List Int, T = fun r => (Z r).take (L r) := ⟨_, rfl⟩
  have HTl : Hid (∀ r, r < len → (T r).length = L r) := fun r h => by
    have h1 := (hr r h).le
    have h2 := (hr r h).len
    rw [hT]; simp; omega
  have HT := Lib.hid hT
  have HO := Lib.hid hord
  have HR := Lib.hid hr
  have q1 : ((len : Int) == 0) = false := by simp; omega
  have q2 : decide (20 < (len : Int)) = false := by simp; omega
  have q3 : decide (100 < (lo : Int)) = false := by simp; omega
  have q4 : decide (0 < (len : Int)) = true := by simp; omega
  clear hT hord hr
  go_enter Try.func3, Try.ntmps3
  go_wp2_with (first
    | (go_at_call 7; (with_reducible refine (awake_any _).mono ?_); rintro e w1 ⟨rfl, hb1⟩)
    | (go_at_call 8; (with_reducible refine (reads_new w _ len T hb1).mono ?_); rintro e w2 ⟨vb, mb, rfl, hV2⟩))
  go_loopw [10, 11, 12] (fun at' got i wr => O1 w vb mb len lo T at' got i wr) (fun _ _ i _ => lo + len - (intOf i).toNat)
  case atStart => exact ⟨0, _, 0, 0, by omega, rfl, rfl, rfl, by omega, by omega, hV2, fun k _ h => by omega, MZ_off rfl⟩
  case round =>
    clear hV2
    obtain ⟨j, S, g0, c, hj, rfl, rfl, rfl, hc, hg0, hV, hS, hN0⟩ := hrel
    have HV := Lib.hid hV
    have HS := Lib.hid hS
    have HN0 := Lib.hid hN0
    have hbw := hV.below
    clear hV hS hN0
    by_cases hlt : j < lo + len
    · by_cases hjo : j < lo
      · obtain ⟨og, ooff, z, kk, rfl, oc, oz0, oz1, hkk, ez, og2⟩ := order_at HO.out hbw hjo h0l
        have hR := HR.out kk hkk
        have hcell := (hbw.cell (p := ⟨blk, off + kk, none⟩) hblk).trans hR.cell
        have hble : blk < wr.heap.size := by have := hbw.size; omega
        have hTk := HTl.out kk hkk
        have hle1 := hR.le
        have hmx1 := hR.max
        by_cases h40 : 40 < L kk
        · clear hR hTk
          generalize A kk = Ak at *
          generalize L kk = Lk at *
          generalize C kk = Ck at *
          go_wp2
          go_ret
          exact ⟨rfl, hbw⟩
        · have hTT : (Z kk).take (L kk) = T kk := by rw [HT.out]
          have hsrc := hR.src hbw (by omega)
          have hconv := hR.conv hbw
          rw [hTT] at hsrc hconv
          have hNr : ∀ r : Int, r = (if S kk = true then 31 else 0) → Calls Try.prog 9 #[.pointer (some ⟨vb, 0, none⟩), .int .u64 kk, .slice (A kk) (L kk) (C kk)] wr (RNoted w vb mb c len S T kk r) := fun r hr => reads_note w wr vb mb c len S T kk (L kk) (C kk) (A kk) r HV.out hkk hl (by omega) hsrc hconv (by omega) hr
          have HNr := Lib.hid hNr
          clear hR hTk hTT hsrc hconv hNr
          generalize hA : A kk = Ak at *
          generalize hL : L kk = Lk at *
          generalize hC : C kk = Ck at *
          have HA := Lib.hid hA
          have HL := Lib.hid hL
          have HC := Lib.hid hC
          clear hA hL hC
          obtain ⟨m, em, hm⟩ : ∃ m : Nat, y % 4 = (m : Int) ∧ m < 4 := ⟨(y % 4).toNat, by omega, by omega⟩
          rcases Bool.eq_false_or_eq_true (S kk) with h2 | h2
          · have HN1 := Lib.hid (HNr.out 31 (by rw [h2]; rfl))
            go_wp2_with (first
              | (go_at_call 9; go_loud ((with_reducible refine HN1.out.mono ?_); rintro e w5 ⟨c', rfl, hc', hV5⟩)))
            go_loopw [10, 11] (fun at' got wr => O2 w vb mb c' len (setb S kk) T at' got wr) (fun _ got _ => len - (intOf got).toNat)
            case atStart => exact ⟨g0, hg0, rfl, rfl, hV5⟩
            case round =>
              clear HN1 HNr hV5
              clear hcell hble HV hbw
              obtain ⟨wo, hwo⟩ : ∃ wo : World, wo = wr := ⟨_, rfl⟩
              clear hwo
              obtain ⟨g, hg, rfl, rfl, hV6⟩ := hrel
              have HV6 := Lib.hid hV6
              have hm1 : (1 : Int) ≤ (m : Int) + 1 := by omega
              have hm2 : (m : Int) + 1 ≤ 1000 := by omega
              clear hV6
              go_wp2_with (first
                | (go_at_call 10; go_loud ((with_reducible refine (reads_take w _ vb mb c' len (setb S kk) T g _ HV6.out hg hl hm1 hm2).mono ?_); rintro e w7 ⟨a7, cp7, vs, rfl, hT7, hgn, hnone⟩)))
              have HNN := Lib.hid hnone
              clear hnone
              go_loopw [11, 17] (fun got jj wr => O3 w vb mb c' len (setb S kk) T g a7 cp7 vs got jj wr) (fun _ jj _ => vs.length - (intOf jj).toNat)
              case atStart => exact ⟨0, by omega, by simp, rfl, hT7⟩
              case round =>
                clear hT7
                obtain ⟨q, hq, rfl, rfl, hT8⟩ := hrel
                have HT8 := Lib.hid hT8
                have hb8 := hT8.view.below
                by_cases hql : q < vs.length
                · obtain ⟨gr, g5, c5, rfl, d1, d2, d3, d4⟩ := hT8.elem hql
                  have hRq := HR.out (g + q) d4
                  have e1 := (hb8.cell (p := ⟨blk, off + (g + q), none⟩) hblk).trans hRq.cell
                  have e2 : ∀ m, (convert 23 9 (.slice (A (g + q)) (L (g + q)) (C (g + q)))).run Try.prog (wr.drewN m) = .ok (.string (strOfNums (T (g + q)))) (wr.drewN m) := fun m => by
                    have := hRq.conv (hb8.trans (below_drewN _ _ m))
                    rw [show (Z (g + q)).take (L (g + q)) = T (g + q) by rw [HT.out]] at this
                    exact this
                  have e3 : blk < wr.heap.size := by have := hb8.size; omega
                  have e4 : decide ((len : Int) ≤ (g : Int) + (q : Int)) = false := by simp; omega
                  have e5 := hRq.le
                  have e6 := hRq.max
                  clear hRq hT8
                  generalize A (g + q) = Aq at *
                  generalize L (g + q) = Lq at *
                  generalize C (g + q) = Cq at *
                  generalize hTq : T (g + q) = Tq at *
                  have HTq := Lib.hid hTq
                  clear hTq
                  go_wp2
                  go_quiet (fail)
                  go_wp2
                  go_roundw
                  case rel => exact ⟨q + 1, by omega, by go_num, by go_num, HT8.out.drewN _⟩
                  case measure => simp [intOf]; omega
                · obtain rfl : q = vs.length := by omega
                  clear hT8
                  by_cases h0 : vs.length = 0
                  · have HH0 := Lib.hid h0
                    have hv0 : ((vs.length : Int) == 0) = true := by simp [h0]
                    clear h0
                    go_wp2
                    go_roundw
                    case rel => exact reads_more HT8.out.view hc hc' trivial hlt hkk HS.out (.inl hjo) HNN.out HH0.out hg
                    case measure => simp [intOf]; omega
                  · have hv0 : ((vs.length : Int) == 0) = false := by rw [beq_eq_false_iff_ne]; omega
                    go_wp2
                    go_roundw
                    case rel => exact ⟨g + vs.length, hgn, by go_num, by go_num, HT8.out.view⟩
                    case measure => simp [intOf]; omega
          · have HN1 := Lib.hid (HNr.out 0 (by rw [h2]; rfl))
            go_wp2_with (first
              | (go_at_call 9; go_loud ((with_reducible refine HN1.out.mono ?_); rintro e w5 ⟨c', rfl, hc', hV5⟩)))
            go_loopw [10, 11] (fun at' got wr => O2 w vb mb c' len (setb S kk) T at' got wr) (fun _ got _ => len - (intOf got).toNat)
            case atStart => exact ⟨g0, hg0, rfl, rfl, hV5⟩
            case round =>
              clear HN1 HNr hV5
              clear hcell hble HV hbw
              obtain ⟨wo, hwo⟩ : ∃ wo : World, wo = wr := ⟨_, rfl⟩
              clear hwo
              obtain ⟨g, hg, rfl, rfl, hV6⟩ := hrel
              have HV6 := Lib.hid hV6
              have hm1 : (1 : Int) ≤ (m : Int) + 1 := by omega
              have hm2 : (m : Int) + 1 ≤ 1000 := by omega
              clear hV6
              go_wp2_with (first
                | (go_at_call 10; go_loud ((with_reducible refine (reads_take w _ vb mb c' len (setb S kk) T g _ HV6.out hg hl hm1 hm2).mono ?_); rintro e w7 ⟨a7, cp7, vs, rfl, hT7, hgn, hnone⟩)))
              have HNN := Lib.hid hnone
              clear hnone
              go_loopw [11, 17] (fun got jj wr => O3 w vb mb c' len (setb S kk) T g a7 cp7 vs got jj wr) (fun _ jj _ => vs.length - (intOf jj).toNat)
              case atStart => exact ⟨0, by omega, by simp, rfl, hT7⟩
              case round =>
                clear hT7
                obtain ⟨q, hq, rfl, rfl, hT8⟩ := hrel
                have HT8 := Lib.hid hT8
                have hb8 := hT8.view.below
                by_cases hql : q < vs.length
                · obtain ⟨gr, g5, c5, rfl, d1, d2, d3, d4⟩ := hT8.elem hql
                  have hRq := HR.out (g + q) d4
                  have e1 := (hb8.cell (p := ⟨blk, off + (g + q), none⟩) hblk).trans hRq.cell
                  have e2 : ∀ m, (convert 23 9 (.slice (A (g + q)) (L (g + q)) (C (g + q)))).run Try.prog (wr.drewN m) = .ok (.string (strOfNums (T (g + q)))) (wr.drewN m) := fun m => by
                    have := hRq.conv (hb8.trans (below_drewN _ _ m))
                    rw [show (Z (g + q)).take (L (g + q)) = T (g + q) by rw [HT.out]] at this
                    exact this
                  have e3 : blk < wr.heap.size := by have := hb8.size; omega
                  have e4 : decide ((len : Int) ≤ (g : Int) + (q : Int)) = false := by simp; omega
                  have e5 := hRq.le
                  have e6 := hRq.max
                  clear hRq hT8
                  generalize A (g + q) = Aq at *
                  generalize L (g + q) = Lq at *
                  generalize C (g + q) = Cq at *
                  generalize hTq : T (g + q) = Tq at *
                  have HTq := Lib.hid hTq
                  clear hTq
                  go_wp2
                  go_quiet (fail)
                  go_wp2
                  go_roundw
                  case rel => exact ⟨q + 1, by omega, by go_num, by go_num, HT8.out.drewN _⟩
                  case measure => simp [intOf]; omega
                · obtain rfl : q = vs.length := by omega
                  clear hT8
                  by_cases h0 : vs.length = 0
                  · have HH0 := Lib.hid h0
                    have hv0 : ((vs.length : Int) == 0) = true := by simp [h0]
                    clear h0
                    go_wp2
                    go_roundw
                    case rel => exact reads_more HT8.out.view hc hc' trivial hlt hkk HS.out (.inl hjo) HNN.out HH0.out hg
                    case measure => simp [intOf]; omega
                  · have hv0 : ((vs.length : Int) == 0) = false := by rw [beq_eq_false_iff_ne]; omega
                    go_wp2
                    go_roundw
                    case rel => exact ⟨g + vs.length, hgn, by go_num, by go_num, HT8.out.view⟩
                    case measure => simp [intOf]; omega
      · obtain ⟨kk, rfl⟩ : ∃ kk, j = lo + kk := ⟨j - lo, by omega⟩
        have hkk : kk < len := by omega
        have ek : (lo : Int) + (kk : Int) - (lo : Int) = (kk : Int) := by omega
        have hR := HR.out kk hkk
        have hcell := (hbw.cell (p := ⟨blk, off + kk, none⟩) hblk).trans hR.cell
        have hble : blk < wr.heap.size := by have := hbw.size; omega
        have hTk := HTl.out kk hkk
        have hle1 := hR.le
        have hmx1 := hR.max
        by_cases h40 : 40 < L kk
        · clear hR hTk
          generalize A kk = Ak at *
          generalize L kk = Lk at *
          generalize C kk = Ck at *
          go_wp2
          go_ret
          exact ⟨rfl, hbw⟩
        · have hTT : (Z kk).take (L kk) = T kk := by rw [HT.out]
          have hsrc := hR.src hbw (by omega)
          have hconv := hR.conv hbw
          rw [hTT] at hsrc hconv
          have hNr : ∀ r : Int, r = (if S kk = true then 31 else 0) → Calls Try.prog 9 #[.pointer (some ⟨vb, 0, none⟩), .int .u64 kk, .slice (A kk) (L kk) (C kk)] wr (RNoted w vb mb c len S T kk r) := fun r hr => reads_note w wr vb mb c len S T kk (L kk) (C kk) (A kk) r HV.out hkk hl (by omega) hsrc hconv (by omega) hr
          have HNr := Lib.hid hNr
          clear hR hTk hTT hsrc hconv hNr
          generalize hA : A kk = Ak at *
          generalize hL : L kk = Lk at *
          generalize hC : C kk = Ck at *
          have HA := Lib.hid hA
          have HL := Lib.hid hL
          have HC := Lib.hid hC
          clear hA hL hC
          obtain ⟨m, em, hm⟩ : ∃ m : Nat, y % 4 = (m : Int) ∧ m < 4 := ⟨(y % 4).toNat, by omega, by omega⟩
          rcases Bool.eq_false_or_eq_true (S kk) with h2 | h2
          · have HN1 := Lib.hid (HNr.out 31 (by rw [h2]; rfl))
            go_wp2_with (first
              | (go_at_call 9; go_loud ((with_reducible refine HN1.out.mono ?_); rintro e w5 ⟨c', rfl, hc', hV5⟩)))
            go_loopw [10, 11] (fun at' got wr => O2 w vb mb c' len (setb S kk) T at' got wr) (fun _ got _ => len - (intOf got).toNat)
            case atStart => exact ⟨g0, hg0, rfl, rfl, hV5⟩
            case round =>
              clear HN1 HNr hV5
              clear hcell hble HV hbw
              obtain ⟨wo, hwo⟩ : ∃ wo : World, wo = wr := ⟨_, rfl⟩
              clear hwo
              obtain ⟨g, hg, rfl, rfl, hV6⟩ := hrel
              have HV6 := Lib.hid hV6
              have hm1 : (1 : Int) ≤ (m : Int) + 1 := by omega
              have hm2 : (m : Int) + 1 ≤ 1000 := by omega
              clear hV6
              go_wp2_with (first
                | (go_at_call 10; go_loud ((with_reducible refine (reads_take w _ vb mb c' len (setb S kk) T g _ HV6.out hg hl hm1 hm2).mono ?_); rintro e w7 ⟨a7, cp7, vs, rfl, hT7, hgn, hnone⟩)))
              have HNN := Lib.hid hnone
              clear hnone
              go_loopw [11, 17] (fun got jj wr => O3 w vb mb c' len (setb S kk) T g a7 cp7 vs got jj wr) (fun _ jj _ => vs.length - (intOf jj).toNat)
              case atStart => exact ⟨0, by omega, by simp, rfl, hT7⟩
              case round =>
                clear hT7
                obtain ⟨q, hq, rfl, rfl, hT8⟩ := hrel
                have HT8 := Lib.hid hT8
                have hb8 := hT8.view.below
                by_cases hql : q < vs.length
                · obtain ⟨gr, g5, c5, rfl, d1, d2, d3, d4⟩ := hT8.elem hql
                  have hRq := HR.out (g + q) d4
                  have e1 := (hb8.cell (p := ⟨blk, off + (g + q), none⟩) hblk).trans hRq.cell
                  have e2 : ∀ m, (convert 23 9 (.slice (A (g + q)) (L (g + q)) (C (g + q)))).run Try.prog (wr.drewN m) = .ok (.string (strOfNums (T (g + q)))) (wr.drewN m) := fun m => by
                    have := hRq.conv (hb8.trans (below_drewN _ _ m))
                    rw [show (Z (g + q)).take (L (g + q)) = T (g + q) by rw [HT.out]] at this
                    exact this
                  have e3 : blk < wr.heap.size := by have := hb8.size; omega
                  have e4 : decide ((len : Int) ≤ (g : Int) + (q : Int)) = false := by simp; omega
                  have e5 := hRq.le
                  have e6 := hRq.max
                  clear hRq hT8
                  generalize A (g + q) = Aq at *
                  generalize L (g + q) = Lq at *
                  generalize C (g + q) = Cq at *
                  generalize hTq : T (g + q) = Tq at *
                  have HTq := Lib.hid hTq
                  clear hTq
                  go_wp2
                  go_quiet (fail)
                  go_wp2
                  go_roundw
                  case rel => exact ⟨q + 1, by omega, by go_num, by go_num, HT8.out.drewN _⟩
                  case measure => simp [intOf]; omega
                · obtain rfl : q = vs.length := by omega
                  clear hT8
                  by_cases h0 : vs.length = 0
                  · have HH0 := Lib.hid h0
                    have hv0 : ((vs.length : Int) == 0) = true := by simp [h0]
                    clear h0
                    go_wp2
                    go_roundw
                    case rel => exact reads_more HT8.out.view hc hc' trivial hlt hkk HS.out (.inr rfl) HNN.out HH0.out hg
                    case measure => simp [intOf]; omega
                  · have hv0 : ((vs.length : Int) == 0) = false := by rw [beq_eq_false_iff_ne]; omega
                    go_wp2
                    go_roundw
                    case rel => exact ⟨g + vs.length, hgn, by go_num, by go_num, HT8.out.view⟩
                    case measure => simp [intOf]; omega
          · have HN1 := Lib.hid (HNr.out 0 (by rw [h2]; rfl))
            go_wp2_with (first
              | (go_at_call 9; go_loud ((with_reducible refine HN1.out.mono ?_); rintro e w5 ⟨c', rfl, hc', hV5⟩)))
            go_loopw [10, 11] (fun at' got wr => O2 w vb mb c' len (setb S kk) T at' got wr) (fun _ got _ => len - (intOf got).toNat)
            case atStart => exact ⟨g0, hg0, rfl, rfl, hV5⟩
            case round =>
              clear HN1 HNr hV5
              clear hcell hble HV hbw
              obtain ⟨wo, hwo⟩ : ∃ wo : World, wo = wr := ⟨_, rfl⟩
              clear hwo
              obtain ⟨g, hg, rfl, rfl, hV6⟩ := hrel
              have HV6 := Lib.hid hV6
              have hm1 : (1 : Int) ≤ (m : Int) + 1 := by omega
              have hm2 : (m : Int) + 1 ≤ 1000 := by omega
              clear hV6
              go_wp2_with (first
                | (go_at_call 10; go_loud ((with_reducible refine (reads_take w _ vb mb c' len (setb S kk) T g _ HV6.out hg hl hm1 hm2).mono ?_); rintro e w7 ⟨a7, cp7, vs, rfl, hT7, hgn, hnone⟩)))
              have HNN := Lib.hid hnone
              clear hnone
              go_loopw [11, 17] (fun got jj wr => O3 w vb mb c' len (setb S kk) T g a7 cp7 vs got jj wr) (fun _ jj _ => vs.length - (intOf jj).toNat)
              case atStart => exact ⟨0, by omega, by simp, rfl, hT7⟩
              case round =>
                clear hT7
                obtain ⟨q, hq, rfl, rfl, hT8⟩ := hrel
                have HT8 := Lib.hid hT8
                have hb8 := hT8.view.below
                by_cases hql : q < vs.length
                · obtain ⟨gr, g5, c5, rfl, d1, d2, d3, d4⟩ := hT8.elem hql
                  have hRq := HR.out (g + q) d4
                  have e1 := (hb8.cell (p := ⟨blk, off + (g + q), none⟩) hblk).trans hRq.cell
                  have e2 : ∀ m, (convert 23 9 (.slice (A (g + q)) (L (g + q)) (C (g + q)))).run Try.prog (wr.drewN m) = .ok (.string (strOfNums (T (g + q)))) (wr.drewN m) := fun m => by
                    have := hRq.conv (hb8.trans (below_drewN _ _ m))
                    rw [show (Z (g + q)).take (L (g + q)) = T (g + q) by rw [HT.out]] at this
                    exact this
                  have e3 : blk < wr.heap.size := by have := hb8.size; omega
                  have e4 : decide ((len : Int) ≤ (g : Int) + (q : Int)) = false := by simp; omega
                  have e5 := hRq.le
                  have e6 := hRq.max
                  clear hRq hT8
                  generalize A (g + q) = Aq at *
                  generalize L (g + q) = Lq at *
                  generalize C (g + q) = Cq at *
                  generalize hTq : T (g + q) = Tq at *
                  have HTq := Lib.hid hTq
                  clear hTq
                  go_wp2
                  go_quiet (fail)
                  go_wp2
                  go_roundw
                  case rel => exact ⟨q + 1, by omega, by go_num, by go_num, HT8.out.drewN _⟩
                  case measure => simp [intOf]; omega
                · obtain rfl : q = vs.length := by omega
                  clear hT8
                  by_cases h0 : vs.length = 0
                  · have HH0 := Lib.hid h0
                    have hv0 : ((vs.length : Int) == 0) = true := by simp [h0]
                    clear h0
                    go_wp2
                    go_roundw
                    case rel => exact reads_more HT8.out.view hc hc' trivial hlt hkk HS.out (.inr rfl) HNN.out HH0.out hg
                    case measure => simp [intOf]; omega
                  · have hv0 : ((vs.length : Int) == 0) = false := by rw [beq_eq_false_iff_ne]; omega
                    go_wp2
                    go_roundw
                    case rel => exact ⟨g + vs.length, hgn, by go_num, by go_num, HT8.out.view⟩
                    case measure => simp [intOf]; omega
    · obtain rfl : j = lo + len := by omega
      have hall : ∀ k, k < len → S k = true := fun k hk => HS.out k hk (by omega)
      obtain rfl : g0 = len := by
        rcases Nat.lt_or_ge g0 len with h | h
        · have := HN0.out; rw [MZ_at h (hall _ h)] at this; cases this
        · omega
      have HN := Lib.hid (reads_next w wr vb mb c g0 S T HV.out hall hl)
      clear hall
      go_wp2_with (first
        | (go_at_call 11; go_loud ((with_reducible refine HN.out.mono ?_); rintro e w9 ⟨rfl, rfl⟩)))
      go_ret
      exact ⟨rfl, hbw⟩
end Go.Proofs.Ytnbbbgoecndjhaa
