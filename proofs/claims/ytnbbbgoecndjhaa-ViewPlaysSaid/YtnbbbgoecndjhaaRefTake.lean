/-
  The contract of the reference's Take.
-/
import Derived.Test.YtnbbbgoecndjhaaRefGet
namespace Go.Proofs.Ytnbbbgoecndjhaa
open Go.ChangeShapes Go.WideShapes Go.ChangeAt Go.RowKit
set_option linter.unusedVariables false

theorem info9 : (Try.prog.info? 9).map (fun i => (i.zero, i.size, i.bytes)) = some (some (.string ⟨#[]⟩), 1, 16) := by kernel_rfl

/-- The strings that are told from a position on. -/
def strsAt (M : Int → Option (List Int)) (pos : Int) (q : Nat) : List Value := (List.range q).map fun i : Nat => .string (strOfNums ((M (pos + (i : Int))).getD []))
theorem strsAt_succ (M : Int → Option (List Int)) (pos : Int) (q : Nat) : strsAt M pos (q + 1) = strsAt M pos q ++ [.string (strOfNums ((M (pos + (q : Int))).getD []))] := by simp [strsAt, List.range_succ]
theorem strsAt_len (M : Int → Option (List Int)) (pos : Int) (q : Nat) : (strsAt M pos q).length = q := by simp [strsAt]

/-- What Take of the reference tells. -/
def RTaken (w : World) (M : Int → Option (List Int)) (pos : Int) (N : Nat) (e : Ending) (w' : World) : Prop :=
  ∃ oa oc, e = .returned (.tuple #[.slice oa N oc, .int .u64 (pos + (N : Int))]) ∧ w'.ownsRow w.heap.size 9 1 (.slice oa N oc) N (strsAt M pos N) ∧ Below w.heap.size w w'

/-- What stands in its loop. -/
structure TS (w : World) (B : Nat) (a : Option Addr) (n c : Nat) (ks : KL) (low pos : Int) (q : Nat) (oa : Option Addr) (oc : Nat) (wr : World) : Prop where
  ref : RefRow wr B a n c ks
  box : Whole wr w.heap.size 40 #[.slice a n c, .int .u64 low]
  below : Below w.heap.size w wr
  row : wr.ownsRow (w.heap.size + 1) 9 1 (.slice oa q oc) q (strsAt (lookK ks) pos q)

theorem TS.later {w : World} {B : Nat} {a : Option Addr} {n c : Nat} {ks : KL} {low pos : Int} {q : Nat} {oa : Option Addr} {oc : Nat} {wr w2 : World} (h : TS w B a n c ks low pos q oa oc wr) (hb : Below wr.heap.size wr w2) : TS w B a n c ks low pos q oa oc w2 :=
  ⟨h.ref.later hb, h.box.below hb h.box.lt, h.below.trans (hb.mono h.below.size), h.row.kept (row := none) ⟨hb.os, hb.tape, hb.output, hb.size, fun k hk _ => hb.block k hk⟩ (by cases hv : (Value.slice oa q oc).ownBlock <;> simp)⟩

theorem TS.more {w : World} {B : Nat} {a : Option Addr} {n c : Nat} {ks : KL} {low pos : Int} {q : Nat} {oa : Option Addr} {oc : Nat} {w2 w3 : World} {tmp : Obj} {xs : List Int} {v' : Value} (h : TS w B a n c ks low pos q oa oc w2) (hl : lookK ks (pos + (q : Int)) = some xs)
    (hown : w3.ownsRow (w.heap.size + 1) 9 1 v' (q + 1) (strsAt (lookK ks) pos q ++ [.string (strOfNums xs)])) (hg : (w2.alloc tmp).grownBy w3 (Value.slice oa q oc).ownBlock) :
    ∃ oa' oc', v' = .slice oa' (q + 1) oc' ∧ TS w B a n c ks low pos (q + 1) oa' oc' w3 := by
  obtain ⟨g, cap, rfl⟩ := ownsRow_succ hown
  have hne : ∀ k, (∃ t cs f, w2.heap[k]? = some (.cells cs t f) ∧ t ≠ 9) → some k ≠ (Value.slice oa q oc).ownBlock := fun k ⟨t, cs, f, hk, ht⟩ => own_ne h.row hk (Ne.symm ht)
  have hrow := hown
  rw [show strsAt (lookK ks) pos q ++ [Value.string (strOfNums xs)] = strsAt (lookK ks) pos (q + 1) by rw [strsAt_succ, hl]; rfl] at hrow
  have hb0 : Below w.heap.size w (w2.alloc tmp) := h.below.alloc h.below.size _
  refine ⟨_, _, rfl, ⟨?_, ?_, ?_, hrow⟩⟩
  · obtain ⟨h1, ⟨h2, h3⟩, h4⟩ := h.ref
    refine ⟨h1, ⟨h2, ?_⟩, h4⟩
    rcases h3 with h3 | ⟨g', cap', cur, q1, q2, q3, q4⟩
    · exact .inl h3
    · exact .inr ⟨g', cap', cur, q1, q2, (hg.block g' (by have := heap_lt q3; simp; omega) (hne g' ⟨_, _, _, q3, by decide⟩)).trans ((Below.heap_alloc _ _ _ (heap_lt q3)).trans q3), q4⟩
  · exact ((h.box.alloc tmp).grown hg (hne _ ⟨_, _, _, h.box, by decide⟩))
  · exact hb0.grown hg (by have := h.below.size; simp; omega) (fun k hk => by have := (h.row.lt _ hk).1; omega)

set_option maxRecDepth 100000 in
set_option maxHeartbeats 1000000 in
theorem rtake_ok (w : World) (B : Nat) (a : Option Addr) (n c : Nat) (ks : KL) (low fr pos most : Int) (N : Nat) (h : RefRow w B a n c ks) (hn : n ≤ 4096) (hlast : lookK ks 18446744073709551615 = none) (hf0 : 0 ≤ fr) (hf1 : fr ≤ 18446744073709551615) (hl0 : 0 ≤ low) (hl1 : low ≤ 18446744073709551615)
    (hpos : (if fr < low then low else fr) = pos) (hm : most ≤ 1000) (hN : N ≤ most.toNat) (hall : ∀ i, i < N → lookK ks (pos + (i : Int)) ≠ none) (hend : N = most.toNat ∨ lookK ks (pos + (N : Int)) = none) :
    Calls Try.prog 17 #[.agg #[.slice a n c, .int .u64 low], .int .u64 fr, .int .i64 most] w (RTaken w (lookK ks) pos N) := by
  obtain ⟨i0, hi, hz0, hz1, hz2⟩ := info_parts info9
  have hb : Below w.heap.size w (w.alloc (.cells #[.slice a n c, .int .u64 low] 40)) := (Below.refl _ _).alloc (Nat.le_refl _) _
  have hW : Whole (w.alloc (.cells #[.slice a n c, .int .u64 low] 40)) w.heap.size 40 #[.slice a n c, .int .u64 low] := Whole.made _ _ _
  have hr := h.later hb
  have hsz0 : (w.alloc (.cells #[.slice a n c, .int .u64 low] 40)).heap.size = w.heap.size + 1 := by simp
  have hT0 : Hid (TS w B a n c ks low pos 0 none 0 (w.alloc (.cells #[.slice a n c, .int .u64 low] 40))) := ⟨hr, hW, hb, World.ownsRow_nil _ _ _ _⟩
  have hp1 : 0 ≤ pos ∧ pos ≤ 18446744073709551615 := by split at hpos <;> omega
  have htop : ∀ i : Nat, i < N → pos + (i : Int) < 18446744073709551615 := by
    intro i
    induction i with
    | zero =>
      intro h0
      rcases Int.lt_or_eq_of_le hp1.2 with h | h
      · simpa using h
      · have := hall 0 h0; rw [h] at this; simp [hlast] at this
    | succ i ih =>
      intro h0
      have h1 := ih (by omega)
      rcases Int.lt_or_eq_of_le (show pos + ((i + 1 : Nat) : Int) ≤ 18446744073709551615 by omega) with h | h
      · exact h
      · have := hall (i + 1) h0; rw [h] at this; exact absurd hlast this
  have hNm : (N : Int) ≤ most ∨ N = 0 := by omega
  have HALL := Lib.hid hall
  have HEND := Lib.hid hend
  have HTOP := Lib.hid htop
  have HP := Lib.hid hpos
  have HLA := Lib.hid hlast
  clear hb hW hr hsz0 h hall hend htop hpos hlast
  have hcs : fr < low ∨ ¬ fr < low := by omega
  rcases hcs with hfl | hfl
  all_goals
    go_enter Try.func17, Try.ntmps17
    go_wp2
    go_loopw [1, 8] (fun x out wr => ∃ (q : Nat) (oa : Option Addr) (oc : Nat), q ≤ N ∧ x = .int .u64 (pos + (q : Int)) ∧ out = .slice oa q oc ∧ TS w B a n c ks low pos q oa oc wr) (fun _ out _ => N - (match out with | .slice _ k _ => k | _ => 0))
    case atStart => exact ⟨0, none, 0, by omega, congrArg (Value.int .u64) (by have := HP.out; split at this <;> simp <;> omega), rfl, hT0.out⟩
    case round =>
      obtain ⟨q, oa, oc, hq, rfl, rfl, hTS⟩ := hrel
      have HTS := Lib.hid hTS
      have c0 : wr.cell? ⟨w.heap.size, 0, none⟩ = some (.slice a n c) := hTS.box.cell 0
      have c1 : wr.cell? ⟨w.heap.size, 1, none⟩ = some (.int .u64 low) := hTS.box.cell 1
      have hblt := hTS.box.lt
      clear hTS
      by_cases hqN : q < N
      · have hqm : (q : Int) < most := by omega
        have hqt := HTOP.out q hqN
        cases hlk : lookK ks (pos + (q : Int)) with
        | none => exact absurd hlk (HALL.out q hqN)
        | some xs =>
          obtain ⟨i, g, hii, ha, hg, hcell, hcall⟩ := find_some _ B a n c ks low _ xs HTS.out.ref hn hlk
          have HC := Lib.hid hcall
          have HCE := Lib.hid hcell
          have HLK := Lib.hid hlk
          have HAA := Lib.hid ha
          subst ha
          clear hcall hcell hlk
          go_wp2_with (first
            | (go_at_call 24; go_loud ((with_reducible refine HC.out.mono ?_); rintro e w2 ⟨rfl, hb2⟩; clear HC; have HT2 := Lib.hid (HTS.out.later hb2); have d0 : w2.cell? ⟨w.heap.size, 0, none⟩ = some (.slice (some ⟨g, 0, none⟩) n c) := HT2.out.box.cell 0; have d1 := (hb2.cell (p := ⟨g, i * 2 + 1, none⟩) hg).trans HCE.out; have d2 : g < w2.heap.size := Nat.lt_of_lt_of_le hg hb2.size; have d3 := HT2.out.box.lt))
            | (at_builtin; go_loud (refine wpList_append_own _ rfl _ _ 49 rfl (w.heap.size + 1) 9 i0 (.string ⟨#[]⟩) 1 16 Try.underlying49 hi hz0 hz1 hz2 rfl (by decide) _ _ _ rfl (HT2.out.row.alloc _) ⟨w2.heap.size, 0, none⟩ 1 1 [.string (strOfNums xs)] rfl rfl (cell_one_new _ _ _) (by simp [Value.oneCell']) (by simp only [maxLen]; omega) (by omega) (by simp; omega) ?_; intro v' w3 hown' hgrow _; obtain ⟨oa', oc', rfl, hT3⟩ := HT2.out.more HLK.out hown' hgrow; have HT3 := Lib.hid hT3; clear hT3 hown' hgrow)))
          go_roundw
          case rel => exact ⟨q + 1, oa', oc', by omega, by go_num, rfl, HT3.out⟩
          case measure => simp; omega
      · obtain rfl : q = N := by omega
        by_cases hqm : (q : Int) < most
        · have hnone : lookK ks (pos + (q : Int)) = none := by
            rcases HEND.out with h | h
            · omega
            · exact h
          have HC := Lib.hid (find_none _ B a n c ks low _ HTS.out.ref hn hnone)
          clear hnone
          go_wp2_with (first
            | (go_at_call 24; go_loud ((with_reducible refine HC.out.mono ?_); rintro e w2 ⟨rfl, hb2⟩)))
          go_ret2
          have hT2 := HTS.out.later hb2
          exact ⟨oa, oc, rfl, ⟨hT2.row.1, by rcases hT2.row.2 with h | ⟨g, cap, cur, q1, q2, q3⟩; exact .inl h; exact .inr ⟨g, cap, cur, q1, by omega, q3⟩⟩, hT2.below⟩
        · go_wp2
          go_ret2
          have hT2 := HTS.out
          exact ⟨oa, oc, rfl, ⟨hT2.row.1, by rcases hT2.row.2 with h | ⟨g, cap, cur, q1, q2, q3⟩; exact .inl h; exact .inr ⟨g, cap, cur, q1, by omega, q3⟩⟩, hT2.below⟩
end Go.Proofs.Ytnbbbgoecndjhaa
