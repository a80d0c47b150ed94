/-
  The contract of the view's iterator.
-/
import Derived.Test.YtnbbbgoecndjhaaRng
import Derived.Sort.QuietIn
import Derived.Sort.BigQuietIn
namespace Go.Proofs.Ytnbbbgoecndjhaa
open Go.ChangeShapes Go.WideShapes Go.ChangeAt Go.RowKit Go.Shelf
set_option linter.unusedVariables false

attribute [local go_sem] Oper.semAt_some

/-- Between two yields the iterator makes blocks, and writes its own variable's box. -/
def Ab (Bp : Nat) (A C : World) : Prop := (∃ row, A.grownBy C row ∧ (row = none ∨ row = some Bp)) ∧ ∀ cs, Whole A Bp 27 cs → ∃ cs', Whole C Bp 27 cs'
/-- What a round keeps for it. -/
def Kq (n₀ Bv Bp : Nat) (A C : World) : Prop := Below n₀ A C ∧ C.heap[Bv]? = A.heap[Bv]? ∧ C.heap[Bp]? = A.heap[Bp]?
/-- A value is a slice of just these bytes, in a block of its own, from H on. -/
def Bs (H : Nat) (v : Value) (xs : List Int) (W : World) : Prop :=
  ∃ (g cap : Nat) (cs : Array Value), v = .slice (some ⟨g, 0, none⟩) xs.length cap ∧ Whole W g 5 cs ∧ (∀ (j : Nat) (u : Value), (xs.map (Value.int .u8))[j]? = some u → cs[j]? = some u) ∧ H ≤ g
def Pre (H : Nat) (M : Int → Option (List Int)) (pos : Int) (k : Nat) (v : Value) (W : World) : Prop := ∃ xs, M (pos + k) = some xs ∧ Bs H v xs W

def leftAt (Bp : Nat) (wr : World) : Nat := match wr.cell? ⟨Bp, 0, none⟩ with | some (.int _ k) => (18446744073709551615 - k).toNat | _ => 0

theorem Ab.below {Bp : Nat} {A C : World} (h : Below A.heap.size A C) : Ab Bp A C := ⟨⟨none, ⟨h.os, h.tape, h.output, h.size, fun k hk _ => h.block k hk⟩, .inl rfl⟩, fun cs hc => ⟨cs, hc.below h hc.lt⟩⟩

theorem below_drewN (B : Nat) (w : World) (m : Nat) : Below B w (w.drewN m) := ⟨rfl, rfl, rfl, Nat.le_refl _, fun _ _ => rfl⟩
theorem Ab.drewN (Bp : Nat) (w : World) (m : Nat) : Ab Bp w (w.drewN m) := ⟨⟨none, ⟨rfl, rfl, rfl, Nat.le_refl _, fun _ _ _ => rfl⟩, .inl rfl⟩, fun cs hc => ⟨cs, hc⟩⟩
theorem VMem.drewN {w : World} {B vb mb n : Nat} {low next : Int} {M : Int → Option (List Int)} {F : Int → Value} (h : VMem w B vb mb n low next M F) (m : Nat) : VMem (w.drewN m) B vb mb n low next M F :=
  ⟨h.base, h.baseM, h.head, h.map, h.absent, h.known⟩

/-- What Clone leaves to the iterator. -/
theorem iter_clone {n₀ Bv Bp g4 cap : Nat} {wz w4 w0 : World} {M : Int → Option (List Int)} {pos q : Int} {vb : Nat} {J : List Value → World → Prop} {pre : List Value} {xs : List Int} {cs : Array Value} (hJ : ∀ pre A C, J pre A → Ab Bp A C → J pre C)
    (hB : Below w0.heap.size w0 wz) (hn : n₀ = w0.heap.size) (hv : Whole wz Bv 25 #[.pointer (some ⟨vb, 0, none⟩)]) (hp : Whole wz Bp 27 #[.int .u64 q]) (hM : M q = some xs) (hq : pos + pre.length = q) (hj : J pre wz)
    (hw4 : Whole w4 g4 5 cs) (hx4 : ∀ (j : Nat) (u : Value), (xs.map (Value.int .u8))[j]? = some u → cs[j]? = some u) (hg4 : wz.drew.heap.size ≤ g4) (hb4 : Below wz.drew.heap.size wz.drew w4) :
    J pre w4 ∧ Below wz.heap.size wz w4 ∧ Below w0.heap.size w0 w4 ∧ Whole w4 Bv 25 #[.pointer (some ⟨vb, 0, none⟩)] ∧ Whole w4 Bp 27 #[.int .u64 q] ∧ Pre n₀ M pos pre.length (.slice (some ⟨g4, 0, none⟩) xs.length cap) w4 := by
  have hb : Below wz.heap.size wz w4 := (Below.refl _ _).drew.trans hb4
  have h0 := hB.size
  exact ⟨hJ _ _ _ hj (Ab.below hb), hb, hB.trans (hb.mono h0), hv.below hb hv.lt, hp.below hb hp.lt, xs, by rw [hq]; exact hM, g4, cap, cs, rfl, hw4, hx4, by have : wz.heap.size ≤ g4 := hg4; omega⟩

theorem Ab.set (Bp : Nat) (w : World) (u : Value) : Ab Bp w (w.setCell ⟨Bp, 0, none⟩ u) := ⟨⟨some Bp, gr_set ⟨rfl, rfl, rfl, Nat.le_refl _, fun _ _ _ => rfl⟩ 0 u, .inr rfl⟩, fun cs hc => ⟨_, hc.put 0 u⟩⟩

/-- What a round leaves to the iterator. -/
theorem iter_round {Bv Bp : Nat} {w4 w5 w0 : World} {cv cp : Array Value} (hm4 : Below w0.heap.size w0 w4) (hv4 : Whole w4 Bv 25 cv) (hp4 : Whole w4 Bp 27 cp) (hk : Kq w0.heap.size Bv Bp w4 w5) :
    Below w0.heap.size w0 w5 ∧ Whole w5 Bv 25 cv ∧ Whole w5 Bp 27 cp :=
  ⟨hm4.trans hk.1, hk.2.1.trans hv4, hk.2.2.trans hp4⟩

set_option maxRecDepth 100000 in
set_option maxHeartbeats 4000000 in
theorem from1_in (F : Fence) (n : Nat) (h25 : F.fn 25) (h23 : F.fn 23) (hro : F.round = none) (hn : 1 ≤ n) (l Bv Bp : Nat) (w0 W : World) (B vb mb nn : Nat) (low next : Int) (M : Int → Option (List Int)) (FF : Int → Value) (pos : Int)
    (hV : VMem w0 B vb mb nn low next M FF) (hshort : ∀ k xs, M k = some xs → xs.length ≤ 4096) (hlast : M 18446744073709551615 = none) (hp0 : 0 ≤ pos) (hp1 : pos ≤ 18446744073709551615)
    (hb : Below w0.heap.size w0 W) (hv : Whole W Bv 25 #[.pointer (some ⟨vb, 0, none⟩)]) (hp : Whole W Bp 27 #[.int .u64 pos]) (hBv : w0.heap.size ≤ Bv) (hBp : w0.heap.size ≤ Bp)
    (J Jx : List Value → World → Prop) (hJ : ∀ pre A C, J pre A → Ab Bp A C → J pre C)
    (hY : ∀ pre v W1, J pre W1 → Pre w0.heap.size M pos pre.length v W1 → YieldAt F (n - 1) Try.prog l #[v] W1 (Told J Jx (Kq w0.heap.size Bv Bp) pre v W1)) (h0 : J [] W) :
    CallsIn F n Try.prog 25 #[.func (.yield l) #[] #[], .pointer (some ⟨Bv, 0, none⟩), .pointer (some ⟨Bp, 0, none⟩)] W fun e W' => (∃ v, e = .returned v) ∧ ((∃ xs, M (pos + xs.length) = none ∧ J xs W') ∨ (∃ xs, Jx xs W')) := by
  obtain ⟨Ff, Fr, Fd⟩ := F
  simp only at hro h25 h23
  subst hro
  refine callsIn_of_wp Try.func25 rfl h25 ?_ rfl
  simp only [Try.ntmps25, List.size_toArray, List.length_cons, List.length_nil, Nat.reduceAdd, Nat.reduceSub, Array.replicate_succ, Array.replicate_zero, List.push_toArray, List.append_toArray, List.nil_append, List.cons_append]
  have hnn := @run_neq_slice_nil_any Try.prog
  gi_wp2
  gi_loopw [] (fun wr => ∃ pre : List Value, J pre wr ∧ Below w0.heap.size w0 wr ∧ Whole wr Bv 25 #[.pointer (some ⟨vb, 0, none⟩)] ∧ Whole wr Bp 27 #[.int .u64 (pos + pre.length)] ∧ pos + pre.length ≤ 18446744073709551615) (fun wr => leftAt Bp wr)
  case atStart => exact ⟨[], h0, hb, hv, by simpa using hp, by simpa using hp1⟩
  case round =>
    obtain ⟨pre, hj, hbe, hv', hp', hle⟩ := hrel
    have HV' := hV.later hbe
    have c0 : wr.cell? ⟨vb, 0, none⟩ = some (.map (some mb)) := HV'.head.cell 0
    have cv : wr.cell? ⟨Bv, 0, none⟩ = some (.pointer (some ⟨vb, 0, none⟩)) := hv'.cell 0
    have cp : wr.cell? ⟨Bp, 0, none⟩ = some (.int .u64 (pos + pre.length)) := hp'.cell 0
    generalize hq : pos + pre.length = q at *
    have hlook := fun m : Nat => (HV'.drewN m).map.look (k := q) (by omega) hle
    have HB := Lib.hid hbe
    have HW := Lib.hid HV'
    have hq0 : 0 ≤ q := by omega
    have HQ := Lib.hid hq
    cases hM : M q with
    | none =>
      have hF := HV'.absent q hM
      rw [hF] at hlook
      clear hV hb HV' hbe hq
      gi_wp2
      gi_quiet (fail)
      gi_wp2
      go_end0
      refine ⟨⟨_, rfl⟩, .inl ⟨pre, ?_, hJ _ _ _ hj (Ab.drewN _ _ _)⟩⟩
      rw [HQ.out]; exact hM
    | some xs =>
      obtain ⟨g, c, hF, hrow⟩ := HV'.row hM (hshort _ _ hM)
      rw [hF] at hlook
      have hlt : q < 18446744073709551615 := by
        rcases Int.lt_or_eq_of_le hle with h | h
        · exact h
        · rw [h, hlast] at hM; cases hM
      have HL : Hid (leftAt Bp wr = (18446744073709551615 - q).toNat) := by unfold leftAt Hid; rw [cp]
      have HR := Lib.hid hrow
      have HM := Lib.hid hM
      have HF := Lib.hid hF
      clear hV hb HV' hbe hq hrow hF hM
      gi_wp2
      gi_quiet (fail)
      clear hlook
      have hj2 : J pre (wr.drewN nq) := hJ _ _ _ hj (Ab.drewN _ _ _)
      have HV2 := Lib.hid (HW.out.drewN nq)
      have HB2 : Hid (Below w0.heap.size w0 (wr.drewN nq)) := HB.out.trans (below_drewN _ _ _)
      have HR2 : Hid (Row (wr.drewN nq) (some ⟨g, 0, none⟩) xs.length xs) := HR.out.later (below_drewN _ _ _)
      have hv2 : Whole (wr.drewN nq) Bv 25 #[.pointer (some ⟨vb, 0, none⟩)] := hv'.drewN nq
      have hp2 : Whole (wr.drewN nq) Bp 27 #[.int .u64 q] := hp'.drewN nq
      clear c0 cv cp hj HB HW HR hv' hp'
      generalize wr.drewN nq = wz at *
      have c0 : wz.cell? ⟨vb, 0, none⟩ = some (.map (some mb)) := HV2.out.head.cell 0
      have cv : wz.cell? ⟨Bv, 0, none⟩ = some (.pointer (some ⟨vb, 0, none⟩)) := hv2.cell 0
      have cp : wz.cell? ⟨Bp, 0, none⟩ = some (.int .u64 q) := hp2.cell 0
      have hlook := HV2.out.drew.map.look (k := q) hq0 hle
      have hFq := HF.out
      rw [hFq] at hlook
      clear hFq
      have hsrc : Src wz.drew (some ⟨g, 0, none⟩) xs.length (xs.map (Value.int .u8)) := (HR2.out.later (Below.refl _ _).drew).src
      obtain ⟨s1, s2, s3, s4⟩ := hsrc
      have S1 := Lib.hid s1
      have S3 := Lib.hid s3
      have S4 : Hid (∀ j u, (xs.map (Value.int .u8))[j]? = some u → wz.drew.cell? ((⟨g, 0, none⟩ : Addr).add j) = some u) := by
        rcases s4 with ⟨h, _⟩ | ⟨ad, h, hc⟩
        · cases h
        · injection h with h; subst h; exact hc
      clear s1 s3 s4
      gi_wp2
      gi_region_with (first | (refine ⟨h23, ?_⟩; gi_at_call 23; (refine (clone_in _ _ h23 rfl ⟨g, 0, none⟩ xs.length c _ _ S1.out s2 S3.out S4.out).mono ?_); rintro e w4 ⟨g4, cap, cs, rfl, hw4, hx4, hg4, hb4⟩; obtain ⟨hj4, hk4, hm4, hv4, hp4, hpre⟩ := iter_clone (n₀ := w0.heap.size) (cap := cap) hJ HB2.out rfl hv2 hp2 HM.out HQ.out hj2 hw4 hx4 hg4 hb4; obtain ⟨fn, tmps, assign, body, hy, hRd⟩ := hY _ _ _ hj4 hpre; clear hpre hw4 hx4) | ((first | refine ⟨fun _ => hn, ?_⟩ | skip); refine hRd.mono ?_; rintro e w5 ⟨bb, rfl, ht5, hf5⟩))
      all_goals
        cases bb with
        | false =>
          have hx := hf5 rfl
          clear ht5 hf5 hk4 hm4 hb4 hg4 hj4 hY hJ
          gi_wp2
          refine bodyPost_ret (results_none rfl _ _ _) rfl ?_
          exact ⟨⟨_, rfl⟩, .inr ⟨_, hx⟩⟩
        | true =>
          obtain ⟨hj5, hk5⟩ := ht5 rfl
          obtain ⟨hb5, hv5, hp5⟩ := iter_round hm4 hv4 hp4 hk5
          have c5 := hp5.cell 0
          have f5 := hp5.free 0
          have HB5 := Lib.hid hb5
          have HJ5 := Lib.hid hj5
          have HJ := Lib.hid hJ
          clear ht5 hf5 hk4 hm4 hb4 hg4 hj4 hY hJ hk5 hb5 hj5
          gi_wp2
          go_roundw
          case rel =>
            have hq1 := HQ.out
            refine ⟨pre ++ [_], HJ.out _ _ _ HJ5.out (Ab.set _ _ _), HB5.out.setCell (p := ⟨Bp, 0, none⟩) hBp _, hv5.apart (p := ⟨Bp, 0, none⟩) (type_ne hv5 hp5 (by decide)) _, ?_, ?_⟩
            · have hset := hp5.put 0 (.int .u64 (q + 1))
              simp only [List.length_append, List.length_cons, List.length_nil]
              have e : pos + ((pre.length + (0 + 1) : Nat) : Int) = q + 1 := by omega
              rw [e]
              exact hset
            · simp only [List.length_append, List.length_cons, List.length_nil]; omega
          case measure =>
            have hset := (hp5.put 0 (.int .u64 (q + 1))).cell 0
            rw [HL.out]
            unfold leftAt
            simp only [List.setIfInBounds_toArray, List.set_cons_zero, List.getElem?_toArray, List.getElem?_cons_zero] at hset
            rw [hset]
            simp only
            omega

theorem from_in (F : Fence) (n : Nat) (h22 : F.fn 22) (hro : F.round = none) (p : Option Addr) (pos : Int) (w : World) :
    CallsIn F n Try.prog 22 #[.pointer p, .int .u64 pos] w fun e w' => e = .returned (.func (.func 25) #[] #[.pointer (some ⟨w.heap.size, 0, none⟩), .pointer (some ⟨w.heap.size + 1, 0, none⟩)]) ∧ w' = (w.alloc (.cells #[.pointer p] 25)).alloc (.cells #[.int .u64 pos] 27) := by
  refine callsIn_of_wp Try.func22 rfl h22 ?_ hro
  simp only [Try.ntmps22, List.size_toArray, List.length_cons, List.length_nil, Nat.reduceAdd, Nat.reduceSub, Array.replicate_succ, Array.replicate_zero, List.push_toArray, List.append_toArray, List.nil_append, List.cons_append]
  gi_wp2
  go_ret
  exact ⟨rfl, rfl⟩

theorem from_seq (F : Fence) (n : Nat) (h25 : F.fn 25) (h23 : F.fn 23) (hro : F.round = none) (hn : 1 ≤ n) (Bv Bp : Nat) (w0 w : World) (B vb mb nn : Nat) (low next : Int) (M : Int → Option (List Int)) (FF : Int → Value) (pos : Int)
    (hV : VMem w0 B vb mb nn low next M FF) (hshort : ∀ k xs, M k = some xs → xs.length ≤ 4096) (hlast : M 18446744073709551615 = none) (hp0 : 0 ≤ pos) (hp1 : pos ≤ 18446744073709551615)
    (hb : Below w0.heap.size w0 w) (hv : Whole w Bv 25 #[.pointer (some ⟨vb, 0, none⟩)]) (hp : Whole w Bp 27 #[.int .u64 pos]) (hBv : w0.heap.size ≤ Bv) (hBp : w0.heap.size ≤ Bp) :
    SeqV F n Try.prog 25 #[.pointer (some ⟨Bv, 0, none⟩), .pointer (some ⟨Bp, 0, none⟩)] (Ab Bp) (Kq w0.heap.size Bv Bp) (Pre w0.heap.size M pos) (fun xs => M (pos + xs.length) = none) w := fun l J Jx W hW hJ hY h0 =>
  from1_in F n h25 h23 hro hn l Bv Bp w0 W B vb mb nn low next M FF pos hV hshort hlast hp0 hp1 (hb.trans (hW.mono hb.size)) (hv.below hW hv.lt) (hp.below hW hp.lt) hBv hBp J Jx hJ hY h0
end Go.Proofs.Ytnbbbgoecndjhaa
