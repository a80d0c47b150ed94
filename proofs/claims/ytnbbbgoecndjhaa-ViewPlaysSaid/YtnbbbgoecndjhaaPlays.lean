/-
  ViewPlays: for every script of acts the call returns true; no condition.
  Turned by hand from YtnbbbgoecndjhaaOwn (which began as the kit's proof shell), its hole closed by the walk of YtnbbbgoecndjhaaPlaysWalk.
-/
import Derived.Test.YtnbbbgoecndjhaaRows
import Derived.Test.YtnbbbgoecndjhaaPlaysWalk
import Derived.Deep.Slices
import Derived.WalkKit
import Derived.ProofKit
import Derived.OpenShut
import Derived.ShutString
import Derived.ChangeOld
import Derived.Below
namespace Go.Proofs.Ytnbbbgoecndjhaa.viewPlays
open Go.ChangeShapes Go.WideShapes Go.ChangeAt Go.RowKit
open Go.ChangeMaps (open_string shut_string)
set_option linter.unusedVariables false

theorem own : ownKnob Try.prog.godebug = none := by kernel_rfl
theorem laidOut : laidOutB Try.prog = true := by kernel_rfl

/-- An act in four cells from an address on. -/
def ActCells (w : World) (x : Addr) (kind pos : Int) (A : Option Addr) (L C : Nat) (Z : List Int) (most : Int) : Prop :=
  w.cell? x = some (.int .i64 kind) ∧ w.cell? (x.add 1) = some (.int .u64 pos) ∧ RowAt w (x.add 2) A L C Z ∧ w.cell? (x.add 3) = some (.int .i64 most) ∧ 0 ≤ pos ∧ pos ≤ 18446744073709551615

/-- What the walk is told of the script: it is nil; or it leads to acts. -/
def IsActs (w : World) (a : Option Addr) (len cap : Nat) : Prop :=
  (a = none ∧ len = 0 ∧ cap = 0) ∨ ∃ x : Addr, a = some x ∧ len ≤ cap ∧ cap ≤ maxLen ∧ ∀ r, r < cap → ∃ kind pos A L C Z most, ActCells w (x.add (r * 4)) kind pos A L C Z most

theorem body_at {H : Type} {enc : TypeId × Value → H} {w : World} {base fuel : Nat} {held : Bool} {x : Addr} {v : Value} {y : DataW H × List MemPlace} (hc : w.cell? x = some v) (h : DataW.trod enc Try.prog w base (fun _ => true) held fuel 23 [v] = some y) :
    ∃ A L C Z, RowAt w x A L C Z := by
  rcases open_ints Try.underlying23 Try.underlying5 (by kernel_rfl) h with ⟨hcs, _⟩ | ⟨b, l, c, zs, hcs, _, hl, hm, hz, _, hcell, hwz⟩
  · simp only [List.cons.injEq, and_true] at hcs
    subst hcs
    exact ⟨none, 0, 0, [], hc, by omega, by omega, rfl, by simp, fun _ => rfl, fun a h => by cases h⟩
  · simp only [List.cons.injEq, and_true] at hcs
    subst hcs
    have hz' : zs.length = c := by simpa using hz
    unfold maxLen at hm
    exact ⟨_, l, c, zs, hc, hl, by omega, hz', hwz, fun h => (by cases h), fun a h i hi => by injection h with h; subst h; exact hcell i (by omega)⟩

theorem open_acts {H : Type} {enc : TypeId × Value → H} {w : World} {base fuel : Nat} {held : Bool} {a : Option Addr} {len cap : Nat} {y : DataW H × List MemPlace} (h : DataW.trod enc Try.prog w base (fun _ => true) held fuel 37 [.slice a len cap] = some y) : IsActs w a len cap := by
  rcases Go.Deep.open_slice Try.underlying37 h with ⟨hcs, _⟩ | ⟨x, l, c, m, n, D, Pl, hcs, _, hl, hm, hmm, _, hi⟩
  · simp only [List.cons.injEq, and_true, Value.slice.injEq] at hcs
    obtain ⟨rfl, rfl, rfl⟩ := hcs
    exact .inl ⟨rfl, rfl, rfl⟩
  · simp only [List.cons.injEq, and_true, Value.slice.injEq] at hcs
    obtain ⟨rfl, rfl, rfl⟩ := hcs
    simp only [if_true] at hmm
    subst hmm
    refine .inr ⟨x, rfl, hl, hm, fun r hr => ?_⟩
    obtain ⟨cs', hc, ht⟩ := hi r hr
    have hC : Try.prog.cellsOf 42 = 4 := by kernel_rfl
    have k3 : Try.prog.cellsOf 3 = 1 := by kernel_rfl
    have k27 : Try.prog.cellsOf 27 = 1 := by kernel_rfl
    have k23 : Try.prog.cellsOf 23 = 1 := by kernel_rfl
    rw [hC] at hc
    obtain ⟨_, hlen, hat⟩ := World.cells?_some hc
    obtain ⟨ys, n', _, _, _, hyl, hf⟩ := DataW.trod_struct Try.underlying42 ht
    match cs', hlen with
    | [c0, c1, c2, c3], _ =>
      match ys, hyl with
      | [y0, y1, y2, y3], _ =>
        have f0 : DataW.trod enc Try.prog w base (fun _ => true) held n' 3 [c0] = some y0 := by have h : DataW.trod enc Try.prog w base (fun _ => true) held n' 3 (List.take (Try.prog.cellsOf 3) (List.drop 0 [c0, c1, c2, c3])) = some y0 := hf 0 _ rfl; rw [k3] at h; exact h
        have f1 : DataW.trod enc Try.prog w base (fun _ => true) held n' 27 [c1] = some y1 := by have h : DataW.trod enc Try.prog w base (fun _ => true) held n' 27 (List.take (Try.prog.cellsOf 27) (List.drop 1 [c0, c1, c2, c3])) = some y1 := hf 1 _ rfl; rw [k27] at h; exact h
        have f2 : DataW.trod enc Try.prog w base (fun _ => true) held n' 23 [c2] = some y2 := by have h : DataW.trod enc Try.prog w base (fun _ => true) held n' 23 (List.take (Try.prog.cellsOf 23) (List.drop 2 [c0, c1, c2, c3])) = some y2 := hf 2 _ rfl; rw [k23] at h; exact h
        have f3 : DataW.trod enc Try.prog w base (fun _ => true) held n' 3 [c3] = some y3 := by have h : DataW.trod enc Try.prog w base (fun _ => true) held n' 3 (List.take (Try.prog.cellsOf 3) (List.drop 3 [c0, c1, c2, c3])) = some y3 := hf 3 _ rfl; rw [k3] at h; exact h
        obtain ⟨v0, e0, _, _⟩ := DataW.trod_int Try.underlying3 f0
        obtain ⟨v1, e1, _, w1⟩ := DataW.trod_int Try.underlying27 f1
        obtain ⟨v3, e3, _, _⟩ := DataW.trod_int Try.underlying3 f3
        simp only [List.cons.injEq, and_true] at e0 e1 e3
        subst e0 e1 e3
        have g0 := hat 0 (by omega)
        have g1 := hat 1 (by omega)
        have g2 := hat 2 (by omega)
        have g3 := hat 3 (by omega)
        obtain ⟨A, L, C, Z, hR⟩ := body_at (g2.trans rfl) f2
        have hb := bounds_u64' w1
        refine ⟨v0, v1, A, L, C, Z, v3, ?_, g1, hR, g3, hb.1, hb.2⟩
        have : (x.add (r * 4)).add 0 = x.add (r * 4) := by rw [Go.Deep.add_add]; rfl
        rw [this] at g0
        exact g0

theorem walk (a0 : Option Addr) (len0 cap0 : Nat) (w : World) (w0 : IsActs w a0 len0 cap0) :
    Calls Try.prog 5 #[.slice a0 len0 cap0] w fun e w' => e = .returned (.bool true) ∧ Below w.heap.size w w' := by
  rcases w0 with ⟨rfl, rfl, rfl⟩ | ⟨x, rfl, hl, hm, hr⟩
  · exact plays_main 0 0 0 0 w (by omega) (fun h => by omega) (fun r h => by omega) none (fun h => by omega)
  · unfold maxLen at hm
    by_cases h0 : len0 = 0
    · subst h0
      exact plays_main 0 0 0 cap0 w (by omega) (fun h => by omega) (fun r h => by omega) _ (fun h => by omega)
    · obtain ⟨blk, off, spot⟩ := x
      obtain ⟨kind, pos, A, L, C, Z, most, c0, _⟩ := hr 0 (by omega)
      have hspot : spot = none := by simpa [Addr.add] using World.cell?_spot c0
      subst hspot
      have hadd : ∀ b o i, (⟨b, o, none⟩ : Addr).add i = ⟨b, o + i, none⟩ := fun b o i => Go.WideShapes.add_plain ..
      rw [hadd] at c0
      refine plays_main blk off len0 cap0 w (by omega) (fun _ => World.block_lt_of_cell? _ _ c0) (fun r hr' => ?_) _ (fun _ => rfl)
      obtain ⟨kind, pos, A, L, C, Z, most, d0, d1, d2, d3, d4, d5⟩ := hr r (by omega)
      rw [hadd] at d0 d1 d2 d3
      rw [hadd] at d1 d2 d3
      exact ⟨kind, pos, A, L, C, Z, most, d0, d1, d2, d3, d4, d5⟩

set_option maxRecDepth 100000 in
theorem lifted (os : Os) (started : os.Started) (H : Type) (enc : TypeId × Value → H) :
    ReturnsInHanded {} Try.checked os 5 .any (Rows.viewPlaysSpec.pre6 enc Try.prog Try.f5 Rows.viewPlaysRow.domain false) (Rows.viewPlaysSpec.post enc Try.prog Try.f5 false true false false) := by
  refine returnsInHanded_of_change (C := Try.checked) own started (by kernel_rfl) Try.func5
    (ChangeSpec.witness6 (enc := enc) (C := Try.checked) false ⟨#[], #[.slice none 0 0], []⟩ 8 (by kernel_rfl) (by kernel_rfl) (by kernel_rfl) (by kernel_rfl)) ?_
  intro W base args ds gs before hval0 hW hcnd _
  have hval : ∀ (j : Nat) t v, Try.f5.params[j]? = some t → args[j]? = some v → Value.okWide Try.prog W .any base t v := hval0
  have hW' := hW
  obtain ⟨p, q, hA0, hV, rfl, hfz, hnd⟩ := hW
  have hA : DataW.TrodAll enc Try.prog W 0 (fun _ => true) true Try.f5.params.toList args.toList ds p := hA0
  rw [Try.params5] at hA hval
  obtain ⟨v0, vs0, d0, ds0, p0, q0, hargs, rfl, rfl, h0, r0⟩ := trodAll_cons hA
  obtain ⟨rfl, rfl, rfl⟩ := trodAll_nil r0
  obtain rfl : args = #[v0] := by cases args; simp_all
  obtain ⟨rfl, rfl⟩ := trodVars_none hV
  obtain ⟨a0, len0, cap0, rfl⟩ := okWide_slice Try.underlying37 (hval 0 37 v0 rfl rfl)
  have k0 := h0
  have lt0 : ∀ x ∈ p0, x.block < W.heap.size := by obtain ⟨m, hm⟩ := k0; exact DataW.trod_lt m _ _ _ hm
  have w0 : IsActs W a0 len0 cap0 := by
    obtain ⟨fuel, hf⟩ := h0
    exact open_acts hf
  clear hA0 hval0
  refine (walk a0 len0 cap0 W w0).mono fun e W' ⟨he, bel⟩ => ?_
  subst he
  exact ⟨_, rfl, _, _, _, [], _, [], hW', trodAll_mk1 (shut_bool Try.underlying4 _), (trodAll_cons_mk (Below.trod laidOut (by kernel_rfl) (of_decide_eq_true (by kernel_rfl)) k0 bel lt0) trodAll_mk0), rfl, bel.frame _, fun h => by cases h⟩

theorem over : Rows.viewPlaysRow.holds Try.pinned (OpenSpec.ofChange Rows.viewPlaysSpec) :=
  OpenClaim.holds_of_wide 5 Try.f5 rfl rfl rfl rfl rfl rfl rfl ⟨rfl, rfl, rfl, rfl, rfl⟩ rfl rfl rfl rfl rfl (by kernel_rfl) Try.func5 (by kernel_rfl)
    (of_decide_eq_true (by kernel_rfl)) (by unfold Func.isWrapper; first | (rw [if_pos (by decide +kernel)]; kernel_rfl) | (rw [if_neg (by decide +kernel)]; exact ⟨rfl, rfl⟩))
    (fun os started H enc _ => lifted os started H enc)

end Go.Proofs.Ytnbbbgoecndjhaa.viewPlays

namespace Go.Proofs.Ytnbbbgoecndjhaa
/-- The statement. -/
theorem viewPlays_holds : Rows.ViewPlaysSaid := viewPlays.over
#print axioms viewPlays_holds
end Go.Proofs.Ytnbbbgoecndjhaa
