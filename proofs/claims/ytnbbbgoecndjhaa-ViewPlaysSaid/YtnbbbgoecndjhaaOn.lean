/-
  Contracts of bytes.Equal and of on.
-/
import Derived.Test.YtnbbbgoecndjhaaFns
namespace Go.Proofs.Ytnbbbgoecndjhaa
open Go.ChangeShapes Go.WideShapes Go.ChangeAt Go.RowKit

theorem equal_ok (w : World) (a a' : Option Addr) (n c n' c' : Nat) (s s' : ByteArray) (h1 : (convert 23 9 (.slice a n c)).run Try.prog w = .ok (.string s) w) (h2 : (convert 23 9 (.slice a' n' c')).run Try.prog w = .ok (.string s') w) :
    Calls Try.prog 20 #[.slice a n c, .slice a' n' c'] w fun e w' => e = .returned (.bool (s.toList == s'.toList)) ∧ w = w' := by
  go_enter Try.func20, Try.ntmps20
  go_wp2
  go_ret
  exact ⟨rfl, rfl⟩

theorem VMem.putNext {w : World} {B vb mb n : Nat} {low next : Int} {M : Int → Option (List Int)} {F : Int → Value} (h : VMem w B vb mb n low next M F) (nx : Int) : VMem (w.setCell ⟨vb, 2, none⟩ (.int .u64 nx)) B vb mb n low nx M F := by
  have hne : mb ≠ vb := by
    obtain ⟨D, ⟨es, cl, hb, _⟩, _⟩ := h.map
    intro e
    subst e
    have := h.head
    unfold Whole at this
    rw [hb] at this
    cases this
  refine ⟨h.base, h.baseM, h.head.put 2 _, h.map.put (a := ⟨vb, 2, none⟩) hne _, h.absent, fun k xs hk => ?_⟩
  obtain ⟨g, c, cs, fr, q1, q2, q3⟩ := h.known k xs hk
  exact ⟨g, c, cs, fr, q1, (Below.heap_setCell w ⟨vb, 2, none⟩ (.int .u64 nx) g (type_ne q2 h.head (by decide))).trans q2, q3⟩

theorem VMem.drew {w : World} {B vb mb n : Nat} {low next : Int} {M : Int → Option (List Int)} {F : Int → Value} (h : VMem w B vb mb n low next M F) : VMem w.drew B vb mb n low next M F :=
  ⟨h.base, h.baseM, h.head, h.map, h.absent, h.known⟩

/-- What 'on' leaves. -/
def OnOk (w : World) (B vb mb n : Nat) (low next : Int) (M : Int → Option (List Int)) (F : Int → Value) (e : Ending) (w' : World) : Prop :=
  ∃ nx, e = .returned (.tuple #[]) ∧ VMem w' B vb mb n low nx M F ∧ Step B w w' ∧ low ≤ nx ∧ next ≤ nx ∧ nx ≤ 18446744073709551615 ∧ (∀ k, low ≤ k → next ≤ k → k < nx → M k ≠ none) ∧ M nx = none

def OnRel (w : World) (B vb mb n : Nat) (low next : Int) (M : Int → Option (List Int)) (F : Int → Value) (wr : World) : Prop :=
  ∃ nx, VMem wr B vb mb n low nx M F ∧ Step B w wr ∧ low ≤ nx ∧ next ≤ nx ∧ nx ≤ 18446744073709551615 ∧ (∀ k, low ≤ k → next ≤ k → k < nx → M k ≠ none)

def leftOf (vb : Nat) (wr : World) : Nat := match wr.cell? ⟨vb, 2, none⟩ with | some (.int _ k) => (18446744073709551615 - k).toNat | _ => 0

set_option maxRecDepth 100000 in
theorem on_ok (w : World) (B vb mb n : Nat) (low next : Int) (M : Int → Option (List Int)) (F : Int → Value) (h : VMem w B vb mb n low next M F) (hl0 : 0 ≤ low) (hl1 : low ≤ 18446744073709551615) (hn0 : 0 ≤ next) (hn1 : next ≤ 18446744073709551615) (hlast : M 18446744073709551615 = none) :
    Calls Try.prog 21 #[.pointer (some ⟨vb, 0, none⟩)] w (OnOk w B vb mb n low next M F) := by
  have c1 : w.cell? ⟨vb, 1, none⟩ = some (.int .u64 low) := h.head.cell 1
  have c2 : w.cell? ⟨vb, 2, none⟩ = some (.int .u64 next) := h.head.cell 2
  have f2 := h.head.free 2
  have hlt := h.head.lt
  have HV := Lib.hid h
  clear h
  go_enter Try.func21, Try.ntmps21
  go_wp2
  go_region
  obtain ⟨m0, hm0, m1, m2, m3, m4⟩ : ∃ m0 : Int, (if next < low then low else next) = m0 ∧ low ≤ m0 ∧ next ≤ m0 ∧ m0 ≤ 18446744073709551615 ∧ (m0 = low ∨ m0 = next) := by
    refine ⟨_, rfl, ?_⟩
    split <;> omega
  rw [hm0]
  clear hm0
  go_wp2
  go_loopw [] (fun wr => OnRel w B vb mb n low next M F wr) (fun wr => leftOf vb wr)
  case atStart => exact ⟨m0, (HV.out.putNext m0).drew, ((Step.refl B w).put HV.out.head HV.out.base 2 (.int .u64 m0)).drew, m1, m2, m3, fun k k1 k2 k3 => by omega⟩
  case round =>
    obtain ⟨nx, hV, hS, n1, n2, n3, hall⟩ := hrel
    have d0 : wr.cell? ⟨vb, 0, none⟩ = some (.map (some mb)) := hV.head.cell 0
    have d2 : wr.cell? ⟨vb, 2, none⟩ = some (.int .u64 nx) := hV.head.cell 2
    have df2 := hV.head.free 2
    have dlt := hV.head.lt
    have hlook := hV.drew.map.look (k := nx) (by omega) n3
    have HW := Lib.hid hV
    cases hM : M nx with
    | none =>
      have hF := hV.absent nx hM
      rw [hF] at hlook
      clear hV
      go_wp2
      go_region
      go_wp2
      refine bodyPost_ret (results_none rfl _ _ _) rfl ?_
      exact ⟨nx, rfl, HW.out.drew, hS.drew, n1, n2, n3, hall, hM⟩
    | some xs =>
      obtain ⟨g, c, cs, fr, q1, _, _⟩ := hV.known nx xs hM
      rw [q1] at hlook
      have n4 : nx < 18446744073709551615 := by
        rcases Int.lt_or_eq_of_le n3 with h | h
        · exact h
        · rw [h, hlast] at hM; cases hM
      clear hV
      go_wp2
      go_region
      go_wp2
      go_roundw
      case rel =>
        refine ⟨nx + 1, (HW.out.drew.putNext (nx + 1)), hS.drew.put HW.out.drew.head HW.out.base 2 _, by omega, by omega, by omega, fun k k1 k2 k3 => ?_⟩
        by_cases hk : k = nx
        · rw [hk, hM]; simp
        · exact hall k k1 k2 (by omega)
      case measure =>
        have e1 : ((wr.setCell ⟨vb, 2, none⟩ (.int .u64 (nx + 1))).drew.cell? ⟨vb, 2, none⟩) = some (.int .u64 (nx + 1)) := (HW.out.drew.putNext (nx + 1)).head.cell 2
        unfold leftOf
        rw [d2]
        simp only [e1]
        omega
end Go.Proofs.Ytnbbbgoecndjhaa
