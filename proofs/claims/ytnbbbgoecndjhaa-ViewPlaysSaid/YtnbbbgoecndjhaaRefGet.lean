/-
  The contracts of the reference's Get, Next and Take.
-/
import Derived.Test.YtnbbbgoecndjhaaRefWd
namespace Go.Proofs.Ytnbbbgoecndjhaa
open Go.ChangeShapes Go.WideShapes Go.ChangeAt Go.RowKit
set_option linter.unusedVariables false

/-- What Get tells: bytes, and a code. -/
def gb (M : Int → Option (List Int)) (low pos : Int) : List Int := if pos < low then [] else (M pos).getD []
def gc (M : Int → Option (List Int)) (low pos : Int) : Int := if pos < low then 35 else if M pos = none then 36 else 0

theorem rget_ok (w : World) (B : Nat) (a : Option Addr) (n c : Nat) (ks : KL) (low pos : Int) (h : RefRow w B a n c ks) (hn : n ≤ 4096) :
    Calls Try.prog 16 #[.agg #[.slice a n c, .int .u64 low], .int .u64 pos] w fun e w' => e = .returned (.tuple #[.string (strOfNums (gb (lookK ks) low pos)), .int .i64 (gc (lookK ks) low pos)]) ∧ Below w.heap.size w w' := by
  have hb : Below w.heap.size w (w.alloc (.cells #[.slice a n c, .int .u64 low] 40)) := (Below.refl _ _).alloc (Nat.le_refl _) _
  have HR := Lib.hid (h.later hb)
  have HB := Lib.hid hb
  clear hb
  by_cases hl : pos < low
  · have e1 : gb (lookK ks) low pos = [] := if_pos hl
    have e2 : gc (lookK ks) low pos = 35 := if_pos hl
    rw [e1, e2]
    clear h e1 e2
    go_enter Try.func16, Try.ntmps16
    go_wp2
    go_ret2
    exact ⟨rfl, HB.out⟩
  · cases hk : lookK ks pos with
    | none =>
      have e1 : gb (lookK ks) low pos = [] := by unfold gb; rw [if_neg hl, hk]; rfl
      have e2 : gc (lookK ks) low pos = 36 := by unfold gc; rw [if_neg hl, if_pos hk]
      have HC := Lib.hid (find_none _ B a n c ks low pos HR.out hn hk)
      rw [e1, e2]
      clear h e1 e2 hk
      go_enter Try.func16, Try.ntmps16
      go_wp2_with (first | (go_at_call 24; (with_reducible refine HC.out.mono ?_); rintro e w2 ⟨rfl, hb2⟩))
      go_ret2
      exact ⟨rfl, HB.out.trans (hb2.mono (by simp))⟩
    | some xs =>
      have e1 : gb (lookK ks) low pos = xs := by unfold gb; rw [if_neg hl, hk]; rfl
      have e2 : gc (lookK ks) low pos = 0 := by unfold gc; rw [if_neg hl, if_neg (by rw [hk]; simp)]
      obtain ⟨i, g, hi, rfl, hg, hcell, hcall⟩ := find_some _ B a n c ks low pos xs HR.out hn hk
      have HC := Lib.hid hcall
      have HL := Lib.hid hcell
      have c0 : (w.alloc (.cells #[.slice (some ⟨g, 0, none⟩) n c, .int .u64 low] 40)).cell? ⟨w.heap.size, 0, none⟩ = some (.slice (some ⟨g, 0, none⟩) n c) := by
        rw [cell_of_row _ _ 0 _ 40 (0, 0) (heap_alloc_new w _)]; rfl
      rw [e1, e2]
      clear h e1 e2 hk hcall hcell
      go_enter Try.func16, Try.ntmps16
      go_wp2_with (first | (go_at_call 24; (with_reducible refine HC.out.mono ?_); rintro e w2 ⟨rfl, hb2⟩; have d1 := (hb2.cell (p := ⟨g, i * 2 + 1, none⟩) hg).trans HL.out; have d0 := (hb2.cell (p := ⟨w.heap.size, 0, none⟩) (by simp)).trans c0; have d2 := hb2.size; have d3 : g < w2.heap.size := (by omega)))
      go_ret2
      exact ⟨rfl, HB.out.trans (hb2.mono (by simp))⟩

set_option maxRecDepth 100000 in
theorem rnext_ok (w : World) (B : Nat) (a : Option Addr) (n c : Nat) (ks : KL) (low nx : Int) (h : RefRow w B a n c ks) (hn : n ≤ 4096) (hx : Nx (lookK ks) low nx) (h0 : 0 ≤ low) :
    Calls Try.prog 18 #[.agg #[.slice a n c, .int .u64 low]] w fun e w' => e = .returned (.int .u64 nx) ∧ Below w.heap.size w w' := by
  have hb : Below w.heap.size w (w.alloc (.cells #[.slice a n c, .int .u64 low] 40)) := (Below.refl _ _).alloc (Nat.le_refl _) _
  have hW : Whole (w.alloc (.cells #[.slice a n c, .int .u64 low] 40)) w.heap.size 40 #[.slice a n c, .int .u64 low] := Whole.made _ _ _
  have hr := h.later hb
  have hge := hx.ge
  have htop := hx.top
  clear h
  go_enter Try.func18, Try.ntmps18
  go_wp2
  go_loopw [3] (fun x wr => ∃ k : Int, low ≤ k ∧ k ≤ nx ∧ x = .int .u64 k ∧ RefRow wr B a n c ks ∧ Whole wr w.heap.size 40 #[.slice a n c, .int .u64 low] ∧ Below w.heap.size w wr) (fun x _ => (nx - intOf x).toNat)
  case atStart => exact ⟨low, by omega, hge, rfl, hr, hW, hb⟩
  case round =>
    obtain ⟨k, hk0, hk1, rfl, hr', hW', hb'⟩ := hrel
    have c0 : wr.cell? ⟨w.heap.size, 0, none⟩ = some (.slice a n c) := hW'.cell 0
    have c1 : wr.cell? ⟨w.heap.size, 1, none⟩ = some (.int .u64 low) := hW'.cell 1
    have hlt := hW'.lt
    have HR := Lib.hid hr'
    have HW := Lib.hid hW'
    have hs := hb'.size
    clear hr hW hb hr' hW'
    by_cases hk : k < nx
    · have hsm := hx.all k hk0 hk
      cases hl : lookK ks k with
      | none => exact absurd hl hsm
      | some xs =>
        obtain ⟨i, g, hi, ha, hg, hcell, hcall⟩ := find_some _ B a n c ks low k xs HR.out hn hl
        have HC := Lib.hid hcall
        clear hcall hcell ha hl hsm
        go_wp2_with (first | (go_at_call 24; (with_reducible refine HC.out.mono ?_); rintro e w2 ⟨rfl, hb2⟩))
        go_roundw
        case rel => exact ⟨k + 1, by omega, by omega, rfl, HR.out.later hb2, HW.out.below hb2 hlt, hb'.trans (hb2.mono hs)⟩
        case measure => simp [intOf]; omega
    · obtain rfl : k = nx := by omega
      have HC := Lib.hid (find_none _ B a n c ks low k HR.out hn hx.free)
      go_wp2_with (first | (go_at_call 24; (with_reducible refine HC.out.mono ?_); rintro e w2 ⟨rfl, hb2⟩))
      go_ret
      exact ⟨rfl, hb'.trans (hb2.mono hs)⟩
end Go.Proofs.Ytnbbbgoecndjhaa
