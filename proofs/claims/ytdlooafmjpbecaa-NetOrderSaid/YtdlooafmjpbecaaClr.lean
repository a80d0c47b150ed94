/-
  The contracts of Clear, of slices.IndexFunc and of slices.DeleteFunc at packets.
-/
import Derived.Test.YtdlooafmjpbecaaTake
import Derived.Shelf.Abstract
namespace Go.Proofs.Ytdlooafmjpbecaa
open Go.ChangeShapes Go.WideShapes Go.ChangeAt Go.RowKit

/-- Is a packet from a node or to it? -/
def hit (k : Int) (p : Pk) : Bool := p.fr == k || p.to == k

theorem hit_any (p : Pk) (k : Int) (b : Nat) (w : World) (hc : w.cell? ⟨b, 0, none⟩ = some (.int .i64 k)) :
    Calls Try.prog 21 #[p.val, .pointer (some ⟨b, 0, none⟩)] w fun e w' => e = .returned (.bool (hit k p)) ∧ Below w.heap.size w w' := by
  have hlt := World.block_lt_of_cell? _ _ hc
  unfold hit
  by_cases h : p.fr = k
  · have h1 : (p.fr == k) = true := by simpa using h
    have H := Lib.hid h
    clear h
    go_enter Try.func21, Try.ntmps21
    go_wp2
    go_ret
    exact ⟨rfl, (Below.refl _ _).alloc (Nat.le_refl _) _⟩
  · have h1 : (p.fr == k) = false := by simpa using h
    clear h
    go_enter Try.func21, Try.ntmps21
    go_wp2
    go_ret
    exact ⟨rfl, (Below.refl _ _).alloc (Nat.le_refl _) _⟩

/-- The first packet that is hit, or none. -/
def IdxIs (k : Int) (ps : List Pk) (r : Int) : Prop :=
  (r = -1 ∧ ∀ p ∈ ps, hit k p = false) ∨ ∃ i : Nat, ∃ h : i < ps.length, r = i ∧ hit k (ps[i]) = true ∧ ∀ j, (hj : j < i) → hit k (ps[j]'(by omega)) = false

/-- What IndexFunc tells. -/
def Indexed (w : World) (k : Int) (ps : List Pk) (e : Ending) (w' : World) : Prop := ∃ r, e = .returned (.int .i64 r) ∧ IdxIs k ps r ∧ Below w.heap.size w w'

/-- What holds at the head of IndexFunc's loop. -/
def IxRel (w : World) (k : Int) (ps : List Pk) (i : Value) (wr : World) : Prop :=
  ∃ m : Nat, m ≤ ps.length ∧ i = .int .i64 m ∧ (∀ j, (hj : j < m) → (h : j < ps.length) → hit k (ps[j]) = false) ∧ Below w.heap.size w wr

set_option maxRecDepth 100000 in
theorem index_any (w : World) (a : Option Addr) (cap : Nat) (ps : List Pk) (k : Int) (b : Nat) (hc : w.cell? ⟨b, 0, none⟩ = some (.int .i64 k)) (hl : ps.length ≤ 4096)
    (hr : ∀ i, (h : i < ps.length) → ∃ g, a = some ⟨g, 0, none⟩ ∧ g < w.heap.size ∧ w.cell? ⟨g, i * 3, none⟩ = some (.int .i64 (ps[i]).fr) ∧ w.cell? ⟨g, i * 3 + 1, none⟩ = some (.int .i64 (ps[i]).to) ∧ w.cell? ⟨g, i * 3 + 2, none⟩ = some (.slice (ps[i]).ad (ps[i]).n (ps[i]).c)) :
    Calls Try.prog 23 #[.slice a ps.length cap, .func (.func 21) #[] #[.pointer (some ⟨b, 0, none⟩)]] w (Indexed w k ps) := by
  have eg : ∀ args w, (callFunc 21 args).run Try.prog w = .ok (.enter 21 args) w := enters_of Try.func21 (by kernel_rfl) rfl
  have hlt := World.block_lt_of_cell? _ _ hc
  go_enter Try.func23, Try.ntmps23
  go_wp2
  go_loopw [5, 8] (fun _ i wr => IxRel w k ps i wr) (fun _ i _ => ps.length - (intOf i).toNat)
  case atStart => exact ⟨0, by omega, rfl, fun j hj => by omega, Below.refl _ _⟩
  case round =>
    obtain ⟨m, hm, rfl, hall, hbw⟩ := hrel
    by_cases hlt : m < ps.length
    · obtain ⟨g, rfl, hg, d0, d1, d2⟩ := hr m hlt
      have e0 := (hbw.cell (p := ⟨g, m * 3, none⟩) hg).trans d0
      have e1 := (hbw.cell (p := ⟨g, m * 3 + 1, none⟩) hg).trans d1
      have e2 := (hbw.cell (p := ⟨g, m * 3 + 2, none⟩) hg).trans d2
      have ec := (hbw.cell (p := ⟨b, 0, none⟩) (by assumption)).trans hc
      have HA := Lib.hid hall
      clear hr d0 d1 d2 hc hall
      generalize hp : ps[m] = p at *
      cases hh : hit k p
      · have hcon := hit_any p k b wr ec
        rw [hh] at hcon
        go_wp2_with (go_at_call 21; (with_reducible refine hcon.mono ?_); rintro e w2 ⟨rfl, hb2⟩)
        go_roundw
        case rel => exact ⟨m + 1, by omega, by go_num, fun j hj h => by
          by_cases hjm : j = m
          · subst hjm; rw [hp]; exact hh
          · exact HA.out j (by omega) h, bnext hbw hb2⟩
        case measure => simp [intOf]; omega
      · have hcon := hit_any p k b wr ec
        rw [hh] at hcon
        go_wp2_with (go_at_call 21; (with_reducible refine hcon.mono ?_); rintro e w2 ⟨rfl, hb2⟩)
        go_ret
        exact ⟨m, rfl, Or.inr ⟨m, hlt, rfl, by rw [hp]; exact hh, fun j hj => HA.out j hj (by omega)⟩, bnext hbw hb2⟩
    · go_wp2
      go_ret
      exact ⟨-1, rfl, Or.inl ⟨rfl, fun p hp => by
        obtain ⟨j, hj, rfl⟩ := List.getElem_of_mem hp
        exact hall j (by omega) hj⟩, hbw⟩
end Go.Proofs.Ytdlooafmjpbecaa
