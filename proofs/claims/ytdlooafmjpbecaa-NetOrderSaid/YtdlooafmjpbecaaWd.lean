/-
  Words for the net's memory: a block that is known whole, a packet and its bytes, a net with its packets.
-/
import Derived.Test.YtdlooafmjpbecaaRows
import Derived.WalkKit
import Derived.ProofKit
import Derived.OpenShut
import Derived.Outline
import Derived.WalkLawsBesides
import Derived.WalkSpells
import Derived.Lib.Hide
import Derived.Below
import Derived.Laws.OwnMore
import Derived.Deep.AppendLies
import Derived.Deep.Draws
import Derived.Laws.Rows
namespace Go.Proofs.Ytdlooafmjpbecaa
open Go.ChangeShapes Go.WideShapes Go.ChangeAt Go.RowKit

theorem bnext {a b c : World} (h : Below a.heap.size a b) (k : Below b.heap.size b c) : Below a.heap.size a c := h.trans (k.mono h.size)

/-- Block g holds just the cells cs of type t, all of which may be written. -/
def Whole (w : World) (g : Nat) (t : TypeId) (cs : Array Value) : Prop := w.heap[g]? = some (.cells cs t (0, 0))

section
variable {w w' : World} {g : Nat} {t : TypeId} {cs : Array Value}
theorem heap_lt {o : Obj} (h : w.heap[g]? = some o) : g < w.heap.size := (Array.getElem?_eq_some_iff.1 h).1
theorem Whole.lt (h : Whole w g t cs) : g < w.heap.size := heap_lt h
theorem Whole.cell (h : Whole w g t cs) (i : Nat) : w.cell? ⟨g, i, none⟩ = cs[i]? := cell_of_row w g i cs t (0, 0) h
theorem Whole.free (h : Whole w g t cs) (i : Nat) : w.frozen? ⟨g, i, none⟩ = false := by unfold Whole at h; simp [World.frozen?, h]
theorem Whole.made (w : World) (t : TypeId) (cs : Array Value) : Whole (w.alloc (.cells cs t)) w.heap.size t cs := heap_alloc_new w _
theorem Whole.madeAt (w : World) (t : TypeId) (cs : Array Value) (g : Nat) (hg : w.heap.size = g) : Whole (w.alloc (.cells cs t)) g t cs := by subst hg; exact heap_alloc_new w _
theorem Whole.alloc (h : Whole w g t cs) (o : Obj) : Whole (w.alloc o) g t cs := (Below.heap_alloc w o g h.lt).trans h
theorem Whole.drew (h : Whole w g t cs) : Whole w.drew g t cs := h
theorem Whole.drewN (h : Whole w g t cs) (n : Nat) : Whole (w.drewN n) g t cs := h
theorem Whole.put (h : Whole w g t cs) (i : Nat) (u : Value) : Whole (w.setCell ⟨g, i, none⟩ u) g t (cs.setIfInBounds i u) := by
  unfold Whole at h ⊢
  simp [World.setCell, Array.getElem?_modify, h]
theorem Whole.apart (h : Whole w g t cs) {p : Addr} (hp : g ≠ p.block) (u : Value) : Whole (w.setCell p u) g t cs := (Below.heap_setCell w p u g hp).trans h
theorem Whole.below {B : Nat} (h : Whole w g t cs) (hb : Below B w w') (hg : g < B) : Whole w' g t cs := (hb.block g hg).trans h
theorem Whole.grown {row : Option Nat} (h : Whole w g t cs) (hb : w.grownBy w' row) (hg : some g ≠ row) : Whole w' g t cs := (hb.block g h.lt hg).trans h
end

/-- Two blocks of other types are two. -/
theorem type_ne {w : World} {g g' : Nat} {t t' : TypeId} {cs cs' : Array Value} {f f' : Nat × Nat} (h : w.heap[g]? = some (.cells cs t f)) (h' : w.heap[g']? = some (.cells cs' t' f')) (hne : t ≠ t') : g ≠ g' := by
  rintro rfl
  rw [h] at h'
  injection h' with h'
  injection h' with _ ht
  exact hne ht

theorem own_ne {w : World} {base : Nat} {e : TypeId} {size n : Nat} {v : Value} {xs : List Value} (h : w.ownsRow base e size v n xs) {g : Nat} {t : TypeId} {cs : Array Value} {f : Nat × Nat} (hg : w.heap[g]? = some (.cells cs t f)) (hne : e ≠ t) : some g ≠ v.ownBlock := by
  rcases h.2 with ⟨rfl, _⟩ | ⟨g', cap, cur, rfl, _, hh, _⟩
  · simp [Value.ownBlock]
  · intro he
    have : g = g' := by simpa [Value.ownBlock] using he
    subst this
    exact type_ne hh hg hne rfl

/-- The blocks of other cells than packets and nets are as they were. -/
def Bytes (w w' : World) : Prop := ∀ (k : Nat) (cs : Array Value) (t : TypeId) (f : Nat × Nat), t ≠ 32 ∧ t ≠ 46 → w.heap[k]? = some (Obj.cells cs t f) → w'.heap[k]? = some (Obj.cells cs t f)

theorem Bytes.refl (w : World) : Bytes w w := fun _ _ _ _ _ h => h
theorem Bytes.trans {a b c : World} (h : Bytes a b) (k : Bytes b c) : Bytes a c := fun i cs t f ht hi => k i cs t f ht (h i cs t f ht hi)
theorem Bytes.alloc {a w : World} (h : Bytes a w) (o : Obj) : Bytes a (w.alloc o) := fun k cs t f ht hk => (Below.heap_alloc w o k (heap_lt (h k cs t f ht hk))).trans (h k cs t f ht hk)
theorem Bytes.drew {a w : World} (h : Bytes a w) : Bytes a w.drew := h
theorem Bytes.drewN {a w : World} (h : Bytes a w) (n : Nat) : Bytes a (w.drewN n) := h
theorem Bytes.put {a w : World} (h : Bytes a w) {g : Nat} {t : TypeId} {cs : Array Value} (hg : Whole w g t cs) (ht : t = 32 ∨ t = 46) (i : Nat) (u : Value) : Bytes a (w.setCell ⟨g, i, none⟩ u) := fun k cs' t' f ht' hk =>
  (Below.heap_setCell w ⟨g, i, none⟩ u k (type_ne (h k cs' t' f ht' hk) hg (fun e => ht.elim (fun q => ht'.1 (e.trans q)) (fun q => ht'.2 (e.trans q))))).trans (h k cs' t' f ht' hk)
theorem Bytes.grown {a w w' : World} (h : Bytes a w) {row : Option Nat} (hg : w.grownBy w' row) (hr : ∀ k, row = some k → ∃ (t : TypeId) (cs : Array Value) (f : Nat × Nat), w.heap[k]? = some (Obj.cells cs t f) ∧ (t = 32 ∨ t = 46)) : Bytes a w' := fun k cs t f ht hk =>
  (hg.block k (heap_lt (h k cs t f ht hk)) (fun e => by
    obtain ⟨t', cs', f', h1, h2⟩ := hr k e.symm
    exact type_ne h1 (h k cs t f ht hk) (fun e => h2.elim (fun q => ht.1 (e.symm.trans q)) (fun q => ht.2 (e.symm.trans q))) rfl)).trans (h k cs t f ht hk)
theorem Bytes.below {a w w' : World} (h : Bytes a w) (hb : Below w.heap.size w w') : Bytes a w' := fun k cs t f ht hk => (hb.block k (heap_lt (h k cs t f ht hk))).trans (h k cs t f ht hk)

/-- A packet: from, to, its slice of bytes, and what they are. -/
structure Pk where
  fr : Int
  to : Int
  ad : Option Addr
  n : Nat
  c : Nat
  bs : List Value

/-- A packet's cells. -/
def Pk.vals (p : Pk) : List Value := [.int .i64 p.fr, .int .i64 p.to, .slice p.ad p.n p.c]
theorem Pk.vals_one (p : Pk) : ∀ u ∈ p.vals, u.oneCell' = true := by intro u hu; simp [Pk.vals] at hu; rcases hu with rfl | rfl | rfl <;> rfl

/-- The row of all packets' cells. -/
def rowOf (ps : List Pk) : List Value := ps.flatMap Pk.vals
theorem rowOf_length (ps : List Pk) : (rowOf ps).length = ps.length * 3 := by
  induction ps with
  | nil => rfl
  | cons p ps ih => simp only [rowOf, List.flatMap_cons, List.length_append, List.length_cons] at ih ⊢; rw [ih]; simp [Pk.vals]; omega
theorem rowOf_append (ps qs : List Pk) : rowOf (ps ++ qs) = rowOf ps ++ rowOf qs := by simp [rowOf]
theorem rowOf_one (p : Pk) : rowOf [p] = p.vals := by simp [rowOf]
theorem rowOf_take (ps : List Pk) (i : Nat) : (rowOf ps).take (i * 3) = rowOf (ps.take i) := by
  induction ps generalizing i with
  | nil => simp [rowOf]
  | cons p ps ih =>
    cases i with
    | zero => simp [rowOf]
    | succ i =>
      have := ih i
      simp only [rowOf, List.flatMap_cons, List.take_succ_cons] at this ⊢
      rw [show (i + 1) * 3 = p.vals.length + i * 3 by simp [Pk.vals]; omega, List.take_length_add_append, this]
theorem rowOf_drop (ps : List Pk) (i : Nat) : (rowOf ps).drop (i * 3) = rowOf (ps.drop i) := by
  induction ps generalizing i with
  | nil => simp [rowOf]
  | cons p ps ih =>
    cases i with
    | zero => simp [rowOf]
    | succ i =>
      have := ih i
      simp only [rowOf, List.flatMap_cons, List.drop_succ_cons] at this ⊢
      rw [show (i + 1) * 3 = p.vals.length + i * 3 by simp [Pk.vals]; omega, List.drop_length_add_append, this]
theorem rowOf_get (ps : List Pk) (i j : Nat) (hi : i < ps.length) (hj : j < 3) : (rowOf ps)[i * 3 + j]? = (ps[i]).vals[j]? := by
  have h : (rowOf ps).drop (i * 3) = (ps[i]).vals ++ rowOf (ps.drop (i + 1)) := by
    rw [rowOf_drop]; unfold rowOf; rw [List.drop_eq_getElem_cons hi, List.flatMap_cons]
  rw [← List.getElem?_drop, h, List.getElem?_append_left (by simpa [Pk.vals] using hj)]

/-- A packet's bytes lie in a block of bytes. -/
def Dat (w : World) (p : Pk) : Prop :=
  p.bs.length = p.n ∧ p.n ≤ 4096 ∧ (∀ u ∈ p.bs, u.oneCell' = true) ∧ (0 < p.n → ∃ (g : Nat) (cs : Array Value) (f : Nat × Nat), p.ad = some ⟨g, 0, none⟩ ∧ w.heap[g]? = some (Obj.cells cs 5 f) ∧ ∀ (j : Nat) (u : Value), p.bs[j]? = some u → cs[j]? = some u)

theorem Dat.kept {w w' : World} {p : Pk} (h : Dat w p) (hb : Bytes w w') : Dat w' p :=
  ⟨h.1, h.2.1, h.2.2.1, fun hn => by
    obtain ⟨g, cs, f, h1, h2, h3⟩ := h.2.2.2 hn
    exact ⟨g, cs, f, h1, hb g cs 5 f (by decide) h2, h3⟩⟩

/-- A net of N nodes lies in block nb, its packets in the row v. -/
structure NetAt (w : World) (B nb : Nat) (N : Int) (v : Value) (ps : List Pk) : Prop where
  base : B ≤ nb
  head : Whole w nb 46 #[.int .i64 N, v]
  row : w.ownsRow B 32 3 v ps.length (rowOf ps)
  dat : ∀ p ∈ ps, Dat w p

/-- What a step of the net leaves: nothing below B is turned, no byte is. -/
structure Step (B : Nat) (w w' : World) : Prop where
  below : Below B w w'
  bytes : Bytes w w'

theorem Step.refl (B : Nat) (w : World) : Step B w w := ⟨Below.refl _ _, Bytes.refl _⟩
theorem Step.trans {B : Nat} {a b c : World} (h : Step B a b) (k : Step B b c) : Step B a c := ⟨h.below.trans k.below, h.bytes.trans k.bytes⟩
theorem Step.after {B : Nat} {a b c : World} (h : Step B a b) (hB : B ≤ b.heap.size) (k : Below b.heap.size b c) : Step B a c := ⟨h.below.trans (k.mono hB), h.bytes.trans ((Bytes.refl _).below k)⟩
theorem Step.alloc {B : Nat} {a b : World} (h : Step B a b) (hB : B ≤ b.heap.size) (o : Obj) : Step B a (b.alloc o) := ⟨h.below.alloc hB o, h.bytes.alloc o⟩
theorem Step.drew {B : Nat} {a b : World} (h : Step B a b) : Step B a b.drew := ⟨h.below.drew, h.bytes.drew⟩
theorem Step.put {B : Nat} {a b : World} (h : Step B a b) {g : Nat} {t : TypeId} {cs : Array Value} (hg : Whole b g t cs) (ht : t = 32 ∨ t = 46) (hB : B ≤ g) (i : Nat) (u : Value) : Step B a (b.setCell ⟨g, i, none⟩ u) :=
  ⟨h.below.setCell (p := ⟨g, i, none⟩) hB u, h.bytes.put hg ht i u⟩
theorem Step.size {B : Nat} {a b : World} (h : Step B a b) : a.heap.size ≤ b.heap.size := h.below.size

theorem NetAt.later {w w' : World} {B nb : Nat} {N : Int} {v : Value} {ps : List Pk} (h : NetAt w B nb N v ps) (hb : Below w.heap.size w w') : NetAt w' B nb N v ps :=
  ⟨h.base, h.head.below hb h.head.lt, h.row.kept (row := none) ⟨hb.os, hb.tape, hb.output, hb.size, fun k hk _ => hb.block k hk⟩ (by cases hv : v.ownBlock <;> simp), fun p hp => (h.dat p hp).kept ((Bytes.refl _).below hb)⟩

theorem NetAt.cell0 {w : World} {B nb : Nat} {N : Int} {v : Value} {ps : List Pk} (h : NetAt w B nb N v ps) : w.cell? ⟨nb, 0, none⟩ = some (.int .i64 N) := h.head.cell 0
theorem NetAt.cell1 {w : World} {B nb : Nat} {N : Int} {v : Value} {ps : List Pk} (h : NetAt w B nb N v ps) : w.cell? ⟨nb, 1, none⟩ = some v := h.head.cell 1
end Go.Proofs.Ytdlooafmjpbecaa
