/-
  Words for the view's memory: a block that is known whole, the map of the records, a view.
-/
import Derived.Test.YtnbbbgoecndjhaaRows
import Derived.WalkKit
import Derived.ProofKit
import Derived.OpenShut
import Derived.Outline
import Derived.WalkLawsBesides
import Derived.WalkSpells
import Derived.Lib.Hide
import Derived.Below
import Derived.Laws.OwnMore
import Derived.Deep.AppendLies
import Derived.Deep.Draws
import Derived.Laws.Rows
import Derived.Maps.OwnSet
import Derived.Maps.Views
import Derived.Maps.AppendAt
import Derived.OwnWalk
import Derived.Laws.BytesArg
namespace Go.Proofs.Ytnbbbgoecndjhaa
open Go.ChangeShapes Go.WideShapes Go.ChangeAt Go.RowKit

theorem bnext {a b c : World} (h : Below a.heap.size a b) (k : Below b.heap.size b c) : Below a.heap.size a c := h.trans (k.mono h.size)

/-- Block g holds just the cells cs of type t, all of which may be written. -/
def Whole (w : World) (g : Nat) (t : TypeId) (cs : Array Value) : Prop := w.heap[g]? = some (.cells cs t (0, 0))

section
variable {w w' : World} {g : Nat} {t : TypeId} {cs : Array Value}
theorem heap_lt {o : Obj} (h : w.heap[g]? = some o) : g < w.heap.size := (Array.getElem?_eq_some_iff.1 h).1
theorem Whole.lt (h : Whole w g t cs) : g < w.heap.size := heap_lt h
theorem Whole.cell (h : Whole w g t cs) (i : Nat) : w.cell? ⟨g, i, none⟩ = cs[i]? := cell_of_row w g i cs t (0, 0) h
theorem Whole.free (h : Whole w g t cs) (i : Nat) : w.frozen? ⟨g, i, none⟩ = false := by unfold Whole at h; simp [World.frozen?, h]
theorem Whole.made (w : World) (t : TypeId) (cs : Array Value) : Whole (w.alloc (.cells cs t)) w.heap.size t cs := heap_alloc_new w _
theorem Whole.madeAt (w : World) (t : TypeId) (cs : Array Value) (g : Nat) (hg : w.heap.size = g) : Whole (w.alloc (.cells cs t)) g t cs := by subst hg; exact heap_alloc_new w _
theorem Whole.alloc (h : Whole w g t cs) (o : Obj) : Whole (w.alloc o) g t cs := (Below.heap_alloc w o g h.lt).trans h
theorem Whole.drew (h : Whole w g t cs) : Whole w.drew g t cs := h
theorem Whole.drewN (h : Whole w g t cs) (n : Nat) : Whole (w.drewN n) g t cs := h
theorem Whole.put (h : Whole w g t cs) (i : Nat) (u : Value) : Whole (w.setCell ⟨g, i, none⟩ u) g t (cs.setIfInBounds i u) := by
  unfold Whole at h ⊢
  simp [World.setCell, Array.getElem?_modify, h]
theorem Whole.apart (h : Whole w g t cs) {p : Addr} (hp : g ≠ p.block) (u : Value) : Whole (w.setCell p u) g t cs := (Below.heap_setCell w p u g hp).trans h
theorem Whole.below {B : Nat} (h : Whole w g t cs) (hb : Below B w w') (hg : g < B) : Whole w' g t cs := (hb.block g hg).trans h
theorem Whole.grown {row : Option Nat} (h : Whole w g t cs) (hb : w.grownBy w' row) (hg : some g ≠ row) : Whole w' g t cs := (hb.block g h.lt hg).trans h
end

/-- Two blocks of other types are two. -/
theorem type_ne {w : World} {g g' : Nat} {t t' : TypeId} {cs cs' : Array Value} {f f' : Nat × Nat} (h : w.heap[g]? = some (.cells cs t f)) (h' : w.heap[g']? = some (.cells cs' t' f')) (hne : t ≠ t') : g ≠ g' := by
  rintro rfl
  rw [h] at h'
  injection h' with h'
  injection h' with _ ht
  exact hne ht

theorem own_ne {w : World} {base : Nat} {e : TypeId} {size n : Nat} {v : Value} {xs : List Value} (h : w.ownsRow base e size v n xs) {g : Nat} {t : TypeId} {cs : Array Value} {f : Nat × Nat} (hg : w.heap[g]? = some (.cells cs t f)) (hne : e ≠ t) : some g ≠ v.ownBlock := by
  rcases h.2 with ⟨rfl, _⟩ | ⟨g', cap, cur, rfl, _, hh, _⟩
  · simp [Value.ownBlock]
  · intro he
    have : g = g' := by simpa [Value.ownBlock] using he
    subst this
    exact type_ne hh hg hne rfl

/-- The blocks of other cells than views are as they were. -/
def Bytes (w w' : World) : Prop := ∀ (k : Nat) (cs : Array Value) (t : TypeId) (f : Nat × Nat), t ≠ 58 → w.heap[k]? = some (Obj.cells cs t f) → w'.heap[k]? = some (Obj.cells cs t f)

theorem Bytes.refl (w : World) : Bytes w w := fun _ _ _ _ _ h => h
theorem Bytes.trans {a b c : World} (h : Bytes a b) (k : Bytes b c) : Bytes a c := fun i cs t f ht hi => k i cs t f ht (h i cs t f ht hi)
theorem Bytes.alloc {a w : World} (h : Bytes a w) (o : Obj) : Bytes a (w.alloc o) := fun k cs t f ht hk => (Below.heap_alloc w o k (heap_lt (h k cs t f ht hk))).trans (h k cs t f ht hk)
theorem Bytes.drew {a w : World} (h : Bytes a w) : Bytes a w.drew := h
theorem Bytes.drewN {a w : World} (h : Bytes a w) (n : Nat) : Bytes a (w.drewN n) := h
theorem Bytes.put {a w : World} (h : Bytes a w) {g : Nat} {cs : Array Value} (hg : Whole w g 58 cs) (i : Nat) (u : Value) : Bytes a (w.setCell ⟨g, i, none⟩ u) := fun k cs' t' f ht' hk =>
  (Below.heap_setCell w ⟨g, i, none⟩ u k (type_ne (h k cs' t' f ht' hk) hg ht')).trans (h k cs' t' f ht' hk)
theorem Bytes.below {a w w' : World} (h : Bytes a w) (hb : Below w.heap.size w w') : Bytes a w' := fun k cs t f ht hk => (hb.block k (heap_lt (h k cs t f ht hk))).trans (h k cs t f ht hk)

/-- What a step of the view leaves: nothing below B is turned, no cells but the view's own are. -/
structure Step (B : Nat) (w w' : World) : Prop where
  below : Below B w w'
  bytes : Bytes w w'

theorem Step.refl (B : Nat) (w : World) : Step B w w := ⟨Below.refl _ _, Bytes.refl _⟩
theorem Step.trans {B : Nat} {a b c : World} (h : Step B a b) (k : Step B b c) : Step B a c := ⟨h.below.trans k.below, h.bytes.trans k.bytes⟩
theorem Step.after {B : Nat} {a b c : World} (h : Step B a b) (hB : B ≤ b.heap.size) (k : Below b.heap.size b c) : Step B a c := ⟨h.below.trans (k.mono hB), h.bytes.trans ((Bytes.refl _).below k)⟩
theorem Step.alloc {B : Nat} {a b : World} (h : Step B a b) (hB : B ≤ b.heap.size) (o : Obj) : Step B a (b.alloc o) := ⟨h.below.alloc hB o, h.bytes.alloc o⟩
theorem Step.drew {B : Nat} {a b : World} (h : Step B a b) : Step B a b.drew := ⟨h.below.drew, h.bytes.drew⟩
theorem Step.put {B : Nat} {a b : World} (h : Step B a b) {g : Nat} {cs : Array Value} (hg : Whole b g 58 cs) (hB : B ≤ g) (i : Nat) (u : Value) : Step B a (b.setCell ⟨g, i, none⟩ u) :=
  ⟨h.below.setCell (p := ⟨g, i, none⟩) hB u, h.bytes.put hg i u⟩
theorem Step.size {B : Nat} {a b : World} (h : Step B a b) : a.heap.size ≤ b.heap.size := h.below.size

/-- A value stands for itself. -/
def selfR : Value → Option (DataW Value × List MemPlace) := fun v => some (.held v, [])

theorem keyed27 : Go.Maps.Keyed Try.prog 27 := Go.Maps.int_keyed Try.underlying27

/-- Block b is a map of at most n entries; at the key k it holds F k (or the nil slice, where it has none). -/
def MAt (w : World) (b n : Nat) (F : Int → Value) : Prop :=
  ∃ D : DataW Value, w.ownsMap Try.prog 27 selfR b n D ∧ ∀ k : Int, 0 ≤ k → k ≤ 18446744073709551615 → D.atKey (.int .u64 k) (.held (.slice none 0 0)) = .held (F k)

theorem u64_wf {k : Int} (h0 : 0 ≤ k) (h1 : k ≤ 18446744073709551615) : (Lit.int .u64 k).wf = true := by
  have e1 : IntKind.u64.min = 0 := rfl
  have e2 : IntKind.u64.max = 18446744073709551615 := rfl
  simp [Lit.wf, e1, e2]; omega

theorem MAt.look {w : World} {b n : Nat} {F : Int → Value} (h : MAt w b n F) {k : Int} (h0 : 0 ≤ k) (h1 : k ≤ 18446744073709551615) :
    (Instr.lookup 56 (.map (some b)) (.int .u64 k) false).run Try.prog w = .ok (F k) w := by
  obtain ⟨D, hm, hF⟩ := h
  obtain ⟨v, ps, hr, hv⟩ := hm.lookup (e := 23) keyed27 Try.underlying56 (z := .slice none 0 0) (by go_simp) (zd := .held (.slice none 0 0)) (zp := []) rfl (key := .int .u64 k) (Go.Maps.keyOf_int_mk Try.underlying27 (u64_wf h0 h1))
  rw [hF k h0 h1] at hv
  simp [selfR] at hv
  rw [hr, hv.1]

theorem MAt.made (w : World) : MAt (w.alloc (.map #[] 0)) w.heap.size 0 (fun _ => .slice none 0 0) := ⟨_, World.ownsMap_made w _ _ _, fun _ _ _ => rfl⟩

theorem MAt.store {w : World} {b n : Nat} {F : Int → Value} (h : MAt w b n F) (hn : n < maxLen) {k : Int} (h0 : 0 ≤ k) (h1 : k ≤ 18446744073709551615) (v : Value) :
    ∃ w', (Instr.mapUpdate 56 (.map (some b)) (.int .u64 k) v).run Try.prog w = .ok () w' ∧ MAt w' b (n + 1) (fun x => if x = k then v else F x) ∧ w.mapTurned w' b := by
  obtain ⟨D, hm, hF⟩ := h
  have hk := Go.Maps.keyOf_int_mk Try.underlying27 (u64_wf h0 h1)
  obtain ⟨w', hr, hm', ht⟩ := hm.store (e := 23) keyed27 Try.underlying56 hn (val := v) hk (d := .held v) (ps := []) rfl
  refine ⟨w', hr, ⟨_, hm', fun x hx0 hx1 => ?_⟩, ht⟩
  show _ = DataW.held (if x = k then v else F x)
  by_cases hx : x = k
  · subst hx
    rw [if_pos rfl, Go.Maps.atKey_put_same hm.isMap (keyed27.key hk)]
  · rw [if_neg hx, Go.Maps.atKey_put_other (by intro e; injection e with _ e; exact hx e), hF x hx0 hx1]

theorem MAt.drop {w : World} {b n : Nat} {F : Int → Value} (h : MAt w b n F) {k : Int} (h0 : 0 ≤ k) (h1 : k ≤ 18446744073709551615) (ty : TypeId) :
    ∃ w', (Builtin.delete_ #[56, 27] ty #[.map (some b), .int .u64 k]).run Try.prog w = .ok (.tuple #[]) w' ∧ MAt w' b n (fun x => if x = k then .slice none 0 0 else F x) ∧ w.mapTurned w' b := by
  obtain ⟨D, hm, hF⟩ := h
  have hk := Go.Maps.keyOf_int_mk Try.underlying27 (u64_wf h0 h1)
  obtain ⟨w', hr, hm', ht⟩ := hm.drop (e := 23) keyed27 Try.underlying56 hk ty
  refine ⟨w', hr, ⟨_, hm', fun x hx0 hx1 => ?_⟩, ht⟩
  show _ = DataW.held (if x = k then .slice none 0 0 else F x)
  by_cases hx : x = k
  · subst hx
    rw [if_pos rfl, Go.Maps.atKey_del_same]
  · rw [if_neg hx, Go.Maps.atKey_del_other (by intro e; injection e with _ e; exact hx e), hF x hx0 hx1]

theorem MAt.kept {w w' : World} {b n : Nat} {F : Int → Value} (h : MAt w b n F) {row : Option Nat} (hg : w.grownBy w' row) (hne : some b ≠ row) : MAt w' b n F := by
  obtain ⟨D, hm, hF⟩ := h; exact ⟨D, hm.kept hg hne, hF⟩
theorem MAt.lt {w : World} {b n : Nat} {F : Int → Value} (h : MAt w b n F) : b < w.heap.size := by obtain ⟨D, hm, _⟩ := h; exact hm.lt
theorem MAt.later {w w' : World} {b n : Nat} {F : Int → Value} (h : MAt w b n F) (hb : Below w.heap.size w w') : MAt w' b n F :=
  h.kept (row := none) ⟨hb.os, hb.tape, hb.output, hb.size, fun k hk _ => hb.block k hk⟩ (by simp)
theorem MAt.put {w : World} {b n : Nat} {F : Int → Value} (h : MAt w b n F) {a : Addr} (ha : b ≠ a.block) (u : Value) : MAt (w.setCell a u) b n F := by
  obtain ⟨D, hm, hF⟩ := h; exact ⟨D, hm.setCell ha u, hF⟩

/-- A view lies in block vb, its map in block mb; M k are the bytes that are known at k. -/
structure VMem (w : World) (B vb mb n : Nat) (low next : Int) (M : Int → Option (List Int)) (F : Int → Value) : Prop where
  base : B ≤ vb
  baseM : B ≤ mb
  head : Whole w vb 58 #[.map (some mb), .int .u64 low, .int .u64 next]
  map : MAt w mb n F
  absent : ∀ k, M k = none → F k = .slice none 0 0
  known : ∀ k xs, M k = some xs → ∃ (g c : Nat) (cs : Array Value) (fr : Nat × Nat), F k = .slice (some ⟨g, 0, none⟩) xs.length c ∧ w.heap[g]? = some (.cells cs 5 fr) ∧ ∀ (j : Nat) (u : Value), (xs.map (Value.int .u8))[j]? = some u → cs[j]? = some u

theorem VMem.later {w w' : World} {B vb mb n : Nat} {low next : Int} {M : Int → Option (List Int)} {F : Int → Value} (h : VMem w B vb mb n low next M F) (hb : Below w.heap.size w w') : VMem w' B vb mb n low next M F :=
  ⟨h.base, h.baseM, h.head.below hb h.head.lt, h.map.later hb, h.absent, fun k xs hk => by
    obtain ⟨g, c, cs, fr, q1, q2, q3⟩ := h.known k xs hk
    exact ⟨g, c, cs, fr, q1, (hb.block g (heap_lt q2)).trans q2, q3⟩⟩
end Go.Proofs.Ytnbbbgoecndjhaa
