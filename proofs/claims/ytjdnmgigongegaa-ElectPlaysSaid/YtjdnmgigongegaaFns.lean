/-
  Contracts of the functions of elect and of its reference.
-/
import Derived.Test.YtjdnmgigongegaaRows
import Derived.WalkKit
import Derived.ProofKit
import Derived.OpenShut
import Derived.Outline
import Derived.WalkLawsBesides
import Derived.WalkSpells
import Derived.Lib.Hide
import Derived.Deep.QuietTactic
import Derived.BigQuiet
namespace Go.Proofs.Ytjdnmgigongegaa
open Go.ChangeShapes Go.WideShapes Go.ChangeAt Go.RowKit

/-- A counter lies in block b: turn, left, top. -/
structure E3 (w : World) (b : Nat) (t l m : Int) : Prop where
  c0 : w.cell? ⟨b, 0, none⟩ = some (.int .i64 t)
  c1 : w.cell? ⟨b, 1, none⟩ = some (.int .i64 l)
  c2 : w.cell? ⟨b, 2, none⟩ = some (.int .u64 m)
  f0 : w.frozen? ⟨b, 0, none⟩ = false
  f1 : w.frozen? ⟨b, 1, none⟩ = false
  f2 : w.frozen? ⟨b, 2, none⟩ = false

theorem E3.lt {w : World} {b : Nat} {t l m : Int} (h : E3 w b t l m) : b < w.heap.size := World.block_lt_of_cell? _ _ h.c0

theorem E3.made (w : World) (t l m : Int) : E3 (w.alloc (.cells #[.int .i64 t, .int .i64 l, .int .u64 m] 49)) w.heap.size t l m := by
  constructor <;> simp

theorem E3.madeAt (w : World) (b : Nat) (hb : w.heap.size = b) (t l m : Int) : E3 (w.alloc (.cells #[.int .i64 t, .int .i64 l, .int .u64 m] 49)) b t l m := by
  subst hb; exact E3.made w t l m

theorem E3.set0 {w : World} {b : Nat} {t l m : Int} (h : E3 w b t l m) (t' : Int) : E3 (w.setCell ⟨b, 0, none⟩ (.int .i64 t')) b t' l m :=
  ⟨World.cell?_setCell_same _ _ _ h.c0, (World.cell?_setCell_other _ _ _ _ (by simp)).trans h.c1, (World.cell?_setCell_other _ _ _ _ (by simp)).trans h.c2,
    (World.frozen?_setCell _ _ _ _).trans h.f0, (World.frozen?_setCell _ _ _ _).trans h.f1, (World.frozen?_setCell _ _ _ _).trans h.f2⟩
theorem E3.set1 {w : World} {b : Nat} {t l m : Int} (h : E3 w b t l m) (l' : Int) : E3 (w.setCell ⟨b, 1, none⟩ (.int .i64 l')) b t l' m :=
  ⟨(World.cell?_setCell_other _ _ _ _ (by simp)).trans h.c0, World.cell?_setCell_same _ _ _ h.c1, (World.cell?_setCell_other _ _ _ _ (by simp)).trans h.c2,
    (World.frozen?_setCell _ _ _ _).trans h.f0, (World.frozen?_setCell _ _ _ _).trans h.f1, (World.frozen?_setCell _ _ _ _).trans h.f2⟩
theorem E3.set2 {w : World} {b : Nat} {t l m : Int} (h : E3 w b t l m) (m' : Int) : E3 (w.setCell ⟨b, 2, none⟩ (.int .u64 m')) b t l m' :=
  ⟨(World.cell?_setCell_other _ _ _ _ (by simp)).trans h.c0, (World.cell?_setCell_other _ _ _ _ (by simp)).trans h.c1, World.cell?_setCell_same _ _ _ h.c2,
    (World.frozen?_setCell _ _ _ _).trans h.f0, (World.frozen?_setCell _ _ _ _).trans h.f1, (World.frozen?_setCell _ _ _ _).trans h.f2⟩
theorem E3.drew {w : World} {b : Nat} {t l m : Int} (h : E3 w b t l m) : E3 w.drew b t l m := ⟨h.c0, h.c1, h.c2, h.f0, h.f1, h.f2⟩
theorem E3.alloc {w : World} {b : Nat} {t l m : Int} (h : E3 w b t l m) (o : Obj) : E3 (w.alloc o) b t l m := by
  have hb := h.lt
  have hn : b ≠ w.heap.size := by omega
  exact ⟨(World.cell?_alloc_lt _ _ _ hb).trans h.c0, (World.cell?_alloc_lt _ _ _ hb).trans h.c1, (World.cell?_alloc_lt _ _ _ hb).trans h.c2,
    (World.frozen?_alloc_old _ _ _ hn).trans h.f0, (World.frozen?_alloc_old _ _ _ hn).trans h.f1, (World.frozen?_alloc_old _ _ _ hn).trans h.f2⟩
/-- A counter that lies in another block than the one that is written stays. -/
theorem E3.kept {w w' : World} {b : Nat} {t l m : Int} (h : E3 w b t l m) {row : Option Nat} (hg : w.grownBy w' row) (hr : some b ≠ row) : E3 w' b t l m := by
  have hb := h.lt
  have hk := hg.block b hb hr
  have hc : ∀ i, w'.cell? ⟨b, i, none⟩ = w.cell? ⟨b, i, none⟩ := fun i => World.cell?_of_block (a := ⟨b, i, none⟩) hk
  have hf : ∀ i, w'.frozen? ⟨b, i, none⟩ = w.frozen? ⟨b, i, none⟩ := fun i => World.frozen?_of_block (a := ⟨b, i, none⟩) hk
  exact ⟨(hc 0).trans h.c0, (hc 1).trans h.c1, (hc 2).trans h.c2, (hf 0).trans h.f0, (hf 1).trans h.f1, (hf 2).trans h.f2⟩
theorem E3.below {w w' : World} {b : Nat} {t l m : Int} (h : E3 w b t l m) (hg : Below w.heap.size w w') : E3 w' b t l m :=
  h.kept (row := none) ⟨hg.os, hg.tape, hg.output, hg.size, fun k hk _ => hg.block k hk⟩ (by simp)

theorem gr_set {w w' : World} {b : Nat} (h : w.grownBy w' (some b)) (i : Nat) (v : Value) : w.grownBy (w'.setCell ⟨b, i, none⟩ v) (some b) :=
  ⟨h.os, h.tape, h.output, by simpa using h.size, fun k hk hr => (Below.heap_setCell _ _ _ _ (by intro e; exact hr (by rw [e]))).trans (h.block k hk hr)⟩
theorem gr_alloc {w w' : World} {row : Option Nat} (h : w.grownBy w' row) (o : Obj) : w.grownBy (w'.alloc o) row :=
  ⟨h.os, h.tape, h.output, by have := h.size; simp; omega, fun k hk hr => (Below.heap_alloc _ _ _ (by have := h.size; omega)).trans (h.block k hk hr)⟩
theorem gr_drew {w w' : World} {row : Option Nat} (h : w.grownBy w' row) : w.grownBy w'.drew row := ⟨h.os, h.tape, h.output, h.size, h.block⟩

theorem again_at (t l : Int) (w : World) :
    Calls Try.prog 16 #[.agg #[.int .i64 t, .int .i64 l]] w fun e w' => e = .returned (.agg #[.int .i64 t, .int .i64 t]) ∧ w' = (w.alloc (.cells #[.int .i64 t, .int .i64 l] 46)).alloc (.cells #[.int .i64 t, .int .i64 t] 46) := by
  go_enter Try.func16, Try.ntmps16
  go_wp2
  exact bodyPost_ret (v := .agg #[.int .i64 t, .int .i64 t]) (by simp [results, Try.results16, go_sem]) rfl ⟨rfl, rfl⟩

/-- New's outcome: a fresh counter. -/
def NewOk (w : World) (t : Int) (e : Ending) (w' : World) : Prop :=
  ∃ b, e = .returned (.tuple #[.pointer (some ⟨b, 0, none⟩), .int .i64 0]) ∧ w.heap.size ≤ b ∧ E3 w' b t t 0 ∧ Below w.heap.size w w'

theorem new_ok (n p : Int) (w : World) (h0 : 0 ≤ n) (h1 : n < 32) (h2 : 1 ≤ p) (h3 : p ≤ 1000) :
    Calls Try.prog 8 #[.int .i64 n, .int .i64 p] w (NewOk w (p * (n + 1))) := by
  have hb : 0 ≤ p * (n + 1) := Int.mul_nonneg (by omega) (by omega)
  have hb2 : p * (n + 1) ≤ 1000 * 32 := Int.mul_le_mul h3 (by omega) (by omega) (by omega)
  go_enter Try.func8, Try.ntmps8
  go_wp2_with (go_at_call 16; (with_reducible refine (again_at _ _ _).mono ?_); rintro e w1 ⟨rfl, rfl⟩)
  go_ret2
  exact ⟨w.heap.size + 1 + 1, rfl, by omega, E3.madeAt _ _ (by simp) _ _ _, ((((Below.refl _ _).alloc (Nat.le_refl _) _).alloc (by simp) _).alloc (by simp; omega) _)⟩

theorem new_bad (n p : Int) (w : World) (h : ¬ (((0 ≤ n ∧ n < 32) ∧ 1 ≤ p) ∧ p ≤ 1000)) :
    Calls Try.prog 8 #[.int .i64 n, .int .i64 p] w fun e w' => e = .returned (.tuple #[.pointer none, .int .i64 1]) ∧ w = w' := by
  go_enter Try.func8, Try.ntmps8
  go_wp2
  all_goals (go_ret2; exact ⟨rfl, rfl⟩)

theorem left_any (b : Nat) (t l m : Int) (w : World) (h : E3 w b t l m) :
    Calls Try.prog 14 #[.pointer (some ⟨b, 0, none⟩)] w fun e w' => e = .returned (.int .i64 l) ∧ w = w' := by
  obtain ⟨c0, c1, c2, f0, f1, f2⟩ := h
  go_enter Try.func14, Try.ntmps14
  go_wp2
  go_ret
  exact ⟨rfl, rfl⟩

theorem top_any (b : Nat) (t l m : Int) (w : World) (h : E3 w b t l m) :
    Calls Try.prog 15 #[.pointer (some ⟨b, 0, none⟩)] w fun e w' => e = .returned (.int .u64 m) ∧ w = w' := by
  obtain ⟨c0, c1, c2, f0, f1, f2⟩ := h
  go_enter Try.func15, Try.ntmps15
  go_wp2
  go_ret
  exact ⟨rfl, rfl⟩

theorem tick_no (b : Nat) (t l m : Int) (w : World) (h : E3 w b t l m) (h1 : 2 ≤ l) (h2 : l ≤ 9223372036854775807) :
    Calls Try.prog 10 #[.pointer (some ⟨b, 0, none⟩)] w fun e w' => e = .returned (.bool false) ∧ E3 w' b t (l - 1) m ∧ w.grownBy w' (some b) := by
  have hlt := h.lt
  have hne : ((l - 1 : Int) == 0) = false := by simp; omega
  have H := Lib.hid h
  obtain ⟨c0, c1, c2, f0, f1, f2⟩ := h
  go_enter Try.func10, Try.ntmps10
  go_wp2
  go_region
  go_wp2
  go_ret
  exact ⟨rfl, (H.out.set1 _).drew, gr_drew (gr_set (World.grownBy.refl _ _) _ _)⟩

theorem tick_yes (b : Nat) (t m : Int) (w : World) (h : E3 w b t 1 m) :
    Calls Try.prog 10 #[.pointer (some ⟨b, 0, none⟩)] w fun e w' => e = .returned (.bool true) ∧ E3 w' b t t m ∧ w.grownBy w' (some b) := by
  have hlt := h.lt
  have H := Lib.hid h
  obtain ⟨c0, c1, c2, f0, f1, f2⟩ := h
  go_enter Try.func10, Try.ntmps10
  go_wp2
  go_region
  go_wp2_with (go_at_call 16; (with_reducible refine (again_at _ _ _).mono ?_); rintro e w1 ⟨rfl, rfl⟩)
  go_ret
  exact ⟨rfl, ((((((H.out.set1 _).set0 _).set1 _).alloc _).alloc _).drew), gr_drew (gr_alloc (gr_alloc (gr_set (gr_set (gr_set (World.grownBy.refl _ _) _ _) _ _) _ _) _) _)⟩

theorem tick_nil (w : World) : Calls Try.prog 10 #[.pointer none] w fun e w' => e = .returned (.bool false) ∧ w = w' := by
  go_enter Try.func10, Try.ntmps10
  go_wp2
  go_ret
  exact ⟨rfl, rfl⟩

theorem left_nil (w : World) : Calls Try.prog 14 #[.pointer none] w fun e w' => e = .returned (.int .i64 0) ∧ w = w' := by
  go_enter Try.func14, Try.ntmps14
  go_wp2
  go_ret
  exact ⟨rfl, rfl⟩

theorem top_nil (w : World) : Calls Try.prog 15 #[.pointer none] w fun e w' => e = .returned (.int .u64 0) ∧ w = w' := by
  go_enter Try.func15, Try.ntmps15
  go_wp2
  go_ret
  exact ⟨rfl, rfl⟩

theorem heard_nil (x : Int) (w : World) : Calls Try.prog 12 #[.pointer none, .int .u64 x] w fun e w' => e = .returned (.bool false) ∧ w = w' := by
  go_enter Try.func12, Try.ntmps12
  go_wp2
  go_ret
  exact ⟨rfl, rfl⟩

theorem heard_no (b : Nat) (t l m x : Int) (w : World) (h : E3 w b t l m) (h1 : x < m) :
    Calls Try.prog 12 #[.pointer (some ⟨b, 0, none⟩), .int .u64 x] w fun e w' => e = .returned (.bool false) ∧ w = w' := by
  have hlt := h.lt
  obtain ⟨c0, c1, c2, f0, f1, f2⟩ := h
  go_enter Try.func12, Try.ntmps12
  go_wp2
  go_ret
  exact ⟨rfl, rfl⟩

theorem heard_yes (b : Nat) (t l m x : Int) (w : World) (h : E3 w b t l m) (h1 : m ≤ x) :
    Calls Try.prog 12 #[.pointer (some ⟨b, 0, none⟩), .int .u64 x] w fun e w' => e = .returned (.bool true) ∧ E3 w' b t t x ∧ w.grownBy w' (some b) := by
  have hlt := h.lt
  have H := Lib.hid h
  obtain ⟨c0, c1, c2, f0, f1, f2⟩ := h
  go_enter Try.func12, Try.ntmps12
  go_wp2_with (go_at_call 16; (with_reducible refine (again_at _ _ _).mono ?_); rintro e w1 ⟨rfl, rfl⟩)
  go_ret
  exact ⟨rfl, (((((H.out.set2 _).set0 _).set1 _).alloc _).alloc _), gr_alloc (gr_alloc (gr_set (gr_set (gr_set (World.grownBy.refl _ _) _ _) _ _) _ _) _) _⟩

/-- The reference's counter as a value. -/
abbrev e3 (t l m : Int) : Value := .agg #[.int .i64 t, .int .i64 l, .int .u64 m]

theorem rtick_no (t l m : Int) (w : World) (h1 : 2 ≤ l) (h2 : l ≤ 9223372036854775807) :
    Calls Try.prog 11 #[e3 t l m] w fun e w' => e = .returned (.tuple #[e3 t (l - 1) m, .bool false]) ∧ Below w.heap.size w w' := by
  go_enter Try.func11, Try.ntmps11
  go_wp2
  refine bodyPost_ret (v := .tuple #[e3 t (l - 1) m, .bool false]) (by simp [results, Try.results11, go_sem]) rfl ⟨rfl, ?_⟩
  exact ((Below.refl _ _).alloc (Nat.le_refl _) _).alloc (by simp) _

theorem rtick_yes (t l m : Int) (w : World) (h1 : l ≤ 1) :
    Calls Try.prog 11 #[e3 t l m] w fun e w' => e = .returned (.tuple #[e3 t t m, .bool true]) ∧ Below w.heap.size w w' := by
  go_enter Try.func11, Try.ntmps11
  go_wp2
  refine bodyPost_ret (v := .tuple #[e3 t t m, .bool true]) (by simp [results, Try.results11, go_sem]) rfl ⟨rfl, ?_⟩
  exact ((Below.refl _ _).alloc (Nat.le_refl _) _).alloc (by simp) _

theorem rheard_no (t l m x : Int) (w : World) (h1 : x < m) :
    Calls Try.prog 13 #[e3 t l m, .int .u64 x] w fun e w' => e = .returned (.tuple #[e3 t l m, .bool false]) ∧ Below w.heap.size w w' := by
  go_enter Try.func13, Try.ntmps13
  go_wp2
  refine bodyPost_ret (v := .tuple #[e3 t l m, .bool false]) (by simp [results, Try.results13, go_sem]) rfl ⟨rfl, ?_⟩
  exact ((Below.refl _ _).alloc (Nat.le_refl _) _).alloc (by simp) _

theorem rheard_yes (t l m x : Int) (w : World) (h1 : m ≤ x) :
    Calls Try.prog 13 #[e3 t l m, .int .u64 x] w fun e w' => e = .returned (.tuple #[e3 t t x, .bool true]) ∧ Below w.heap.size w w' := by
  go_enter Try.func13, Try.ntmps13
  go_wp2
  refine bodyPost_ret (v := .tuple #[e3 t t x, .bool true]) (by simp [results, Try.results13, go_sem]) rfl ⟨rfl, ?_⟩
  exact ((Below.refl _ _).alloc (Nat.le_refl _) _).alloc (by simp) _

theorem rnew_bad (n p : Int) (w : World) (h : ¬ (((0 ≤ n ∧ n < 32) ∧ 1 ≤ p) ∧ p ≤ 1000)) :
    Calls Try.prog 9 #[.int .i64 n, .int .i64 p] w fun e w' => e = .returned (.tuple #[e3 0 0 0, .bool false]) ∧ Below w.heap.size w w' := by
  go_enter Try.func9, Try.ntmps9
  go_wp2
  all_goals refine bodyPost_ret (v := .tuple #[e3 0 0 0, .bool false]) (by simp [results, Try.results9, go_sem]) rfl ⟨rfl, ?_⟩
  all_goals exact (Below.refl _ _).alloc (Nat.le_refl _) _

theorem rnew_ok (n p : Int) (w : World) (h0 : 0 ≤ n) (h1 : n < 32) (h2 : 1 ≤ p) (h3 : p ≤ 1000) :
    Calls Try.prog 9 #[.int .i64 n, .int .i64 p] w fun e w' => e = .returned (.tuple #[e3 (p * (n + 1)) (p * (n + 1)) 0, .bool true]) ∧ Below w.heap.size w w' := by
  go_enter Try.func9, Try.ntmps9
  go_wp2
  go_loop [6, 7] (fun s i => ∃ k : Nat, i = .int .i64 k ∧ s = .int .i64 (p * k) ∧ (k : Int) ≤ n + 1) (fun _ i => 33 - (intOf i).toNat)
  case atStart => exact ⟨0, rfl, by simp, by omega⟩
  case round =>
    obtain ⟨k, rfl, rfl, hk⟩ := hrel
    have hb : 0 ≤ p * (k : Int) := Int.mul_nonneg (by omega) (by omega)
    have hb2 : p * (k : Int) ≤ 1000 * 33 := Int.mul_le_mul h3 (by omega) (by omega) (by omega)
    by_cases hlt : (k : Int) ≤ n
    · go_wp2
      go_round
      case rel => exact ⟨k + 1, by go_num, by push_cast; rw [Int.mul_add]; simp, by omega⟩
      case measure => simp [intOf]; omega
    · have he : n + 1 = (k : Int) := by omega
      have H := Lib.hid he
      clear he
      go_wp2
      rw [H.out]
      refine bodyPost_ret (v := .tuple #[e3 (p * k) (p * k) 0, .bool true]) (by simp [results, Try.results9, go_sem]) rfl ⟨rfl, ?_⟩
      exact (Below.refl _ _).alloc (Nat.le_refl _) _
end Go.Proofs.Ytjdnmgigongegaa
