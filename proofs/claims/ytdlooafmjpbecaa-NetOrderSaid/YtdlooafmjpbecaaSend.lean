/-
  The contract of Send.
-/
import Derived.Test.YtdlooafmjpbecaaFns
import Derived.Deep.RegionLaw
namespace Go.Proofs.Ytdlooafmjpbecaa
open Go.ChangeShapes Go.WideShapes Go.ChangeAt Go.RowKit

theorem info32 : (Try.prog.info? 32).map (fun i => (i.zero, i.size, i.bytes)) = some (some (.agg #[.int .i64 0, .int .i64 0, .slice none 0 0]), 3, 40) := by kernel_rfl

/-- What Send leaves. -/
def Sent (w : World) (B nb : Nat) (N : Int) (ps : List Pk) (fr to : Int) (bs : List Value) (e : Ending) (w' : World) : Prop :=
  ∃ v' p, e = .returned (.int .i64 0) ∧ p.fr = fr ∧ p.to = to ∧ p.bs = bs ∧ NetAt w' B nb N v' (ps ++ [p]) ∧ Step B w w' ∧ (0 < p.n → ∃ g, p.ad = some ⟨g, 0, none⟩ ∧ w.heap.size ≤ g)

theorem clone_any (a : Option Addr) (n c : Nat) (bs : List Value) (w : World) (h : Src w a n bs) : Calls Try.prog 16 #[.slice a n c] w (Cloned w n bs) := by
  obtain ⟨h1, h2, h3, h4⟩ := h
  rcases h4 with ⟨rfl, rfl⟩ | ⟨ad, rfl, h4⟩
  · have : bs = [] := List.eq_nil_of_length_eq_zero h1
    subst this
    exact clone_nil c w
  · exact clone_some ad n c bs w h1 h2 h3 h4

theorem Src.alloc {w : World} {a : Option Addr} {n : Nat} {bs : List Value} (h : Src w a n bs) (o : Obj) : Src (w.alloc o) a n bs := by
  obtain ⟨h1, h2, h3, h4⟩ := h
  refine ⟨h1, h2, h3, ?_⟩
  rcases h4 with h4 | ⟨ad, rfl, h4⟩
  · exact Or.inl h4
  · exact Or.inr ⟨ad, rfl, fun j u hj => (World.cell?_alloc_lt _ _ _ (World.block_lt_of_cell? _ _ (h4 j u hj))).trans (h4 j u hj)⟩

theorem gr_set {w w' : World} {b : Nat} (h : w.grownBy w' (some b)) (i : Nat) (v : Value) : w.grownBy (w'.setCell ⟨b, i, none⟩ v) (some b) :=
  ⟨h.os, h.tape, h.output, by simpa using h.size, fun k hk hr => (Below.heap_setCell _ _ _ _ (by intro e; exact hr (by rw [e]))).trans (h.block k hk hr)⟩
theorem gr_alloc {w w' : World} {row : Option Nat} (h : w.grownBy w' row) (o : Obj) : w.grownBy (w'.alloc o) row :=
  ⟨h.os, h.tape, h.output, by have := h.size; simp; omega, fun k hk hr => (Below.heap_alloc _ _ _ (by have := h.size; omega)).trans (h.block k hk hr)⟩
theorem gr_drew {w w' : World} {row : Option Nat} (h : w.grownBy w' row) : w.grownBy w'.drew row := ⟨h.os, h.tape, h.output, h.size, h.block⟩

/-- Behind a write to the row the net's own block is as it was. -/
theorem head_after {w w' : World} {nb : Nat} {N v : Value} {row : Option Nat} (h : Whole w nb 46 #[N, v]) (hg : w.grownBy w' row) (hr : some nb ≠ row) :
    Whole w' nb 46 #[N, v] ∧ w'.cell? ⟨nb, 1, none⟩ = some v ∧ w'.frozen? ⟨nb, 1, none⟩ = false := by
  have h' := h.grown hg hr
  exact ⟨h', h'.cell 1, h'.free 1⟩

/-- A write to the row of packets. -/
theorem Step.grown {B : Nat} {a b c : World} {v : Value} {n : Nat} {xs : List Value} (h : Step B a b) (hr : b.ownsRow B 32 3 v n xs) (hB : B ≤ b.heap.size) (hg : b.grownBy c v.ownBlock) : Step B a c := by
  refine ⟨h.below.grown hg hB (fun k hk => (hr.lt k hk).1), h.bytes.grown hg fun k hk => ?_⟩
  rcases hr.2 with ⟨rfl, _⟩ | ⟨g, cap, cur, rfl, _, hh, _⟩
  · simp [Value.ownBlock] at hk
  · have : g = k := by simpa [Value.ownBlock] using hk
    subst this
    exact ⟨32, cur, (0, 0), hh, by decide⟩

/-- The net behind a store of a new row into its head. -/
theorem NetAt.store {w : World} {B nb : Nat} {N : Int} {v v' : Value} {ps : List Pk} (hb : B ≤ nb) (hh : Whole w nb 46 #[.int .i64 N, v]) (hr : w.ownsRow B 32 3 v' ps.length (rowOf ps)) (hd : ∀ p ∈ ps, Dat w p) :
    NetAt (w.setCell ⟨nb, 1, none⟩ v') B nb N v' ps :=
  ⟨hb, hh.put 1 v', hr.kept (gr_set (World.grownBy.refl w (some nb)) 1 v') (Or.inr (fun e => own_ne hr hh (by decide) e.symm)), fun p hp => (hd p hp).kept ((Bytes.refl w).put hh (by decide) 1 v')⟩

/-- Behind Clone: the net and the boxed packet are as they were. -/
theorem after_clone {w w2 : World} {B nb : Nat} {N : Int} {v : Value} {ps : List Pk} (h : NetAt w B nb N v ps) (x y z : Value) (hb : Below (w.alloc (.cells #[x, y, z] 32)).heap.size (w.alloc (.cells #[x, y, z] 32)) w2) :
    NetAt w2 B nb N v ps ∧ Whole w2 w.heap.size 32 #[x, y, z] ∧ w.heap.size < w2.heap.size ∧
    w2.cell? ⟨w.heap.size, 0, none⟩ = some x ∧ w2.cell? ⟨w.heap.size, 1, none⟩ = some y ∧ w2.cell? ⟨w.heap.size, 2, none⟩ = some z ∧ w2.frozen? ⟨w.heap.size, 2, none⟩ = false ∧
    w2.cell? ⟨nb, 1, none⟩ = some v ∧ w2.frozen? ⟨nb, 1, none⟩ = false ∧ nb ≠ w.heap.size := by
  have h1 : NetAt (w.alloc (.cells #[x, y, z] 32)) B nb N v ps := h.later ((Below.refl _ _).alloc (Nat.le_refl _) _)
  have h2 := h1.later hb
  have h3 : Whole w2 w.heap.size 32 #[x, y, z] := (Whole.made w 32 #[x, y, z]).below hb (by simp)
  exact ⟨h2, h3, h3.lt, h3.cell 0, h3.cell 1, h3.cell 2, h3.free 2, h2.cell1, h2.head.free 1, by have := h.head.lt; omega⟩

set_option maxRecDepth 100000 in
theorem send_ok (w : World) (B nb : Nat) (N : Int) (v : Value) (ps : List Pk) (fr to : Int) (a : Option Addr) (n c : Nat) (bs : List Value) (h : NetAt w B nb N v ps) (hB : B ≤ w.heap.size)
    (hs : Src w a n bs) (h0 : 0 ≤ fr) (h1 : fr < N) (h2 : 0 ≤ to) (h3 : to < N) (hfull : ps.length < 4096) :
    Calls Try.prog 9 #[.pointer (some ⟨nb, 0, none⟩), .agg #[.int .i64 fr, .int .i64 to, .slice a n c]] w (Sent w B nb N ps fr to bs) := by
  obtain ⟨i0, hi0, hz0, hz1, hz2⟩ := info_parts info32
  obtain ⟨va, vc, hv⟩ : ∃ a cap, v = .slice a ps.length cap := by
    rcases h.row.2 with ⟨rfl, hn⟩ | ⟨g, cap, cur, rfl, _⟩
    · exact ⟨none, 0, by rw [hn]⟩
    · exact ⟨_, _, rfl⟩
  subst hv
  have c0 := h.cell0
  have c1 := h.cell1
  have hlt := h.head.lt
  have C0 : Hid (∀ o, (w.alloc o).cell? ⟨nb, 0, none⟩ = some (.int .i64 N)) := fun o => (World.cell?_alloc_lt _ _ _ hlt).trans c0
  have HN := Lib.hid h
  have HS := Lib.hid hs
  clear h hs
  go_enter Try.func9, Try.ntmps9
  go_wp2_with (first | (go_at_call 15; (with_reducible refine (node_yes _ _ N _ (C0.out _) (by omega) (by omega)).mono ?_); rintro e w1 ⟨rfl, rfl⟩) | (go_at_call 16; (with_reducible refine (clone_any _ _ _ _ _ (HS.out.alloc _)).mono ?_); rintro e w2 ⟨a2, cc, rfl, hdat, hbel⟩; obtain ⟨hN2, hbox, hsz, d0, d1, d2, g2, e1, e2, hne⟩ := after_clone HN.out _ _ _ hbel))
  have hrow : Hid (((w2.setCell ⟨w.heap.size, 2, none⟩ (.slice a2 n cc)).alloc (.cells #[.int .i64 fr, .int .i64 to, .slice a2 n cc] 32)).drew.ownsRow B 32 3 (.slice va ps.length vc) ps.length (rowOf ps)) := by
    refine hN2.row.kept (row := some w.heap.size) (gr_drew (gr_alloc (gr_set (World.grownBy.refl _ _) 2 _) _)) (Or.inr fun e => ?_)
    have := (HN.out.row.lt _ e).2
    omega
  have hnews : Hid (∀ j u, [Value.int .i64 fr, .int .i64 to, .slice a2 n cc][j]? = some u → ((w2.setCell ⟨w.heap.size, 2, none⟩ (.slice a2 n cc)).alloc (.cells #[.int .i64 fr, .int .i64 to, .slice a2 n cc] 32)).drew.cell? ((⟨w2.heap.size, 0, none⟩ : Addr).add j) = some u) := by
    have := World.news_of_block (cs := #[.int .i64 fr, .int .i64 to, .slice a2 n cc]) (t := 32) (fr := (0, 0)) (heap_alloc_new (w2.setCell ⟨w.heap.size, 2, none⟩ (.slice a2 n cc)) (.cells #[.int .i64 fr, .int .i64 to, .slice a2 n cc] 32))
    rw [World.size_setCell] at this
    exact this
  have hB2 : B ≤ w2.heap.size := by omega
  have hlt2 : nb < w2.heap.size := by omega
  have hhead : Hid (Whole ((w2.setCell ⟨w.heap.size, 2, none⟩ (.slice a2 n cc)).alloc (.cells #[.int .i64 fr, .int .i64 to, .slice a2 n cc] 32)).drew nb 46 #[.int .i64 N, .slice va ps.length vc]) := ((hN2.head.apart (p := ⟨w.heap.size, 2, none⟩) hne _).alloc _).drew
  have hnv : some nb ≠ (Value.slice va ps.length vc).ownBlock := own_ne hN2.row hN2.head (by decide)
  go_region_law ((refine step_append_lies _ (by rfl) _ _ _ (by rfl) B 32 i0 _ 3 40 Try.underlying44 hi0 hz0 hz1 hz2 rfl (by omega) (.slice va ps.length vc) ps.length (rowOf ps) (by rfl) hrow.out ⟨w2.heap.size, 0, none⟩ 1 1 [.int .i64 fr, .int .i64 to, .slice a2 n cc] (by rfl) (by rfl) hnews.out (by simp [Value.oneCell']) (by omega) (by simp only [maxLen]; omega) (by omega) (by simp; omega) (w2.heap.size + 1) (by simp) ?_; intro g cap w3 hown3 hgrow hat hlt3; obtain ⟨hh3, k1, k2⟩ := head_after hhead.out hgrow hnv))
  all_goals
    go_wp2
    go_ret
    have hS2 : Step B w w2 := ((Step.refl B w).alloc hB _).after (by simp; omega) hbel
    have hS3 : Step B w w3 := (((hS2.put hbox (by decide) hB 2 (.slice a2 n cc)).alloc (by simp; omega) _).drew).grown hrow.out (by simp; omega) hgrow
    have hBy : Bytes w2 w3 := ((((Step.refl B w2).put hbox (by decide) hB 2 (.slice a2 n cc)).alloc (by simp; omega) (.cells #[.int .i64 fr, .int .i64 to, .slice a2 n cc] 32)).drew.grown hrow.out (by simp; omega) hgrow).bytes
    refine ⟨_, ⟨fr, to, a2, n, cc, bs⟩, rfl, rfl, rfl, rfl, NetAt.store HN.out.base hh3 ?_ ?_, hS3.put hh3 (by decide) HN.out.base 1 _, fun hn => ?_⟩
    · rw [List.length_append, rowOf_append, rowOf_one]; exact hown3
    · intro p hp
      rcases List.mem_append.1 hp with hp | hp
      · exact (HN.out.dat p hp).kept hS3.bytes
      · obtain rfl := List.mem_singleton.1 hp
        refine ⟨HS.out.1, HS.out.2.1, HS.out.2.2.1, fun hn => ?_⟩
        obtain ⟨g', cs, f, q1, q2, q3, _⟩ := hdat hn
        exact ⟨g', cs, f, q1, hBy g' cs 5 f (by decide) q2, q3⟩
    · obtain ⟨g', cs, f, q1, q2, q3, q4⟩ := hdat hn
      exact ⟨g', q1, by simp at q4; omega⟩

/-- What a call leaves that tells a number and turns nothing of the net. -/
def Told (w : World) (B nb : Nat) (N : Int) (v : Value) (ps : List Pk) (r : Int) (e : Ending) (w' : World) : Prop :=
  e = .returned (.int .i64 r) ∧ NetAt w' B nb N v ps ∧ Step B w w'

set_option maxRecDepth 100000 in
theorem send_full (w : World) (B nb : Nat) (N : Int) (v : Value) (ps : List Pk) (fr to : Int) (x : Value) (h : NetAt w B nb N v ps) (hB : B ≤ w.heap.size)
    (h0 : 0 ≤ fr) (h1 : fr < N) (h2 : 0 ≤ to) (h3 : to < N) (hfull : 4096 ≤ ps.length) :
    Calls Try.prog 9 #[.pointer (some ⟨nb, 0, none⟩), .agg #[.int .i64 fr, .int .i64 to, x]] w (Told w B nb N v ps 13) := by
  obtain ⟨va, vc, hv⟩ : ∃ a cap, v = .slice a ps.length cap := by
    rcases h.row.2 with ⟨rfl, hn⟩ | ⟨g, cap, cur, rfl, _⟩
    · exact ⟨none, 0, by rw [hn]⟩
    · exact ⟨_, _, rfl⟩
  subst hv
  have c0 := h.cell0
  have c1 := h.cell1
  have hlt := h.head.lt
  have C0 : Hid (∀ o, (w.alloc o).cell? ⟨nb, 0, none⟩ = some (.int .i64 N)) := fun o => (World.cell?_alloc_lt _ _ _ hlt).trans c0
  have HN := Lib.hid h
  clear h
  go_enter Try.func9, Try.ntmps9
  go_wp2_with (first | (go_at_call 15; (with_reducible refine (node_yes _ _ N _ (C0.out _) (by omega) (by omega)).mono ?_); rintro e w1 ⟨rfl, rfl⟩))
  go_ret
  exact ⟨rfl, HN.out.later ((Below.refl _ _).alloc (Nat.le_refl _) _), (Step.refl B w).alloc hB _⟩
end Go.Proofs.Ytdlooafmjpbecaa
