/-
  The contracts of Note.
-/
import Derived.Test.YtnbbbgoecndjhaaOn
import Derived.Deep.RegionLaw
namespace Go.Proofs.Ytnbbbgoecndjhaa
open Go.ChangeShapes Go.WideShapes Go.ChangeAt Go.RowKit

/-- append to an empty row of the call's own, as one step of a region that draws. -/
theorem step_append_empty {P : Program} {ops : Array Oper} {o : Oper} {a : Act} {w : World} {K : Act → World → Prop} {Q : Exit → Act → World → Prop} {E : Prop} (hgd : o.guard = none) (s x : Operand) (t : TypeId)
    (ho : o.op = .call { callee := .builtin .append, args := #[s, x], argTypes := #[t, t] })
    (base : Nat) (e : TypeId) (i : TypeInfo) (z : Value) (size bytes : Nat) (ht : P.underlying t = some (.slice e)) (hi : P.info? e = some i) (hz : i.zero = some z)
    (hsize : i.size = size) (hby : i.bytes = bytes) (hzs : z.cells.size = size) (hsz : 0 < size)
    (H : Nat) (hs : a.eval s = .slice (some ⟨H, 0, none⟩) 0 0) (hown : w.ownsRow base e size (.slice (some ⟨H, 0, none⟩) 0 0) 0 [])
    (ad : Addr) (m c : Nat) (news : List Value) (hx : a.eval x = .slice (some ad) m c) (hl : news.length = m * size) (hnews : ∀ j u, news[j]? = some u → w.cell? (ad.add j) = some u) (h1 : ∀ u ∈ news, u.oneCell' = true)
    (h63 : 0 + m ≤ maxLen) (hbytes : (0 + m) * bytes ≤ 140737488355328) (hbase : base ≤ w.heap.size)
    (h : ∀ g cap cur w', w'.heap[g]? = some (.cells cur e (0, 0)) → base ≤ g → cur.toList.take (m * size) = news → w.grownBy w' (some H) → K (a.put o.dst (.slice (some ⟨g, 0, none⟩) m cap)) w') :
    if Region.wanted o (yielded ops a.tmps) = true then Oper.wp P o a w K Q else E := by
  have hw : Region.wanted o (yielded ops a.tmps) = true := by simp [Region.wanted, hgd]
  rw [if_pos hw]
  obtain ⟨v', w', hr, h2, h3, h4, _⟩ := run_append_own_at (P := P) w base t o.type e i z size bytes ht hi hz hsize hby hzs hsz _ 0 [] hown ad m c news hl hnews h1 h63 hbytes hbase
  rcases h2.2 with ⟨rfl, _⟩ | ⟨g, cap, cur, rfl, hg, hh, _, _, _, htk⟩
  · exact absurd (h4.1 rfl).1 (by simp)
  · unfold Oper.wp execOp
    simp only [ho, resolve, invoke, builtin, Sem.run_bind, Sem.run_pure, Result.andThen_ok, List.map_toArray, List.map_cons, List.map_nil, hs, hx, hr]
    rw [Nat.zero_add, List.nil_append] at htk
    rw [Nat.zero_add]
    exact h g cap cur w' hh hg htk h3

/-- Bytes that are read: nil, or a row of cells. -/
def Row (w : World) (a : Option Addr) (n : Nat) (xs : List Int) : Prop :=
  xs.length = n ∧ n ≤ 4096 ∧ ((a = none ∧ n = 0) ∨ ∃ g off, a = some ⟨g, off, none⟩ ∧ ∀ j, j < n → w.cell? ⟨g, off + j, none⟩ = some (.int .u8 (xs.getD j 0)))

theorem conv_zero (w : World) (a : Option Addr) (c : Nat) : (convert 23 9 (.slice a 0 c)).run Try.prog w = .ok (.string (strOfNums [])) w := by
  cases a with
  | none => exact run_convert_bytes_nil w 23 5 Try.underlying23 Try.underlying5 0 c 9 Try.underlying9
  | some ad =>
    rw [run_convert_bytes_string w 23 9 5 (some ad) 0 c Try.underlying23 Try.underlying5 Try.underlying9, run_bytesToString w ad 0 c [] (by simp [loadCells, loadCellsFrom])]
    rfl

theorem Row.conv {w : World} {a : Option Addr} {n : Nat} {xs : List Int} (h : Row w a n xs) (c : Nat) : (convert 23 9 (.slice a n c)).run Try.prog w = .ok (.string (strOfNums xs)) w := by
  obtain ⟨h1, h2, h3⟩ := h
  rcases h3 with ⟨rfl, rfl⟩ | ⟨g, off, rfl, hc⟩
  · have : xs = [] := List.eq_nil_of_length_eq_zero h1
    subst this
    exact conv_zero w none c
  · exact run_convert_bytes_arg w 23 5 Try.underlying23 Try.underlying5 g off n c xs h1 hc 9 Try.underlying9

theorem Row.later {w w' : World} {a : Option Addr} {n : Nat} {xs : List Int} (h : Row w a n xs) (hb : Below w.heap.size w w') : Row w' a n xs := by
  obtain ⟨h1, h2, h3⟩ := h
  refine ⟨h1, h2, ?_⟩
  rcases h3 with h3 | ⟨g, off, rfl, hc⟩
  · exact Or.inl h3
  · exact Or.inr ⟨g, off, rfl, fun j hj => (hb.cell (p := ⟨g, off + j, none⟩) (World.block_lt_of_cell? _ _ (hc j hj))).trans (hc j hj)⟩

theorem Row.src {w : World} {a : Option Addr} {n : Nat} {xs : List Int} (h : Row w a n xs) : Src w a n (xs.map (Value.int .u8)) := by
  obtain ⟨h1, h2, h3⟩ := h
  refine ⟨by simpa using h1, h2, by intro u hu; obtain ⟨x, _, rfl⟩ := List.mem_map.1 hu; rfl, ?_⟩
  rcases h3 with h3 | ⟨g, off, rfl, hc⟩
  · exact Or.inl h3
  · refine Or.inr ⟨_, rfl, fun j u hj => ?_⟩
    have hjl : j < n := by have := (List.getElem?_eq_some_iff.1 hj).1; simp at this; omega
    rw [Addr.add_lit, hc j hjl, ← hj, List.getElem?_map, List.getD_eq_getElem?_getD, List.getElem?_eq_getElem (by omega)]
    rfl

/-- What is known at k, as bytes that are read. -/
theorem VMem.row {w : World} {B vb mb n : Nat} {low next : Int} {M : Int → Option (List Int)} {F : Int → Value} (h : VMem w B vb mb n low next M F) {k : Int} {xs : List Int} (hk : M k = some xs) (hl : xs.length ≤ 4096) :
    ∃ g c, F k = .slice (some ⟨g, 0, none⟩) xs.length c ∧ Row w (some ⟨g, 0, none⟩) xs.length xs := by
  obtain ⟨g, c, cs, fr, q1, q2, q3⟩ := h.known k xs hk
  refine ⟨g, c, q1, rfl, hl, Or.inr ⟨g, 0, rfl, fun j hj => ?_⟩⟩
  rw [Nat.zero_add, cell_of_row w g j cs 5 fr q2]
  refine q3 j _ ?_
  rw [List.getElem?_map, List.getElem?_eq_getElem hj, List.getD_eq_getElem?_getD, List.getElem?_eq_getElem hj]
  rfl

def upd (M : Int → Option (List Int)) (pos : Int) (xs : List Int) : Int → Option (List Int) := fun x => if x = pos then some xs else M x

theorem VMem.apart {w : World} {B vb mb n : Nat} {low next : Int} {M : Int → Option (List Int)} {F : Int → Value} (h : VMem w B vb mb n low next M F) {g : Nat} {cs : Array Value} {t : TypeId} {fr : Nat × Nat} (hg : w.heap[g]? = some (.cells cs t fr)) : g ≠ mb := by
  obtain ⟨D, ⟨es, cl, hb, _⟩, _⟩ := h.map
  rintro rfl
  rw [hg] at hb
  cases hb

theorem VMem.noted {w w' : World} {B vb mb n : Nat} {low next : Int} {M : Int → Option (List Int)} {F : Int → Value} (h : VMem w B vb mb n low next M F) {pos : Int} {xs : List Int} {g c : Nat} {cs : Array Value} {fr : Nat × Nat} (hg : w.heap[g]? = some (.cells cs 5 fr)) (hx : ∀ (j : Nat) (u : Value), (xs.map (Value.int .u8))[j]? = some u → cs[j]? = some u)
    (hm : MAt w' mb (n + 1) (fun x => if x = pos then .slice (some ⟨g, 0, none⟩) xs.length c else F x)) (ht : w.mapTurned w' mb) :
    VMem w' B vb mb (n + 1) low next (upd M pos xs) (fun x => if x = pos then .slice (some ⟨g, 0, none⟩) xs.length c else F x) := by
  have hgr := ht.grown
  refine ⟨h.base, h.baseM, h.head.grown hgr (by have := h.apart h.head; simpa using this), hm, fun k hk => ?_, fun k ys hk => ?_⟩
  · unfold upd at hk
    by_cases e : k = pos
    · rw [if_pos e] at hk; cases hk
    · rw [if_neg e] at hk
      show (if k = pos then _ else _) = _
      rw [if_neg e]; exact h.absent k hk
  · unfold upd at hk
    by_cases e : k = pos
    · rw [if_pos e] at hk
      injection hk with hk
      subst hk
      exact ⟨g, c, cs, fr, if_pos e, (hgr.block g (heap_lt hg) (by have := h.apart hg; simpa using this)).trans hg, hx⟩
    · rw [if_neg e] at hk
      obtain ⟨g', c', cs', fr', q1, q2, q3⟩ := h.known k ys hk
      exact ⟨g', c', cs', fr', (if_neg e).trans q1, (hgr.block g' (heap_lt q2) (by have := h.apart q2; simpa using this)).trans q2, q3⟩
end Go.Proofs.Ytnbbbgoecndjhaa
