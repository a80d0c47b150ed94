/-
  A range over a function whose iterator writes a variable of its own between two rounds, and tells of each value what lies behind it.
-/
import Derived.Test.YtnbbbgoecndjhaaFrom
import Derived.RangeFuncNested
namespace Go.Proofs.Ytnbbbgoecndjhaa
open Go.ChangeShapes Go.WideShapes Go.ChangeAt Go.RowKit Go.Shelf
set_option linter.unusedVariables false

variable {F : Fence} {n : Nat} {P : Program}

/-- What one round tells the iterator. -/
def Told (J : List Value → World → Prop) (Jx : List Value → World → Prop) (Kp : World → World → Prop) (pre : List Value) (v : Value) (W : World) (e : Ending) (W' : World) : Prop :=
  ∃ b : Bool, e = .returned (.bool b) ∧ (b = true → J (pre ++ [v]) W' ∧ Kp W W') ∧ (b = false → Jx pre W')

/-- An iterator of one value: what it tells (Pre), what it does between (Ab), what a round keeps for it (Kp). -/
def SeqV (F : Fence) (n : Nat) (P : Program) (gf : Nat) (lb : Array Value) (Ab Kp : World → World → Prop) (Pre : Nat → Value → World → Prop) (S : List Value → Prop) (w : World) : Prop :=
  ∀ (l : Nat) (J Jx : List Value → World → Prop) (W : World), Below w.heap.size w W → (∀ pre A B, J pre A → Ab A B → J pre B) →
    (∀ pre v W1, J pre W1 → Pre pre.length v W1 → YieldAt F (n - 1) P l #[v] W1 (Told J Jx Kp pre v W1)) → J [] W →
    CallsIn F n P gf (#[.func (.yield l) #[] #[]] ++ lb) W fun e W' => (∃ v, e = .returned v) ∧ ((∃ xs, S xs ∧ J xs W') ∨ (∃ xs, Jx xs W'))

/-- How a round's body is left. -/
def roundLeft (B : Nat) (Kp : World → World → Prop) (I : List Value → World → Prop) (Ix : Code → List Value → World → Prop) (pre : List Value) (v : Value) (W : World) : Exit → Act → World → Prop
  | .normal, _, W' => KeepsFrom B W W' ∧ Kp W W' ∧ I (pre ++ [v]) W'
  | .exit id, _, W' => KeepsFrom B W W' ∧ Ix (.exit id) pre W'
  | _, _, _ => False

theorem range_v {g : Operand} {ps : Array Tmp} {assign body : Code} {Q : Exit → Act → World → Prop} {a : Act} {w : World}
    (hro : F.round = none) (h1 : 1 ≤ n) {gf : Nat} {lb : Array Value} (hg : a.eval g = .func (.func gf) #[] lb) (hFg : F.fn gf) (eg : ∀ args w, (callFunc gf args).run P w = .ok (.enter gf args) w)
    {Ab Kp : World → World → Prop} {Pre : Nat → Value → World → Prop} {S : List Value → Prop} (hseq : SeqV F (n - 1) P gf lb Ab Kp Pre S w) (hps : 1 = ps.size)
    (hAb : ∀ A B, Ab A B → KeepsFrom w.heap.size A B) (hKt : ∀ {A B C : World}, Kp A B → Kp B C → Kp A C)
    (hKb : ∀ (W : World) (l : Nat) (o o' : Obj), w.heap.size ≤ l → W.heap[l]? = some o → o.isCells = false → Kp W (W.putObj l o'))
    (hPre : ∀ k v, OwnFrom w.heap.size (fun (_ : Unit) W => Pre k v W))
    (I : List Value → World → Prop) (Ix : Code → List Value → World → Prop) (hI : OwnFrom w.heap.size I) (hIa : ∀ pre A B, I pre A → Ab A B → I pre B) (hIx : ∀ c, OwnFrom w.heap.size (Ix c)) (h0 : I [] w) (a₁ : Value → Act)
    (hassign : ∀ (l : Nat) (v : Value) (W : World) (K : Act → World → Prop), K (a₁ v) W →
      assign.wpIn (F.inRound l) (n - 1 - 1) P (Exit.then K (fun _ _ _ => False)) { tmps := (ps.zip #[v]).foldl (fun t (p, v) => t.setIfInBounds p v) a.tmps, defers := [] } W)
    (hbody : ∀ (l : Nat) (pre : List Value) (v : Value) (W : World), I pre W → Pre pre.length v W → body.wpIn (F.inRound l) (n - 1 - 1) P (roundLeft w.heap.size Kp I Ix pre v W) (a₁ v) W)
    (hdone : ∀ (D : Nat) (xs : List Value) (W : World), w.heap.size ≤ D → S xs → I xs W → W.heap[D]? = some (.deferred (some [])) → Q .normal { a with defers := { target := .collected D, args := #[] } :: a.defers } W)
    (hstop : ∀ (D : Nat) (c : Code) (pre : List Value) (W : World), w.heap.size ≤ D → Ix c pre W → W.heap[D]? = some (.deferred (some [])) → c.wpIn F n P Q { a with defers := { target := .collected D, args := #[] } :: a.defers } W) :
    (Code.rangeFunc g ps assign body).wpIn F n P Q a w := by
  refine wpIn_rangeFunc (fun fn hfn => ?_)
  rw [hro]
  -- the loop's record, in each of its states
  let rc : LoopState → Option Code → Obj := fun st pe => .loop { state := st, pending := pe, fn, tmps := a.tmps, params := ps, assign, body, defers := w.heap.size }
  let fresh : World := (w.alloc (.deferred (some []))).alloc (rc .ready none)
  have hsz : fresh.heap.size = w.heap.size + 2 := by simp [fresh]
  have hrec : fresh.heap[w.heap.size + 1]? = some (rc .ready none) := by
    have := World.alloc_heap_new (w.alloc (.deferred (some []))) (rc .ready none); rwa [World.size_alloc] at this
  have hdef : fresh.heap[w.heap.size]? = some (.deferred (some [])) := (Below.heap_alloc _ _ _ (by simp)).trans (World.alloc_heap_new w _)
  refine ⟨w.heap.size + 1, [{ target := .collected w.heap.size, args := #[] }], fresh, { target := .fn (.func gf) lb, args := #[.func (.yield (w.heap.size + 1)) #[] #[]] }, fresh, gf,
    #[.func (.yield (w.heap.size + 1)) #[] #[]] ++ lb, fresh, run_enterLoop_outer _ _ _ _ _, ?_, fun f' hf' => ?_, ?_, fun _ => h1, ?_⟩
  · simp only [resolve, hg]; simp [go_sem]
  · simp [Target.leads] at hf'; subst hf'; exact hFg
  · simp [invoke, go_sem, eg]
  -- what stands while the iterator is under way, and when a round has left the loop
  let J : List Value → World → Prop := fun pre W => I pre W ∧ W.heap[w.heap.size + 1]? = some (rc .ready none) ∧ W.heap[w.heap.size]? = some (.deferred (some []))
  let Jx : List Value → World → Prop := fun pre W => ∃ c, Ix c pre W ∧ W.heap[w.heap.size + 1]? = some (rc .done (some c)) ∧ W.heap[w.heap.size]? = some (.deferred (some []))
  have hJ0 : J [] fresh := ⟨hI.alloc _ (hI.alloc _ h0), hrec, hdef⟩
  have hJa : ∀ pre A B, J pre A → Ab A B → J pre B := fun pre A B h hab =>
    ⟨hIa pre A B h.1 hab, (hAb A B hab).same _ _ (by omega) h.2.1 rfl, (hAb A B hab).same _ _ (Nat.le_refl _) h.2.2 rfl⟩
  refine (hseq (w.heap.size + 1) J Jx fresh (((Below.refl _ w).alloc (Nat.le_refl _) _).alloc (by simp) _) hJa (fun pre v W hj hpre => ?_) hJ0).mono ?_
  · obtain ⟨hi, hl, hk⟩ := hj
    have hlt : w.heap.size + 1 < W.heap.size := (Array.getElem?_eq_some_iff.1 hl).1
    refine ⟨fn, _, assign, body, run_yield (P := P) (args := #[v]) hl hps, roundIn_of_wpIn hfn (hassign _ v W _ ⟨_, run_beginRound hl rfl, ?_⟩)⟩
    have hl2 : (W.putObj (w.heap.size + 1) (rc .busy none)).heap[w.heap.size + 1]? = some (rc .busy none) := World.putObj_heap_same hlt
    have hk2 : (W.putObj (w.heap.size + 1) (rc .busy none)).heap[w.heap.size]? = some (.deferred (some [])) := (World.putObj_heap_other (by omega)).trans hk
    have hpre2 : Pre pre.length v (W.putObj (w.heap.size + 1) (rc .busy none)) := (hPre _ _).putObj (s := ()) _ hpre (by omega) hl rfl
    refine wpIn_mono (hbody _ pre v _ (hI.putObj _ hi (by omega) hl rfl) hpre2) ?_
    -- the round's end, whatever jump is pending
    have fin : ∀ (jump : Option Code) (W3 : World), KeepsFrom w.heap.size (W.putObj (w.heap.size + 1) (rc .busy none)) W3 →
        W3.heap[w.heap.size + 1]? = some (rc .busy none) ∧ (Instr.endRound (w.heap.size + 1) jump).run P W3 = .ok (.bool jump.isNone) (W3.putObj (w.heap.size + 1) (rc (if jump.isNone then .ready else .done) jump)) ∧
        (W3.putObj (w.heap.size + 1) (rc (if jump.isNone then .ready else .done) jump)).heap[w.heap.size + 1]? = some (rc (if jump.isNone then .ready else .done) jump) ∧
        (W3.putObj (w.heap.size + 1) (rc (if jump.isNone then .ready else .done) jump)).heap[w.heap.size]? = some (.deferred (some [])) := fun jump W3 hk3 => by
      have hl3 := hk3.same _ _ (by omega) hl2 rfl
      exact ⟨hl3, run_endRound (P := P) jump hl3, World.putObj_heap_same (Array.getElem?_eq_some_iff.1 hl3).1, (World.putObj_heap_other (by omega)).trans (hk3.same _ _ (Nat.le_refl _) hk2 rfl)⟩
    intro e a3 W3 hp
    cases e with
    | normal =>
      obtain ⟨hk3, hkp3, hi3⟩ := hp
      obtain ⟨hl3, hr, hl4, hk4⟩ := fin none W3 hk3
      exact ⟨_, _, hr, true, rfl, fun _ => ⟨⟨hI.putObj _ hi3 (by omega) hl3 rfl, hl4, hk4⟩, hKt (hKt (hKb _ _ _ _ (by omega) hl rfl) hkp3) (hKb _ _ _ _ (by omega) hl3 rfl)⟩, fun h => by cases h⟩
    | exit id =>
      obtain ⟨hk3, hi3⟩ := hp
      obtain ⟨hl3, hr, hl4, hk4⟩ := fin (some (.exit id)) W3 hk3
      exact ⟨_, _, hr, false, rfl, fun h => (by cases h), fun _ => ⟨_, (hIx _).putObj _ hi3 (by omega) hl3 rfl, hl4, hk4⟩⟩
    | ret => exact hp.elim
    | goto t => exact hp.elim
    | panic ch => exact hp.elim
    | outgrown => exact hp.elim
  · rintro e W2 ⟨⟨v, rfl⟩, (⟨xs, hS, hi, hl, hk⟩ | ⟨pre, c, hi, hl, hk⟩)⟩
    · exact ⟨none, _, run_endLoop (P := P) hl (by simp), hdone _ xs _ (Nat.le_refl _) hS (hI.putObj _ hi (by omega) hl rfl) ((World.putObj_heap_other (by omega)).trans hk)⟩
    · exact ⟨some c, _, run_endLoop (P := P) hl (by simp), hstop _ c pre _ (Nat.le_refl _) ((hIx c).putObj _ hi (by omega) hl rfl) ((World.putObj_heap_other (by omega)).trans hk)⟩
end Go.Proofs.Ytnbbbgoecndjhaa
