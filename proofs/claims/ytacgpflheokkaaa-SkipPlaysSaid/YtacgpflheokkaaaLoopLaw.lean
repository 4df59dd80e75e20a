/-
  A range over a function whose iterator stores into blocks of cells between two rounds (its own variables, a field of the thing that it runs over).
-/
import Derived.Test.YtacgpflheokkaaaKeepsBut
namespace Go.Proofs.Ytacgpflheokkaaa
open Go.RowKit Go.Shelf
set_option linter.unusedVariables false
set_option linter.unusedSimpArgs false

/-- what an iterator's own steps may do: new blocks, turns of the blocks of q -/
structure Turns (q : Nat → Prop) (A B : World) : Prop where
  size : A.heap.size ≤ B.heap.size
  same : ∀ (k : Nat) (o : Obj), ¬ q k → A.heap[k]? = some o → B.heap[k]? = some o
  os : B.os = A.os
  tape : B.tape = A.tape
  output : B.output = A.output

theorem Turns.of_below {q : Nat → Prop} {A B : World} (h : Below A.heap.size A B) : Turns q A B :=
  ⟨h.size, fun k o _ hk => (h.block k (Array.getElem?_eq_some_iff.1 hk).1).trans hk, h.os, h.tape, h.output⟩
theorem Turns.trans {q : Nat → Prop} {A B C : World} (h : Turns q A B) (k : Turns q B C) : Turns q A C :=
  ⟨Nat.le_trans h.size k.size, fun i o hq hi => k.same i o hq (h.same i o hq hi), k.os.trans h.os, k.tape.trans h.tape, k.output.trans h.output⟩
theorem Turns.setRow {q : Nat → Prop} (A : World) (g : Nat) (cs : Array Value) (hg : q g) : Turns q A (A.setRow g cs) :=
  ⟨by simp, fun k o hq hk => (setRow_other _ _ _ _ (fun e => hq (by rw [e]; exact hg))).trans hk, rfl, rfl, rfl⟩
def SeqStopsT {α : Type} (F : Fence) (n : Nat) (P : Program) (g : Nat) (lb : Array Value) (encs : α → Array Value) (own : Nat → Nat → Prop) (Kp : World → World → Prop) (S Sp : List α → Prop) (N : Nat) (w : World) : Prop :=
  ∀ (l : Nat) (J Jx : List α → World → Prop) (W : World), Below w.heap.size w W →
    (∀ s A B, J s A → Turns (own W.heap.size) A B → J s B) → (∀ s A B, Jx s A → Turns (own W.heap.size) A B → Jx s B) →
    (∀ pre x W1, J pre W1 → pre.length < N → YieldAt F (n - 1) P l (encs x) W1 fun e W' =>
      (e = .returned (.bool true) ∧ J (pre ++ [x]) W' ∧ Kp W1 W') ∨ (e = .returned (.bool false) ∧ Jx (pre ++ [x]) W')) →
    J [] W →
    CallsIn F n P g (#[.func (.yield l) #[] #[]] ++ lb) W fun e W' => (∃ v, e = .returned v) ∧ ((∃ xs, S xs ∧ J xs W') ∨ (∃ pre, Sp pre ∧ Jx pre W'))

/-- a round has begun: the loop's record has turned -/
def Busy (l : Nat) (A B : World) : Prop := ∃ o o' : Obj, A.heap[l]? = some o ∧ o.isCells = false ∧ o.isWalk = false ∧ o'.isCells = false ∧ B = A.putObj l o'

theorem range_law {α : Type} {F : Fence} {n : Nat} {P : Program} {g : Operand} {ps : Array Tmp} {assign body : Code} {Q : Exit → Act → World → Prop} {a : Act} {w : World}
    (hro : F.round = none) (h1 : 1 ≤ n) {gf : Nat} {lb : Array Value} (hg : a.eval g = .func (.func gf) #[] lb) (hFg : F.fn gf) (eg : ∀ args w, (callFunc gf args).run P w = .ok (.enter gf args) w)
    {encs : α → Array Value} {own : Nat → Nat → Prop} {Kp : World → World → Prop} {S Sp : List α → Prop} {N : Nat} {w0 : World} (hseq : SeqStopsT F (n - 1) P gf lb encs own Kp S Sp N w0)
    (hown : ∀ k, own (w.heap.size + 2) k → k ≠ w.heap.size ∧ k ≠ w.heap.size + 1)
    (hKt : ∀ {A B C : World}, Kp A B → Kp B C → Kp A C) (hKb : ∀ (W : World) (l : Nat) (o o' : Obj), W.heap[l]? = some o → o.isCells = false → Kp W (W.putObj l o')) (hb0 : Below w0.heap.size w0 w) (hps : ∀ x, (encs x).size = ps.size)
    (I : List α → World → Prop) (Ix : Code → List α → World → Prop) (hI : OwnFrom w.heap.size I) (hIx : ∀ c, OwnFrom w.heap.size (Ix c))
    (hT : ∀ s A B, I s A → Turns (own (w.heap.size + 2)) A B → I s B) (hTx : ∀ c s A B, Ix c s A → Turns (own (w.heap.size + 2)) A B → Ix c s B) (h0 : I [] w)
    (hround : ∀ (l : Nat) (pre : List α) (x : α) (W : World), w.heap.size ≤ l → I pre W → pre.length < N → (∃ r, W.heap[l]? = some (.loop r)) →
      assign.wpIn (F.inRound l) (n - 1 - 1) P (Exit.then (fun a₁ W₁ => KeepsFrom w.heap.size W W₁ ∧ Kp W W₁ ∧ ∀ W₂, Busy l W₁ W₂ → body.wpIn (F.inRound l) (n - 1 - 1) P (ownPostG w.heap.size Kp I Ix (pre ++ [x]) W₂) a₁ W₂) (fun _ _ _ => False))
        { tmps := (ps.zip (encs x)).foldl (fun t (p, v) => t.setIfInBounds p v) a.tmps, defers := [] } W)
    (hdone : ∀ (D : Nat) (xs : List α) (W : World), w.heap.size ≤ D → S xs → I xs W → W.heap[D]? = some (.deferred (some [])) → Q .normal { a with defers := { target := .collected D, args := #[] } :: a.defers } W)
    (hstop : ∀ (D : Nat) (c : Code) (pre : List α) (W : World), w.heap.size ≤ D → Sp pre → Ix c pre W → W.heap[D]? = some (.deferred (some [])) → c.wpIn F n P Q { a with defers := { target := .collected D, args := #[] } :: a.defers } W) :
    (Code.rangeFunc g ps assign body).wpIn F n P Q a w := by
  apply wpIn_rangeFunc
  intro fn hfn
  rw [hro]
  -- the record in its states, the two blocks
  let mk : LoopState → Option Code → Obj := fun st pe => .loop { state := st, pending := pe, fn := fn, tmps := a.tmps, params := ps, assign := assign, body := body, defers := w.heap.size }
  let D : Nat := w.heap.size
  let L : Nat := w.heap.size + 1
  let W1 : World := (w.alloc (.deferred (some []))).alloc (mk .ready none)
  have sz : W1.heap.size = w.heap.size + 2 := by simp [W1]
  have bel : Below w.heap.size w W1 := ((Below.refl _ w).alloc (Nat.le_refl _) _).alloc (by simp) _
  have atL : W1.heap[L]? = some (mk .ready none) := heap_new (by simp [L])
  have atD : W1.heap[D]? = some (.deferred (some [])) := (Below.heap_alloc _ _ _ (by simp [D])).trans (heap_alloc_new _ _)
  let J : List α → World → Prop := fun pre W => I pre W ∧ W.heap[L]? = some (mk .ready none) ∧ W.heap[D]? = some (.deferred (some []))
  let Jx : List α → World → Prop := fun pre W => ∃ c, Ix c pre W ∧ W.heap[L]? = some (mk .done (some c)) ∧ W.heap[D]? = some (.deferred (some []))
  have nD : ¬ own (w.heap.size + 2) D := fun h => (hown _ h).1 rfl
  have nL : ¬ own (w.heap.size + 2) L := fun h => (hown _ h).2 rfl
  have jT : ∀ s A B, J s A → Turns (own W1.heap.size) A B → J s B := by
    rw [sz]
    rintro s A B ⟨x1, x2, x3⟩ t
    exact ⟨hT s A B x1 t, t.same _ _ nL x2, t.same _ _ nD x3⟩
  have jxT : ∀ s A B, Jx s A → Turns (own W1.heap.size) A B → Jx s B := by
    rw [sz]
    rintro s A B ⟨c, x1, x2, x3⟩ t
    exact ⟨c, hTx c s A B x1 t, t.same _ _ nL x2, t.same _ _ nD x3⟩
  refine ⟨L, [{ target := .collected D, args := #[] }], W1, { target := .fn (.func gf) lb, args := #[.func (.yield L) #[] #[]] }, W1, gf, #[.func (.yield L) #[] #[]] ++ lb, W1, run_enterLoop_outer _ _ _ _ _, ?_, ?_, ?_, fun _ => h1, ?_⟩
  · simp only [resolve, hg]; simp [go_sem]
  · intro f' hf'; simp [Target.leads] at hf'; subst hf'; exact hFg
  · simp [invoke, go_sem, eg]
  refine (hseq L J Jx W1 (hb0.trans (bel.mono hb0.size)) jT jxT ?_ ⟨hI.alloc _ (hI.alloc _ h0), atL, atD⟩).mono ?_
  · rintro pre x W ⟨i1, i2, i3⟩ hlen
    refine ⟨fn, _, assign, body, run_yield i2 (hps x), roundIn_of_wpIn hfn (wpIn_mono (hround L pre x W (by simp [L]) i1 hlen ⟨_, i2⟩) ?_)⟩
    intro e a3 W3 h
    cases e with
    | normal =>
      obtain ⟨k1, k2, k3⟩ := h
      have r3 : W3.heap[L]? = some (mk .ready none) := k1.same L _ (by simp [L]) i2 rfl
      have d3 : W3.heap[D]? = some (.deferred (some [])) := k1.same D _ (Nat.le_refl _) i3 rfl
      have l3 : L < W3.heap.size := (Array.getElem?_eq_some_iff.1 r3).1
      refine ⟨_, run_beginRound r3 rfl, wpIn_mono (k3 _ ⟨_, _, r3, rfl, rfl, rfl, rfl⟩) ?_⟩
      have rb : (W3.putObj L (mk .busy none)).heap[L]? = some (mk .busy none) := World.putObj_heap_same l3
      have db : (W3.putObj L (mk .busy none)).heap[D]? = some (.deferred (some [])) := (World.putObj_heap_other (by simp [D, L])).trans d3
      have kb : Kp W (W3.putObj L (mk .busy none)) := hKt k2 (hKb _ _ _ _ r3 rfl)
      -- where a round ends
      have fin : ∀ (jump : Option Code) (W4 : World), KeepsFrom w.heap.size (W3.putObj L (mk .busy none)) W4 →
          (Instr.endRound L jump).run P W4 = .ok (.bool jump.isNone) (W4.putObj L (mk (if jump.isNone then .ready else .done) jump)) ∧ W4.heap[L]? = some (mk .busy none) ∧
          (W4.putObj L (mk (if jump.isNone then .ready else .done) jump)).heap[L]? = some (mk (if jump.isNone then .ready else .done) jump) ∧
          (W4.putObj L (mk (if jump.isNone then .ready else .done) jump)).heap[D]? = some (.deferred (some [])) := fun jump W4 k4 => by
        have r4 := k4.same L _ (by simp [L]) rb rfl
        have d4 := k4.same D _ (Nat.le_refl _) db rfl
        exact ⟨run_endRound jump r4, r4, World.putObj_heap_same (Array.getElem?_eq_some_iff.1 r4).1, (World.putObj_heap_other (by simp [D, L])).trans d4⟩
      intro e4 a4 W4 h4
      cases e4 with
      | normal =>
        obtain ⟨q1, q2, q3⟩ := h4
        obtain ⟨y1, y2, y3, y4⟩ := fin none W4 q1
        exact ⟨_, _, y1, .inl ⟨rfl, ⟨hI.putObj _ q3 (by simp [L]) y2 rfl, y3, y4⟩, hKt (hKt kb q2) (hKb _ _ _ _ y2 rfl)⟩⟩
      | ret =>
        obtain ⟨q1, q3⟩ := h4
        obtain ⟨y1, y2, y3, y4⟩ := fin (some .ret) W4 q1
        exact ⟨_, _, y1, .inr ⟨rfl, .ret, (hIx _).putObj _ q3 (by simp [L]) y2 rfl, y3, y4⟩⟩
      | exit id =>
        obtain ⟨q1, q3⟩ := h4
        obtain ⟨y1, y2, y3, y4⟩ := fin (some (.exit id)) W4 q1
        exact ⟨_, _, y1, .inr ⟨rfl, .exit id, (hIx _).putObj _ q3 (by simp [L]) y2 rfl, y3, y4⟩⟩
      | goto t =>
        obtain ⟨q1, q3⟩ := h4
        obtain ⟨y1, y2, y3, y4⟩ := fin (some (.goto t)) W4 q1
        exact ⟨_, _, y1, .inr ⟨rfl, .goto t, (hIx _).putObj _ q3 (by simp [L]) y2 rfl, y3, y4⟩⟩
      | panic ch => exact h4.elim
      | outgrown => exact h4.elim
    | _ => exact h.elim
  · rintro e W2 ⟨⟨v, rfl⟩, (⟨xs, hs, i1, i2, i3⟩ | ⟨pre, hs, c, i1, i2, i3⟩)⟩
    · exact ⟨none, _, run_endLoop i2 (by simp), hdone D xs _ (Nat.le_refl _) hs (hI.putObj _ i1 (by simp [L]) i2 rfl) ((World.putObj_heap_other (by simp [D, L])).trans i3)⟩
    · exact ⟨some c, _, run_endLoop i2 (by simp), hstop D c pre _ (Nat.le_refl _) hs ((hIx c).putObj _ i1 (by simp [L]) i2 rfl) ((World.putObj_heap_other (by simp [D, L])).trans i3)⟩
end Go.Proofs.Ytacgpflheokkaaa
