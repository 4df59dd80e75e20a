/-
  A range over a function within an iterator: the loop's own record is turned too; a floor under the world's size at each round.
-/
import Derived.Test.YtacgpflheokkaaaLoopLaw
namespace Go.Proofs.Ytacgpflheokkaaa
open Go.RowKit Go.Shelf
set_option linter.unusedVariables false
set_option linter.unusedSimpArgs false

theorem Turns.mono {q r : Nat → Prop} {A B : World} (h : Turns q A B) (hr : ∀ k, q k → r k) : Turns r A B := ⟨h.size, fun k o hk => h.same k o fun hq => hk (hr k hq), h.os, h.tape, h.output⟩
theorem Turns.putObj {A : World} {l : Nat} {o o' : Obj} (h : A.heap[l]? = some o) : Turns (fun k => k = l) A (A.putObj l o') :=
  ⟨by simp [World.putObj], fun k x hk hx => (World.putObj_heap_other hk).trans hx, rfl, rfl, rfl⟩
theorem Turns.alloc {q : Nat → Prop} (A : World) (o : Obj) : Turns q A (A.alloc o) := Turns.of_below ((Below.refl _ _).alloc (Nat.le_refl _) _)
/-- what a body's walk ends in -/
def ownPostF {α : Type} (B : Nat) (Kp : World → World → Prop) (I : List α → World → Prop) (Ix : Code → List α → World → Prop) (xs : List α) (W : World) : Exit → Act → World → Prop
  | .normal, _, W' => KeepsFrom B W W' ∧ Kp W W' ∧ I xs W'
  | .ret, _, W' => KeepsFrom B W W' ∧ Kp W W' ∧ Ix .ret xs W'
  | .exit id, _, W' => KeepsFrom B W W' ∧ Kp W W' ∧ Ix (.exit id) xs W'
  | .goto t, _, W' => KeepsFrom B W W' ∧ Kp W W' ∧ Ix (.goto t) xs W'
  | .panic _, _, _ => False
  | .outgrown, _, _ => False
def SeqStopsF {α : Type} (F : Fence) (n : Nat) (P : Program) (g : Nat) (lb : Array Value) (encs : α → Array Value) (own : Nat → Nat → Prop) (fl : Nat) (Kp : Nat → World → World → Prop) (S Sp : List α → Prop) (N : Nat) (w : World) : Prop :=
  ∀ (l : Nat) (J Jx : List α → World → Prop) (W : World), Below w.heap.size w W →
    (∀ s A B, J s A → Turns (own W.heap.size) A B → J s B) → (∀ s A B, Jx s A → Turns (own W.heap.size) A B → Jx s B) →
    (∀ pre x W1, J pre W1 → W.heap.size + fl ≤ W1.heap.size → pre.length < N → YieldAt F (n - 1) P l (encs x) W1 fun e W' =>
      (e = .returned (.bool true) ∧ J (pre ++ [x]) W' ∧ Kp W.heap.size W1 W') ∨ (e = .returned (.bool false) ∧ Jx (pre ++ [x]) W' ∧ Kp W.heap.size W1 W')) →
    J [] W →
    CallsIn F n P g (#[.func (.yield l) #[] #[]] ++ lb) W fun e W' => (∃ v, e = .returned v) ∧ ((∃ xs, S xs ∧ J xs W') ∨ (∃ pre, Sp pre ∧ Jx pre W'))
/-- all cells but those of q, and all that lies at b or beyond -/
structure KeepsS (q : Nat → Prop) (b : Nat) (A B : World) : Prop where
  size : A.heap.size ≤ B.heap.size
  same : ∀ (k : Nat) (o : Obj), ¬ q k → A.heap[k]? = some o → (o.isCells = true ∨ b ≤ k) → B.heap[k]? = some o
section
variable {q : Nat → Prop} {b : Nat}
theorem KeepsS.but {A B : World} (h : KeepsS q b A B) : KeepsBut q A B := fun k o hq ho hc => h.same k o hq ho (.inl hc)
theorem keepsS_t {A B C : World} (h : KeepsS q b A B) (k : KeepsS q b B C) : KeepsS q b A C := ⟨Nat.le_trans h.size k.size, fun i o hq hi ho => k.same i o hq (h.same i o hq hi ho) ho⟩
theorem keepsS_r (A : World) : KeepsS q b A A := ⟨Nat.le_refl _, fun _ _ _ h _ => h⟩
theorem keepsS_b (W : World) (l : Nat) (o o' : Obj) (h : W.heap[l]? = some o) (ho : o.isCells = false) (hl : l < b) : KeepsS q b W (W.putObj l o') := ⟨by simp [World.putObj], fun k ob hq hk hc => by
  by_cases e : k = l
  · subst e; rw [h] at hk; cases hk
    rcases hc with hc | hc
    · rw [ho] at hc; cases hc
    · omega
  · rw [World.putObj_heap_other e]; exact hk⟩
theorem KeepsS.of_below {A B : World} (h : Below A.heap.size A B) : KeepsS q b A B := ⟨h.size, fun k o _ ho _ => by rw [h.block k (Array.getElem?_eq_some_iff.1 ho).1]; exact ho⟩
theorem keepsS_setRow (A : World) (g : Nat) (cs : Array Value) (hg : q g) : KeepsS q b A (A.setRow g cs) := ⟨by simp, fun k o hk ho _ => (setRow_other _ _ _ _ (fun e => hk (by rw [e]; exact hg))).trans ho⟩
theorem keepsS_setCell (A : World) (g i : Nat) (v : Value) (hg : q g) : KeepsS q b A (A.setCell ⟨g, i, none⟩ v) := ⟨by simp [World.setCell], fun k o hk ho _ => (Below.heap_setCell _ _ _ _ (fun e => hk (by rw [e]; exact hg))).trans ho⟩
theorem KeepsS.up {b' : Nat} {A B : World} (h : KeepsS q b A B) (hb : b ≤ b') : KeepsS q b' A B := ⟨h.size, fun k o hq ho hc => h.same k o hq ho (hc.imp id fun h => Nat.le_trans hb h)⟩
theorem KeepsS.mono {r : Nat → Prop} {A B : World} (h : KeepsS q b A B) (hr : ∀ k, q k → r k) : KeepsS r b A B := ⟨h.size, fun k o hq ho hc => h.same k o (fun hh => hq (hr k hh)) ho hc⟩
theorem KeepsS.from {c : Nat} {A B : World} (h : KeepsS q b A B) (hb : b ≤ c) (hq : ∀ k, q k → k < c) : KeepsFrom c A B := ⟨h.size, fun k o hk ho _ => h.same k o (fun hh => by have := hq k hh; omega) ho (.inr (by omega))⟩
end
theorem SeqStopsT.floor {α : Type} {F : Fence} {n : Nat} {P : Program} {g : Nat} {lb : Array Value} {encs : α → Array Value} {own : Nat → Nat → Prop} {Kp : World → World → Prop} {Kq : Nat → World → World → Prop} {S Sp : List α → Prop} {N : Nat} {w : World} (h : SeqStopsT F n P g lb encs own Kp S Sp N w)
    (hq : ∀ b A B, Kq b A B → Kp A B ∧ A.heap.size ≤ B.heap.size) : SeqStopsF F n P g lb encs own 0 Kq S Sp N w :=
  fun l J Jx W hW hJ hJx hY h0 => (h l (fun s V => J s V ∧ W.heap.size ≤ V.heap.size) Jx W hW (fun s A B x t => ⟨hJ s A B x.1 t, Nat.le_trans x.2 t.size⟩) hJx (fun pre x W1 hj hl =>
    (hY pre x W1 hj.1 hj.2 hl).mono fun e V hv => hv.imp (fun ⟨a, b, c⟩ => ⟨a, ⟨b, Nat.le_trans hj.2 (hq _ _ _ c).2⟩, (hq _ _ _ c).1⟩) (fun ⟨a, b, _⟩ => ⟨a, b⟩)) ⟨h0, Nat.le_refl _⟩).mono fun _ _ ⟨a, b⟩ => ⟨a, b.imp (fun ⟨xs, p, q⟩ => ⟨xs, p, q.1⟩) id⟩
/-- an outer loop's round, as a round within takes it -/
theorem round_any {m m' l' : Nat} {P : Program} {l : Nat} {f : FuncId} {tmps : Array Value} {assign body : Code} {w : World} {R : Ending → World → Prop} (h : RoundIn Fence.wide m P l f tmps assign body w R) : RoundIn (Fence.wide.inRound l') m' P l f tmps assign body w R :=
  ⟨h.1, fun c cs _ => h.2 c cs (room_wide _)⟩

theorem range_lawF {α : Type} {F : Fence} {n : Nat} {P : Program} {g : Operand} {ps : Array Tmp} {assign body : Code} {Q : Exit → Act → World → Prop} {a : Act} {w : World}
    (hro : F.round = none) (h1 : 1 ≤ n) {gf : Nat} {lb : Array Value} (hg : a.eval g = .func (.func gf) #[] lb) (hFg : F.fn gf) (eg : ∀ args w, (callFunc gf args).run P w = .ok (.enter gf args) w)
    {encs : α → Array Value} {own : Nat → Nat → Prop} {Kp : Nat → World → World → Prop} {S Sp : List α → Prop} {N : Nat} {w0 : World} {fl : Nat} (hseq : SeqStopsF F (n - 1) P gf lb encs own fl Kp S Sp N w0)
    (hown : ∀ k, own (w.heap.size + 2) k → k ≠ w.heap.size ∧ k ≠ w.heap.size + 1)
    (hKt : ∀ {A B C : World}, Kp (w.heap.size + 2) A B → Kp (w.heap.size + 2) B C → Kp (w.heap.size + 2) A C) (hKb : ∀ (W : World) (o o' : Obj), W.heap[w.heap.size + 1]? = some o → o.isCells = false → Kp (w.heap.size + 2) W (W.putObj (w.heap.size + 1) o')) (hb0 : Below w0.heap.size w0 w) (hps : ∀ x, (encs x).size = ps.size)
    (I : List α → World → Prop) (Ix : Code → List α → World → Prop) (hI : ∀ s A B, I s A → Turns (fun k => k = w.heap.size + 1) A B → I s B) (hIx : ∀ c s A B, Ix c s A → Turns (fun k => k = w.heap.size + 1) A B → Ix c s B)
    (hT : ∀ s A B, I s A → Turns (own (w.heap.size + 2)) A B → I s B) (hTx : ∀ c s A B, Ix c s A → Turns (own (w.heap.size + 2)) A B → Ix c s B) (h0 : I [] w)
    (hround : ∀ (l : Nat) (pre : List α) (x : α) (W : World), w.heap.size + 1 = l → w.heap.size + 2 + fl ≤ W.heap.size → I pre W → pre.length < N → (∃ r, W.heap[l]? = some (.loop r)) →
      assign.wpIn (F.inRound l) (n - 1 - 1) P (Exit.then (fun a₁ W₁ => KeepsFrom w.heap.size W W₁ ∧ Kp (w.heap.size + 2) W W₁ ∧ ∀ W₂, Busy l W₁ W₂ → body.wpIn (F.inRound l) (n - 1 - 1) P (ownPostF w.heap.size (Kp (w.heap.size + 2)) I Ix (pre ++ [x]) W₂) a₁ W₂) (fun _ _ _ => False))
        { tmps := (ps.zip (encs x)).foldl (fun t (p, v) => t.setIfInBounds p v) a.tmps, defers := [] } W)
    (hdone : ∀ (D : Nat) (xs : List α) (W : World), D = w.heap.size → S xs → I xs W → W.heap[D]? = some (.deferred (some [])) → Q .normal { a with defers := { target := .collected D, args := #[] } :: a.defers } W)
    (hstop : ∀ (D : Nat) (c : Code) (pre : List α) (W : World), D = w.heap.size → Sp pre → Ix c pre W → W.heap[D]? = some (.deferred (some [])) → c.wpIn F n P Q { a with defers := { target := .collected D, args := #[] } :: a.defers } W) :
    (Code.rangeFunc g ps assign body).wpIn F n P Q a w := by
  apply wpIn_rangeFunc
  intro fn hfn
  rw [hro]
  -- the record in its states, the two blocks
  let mk : LoopState → Option Code → Obj := fun st pe => .loop { state := st, pending := pe, fn := fn, tmps := a.tmps, params := ps, assign := assign, body := body, defers := w.heap.size }
  let D : Nat := w.heap.size
  let L : Nat := w.heap.size + 1
  let W1 : World := (w.alloc (.deferred (some []))).alloc (mk .ready none)
  have sz : W1.heap.size = w.heap.size + 2 := by simp [W1]
  have bel : Below w.heap.size w W1 := ((Below.refl _ w).alloc (Nat.le_refl _) _).alloc (by simp) _
  have atL : W1.heap[L]? = some (mk .ready none) := heap_new (by simp [L])
  have atD : W1.heap[D]? = some (.deferred (some [])) := (Below.heap_alloc _ _ _ (by simp [D])).trans (heap_alloc_new _ _)
  let J : List α → World → Prop := fun pre W => I pre W ∧ W.heap[L]? = some (mk .ready none) ∧ W.heap[D]? = some (.deferred (some []))
  let Jx : List α → World → Prop := fun pre W => ∃ c, Ix c pre W ∧ W.heap[L]? = some (mk .done (some c)) ∧ W.heap[D]? = some (.deferred (some []))
  have nD : ¬ own (w.heap.size + 2) D := fun h => (hown _ h).1 rfl
  have nL : ¬ own (w.heap.size + 2) L := fun h => (hown _ h).2 rfl
  have jT : ∀ s A B, J s A → Turns (own W1.heap.size) A B → J s B := by
    rw [sz]
    rintro s A B ⟨x1, x2, x3⟩ t
    exact ⟨hT s A B x1 t, t.same _ _ nL x2, t.same _ _ nD x3⟩
  have jxT : ∀ s A B, Jx s A → Turns (own W1.heap.size) A B → Jx s B := by
    rw [sz]
    rintro s A B ⟨c, x1, x2, x3⟩ t
    exact ⟨c, hTx c s A B x1 t, t.same _ _ nL x2, t.same _ _ nD x3⟩
  refine ⟨L, [{ target := .collected D, args := #[] }], W1, { target := .fn (.func gf) lb, args := #[.func (.yield L) #[] #[]] }, W1, gf, #[.func (.yield L) #[] #[]] ++ lb, W1, run_enterLoop_outer _ _ _ _ _, ?_, ?_, ?_, fun _ => h1, ?_⟩
  · simp only [resolve, hg]; simp [go_sem]
  · intro f' hf'; simp [Target.leads] at hf'; subst hf'; exact hFg
  · simp [invoke, go_sem, eg]
  refine (hseq L J Jx W1 (hb0.trans (bel.mono hb0.size)) jT jxT ?_ ⟨hI _ _ _ h0 (Turns.of_below bel), atL, atD⟩).mono ?_
  · rintro pre x W ⟨i1, i2, i3⟩ hfl hlen
    refine ⟨fn, _, assign, body, run_yield i2 (hps x), roundIn_of_wpIn hfn (wpIn_mono (hround L pre x W rfl (by rw [sz] at hfl; omega) i1 hlen ⟨_, i2⟩) ?_)⟩
    intro e a3 W3 h
    cases e with
    | normal =>
      obtain ⟨k1, k2, k3⟩ := h
      have r3 : W3.heap[L]? = some (mk .ready none) := k1.same L _ (by simp [L]) i2 rfl
      have d3 : W3.heap[D]? = some (.deferred (some [])) := k1.same D _ (Nat.le_refl _) i3 rfl
      have l3 : L < W3.heap.size := (Array.getElem?_eq_some_iff.1 r3).1
      refine ⟨_, run_beginRound r3 rfl, wpIn_mono (k3 _ ⟨_, _, r3, rfl, rfl, rfl, rfl⟩) ?_⟩
      have rb : (W3.putObj L (mk .busy none)).heap[L]? = some (mk .busy none) := World.putObj_heap_same l3
      have db : (W3.putObj L (mk .busy none)).heap[D]? = some (.deferred (some [])) := (World.putObj_heap_other (by simp [D, L])).trans d3
      have kb : Kp (w.heap.size + 2) W (W3.putObj L (mk .busy none)) := hKt k2 (hKb _ _ _ r3 rfl)
      -- where a round ends
      have fin : ∀ (jump : Option Code) (W4 : World), KeepsFrom w.heap.size (W3.putObj L (mk .busy none)) W4 →
          (Instr.endRound L jump).run P W4 = .ok (.bool jump.isNone) (W4.putObj L (mk (if jump.isNone then .ready else .done) jump)) ∧ W4.heap[L]? = some (mk .busy none) ∧
          (W4.putObj L (mk (if jump.isNone then .ready else .done) jump)).heap[L]? = some (mk (if jump.isNone then .ready else .done) jump) ∧
          (W4.putObj L (mk (if jump.isNone then .ready else .done) jump)).heap[D]? = some (.deferred (some [])) := fun jump W4 k4 => by
        have r4 := k4.same L _ (by simp [L]) rb rfl
        have d4 := k4.same D _ (Nat.le_refl _) db rfl
        exact ⟨run_endRound jump r4, r4, World.putObj_heap_same (Array.getElem?_eq_some_iff.1 r4).1, (World.putObj_heap_other (by simp [D, L])).trans d4⟩
      intro e4 a4 W4 h4
      cases e4 with
      | normal =>
        obtain ⟨q1, q2, q3⟩ := h4
        obtain ⟨y1, y2, y3, y4⟩ := fin none W4 q1
        exact ⟨_, _, y1, .inl ⟨rfl, ⟨hI _ _ _ q3 (Turns.putObj y2), y3, y4⟩, (by rw [sz]; exact hKt (hKt kb q2) (hKb _ _ _ y2 rfl))⟩⟩
      | ret =>
        obtain ⟨q1, q2, q3⟩ := h4
        obtain ⟨y1, y2, y3, y4⟩ := fin (some .ret) W4 q1
        exact ⟨_, _, y1, .inr ⟨rfl, ⟨.ret, hIx _ _ _ _ q3 (Turns.putObj y2), y3, y4⟩, (by rw [sz]; exact hKt (hKt kb q2) (hKb _ _ _ y2 rfl))⟩⟩
      | exit id =>
        obtain ⟨q1, q2, q3⟩ := h4
        obtain ⟨y1, y2, y3, y4⟩ := fin (some (.exit id)) W4 q1
        exact ⟨_, _, y1, .inr ⟨rfl, ⟨.exit id, hIx _ _ _ _ q3 (Turns.putObj y2), y3, y4⟩, (by rw [sz]; exact hKt (hKt kb q2) (hKb _ _ _ y2 rfl))⟩⟩
      | goto t =>
        obtain ⟨q1, q2, q3⟩ := h4
        obtain ⟨y1, y2, y3, y4⟩ := fin (some (.goto t)) W4 q1
        exact ⟨_, _, y1, .inr ⟨rfl, ⟨.goto t, hIx _ _ _ _ q3 (Turns.putObj y2), y3, y4⟩, (by rw [sz]; exact hKt (hKt kb q2) (hKb _ _ _ y2 rfl))⟩⟩
      | panic ch => exact h4.elim
      | outgrown => exact h4.elim
    | _ => exact h.elim
  · rintro e W2 ⟨⟨v, rfl⟩, (⟨xs, hs, i1, i2, i3⟩ | ⟨pre, hs, c, i1, i2, i3⟩)⟩
    · exact ⟨none, _, run_endLoop i2 (by simp), hdone D xs _ rfl hs (hI _ _ _ i1 (Turns.putObj i2)) ((World.putObj_heap_other (by simp [D, L])).trans i3)⟩
    · exact ⟨some c, _, run_endLoop i2 (by simp), hstop D c pre _ rfl hs (hIx c _ _ _ i1 (Turns.putObj i2)) ((World.putObj_heap_other (by simp [D, L])).trans i3)⟩
end Go.Proofs.Ytacgpflheokkaaa
