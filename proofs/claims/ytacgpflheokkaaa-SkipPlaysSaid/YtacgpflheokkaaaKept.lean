/-
  What a caller of a range over a function keeps: the world in which the range began, but for some blocks of its own, and what it says of these.
-/
import Derived.Test.YtacgpflheokkaaaLoopLaw
namespace Go.Proofs.Ytacgpflheokkaaa
open Go.RowKit Go.Shelf
set_option linter.unusedVariables false
set_option linter.unusedSimpArgs false

/-- only the blocks of q are other ones; new blocks there may be -/
structure ChgQ (q : Nat → Prop) (A B : World) : Prop where
  os : B.os = A.os
  tape : B.tape = A.tape
  output : B.output = A.output
  size : A.heap.size ≤ B.heap.size
  block : ∀ k, k < A.heap.size → ¬ q k → B.heap[k]? = A.heap[k]?
theorem ChgQ.refl (q : Nat → Prop) (A : World) : ChgQ q A A := ⟨rfl, rfl, rfl, Nat.le_refl _, fun _ _ _ => rfl⟩
theorem ChgQ.trans {q : Nat → Prop} {A B C : World} (h : ChgQ q A B) (k : ChgQ q B C) : ChgQ q A C :=
  ⟨k.os.trans h.os, k.tape.trans h.tape, k.output.trans h.output, Nat.le_trans h.size k.size, fun i hi hq => (k.block i (Nat.lt_of_lt_of_le hi h.size) hq).trans (h.block i hi hq)⟩
theorem ChgQ.of_below {q : Nat → Prop} {A B : World} (h : Below A.heap.size A B) : ChgQ q A B := ⟨h.os, h.tape, h.output, h.size, fun k hk _ => h.block k hk⟩
theorem ChgQ.setRow {q : Nat → Prop} (A : World) (g : Nat) (cs : Array Value) (hg : q g) : ChgQ q A (A.setRow g cs) :=
  ⟨rfl, rfl, rfl, by simp, fun k hk hq => setRow_other _ _ _ _ (fun e => hq (by rw [e]; exact hg))⟩
theorem ChgQ.setCell {q : Nat → Prop} (A : World) (g i : Nat) (v : Value) (hg : q g) : ChgQ q A (A.setCell ⟨g, i, none⟩ v) :=
  ⟨rfl, rfl, rfl, by simp [World.setCell], fun k hk hq => Below.heap_setCell _ _ _ _ (fun e => hq (by rw [e]; exact hg))⟩
theorem ChgQ.below {q : Nat → Prop} {A B : World} (h : ChgQ q A B) {n : Nat} (hn : n ≤ A.heap.size) (hq : ∀ k, q k → n ≤ k) : Below n A B :=
  ⟨h.os, h.tape, h.output, h.size, fun k hk => h.block k (by omega) (fun hh => by have := hq k hh; omega)⟩
theorem ChgQ.heap {q : Nat → Prop} {A B : World} (h : ChgQ q A B) {k : Nat} (hq : ¬ q k) {o : Obj} (ho : A.heap[k]? = some o) : B.heap[k]? = some o :=
  (h.block k (Array.getElem?_eq_some_iff.1 ho).1 hq).trans ho
theorem ChgQ.mono {q r : Nat → Prop} {A B : World} (h : ChgQ q A B) (hr : ∀ k, q k → r k) : ChgQ r A B := ⟨h.os, h.tape, h.output, h.size, fun k hk hq => h.block k hk fun hh => hq (hr k hh)⟩

/-- an assertion over some blocks alone -/
def OnlyOn {β : Type} (q : Nat → Prop) (G : β → World → Prop) : Prop := ∀ s A B, G s A → (∀ k, q k → B.heap[k]? = A.heap[k]?) → G s B
theorem OnlyOn.and {β : Type} {q : Nat → Prop} {G H : β → World → Prop} (h : OnlyOn q G) (k : OnlyOn q H) : OnlyOn q (fun s W => G s W ∧ H s W) := fun s A B x e => ⟨h s A B x.1 e, k s A B x.2 e⟩
theorem onlyOn_heap {β : Type} {q : Nat → Prop} (B : β → Nat) (o : β → Obj) (hB : ∀ s, q (B s)) : OnlyOn q (fun s W => W.heap[B s]? = some (o s)) := fun s A C x e => (e _ (hB s)).trans x
theorem onlyOn_pure {β : Type} {q : Nat → Prop} (G : β → Prop) : OnlyOn q (fun s (_ : World) => G s) := fun _ _ _ x _ => x
theorem onlyOn_ex {β γ : Type} {q : Nat → Prop} {G : γ → β → World → Prop} (h : ∀ c, OnlyOn q (G c)) : OnlyOn q (fun s W => ∃ c, G c s W) := fun s A B ⟨c, x⟩ e => ⟨c, h c s A B x e⟩

theorem kept_own {β : Type} {q : Nat → Prop} {W0 : World} {G : β → World → Prop} (hq : ∀ k, q k → k < W0.heap.size) (hG : OnlyOn q G) : OwnFrom W0.heap.size (fun s W => ChgQ q W0 W ∧ G s W) := by
  rintro s A C row ⟨hc, hg⟩ hgr hr
  have key : ∀ k, k < W0.heap.size → C.heap[k]? = A.heap[k]? := fun k hk => hgr.block k (Nat.lt_of_lt_of_le hk hc.size) fun e => by have := (hr k e.symm).1; omega
  exact ⟨⟨hgr.os.trans hc.os, hgr.tape.trans hc.tape, hgr.output.trans hc.output, Nat.le_trans hc.size hgr.size, fun k hk hqk => (key k hk).trans (hc.block k hk hqk)⟩, hG s A C hg fun k hk => key k (hq k hk)⟩
theorem kept_turns {β : Type} {q own : Nat → Prop} {W0 : World} {G : β → World → Prop} (hq : ∀ k, q k → k < W0.heap.size) (hG : OnlyOn q G) (ho : ∀ k, own k → W0.heap.size ≤ k) : ∀ s A B, (ChgQ q W0 A ∧ G s A) → Turns own A B → (ChgQ q W0 B ∧ G s B) := by
  rintro s A C ⟨hc, hg⟩ t
  have key : ∀ k, k < W0.heap.size → C.heap[k]? = A.heap[k]? := fun k hk => by
    have h1 : k < A.heap.size := Nat.lt_of_lt_of_le hk hc.size
    rw [Array.getElem?_eq_getElem h1]
    exact t.same k _ (fun h => by have := ho k h; omega) (Array.getElem?_eq_getElem h1)
  exact ⟨⟨t.os.trans hc.os, t.tape.trans hc.tape, t.output.trans hc.output, Nat.le_trans hc.size t.size, fun k hk hqk => (key k hk).trans (hc.block k hk hqk)⟩, hG s A C hg fun k hk => key k (hq k hk)⟩

theorem Busy.keeps {l : Nat} {A B : World} (h : Busy l A B) {k : Nat} {o : Obj} (ho : A.heap[k]? = some o) (hc : o.isCells = true) : B.heap[k]? = some o := by
  obtain ⟨ob, ob', h1, h2, h3, h4, rfl⟩ := h
  have : k ≠ l := fun e => by subst e; rw [ho] at h1; cases h1; rw [hc] at h2; cases h2
  rw [World.putObj_heap_other this]; exact ho
theorem Busy.chg {l : Nat} {q : Nat → Prop} {W0 A B : World} (h : Busy l A B) (hl : W0.heap.size ≤ l) (hc : ChgQ q W0 A) : ChgQ q W0 B := by
  obtain ⟨ob, ob', h1, h2, h3, h4, rfl⟩ := h
  have g := grownBy_putObj' A l ob'
  exact ⟨g.os.trans hc.os, g.tape.trans hc.tape, g.output.trans hc.output, Nat.le_trans hc.size g.size, fun k hk hq => (World.putObj_heap_other (by omega)).trans (hc.block k hk hq)⟩
theorem keepsFrom_below {b : Nat} {A B : World} (h : Below A.heap.size A B) : KeepsFrom b A B := ⟨h.size, fun k o _ hk _ => (h.block k (Array.getElem?_eq_some_iff.1 hk).1).trans hk⟩
theorem keepsFrom_setRow {b : Nat} (A : World) (g : Nat) (cs : Array Value) (hg : g < b) : KeepsFrom b A (A.setRow g cs) := ⟨by simp, fun k o hk ho _ => (setRow_other _ _ _ _ (by omega)).trans ho⟩
theorem keepsFrom_setCell {b : Nat} (A : World) (g i : Nat) (v : Value) (hg : g < b) : KeepsFrom b A (A.setCell ⟨g, i, none⟩ v) := ⟨by simp [World.setCell], fun k o hk ho _ => (Below.heap_setCell _ _ _ _ (by show k ≠ g; omega)).trans ho⟩
theorem keepsBut_setRow {q : Nat → Prop} (A : World) (g : Nat) (cs : Array Value) (hg : q g) : KeepsBut q A (A.setRow g cs) := fun k o hk ho _ => (setRow_other _ _ _ _ (fun e => hk (by rw [e]; exact hg))).trans ho
theorem keepsBut_setCell {q : Nat → Prop} (A : World) (g i : Nat) (v : Value) (hg : q g) : KeepsBut q A (A.setCell ⟨g, i, none⟩ v) := fun k o hk ho _ => (Below.heap_setCell _ _ _ _ (fun e => hk (by rw [e]; exact hg))).trans ho
end Go.Proofs.Ytacgpflheokkaaa
