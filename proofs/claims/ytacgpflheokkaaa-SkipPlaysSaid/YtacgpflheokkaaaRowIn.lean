/-
  'xs = append(xs, x)' within a fence: xs a row of structs of the call's own.
-/
import Derived.RangeFuncBox
import Derived.RangeFuncLeaves
import Derived.RangeFuncCalls
import Derived.RangeFuncBound
import Derived.RangeFuncNested
import Derived.Shelf.Abstract
import Derived.WalkKit
import Derived.OwnWalkIn
import Derived.TacticsInMore
import Derived.LoopNIn
import Derived.LoopIn
import Derived.Maps.AppendAt
import Derived.Test.YtacgpflheokkaaaRow
namespace Go.Proofs.Ytacgpflheokkaaa
open Go.RowKit Go.Shelf
set_option linter.unusedVariables false
set_option linter.unusedSimpArgs false

theorem wpIn_append_row {F : Fence} {n : Nat} {P : Program} {ops : Array Oper} {rest : List Oper} {o : Oper} {a : Act} {Q : Exit → Act → World → Prop} (hgd : o.guard = none) (s x : Operand) (t : TypeId)
    (ho : o.op = .call { callee := .builtin .append, args := #[s, x], argTypes := #[t, t] })
    (base : Nat) (e : TypeId) (ht : P.underlying t = some (.slice e)) (z : Value) (m bytes : Nat) (hi : (P.info? e).map (fun i => (i.zero, i.size, i.bytes)) = some (some z, m, bytes)) (hz1 : z.cells.size = m) (hm0 : 0 < m) (hby : bytes ≤ 640)
    (wr : World) (v : Value) (k : Nat) (pre : List Value) (hs : a.eval s = v) (hown : wr.ownsRow base e m v k pre)
    (xs : Array Value) (B : Nat) (hB : wr.heap[B]? = some (.cells xs e (0, 0))) (hxs : xs.size = m) (hx1 : ∀ u ∈ xs.toList, u.oneCell' = true) (hx : a.eval x = .slice (some ⟨B, 0, none⟩) 1 1) (hlen : k + 1 ≤ 1000000000) (hbase : base ≤ wr.heap.size)
    (h : ∀ g cap w', w'.ownsRow base e m (.slice (some ⟨g, 0, none⟩) (k + 1) cap) (k + 1) (pre ++ xs.toList) → wr.grownBy w' v.ownBlock → wpListIn F n P ops Q rest (a.put o.dst (.slice (some ⟨g, 0, none⟩) (k + 1) cap)) w') :
    wpListIn F n P ops Q (o :: rest) a wr := by
  obtain ⟨i0, hi0, hz0, hz1', hz2⟩ := info_parts hi
  refine wpListIn_append_own _ hgd s x t ho base e i0 z m bytes ht hi0 hz0 hz1' hz2 hz1 hm0 v k pre hs hown ⟨B, 0, none⟩ 1 1 xs.toList hx (by rw [Array.length_toList, hxs, Nat.one_mul]) (World.news_of_block hB) hx1 ?_ ?_ hbase ?_
  · unfold maxLen; omega
  · have : (k + 1) * bytes ≤ 1000000000 * 640 := Nat.mul_le_mul hlen hby
    omega
  · intro v' w' hown' hgrow _
    obtain ⟨g, cap, rfl⟩ := ownsRow_succ hown'
    exact h g cap w' hown' hgrow

/-- what an iterator wants kept: some blocks -/
def KeepsAt (p : Nat → Prop) (A B : World) : Prop := ∀ k, p k → B.heap[k]? = A.heap[k]?
theorem keepsAt_t {p : Nat → Prop} {A B C : World} (h : KeepsAt p A B) (k : KeepsAt p B C) : KeepsAt p A C := fun i hi => (k i hi).trans (h i hi)
theorem keepsAt_b {p : Nat → Prop} {w : World} (hp : ∀ k, p k → k < w.heap.size) (W : World) (l : Nat) (o o' : Obj) (hl : w.heap.size ≤ l) (h : W.heap[l]? = some o) (_ : o.isCells = false) (_ : o.isWalk = false) : KeepsAt p W (W.putObj l o') :=
  fun k hk => World.putObj_heap_other (by have := hp k hk; omega)
theorem KeepsAt.cell {p : Nat → Prop} {A B : World} (h : KeepsAt p A B) {a : Addr} (ha : p a.block) : B.cell? a = A.cell? a := World.cell?_of_block (h _ ha)
theorem KeepsAt.drewN {p : Nat → Prop} {A B : World} (h : KeepsAt p A B) (n : Nat) : KeepsAt p A (B.drewN n) := h
theorem KeepsAt.of_chg {p : Nat → Prop} {b : Nat} {A B : World} (h : Chg b A B) (hp : ∀ k, p k → k < A.heap.size ∧ k ≠ b) : KeepsAt p A B := fun k hk => h.block k (hp k hk).1 (hp k hk).2
theorem keeps_below {A B : World} (h : Below A.heap.size A B) : KeepsOthers A B := ⟨h.size, fun k o hk _ => (h.block k (Array.getElem?_eq_some_iff.1 hk).1).trans hk⟩
theorem box_later {W W' : World} {B : Nat} {t : TypeId} {v : Value} (h : Boxed W B t v) (hb : Below W.heap.size W W') : Boxed W' B t v := (hb.block B h.lt).trans h

/-- 'xs = append(xs, ..)', xs in a variable's box: behind the append's own words -/
theorem boxed_push {W w1 : World} {base B : Nat} {t e : TypeId} {m : Nat} {v v' : Value} {k k' : Nat} {xs ys : List Value}
    (hv : Boxed W B t v) (hte : t ≠ e) (hrow : W.ownsRow base e m v k xs) (hbase : base ≤ W.heap.size) (hB : B < base)
    (hown' : w1.ownsRow base e m v' k' ys) (hgrow : W.grownBy w1 v.ownBlock) :
    Boxed w1 B t v ∧ Boxed (w1.setCell ⟨B, 0, none⟩ v') B t v' ∧ (w1.setCell ⟨B, 0, none⟩ v').ownsRow base e m v' k' ys ∧ KeepsOthers W (w1.setCell ⟨B, 0, none⟩ v') ∧
    ∀ W0 : World, W0.heap.size = base → Chg B W0 W → Chg B W0 (w1.setCell ⟨B, 0, none⟩ v') := by
  have hv1 : Boxed w1 B t v := hv.kept hgrow (hv.not_row hte hrow)
  refine ⟨hv1, hv1.set v', hown'.kept (grownBy_setCell' w1 B v') (.inr (hv1.not_row hte hown').symm), ?_, ?_⟩
  · refine (KeepsOthers.of_grownBy hgrow fun j o ej hj => ?_).trans (KeepsOthers.setCell _ _ _)
    rcases hrow.2 with ⟨rfl, _⟩ | ⟨g, cap, cur, rfl, _, hgb, _⟩
    · simp [Value.ownBlock] at ej
    · obtain rfl : g = j := by simpa [Value.ownBlock] using ej
      rw [hgb] at hj; cases hj; rfl
  · intro W0 h0 hc
    refine Chg.setCell (v := w1) ⟨hgrow.os.trans hc.os, hgrow.tape.trans hc.tape, hgrow.output.trans hc.output, Nat.le_trans hc.size hgrow.size, fun j hj hjb => ?_⟩ 0 v'
    refine (hgrow.block j (Nat.lt_of_lt_of_le hj hc.size) fun ej => ?_).trans (hc.block j hj hjb)
    have := (hrow.lt j ej.symm).1
    omega
/-- what a loop's body that collects keeps -/
theorem ownFrom_collect {β : Type} (B : Nat) (t e : TypeId) (m : Nat) (W0 : World) (k : β → Nat) (f : β → List Value) (G : β → Prop) :
    OwnFrom W0.heap.size (fun s W => Chg B W0 W ∧ (∃ v, Boxed W B t v ∧ W.ownsRow W0.heap.size e m v (k s) (f s)) ∧ G s) := by
  rintro s W W' row ⟨hc, ⟨v, hv, hr⟩, hG⟩ hg hrow
  refine ⟨⟨hg.os.trans hc.os, hg.tape.trans hc.tape, hg.output.trans hc.output, Nat.le_trans hc.size hg.size, fun j hj hjb => (hg.block j (Nat.lt_of_lt_of_le hj hc.size) fun ej => ?_).trans (hc.block j hj hjb)⟩, ?_, hG⟩
  · have := (hrow j ej.symm).1; omega
  · obtain ⟨v', hv', hr', _⟩ := holdsRow_own W0.heap.size B t e m k f (fun _ _ => True) s W W' row ⟨v, hv, hr, trivial⟩ hg fun j hj => (hrow j hj).2
    exact ⟨v', hv', hr'⟩
theorem ownFrom_boxed {β : Type} (b B : Nat) (t : TypeId) (v : Value) : OwnFrom b (fun (_ : β) W => Boxed W B t v) := by
  rintro s W W' row hv hg hrow
  refine hv.kept hg fun e => ?_
  obtain ⟨_, o, ho, hc⟩ := hrow B e.symm
  rw [show W.heap[B]? = _ from hv] at ho; cases ho; cases hc
theorem keepsAt_chg {p : Nat → Prop} {b : Nat} {W0 W W' : World} (h : Chg b W0 W) (h' : Chg b W0 W') (hp : ∀ k, p k → k < W0.heap.size ∧ k ≠ b) : KeepsAt p W W' :=
  fun k hk => (h'.block k (hp k hk).1 (hp k hk).2).trans (h.block k (hp k hk).1 (hp k hk).2).symm
theorem run_loadVar_one {P : Program} {w : World} {B : Nat} {t : TypeId} {v : Value} (h : Boxed w B t v) (hs : (isAgg t : Sem Bool).run P w = .ok false w) : (loadVar t ⟨B, 0, none⟩).run P w = .ok v w := by
  simp [loadVar, Sem.run_bind, hs, Result.andThen, load]
  simp [Sem.run, h.cell]
theorem results_boxes {P : Program} {fn : Func} {p q : Tmp} {tp tq : TypeId} (h : fn.results = #[.cell p tp, .cell q tq]) (tmps : Array Value) (w : World) (A B : Nat) (va vb : Value)
    (hp : tmps.getD p undef = .pointer (some ⟨A, 0, none⟩)) (hq : tmps.getD q undef = .pointer (some ⟨B, 0, none⟩)) (ha : Boxed w A tp va) (hb : Boxed w B tq vb)
    (hsp : ∀ w, (isAgg tp : Sem Bool).run P w = .ok false w) (hsq : ∀ w, (isAgg tq : Sem Bool).run P w = .ok false w) : (results fn tmps).run P w = .ok (.tuple #[va, vb]) w := by
  have ha1 := run_loadVar_one ha (hsp w)
  have hb1 := run_loadVar_one hb (hsq w)
  simp only [results, h]
  have hp' : tmps[p]?.getD undef = .pointer (some ⟨A, 0, none⟩) := by simpa using hp
  have hq' : tmps[q]?.getD undef = .pointer (some ⟨B, 0, none⟩) := by simpa using hq
  simp [Sem.run_bind, Result.andThen, hp', hq', asAddr, ha1, hb1]
end Go.Proofs.Ytacgpflheokkaaa
