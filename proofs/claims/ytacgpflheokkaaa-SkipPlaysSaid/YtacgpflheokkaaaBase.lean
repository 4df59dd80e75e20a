/-
  Shared words of the walks: a world that is another one but for draws.
-/
import Derived.Test.YtacgpflheokkaaaProg
import Derived.Below
import Derived.Deep.Draws
import Derived.Deep.AppendLies
import Derived.Maps.AppendAt
import Derived.OwnWalk
import Derived.Laws.BytesArg
import Derived.Laws.MakeOwn
import Derived.Laws.OwnMore
import Derived.Deep.OwnRows
import Derived.Tactics
import Derived.Lib.ConvBytes
import Derived.Laws.Slices
import Derived.WalkKit
import Derived.KernelRfl
import Derived.RowKit3
import Derived.Deep.LoopGhost
import Derived.Deep.QuietTactic
import Derived.BigQuiet
import Derived.WideLaws
import Derived.Deep.DeepCutAuto
import Derived.Deep.CutBlock
import Derived.Deep.RegionHeld3
import Derived.Laws.Rows
import Derived.Lib.AppendStr
import Derived.ArgAppend
import Derived.Laws.IdiomCopy
import Derived.OrdersHeld
import Derived.Laws.BitsLemmas
import Derived.RowKit
import Derived.Lib.Hide
import Derived.WalkLawsBesides
import Derived.WalkSpells
import Derived.Outline
namespace Go.Proofs.Ytacgpflheokkaaa
open Go.RowKit

/-- The world is as it was, but for draws. -/
structure Drew (w w' : World) : Prop where mk :: (out : ∃ n, w' = w.drewN n)
theorem Drew.refl (w : World) : Drew w w := ⟨⟨0, rfl⟩⟩
theorem Drew.step {w w' : World} (h : Drew w w') (n : Nat) : Drew w (w'.drewN n) := by
  obtain ⟨⟨m, rfl⟩⟩ := h
  exact ⟨⟨m + n, by rw [World.drewN_drewN]⟩⟩
theorem Drew.drew {w w' : World} (h : Drew w w') : Drew w w'.drew := by
  obtain ⟨⟨m, rfl⟩⟩ := h
  exact ⟨⟨m + 1, rfl⟩⟩
theorem Drew.trans {a b c : World} (h : Drew a b) (g : Drew b c) : Drew a c := by
  obtain ⟨⟨m, rfl⟩⟩ := g
  exact h.step m
theorem Drew.below {w w' : World} (h : Drew w w') : Below w.heap.size w w' := by
  obtain ⟨⟨n, rfl⟩⟩ := h
  induction n with
  | zero => exact Below.refl _ _
  | succ n ih => exact ih.drew

theorem Drew.belowB {w w' : World} (h : Drew w w') (B : Nat) : Below B w w' := by
  obtain ⟨⟨n, rfl⟩⟩ := h
  exact ⟨rfl, rfl, rfl, Nat.le_refl _, fun _ _ => rfl⟩
theorem below_draws {B : Nat} {a b b' : World} (h : Below B a b) (d : Drew b b') : Below B a b' := h.trans (d.belowB B)
/-- one call behind the other -/
theorem below_next {B : Nat} {a b b' c : World} (h : Below B a b) (d : Drew b b') (k : Below b'.heap.size b' c) (hB : B ≤ b.heap.size) : Below B a c := by
  refine (below_draws h d).trans (k.mono ?_)
  exact Nat.le_trans hB (d.belowB 0).size
theorem below_drewN {B : Nat} {a b : World} (h : Below B a b) (n : Nat) : Below B a (b.drewN n) := below_draws h ((Drew.refl _).step n)
/-- a call's own 'Below', seen from the world in which all began -/
theorem below_at {w a b : World} (h : Below w.heap.size w a) (k : Below a.heap.size a b) : Below w.heap.size w b := h.trans (k.mono h.size)
/-- Only block b is another one; new blocks there may be. -/
structure Chg (b : Nat) (w w' : World) : Prop where
  os : w'.os = w.os
  tape : w'.tape = w.tape
  output : w'.output = w.output
  size : w.heap.size ≤ w'.heap.size
  block : ∀ k, k < w.heap.size → k ≠ b → w'.heap[k]? = w.heap[k]?
theorem Chg.refl (b : Nat) (w : World) : Chg b w w := ⟨rfl, rfl, rfl, Nat.le_refl _, fun _ _ _ => rfl⟩
theorem Chg.trans {b : Nat} {u v w : World} (h : Chg b u v) (k : Chg b v w) : Chg b u w :=
  ⟨k.os.trans h.os, k.tape.trans h.tape, k.output.trans h.output, Nat.le_trans h.size k.size, fun i hi hb => (k.block i (Nat.lt_of_lt_of_le hi h.size) hb).trans (h.block i hi hb)⟩
theorem Chg.drewN {b : Nat} {u v : World} (h : Chg b u v) (n : Nat) : Chg b u (v.drewN n) := ⟨h.os, h.tape, h.output, h.size, h.block⟩
theorem Chg.drew1 {b : Nat} {u v : World} (h : Chg b u v) : Chg b u v.drew := ⟨h.os, h.tape, h.output, h.size, h.block⟩
theorem Chg.setCell {b : Nat} {u v : World} (h : Chg b u v) (i : Nat) (x : Value) : Chg b u (v.setCell ⟨b, i, none⟩ x) :=
  h.trans ⟨rfl, rfl, rfl, by simp [World.setCell], fun k hk hb => Below.heap_setCell _ _ _ _ hb⟩
theorem Chg.alloc {b : Nat} {u v : World} (h : Chg b u v) (o : Obj) : Chg b u (v.alloc o) :=
  h.trans ⟨rfl, rfl, rfl, by simp, fun k hk _ => Below.heap_alloc _ _ _ hk⟩
theorem Chg.below {b B : Nat} {u v : World} (h : Chg b u v) (hB : B ≤ b) (hu : B ≤ u.heap.size) : Below B u v :=
  ⟨h.os, h.tape, h.output, h.size, fun k hk => h.block k (by omega) (by omega)⟩
theorem Chg.ofBelow {b : Nat} {u v : World} (h : Below u.heap.size u v) : Chg b u v := ⟨h.os, h.tape, h.output, h.size, fun k hk _ => h.block k hk⟩
theorem Chg.heap {b k : Nat} {u v : World} (h : Chg b u v) (hk : k ≠ b) {o : Obj} (ho : u.heap[k]? = some o) : v.heap[k]? = some o := by
  have hlt : k < u.heap.size := by
    rcases Nat.lt_or_ge k u.heap.size with h' | h'
    · exact h'
    · simp [Array.getElem?_eq_none h'] at ho
  rw [h.block k hlt hk]; exact ho

theorem eq_bb {a b : Int} (h : a = b) : (a == b) = true ∧ (a != b) = false := by subst h; simp
theorem ne_bb {a b : Int} (h : ¬ a = b) : (a == b) = false ∧ (a != b) = true := by simp [h]

end Go.Proofs.Ytacgpflheokkaaa
