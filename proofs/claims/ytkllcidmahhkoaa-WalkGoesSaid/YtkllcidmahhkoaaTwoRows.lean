/-
  Two rows of a call's own, side by side: 'p, s = append(p, x), append(s, y)' in a region that draws its order.
-/
import Derived.Test.YtkllcidmahhkoaaRow
import Derived.Deep.AppendLies
import Derived.Deep.RegionHeld3
namespace Go.Proofs.Ytkllcidmahhkoaa
open Go.RowKit
set_option linter.unusedVariables false
set_option linter.unusedSimpArgs false

structure Two (w0 W : World) (e : TypeId) (v : Value) (k : Nat) (xs : List Value) (v' : Value) (k' : Nat) (ys : List Value) : Prop where
  a : W.ownsRow w0.heap.size e 1 v k xs
  b : W.ownsRow w0.heap.size e 1 v' k' ys
  ne : v.ownBlock = none ∨ v.ownBlock ≠ v'.ownBlock
  bel : Below w0.heap.size w0 W
theorem Two.swap {w0 W : World} {e : TypeId} {v v' : Value} {k k' : Nat} {xs ys : List Value} (h : Two w0 W e v k xs v' k' ys) : Two w0 W e v' k' ys v k xs :=
  ⟨h.b, h.a, by
    rcases h.ne with h1 | h1
    · cases hv : v'.ownBlock with
      | none => exact .inl rfl
      | some g => exact .inr (by rw [h1]; simp)
    · exact .inr (Ne.symm h1), h.bel⟩
theorem Two.alloc {w0 W : World} {e : TypeId} {v v' : Value} {k k' : Nat} {xs ys : List Value} (h : Two w0 W e v k xs v' k' ys) (o : Obj) : Two w0 (W.alloc o) e v k xs v' k' ys :=
  ⟨h.a.alloc o, h.b.alloc o, h.ne, h.bel.alloc h.bel.size o⟩
theorem Two.moved {w0 W W' : World} {e : TypeId} {v v' : Value} {k k' : Nat} {xs ys : List Value} (h : Two w0 W e v k xs v' k' ys) (hb : Below W.heap.size W W') : Two w0 W' e v k xs v' k' ys :=
  ⟨own_moved h.a hb, own_moved h.b hb, h.ne, h.bel.trans (hb.mono h.bel.size)⟩
theorem Two.drew {w0 W : World} {e : TypeId} {v v' : Value} {k k' : Nat} {xs ys : List Value} (h : Two w0 W e v k xs v' k' ys) : Two w0 W.drew e v k xs v' k' ys :=
  h.moved ⟨rfl, rfl, rfl, Nat.le_refl _, fun _ _ => rfl⟩
theorem Two.none {w0 : World} {e : TypeId} : Two w0 w0 e (.slice none 0 0) 0 [] (.slice none 0 0) 0 [] := ⟨own_none, own_none, .inl rfl, Below.refl _ _⟩

theorem step_append_two {P : Program} {ops : Array Oper} {o : Oper} {a : Act} {K : Act → World → Prop} {Q : Exit → Act → World → Prop} {E : Prop} (hgd : o.guard = none) (s x : Operand) (t : TypeId)
    (ho : o.op = .call { callee := .builtin .append, args := #[s, x], argTypes := #[t, t] })
    (w0 : World) (e : TypeId) (ht : P.underlying t = some (.slice e)) (z : Value) (bytes : Nat) (hi : (P.info? e).map (fun i => (i.zero, i.size, i.bytes)) = some (some z, 1, bytes)) (hz1 : z.cells.size = 1) (hby : bytes ≤ 640)
    (w : World) (v v' : Value) (n n' : Nat) (xs ys : List Value) (hs : a.eval s = v) (u : Value) (B : Nat) (hx : a.eval x = .slice (some ⟨B, 0, Option.none⟩) 1 1) (hown : Two w0 w e v n xs v' n' ys)
    (hB : w.heap[B]? = some (.cells #[u] e (0, 0))) (hu : u.oneCell' = true) (hlen : n + 1 ≤ 1000000000)
    (h : ∀ g cap w', Two w0 w' e (.slice (some ⟨g, 0, Option.none⟩) (n + 1) cap) (n + 1) (xs ++ [u]) v' n' ys → (∀ (j : Nat) (o : Obj), w.heap[j]? = some o → some j ≠ v.ownBlock → w'.heap[j]? = some o) → (∀ (j : Nat) (cs : Array Value) (t : TypeId) (fr : Nat × Nat), w.heap[j]? = some (Obj.cells cs t fr) → t ≠ e → w'.heap[j]? = some (Obj.cells cs t fr)) → K (a.put o.dst (.slice (some ⟨g, 0, Option.none⟩) (n + 1) cap)) w') :
    if Region.wanted o (yielded ops a.tmps) = true then Oper.wp P o a w K Q else E := by
  obtain ⟨i0, hi0, hz0, hz1', hz2⟩ := info_parts hi
  refine step_append_lies w hgd s x t ho w0.heap.size e i0 z 1 bytes ht hi0 hz0 hz1' hz2 hz1 (by decide) v n xs hs hown.a ⟨B, 0, Option.none⟩ 1 1 [u] hx rfl (World.news_of_block (cs := #[u]) hB) (by simpa using hu) (by omega) (by unfold maxLen; omega) ?_ hown.bel.size w.heap.size rfl ?_
  · have : (n + 1) * bytes ≤ 1000000000 * 640 := Nat.mul_le_mul hlen hby
    omega
  · intro g cap w' hown' hgrow hat hlt
    have hk : ∀ (j : Nat) (o : Obj), w.heap[j]? = some o → some j ≠ v.ownBlock → w'.heap[j]? = some o := fun j o hj hne => (hgrow.block j (Array.getElem?_eq_some_iff.1 hj).1 hne).trans hj
    refine h g cap w' ⟨hown', hown.b.kept hgrow ?_, ?_, (hown.bel).grown hgrow hown.bel.size fun k hk => (hown.a.lt k hk).1⟩ hk fun j cs t fr hj hte => hk j _ hj ?_
    · rcases hown.ne with h1 | h1
      · cases hv : v'.ownBlock with
        | none => exact .inl rfl
        | some g => exact .inr (by rw [h1]; simp)
      · exact .inr (Ne.symm h1)
    · refine .inr ?_
      rcases hat with h1 | h1
      · rcases hown.ne with h2 | h2
        · rw [h2] at h1; cases h1
        · rw [h1] at h2; exact h2
      · intro e2
        have := (hown.b.lt g e2.symm).2
        omega
    · rcases hown.a.2 with ⟨rfl, _⟩ | ⟨g2, cap2, cur, rfl, _, hgb, _⟩
      · simp [Value.ownBlock]
      · intro e2
        obtain rfl : j = g2 := by simpa [Value.ownBlock] using e2
        rw [hgb] at hj; cases hj; exact hte rfl
theorem keep7 {W : World} {B : Nat} {a b c d : Value} {t : TypeId} (h : W.heap[B]? = some (.cells #[a, b, c, d] t (0, 0))) : W.heap[B]? = some (.cells #[a, b, c, d] t (0, 0)) ∧ W.cell? ⟨B, 2, Option.none⟩ = some c ∧ W.cell? ⟨B, 3, Option.none⟩ = some d :=
  ⟨h, by simp [World.cell?, h], by simp [World.cell?, h]⟩
end Go.Proofs.Ytkllcidmahhkoaa
