/-
  Two rows of structs of a call's own, side by side: 'p = append(p, x)', 's = append(s, y)' in a region that draws none.
-/
import Derived.Test.YtkllcidmahhkoaaRow
import Derived.Deep.AppendLies
namespace Go.Proofs.Ytkllcidmahhkoaa
open Go.RowKit
set_option linter.unusedVariables false
set_option linter.unusedSimpArgs false

structure TwoM (w0 W : World) (e : TypeId) (m : Nat) (v : Value) (k : Nat) (xs : List Value) (v' : Value) (k' : Nat) (ys : List Value) : Prop where
  a : W.ownsRow w0.heap.size e m v k xs
  b : W.ownsRow w0.heap.size e m v' k' ys
  ne : v.ownBlock = none ∨ v.ownBlock ≠ v'.ownBlock
  bel : Below w0.heap.size w0 W
theorem TwoM.swap {w0 W : World} {e : TypeId} {m : Nat} {v v' : Value} {k k' : Nat} {xs ys : List Value} (h : TwoM w0 W e m v k xs v' k' ys) : TwoM w0 W e m v' k' ys v k xs :=
  ⟨h.b, h.a, by
    rcases h.ne with h1 | h1
    · cases hv : v'.ownBlock with
      | none => exact .inl rfl
      | some g => exact .inr (by rw [h1]; simp)
    · exact .inr (Ne.symm h1), h.bel⟩
theorem TwoM.moved {w0 W W' : World} {e : TypeId} {m : Nat} {v v' : Value} {k k' : Nat} {xs ys : List Value} (h : TwoM w0 W e m v k xs v' k' ys) (hb : Below W.heap.size W W') : TwoM w0 W' e m v k xs v' k' ys :=
  ⟨own_moved h.a hb, own_moved h.b hb, h.ne, h.bel.trans (hb.mono h.bel.size)⟩
theorem TwoM.alloc {w0 W : World} {e : TypeId} {m : Nat} {v v' : Value} {k k' : Nat} {xs ys : List Value} (h : TwoM w0 W e m v k xs v' k' ys) (o : Obj) : TwoM w0 (W.alloc o) e m v k xs v' k' ys :=
  h.moved ((Below.refl _ _).alloc (Nat.le_refl _) _)
theorem TwoM.none {w0 : World} {e : TypeId} {m : Nat} : TwoM w0 w0 e m (.slice none 0 0) 0 [] (.slice none 0 0) 0 [] := ⟨own_none, own_none, .inl rfl, Below.refl _ _⟩

theorem wp_append_twoM {P : Program} {ops : Array Oper} {rest : List Oper} {o : Oper} {a : Act} {Q : Exit → Act → World → Prop} (hgd : o.guard = none) (s x : Operand) (t : TypeId)
    (ho : o.op = .call { callee := .builtin .append, args := #[s, x], argTypes := #[t, t] })
    (w0 : World) (e : TypeId) (ht : P.underlying t = some (.slice e)) (z : Value) (m bytes : Nat) (hi : (P.info? e).map (fun i => (i.zero, i.size, i.bytes)) = some (some z, m, bytes)) (hz1 : z.cells.size = m) (hm0 : 0 < m) (hby : bytes ≤ 640)
    (w : World) (v v' : Value) (n n' : Nat) (xs ys : List Value) (hs : a.eval s = v) (us : Array Value) (B : Nat) (hx : a.eval x = .slice (some ⟨B, 0, Option.none⟩) 1 1) (hown : TwoM w0 w e m v n xs v' n' ys)
    (hB : w.heap[B]? = some (.cells us e (0, 0))) (hus : us.size = m) (hu : ∀ u ∈ us.toList, u.oneCell' = true) (hlen : n + 1 ≤ 1000000000)
    (h : ∀ g cap w', TwoM w0 w' e m (.slice (some ⟨g, 0, Option.none⟩) (n + 1) cap) (n + 1) (xs ++ us.toList) v' n' ys → (∀ (j : Nat) (o : Obj), w.heap[j]? = some o → some j ≠ v.ownBlock → w'.heap[j]? = some o) → w.heap.size ≤ w'.heap.size → wpList P ops Q rest (a.put o.dst (.slice (some ⟨g, 0, Option.none⟩) (n + 1) cap)) w') :
    wpList P ops Q (o :: rest) a w := by
  obtain ⟨i0, hi0, hz0, hz1', hz2⟩ := info_parts hi
  refine wpList_append_lies w hgd s x t ho w0.heap.size e i0 z m bytes ht hi0 hz0 hz1' hz2 hz1 hm0 v n xs hs hown.a ⟨B, 0, Option.none⟩ 1 1 us.toList hx (by rw [Array.length_toList, hus, Nat.one_mul]) (World.news_of_block hB) hu (by omega) (by unfold maxLen; omega) ?_ hown.bel.size w.heap.size rfl ?_
  · have : (n + 1) * bytes ≤ 1000000000 * 640 := Nat.mul_le_mul hlen hby
    omega
  · intro g cap w' hown' hgrow hat hlt
    have hk : ∀ (j : Nat) (o : Obj), w.heap[j]? = some o → some j ≠ v.ownBlock → w'.heap[j]? = some o := fun j o hj hne => (hgrow.block j (Array.getElem?_eq_some_iff.1 hj).1 hne).trans hj
    refine h g cap w' ⟨hown', hown.b.kept hgrow ?_, ?_, (hown.bel).grown hgrow hown.bel.size fun k hk => (hown.a.lt k hk).1⟩ hk hgrow.size
    · rcases hown.ne with h1 | h1
      · cases hv : v'.ownBlock with
        | none => exact .inl rfl
        | some g => exact .inr (by rw [h1]; simp)
      · exact .inr (Ne.symm h1)
    · refine .inr ?_
      rcases hat with h1 | h1
      · rcases hown.ne with h2 | h2
        · rw [h2] at h1; cases h1
        · rw [h1] at h2; exact h2
      · intro e2
        have := (hown.b.lt g e2.symm).2
        omega
end Go.Proofs.Ytkllcidmahhkoaa
