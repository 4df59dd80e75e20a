/-
  'xs = append(xs, ys...)', xs a row of the call's own, ys any row of one-cell elements.
-/
import Derived.Test.YtepikibbghemhaaRow
import Derived.Laws.AppendOwnNone
namespace Go.Proofs.Ytepikibbghemhaa
open Go.ChangeShapes Go.WideShapes Go.Deep Go.RowKit
set_option linter.unusedVariables false
set_option linter.unusedSimpArgs false

theorem wp_append_src {P : Program} {ops : Array Oper} {rest : List Oper} {o : Oper} {a : Act} {Q : Exit → Act → World → Prop} (hgd : o.guard = none) (s x : Operand) (t : TypeId)
    (ho : o.op = .call { callee := .builtin .append, args := #[s, x], argTypes := #[t, t] })
    (base : Nat) (e : TypeId) (ht : P.underlying t = some (.slice e)) (z : Value) (bytes : Nat) (hi : (P.info? e).map (fun i => (i.zero, i.size, i.bytes)) = some (some z, 1, bytes)) (hz1 : z.cells.size = 1) (hby : bytes ≤ 64)
    (wr : World) (v : Value) (n : Nat) (pre : List Value) (hs : a.eval s = v) (hown : wr.ownsRow base e 1 v n pre)
    {ρ : Type} (enc : ρ → List Value) (f : ρ → Value) (he : ∀ r, enc r = [f r]) (hf : ∀ r, (f r).oneCell' = true)
    (A : Option Addr) (l : List ρ) (c : Nat) (hr : RowsAt wr A 1 enc l) (hc : A = none → c = 0) (hx : a.eval x = .slice A l.length c) (hlen : n + l.length ≤ 1000000000) (hbase : base ≤ wr.heap.size)
    (h : ∀ v' w', w'.ownsRow base e 1 v' (n + l.length) (pre ++ l.map f) → Below base wr w' → wpList P ops Q rest (a.put o.dst v') w') :
    wpList P ops Q (o :: rest) a wr := by
  obtain ⟨i0, hi0, hz0, hz1', hz2⟩ := info_parts hi
  cases A with
  | none =>
    have hl : l = [] := by
      rcases hr.out with h | ⟨b, o, h, _⟩
      · exact h
      · cases h
    subst hl
    have hc0 := hc rfl
    subst hc0
    refine wpList_append_own_none hgd s x t ho base e i0 1 ht hi0 v n pre hs hown hx ?_
    have := h v wr (by simpa using hown) (Below.refl _ _)
    exact this
  | some ad =>
    refine wpList_append_own _ hgd s x t ho base e i0 z 1 bytes ht hi0 hz0 hz1' hz2 hz1 (by decide) v n pre hs hown ad l.length c (l.map f) hx (by simp) ?_ (by
      intro u hu
      obtain ⟨r, _, rfl⟩ := List.mem_map.1 hu
      exact hf r) (by unfold maxLen; omega) ?_ hbase ?_
    · intro j u hj
      rw [List.getElem?_map] at hj
      cases hl : l[j]? with
      | none => rw [hl] at hj; cases hj
      | some r =>
        rw [hl] at hj
        simp at hj
        subst hj
        rcases hr.out with h | ⟨b, o, h, hcell⟩
        · rw [h] at hl; simp at hl
        · cases h
          have := hcell j r hl 0 (f r) (by rw [he]; rfl)
          rw [add_plain]
          simpa using this
    · have : (n + l.length) * bytes ≤ 1000000000 * 64 := Nat.mul_le_mul hlen hby
      omega
    · intro v' w' hown' hgrow _
      exact h v' w' hown' ((Below.refl base wr).grown hgrow hbase fun k hk => (hown.lt k hk).1)
end Go.Proofs.Ytepikibbghemhaa
