/-
  Rows of structs that a call makes: read, appended to.
-/
import Derived.Test.YtacgpflheokkaaaKit
import Derived.Deep.AppendLies
namespace Go.Proofs.Ytacgpflheokkaaa
open Go.RowKit
set_option linter.unusedVariables false
set_option linter.unusedSimpArgs false

theorem flat_length {ρ : Type} {enc : ρ → List Value} {m : Nat} (he : ∀ r, (enc r).length = m) (l : List ρ) : (l.flatMap enc).length = l.length * m := by
  induction l with
  | nil => simp
  | cons r l ih => rw [List.flatMap_cons, List.length_append, he, ih, List.length_cons, Nat.succ_mul, Nat.add_comm]
theorem flat_at {ρ : Type} {enc : ρ → List Value} {m : Nat} (he : ∀ r, (enc r).length = m) : ∀ (l : List ρ) (i j : Nat) (r : ρ), l[i]? = some r → j < m → (l.flatMap enc)[i * m + j]? = (enc r)[j]?
  | [], i, j, r, h, _ => by simp at h
  | x :: l, 0, j, r, h, hj => by
    simp at h
    subst h
    rw [List.flatMap_cons, List.getElem?_append_left (by rw [he]; omega)]
    congr 1; omega
  | x :: l, i + 1, j, r, h, hj => by
    simp at h
    have e : (i + 1) * m = m + i * m := by rw [Nat.succ_mul, Nat.add_comm]
    rw [List.flatMap_cons, List.getElem?_append_right (by rw [he, e]; omega), he, ← flat_at he l i j r h hj]
    congr 1; omega

/-- a row of structs that the call owns, read -/
theorem own_rowsN {ρ : Type} {w : World} {base : Nat} {e : TypeId} {m : Nat} {v : Value} {enc : ρ → List Value} {l : List ρ} (h : w.ownsRow base e m v l.length (l.flatMap enc)) (he : ∀ r, (enc r).length = m) :
    ∃ a c, v = .slice a l.length c ∧ RowsAt w a m enc l ∧ l.length ≤ c ∧ c ≤ maxLen := by
  obtain ⟨hl, h | ⟨g, cap, cur, hv, hb, hc, hn, hm, hsz, htk⟩⟩ := h
  · have hn : l = [] := List.length_eq_zero_iff.mp h.2
    subst hn
    exact ⟨none, 0, h.1, ⟨.inl rfl⟩, Nat.le_refl _, by decide⟩
  · refine ⟨_, _, hv, ⟨.inr ⟨g, 0, rfl, fun i r hi j v hv => ?_⟩⟩, hn, hm⟩
    have hj : j < m := by
      have := (List.getElem?_eq_some_iff.1 hv).1
      rwa [he] at this
    have hi' : i < l.length := (List.getElem?_eq_some_iff.1 hi).1
    rw [cell_of_row _ _ _ _ _ _ hc]
    have hlt : i * m + j < l.length * m := by
      have : (i + 1) * m ≤ l.length * m := Nat.mul_le_mul_right _ hi'
      rw [Nat.succ_mul] at this; omega
    have e1 : cur[0 + (i * m + j)]? = (l.flatMap enc)[i * m + j]? := by
      rw [← htk, List.getElem?_take_of_lt hlt]
      simp
    rw [e1, flat_at he l i j r hi hj, hv]

theorem own_none {w : World} {base : Nat} {e : TypeId} {m : Nat} : w.ownsRow base e m (.slice none 0 0) 0 [] := ⟨by simp, .inl ⟨rfl, rfl⟩⟩

theorem heap_new {w : World} {x : Obj} {B : Nat} (h : w.heap.size = B) : (w.alloc x).heap[B]? = some x := by subst h; exact heap_alloc_new _ _

/-- 'xs = append(xs, x)', xs a row of structs of the call's own -/
theorem wp_append_row {P : Program} {ops : Array Oper} {rest : List Oper} {o : Oper} {a : Act} {Q : Exit → Act → World → Prop} (hgd : o.guard = none) (s x : Operand) (t : TypeId)
    (ho : o.op = .call { callee := .builtin .append, args := #[s, x], argTypes := #[t, t] })
    (base : Nat) (e : TypeId) (ht : P.underlying t = some (.slice e)) (z : Value) (m bytes : Nat) (hi : (P.info? e).map (fun i => (i.zero, i.size, i.bytes)) = some (some z, m, bytes)) (hz1 : z.cells.size = m) (hm0 : 0 < m) (hby : bytes ≤ 640)
    (wr : World) (v : Value) (n : Nat) (pre : List Value) (hs : a.eval s = v) (hown : wr.ownsRow base e m v n pre)
    (xs : Array Value) (B : Nat) (hB : wr.heap[B]? = some (.cells xs e (0, 0))) (hxs : xs.size = m) (hx1 : ∀ u ∈ xs.toList, u.oneCell' = true) (hx : a.eval x = .slice (some ⟨B, 0, none⟩) 1 1) (hlen : n + 1 ≤ 1000000000) (hbase : base ≤ wr.heap.size)
    (h : ∀ v' w', w'.ownsRow base e m v' (n + 1) (pre ++ xs.toList) → Below base wr w' → wpList P ops Q rest (a.put o.dst v') w') :
    wpList P ops Q (o :: rest) a wr := by
  obtain ⟨i0, hi0, hz0, hz1', hz2⟩ := info_parts hi
  refine wpList_append_own _ hgd s x t ho base e i0 z m bytes ht hi0 hz0 hz1' hz2 hz1 hm0 v n pre hs hown ⟨B, 0, none⟩ 1 1 xs.toList hx (by rw [Array.length_toList, hxs, Nat.one_mul]) (World.news_of_block hB) hx1 ?_ ?_ hbase ?_
  · unfold maxLen; omega
  · have : (n + 1) * bytes ≤ 1000000000 * 640 := Nat.mul_le_mul hlen hby
    omega
  · intro v' w' hown' hgrow _
    exact h v' w' hown' ((Below.refl base wr).grown hgrow hbase fun k hk => (hown.lt k hk).1)

/-- the same at a step of a region that draws its order -/
theorem step_append_row {P : Program} {ops : Array Oper} {o : Oper} {a : Act} {K : Act → World → Prop} {Q : Exit → Act → World → Prop} {E : Prop} (hgd : o.guard = none) (s x : Operand) (t : TypeId)
    (ho : o.op = .call { callee := .builtin .append, args := #[s, x], argTypes := #[t, t] })
    (base : Nat) (e : TypeId) (ht : P.underlying t = some (.slice e)) (z : Value) (m bytes : Nat) (hi : (P.info? e).map (fun i => (i.zero, i.size, i.bytes)) = some (some z, m, bytes)) (hz1 : z.cells.size = m) (hm0 : 0 < m) (hby : bytes ≤ 640)
    (w : World) (v : Value) (n : Nat) (pre : List Value) (hs : a.eval s = v) (hown : w.ownsRow base e m v n pre)
    (xs : Array Value) (B : Nat) (hB : w.heap[B]? = some (.cells xs e (0, 0))) (hxs : xs.size = m) (hx1 : ∀ u ∈ xs.toList, u.oneCell' = true) (hx : a.eval x = .slice (some ⟨B, 0, none⟩) 1 1) (hlen : n + 1 ≤ 1000000000) (hbase : base ≤ w.heap.size)
    (h : ∀ g cap w', w'.ownsRow base e m (.slice (some ⟨g, 0, none⟩) (n + 1) cap) (n + 1) (pre ++ xs.toList) → Below base w w' → w.heap.size ≤ w'.heap.size → K (a.put o.dst (.slice (some ⟨g, 0, none⟩) (n + 1) cap)) w') :
    if Region.wanted o (yielded ops a.tmps) = true then Oper.wp P o a w K Q else E := by
  obtain ⟨i0, hi0, hz0, hz1', hz2⟩ := info_parts hi
  refine step_append_lies _ hgd s x t ho base e i0 z m bytes ht hi0 hz0 hz1' hz2 hz1 hm0 v n pre hs hown ⟨B, 0, none⟩ 1 1 xs.toList hx (by rw [Array.length_toList, hxs, Nat.one_mul]) (World.news_of_block hB) hx1 (by omega) (by unfold maxLen; omega) ?_ hbase w.heap.size rfl ?_
  · have : (n + 1) * bytes ≤ 1000000000 * 640 := Nat.mul_le_mul hlen hby
    omega
  · intro g cap w' hown' hgrow _ _
    have hB' : Below base w w' := (Below.refl base w).grown hgrow hbase fun k hk => (hown.lt k hk).1
    exact h g cap w' hown' hB' (by have := hgrow.size; omega)

end Go.Proofs.Ytacgpflheokkaaa
