/-
  Small words on blocks, and on rows of one-cell elements.
-/
import Derived.Test.YtacgpflheokkaaaArgs
namespace Go.Proofs.Ytacgpflheokkaaa
open Go.RowKit
set_option linter.unusedVariables false
set_option linter.unusedSimpArgs false
theorem heap_lt {w : World} {b : Nat} {o : Obj} (h : w.heap[b]? = some o) : b < w.heap.size := by
  rcases Nat.lt_or_ge b w.heap.size with h' | h'
  · exact h'
  · simp [Array.getElem?_eq_none h'] at h

/-- element i of a row of one-cell elements -/
theorem RowsAt.one {ρ : Type} {w : World} {a : Option Addr} {enc : ρ → List Value} {f : ρ → Value} {l : List ρ} (h : RowsAt w a 1 enc l) (he : ∀ r, enc r = [f r]) (i : Nat) (hi : i < l.length) :
    ∃ b o, a = some ⟨b, o, none⟩ ∧ w.cell? ⟨b, o + i, none⟩ = some (f l[i]) := by
  obtain ⟨b, o, e, hc⟩ := h.at_ i hi
  refine ⟨b, o, e, ?_⟩
  have h0 := hc 0 (f l[i]) (by rw [he]; rfl)
  simpa using h0
theorem RowsAt.head {ρ : Type} {w : World} {a : Option Addr} {m : Nat} {enc : ρ → List Value} {l : List ρ} (h : RowsAt w a m enc l) (hn : l ≠ []) : ∃ b o, a = some ⟨b, o, none⟩ := by
  rcases h.out with e | ⟨b, o, e, _⟩
  · exact absurd e hn
  · exact ⟨b, o, e⟩
theorem RowsAt.base {ρ : Type} {w v : World} {a : Option Addr} {m : Nat} {enc : ρ → List Value} {l : List ρ} {B : Nat} (h : RowsAt w a m enc l) (hB : Below B w v) (hs : w.heap.size ≤ B) : RowsAt v a m enc l := h.moved (hB.mono hs)

/-- a row that the call owns, read -/
theorem own_rows {ρ : Type} {w : World} {base : Nat} {e : TypeId} {v : Value} {enc : ρ → List Value} {f : ρ → Value} {l : List ρ} (h : w.ownsRow base e 1 v l.length (l.map f)) (he : ∀ r, enc r = [f r]) :
    ∃ a c, v = .slice a l.length c ∧ RowsAt w a 1 enc l ∧ l.length ≤ c ∧ c ≤ maxLen := by
  obtain ⟨hl, h | ⟨g, cap, cur, hv, hb, hc, hn, hm, hsz, htk⟩⟩ := h
  · have hn : l = [] := List.length_eq_zero_iff.mp h.2
    subst hn
    exact ⟨none, 0, h.1, ⟨.inl rfl⟩, Nat.le_refl _, by decide⟩
  · refine ⟨_, _, hv, ⟨.inr ⟨g, 0, rfl, fun i r hi j v hv => ?_⟩⟩, hn, hm⟩
    rw [he] at hv
    have hj : j = 0 := by
      rcases Nat.eq_zero_or_pos j with h | h
      · exact h
      · rw [List.getElem?_eq_none (show [f r].length ≤ j from h)] at hv; cases hv
    subst hj
    simp at hv
    subst hv
    have hi' : i < l.length := (List.getElem?_eq_some_iff.1 hi).1
    rw [cell_of_row _ _ _ _ _ _ hc]
    have e1 : cur[0 + (i * 1 + 0)]? = (l.map f)[i]? := by
      rw [← htk, List.getElem?_take_of_lt (by omega)]
      simp
    rw [e1, List.getElem?_map, hi]; rfl

/-- 'xs = append(xs, x)', xs a row of one-cell elements of the call's own -/
theorem wp_append_one {P : Program} {ops : Array Oper} {rest : List Oper} {o : Oper} {a : Act} {Q : Exit → Act → World → Prop} (hgd : o.guard = none) (s x : Operand) (t : TypeId)
    (ho : o.op = .call { callee := .builtin .append, args := #[s, x], argTypes := #[t, t] })
    (base : Nat) (e : TypeId) (ht : P.underlying t = some (.slice e)) (z : Value) (bytes : Nat) (hi : (P.info? e).map (fun i => (i.zero, i.size, i.bytes)) = some (some z, 1, bytes)) (hz1 : z.cells.size = 1) (hby : bytes ≤ 64)
    (wr : World) (v : Value) (n : Nat) (pre : List Value) (hs : a.eval s = v) (hown : wr.ownsRow base e 1 v n pre)
    (xv : Value) (hx1 : xv.oneCell' = true) (hx : a.eval x = .slice (some ⟨wr.heap.size, 0, none⟩) 1 1) (hlen : n + 1 ≤ 1000000000) (hbase : base ≤ wr.heap.size)
    (h : ∀ v' w', w'.ownsRow base e 1 v' (n + 1) (pre ++ [xv]) → Below base wr w' → wpList P ops Q rest (a.put o.dst v') w') :
    wpList P ops Q (o :: rest) a (wr.alloc (.cells #[xv] e)) := by
  obtain ⟨i0, hi0, hz0, hz1', hz2⟩ := info_parts hi
  refine wpList_append_own _ hgd s x t ho base e i0 z 1 bytes ht hi0 hz0 hz1' hz2 hz1 (by decide) v n pre hs (hown.alloc _) ⟨wr.heap.size, 0, none⟩ 1 1 [xv] hx rfl ?_ ?_ ?_ ?_ ?_ ?_
  · intro j u hj
    match j, hj with
    | 0, hj => simp at hj; subst hj; exact cell_of_row _ _ _ _ _ _ (heap_alloc_new _ _)
  · intro u hu; simp at hu; subst hu; exact hx1
  · unfold maxLen; omega
  · have : (n + 1) * bytes ≤ 1000000000 * 64 := Nat.mul_le_mul hlen hby
    omega
  · simp; omega
  · intro v' w' hown' hgrow _
    exact h v' w' hown' (((Below.refl base wr).alloc hbase _).grown hgrow (by simp; omega) fun k hk => (hown.lt k hk).1)

/-- an owned row behind a call that makes memory -/
theorem own_moved {w w' : World} {base : Nat} {e : TypeId} {size : Nat} {v : Value} {n : Nat} {xs : List Value} (h : w.ownsRow base e size v n xs) (hB : Below w.heap.size w w') : w'.ownsRow base e size v n xs := by
  obtain ⟨hl, h | ⟨g, cap, cur, hv, hb, hc, hr⟩⟩ := h
  · exact ⟨hl, .inl h⟩
  · exact ⟨hl, .inr ⟨g, cap, cur, hv, hb, by rw [hB.block _ (heap_lt hc)]; exact hc, hr⟩⟩
theorem own_base {w w' : World} {base B : Nat} {e : TypeId} {size : Nat} {v : Value} {n : Nat} {xs : List Value} (h : w.ownsRow base e size v n xs) (hB : Below B w w') (hs : w.heap.size ≤ B) : w'.ownsRow base e size v n xs := own_moved h (hB.mono hs)

end Go.Proofs.Ytacgpflheokkaaa
