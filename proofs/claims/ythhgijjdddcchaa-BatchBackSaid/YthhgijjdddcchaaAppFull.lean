/-
  'append(l[:len(l):len(l)], x)': one element behind a row that has no room; a struct's store at a step of a region that draws.
-/
import Derived.Test.YthhgijjdddcchaaRow
import Derived.ArgAppend
import Derived.Laws.Tables
import Derived.Deep.AppendLies
namespace Go.Proofs.Ythhgijjdddcchaa
open Go.RowKit
set_option linter.unusedVariables false
set_option linter.unusedSimpArgs false

theorem rows_olds {ρ : Type} {w : World} {b o : Nat} {m : Nat} {enc : ρ → List Value} {l : List ρ} (h : RowsAt w (some ⟨b, o, none⟩) m enc l) (he : ∀ r, (enc r).length = m) : ∀ j u, (l.flatMap enc)[j]? = some u → w.cell? ((⟨b, o, none⟩ : Addr).add j) = some u := by
  intro j u hu
  rw [Addr.add_lit]
  rcases h.out with rfl | ⟨b', o', e, hc⟩
  · simp at hu
  · cases e
    have hj : j < (l.flatMap enc).length := (List.getElem?_eq_some_iff.1 hu).1
    have hlen : (l.flatMap enc).length = l.length * m := by
      clear hc hu hj h
      induction l with
      | nil => simp
      | cons x l ih => rw [List.flatMap_cons, List.length_append, ih, he, List.length_cons, Nat.succ_mul]; omega
    rw [hlen] at hj
    have hm : 0 < m := by
      rcases Nat.eq_zero_or_pos m with h0 | h0
      · subst h0; simp at hj
      · exact h0
    have hi : j / m < l.length := (Nat.div_lt_iff_lt_mul hm).2 hj
    have hjm := Nat.mod_lt j hm
    have hdm : j / m * m + j % m = j := by rw [Nat.mul_comm]; exact Nat.div_add_mod j m
    have := hc (j / m) l[j / m] (List.getElem?_eq_getElem hi) (j % m) u (by
      have hf := flat_at he l (j / m) (j % m) l[j / m] (List.getElem?_eq_getElem hi) hjm
      rw [hdm] at hf
      rw [← hf]; exact hu)
    rw [hdm] at this
    exact this

theorem run_append_full {P : Program} (w : World) (t ty e : TypeId) (ht : P.underlying t = some (.slice e)) (z : Value) (m bytes : Nat) (hi : (P.info? e).map (fun i => (i.zero, i.size, i.bytes)) = some (some z, m, bytes)) (hz1 : z.cells.size = m) (hm0 : 0 < m) (hby : bytes ≤ 640)
    {ρ : Type} (enc : ρ → List Value) (l : List ρ) (sa : Option Addr) (hrow : RowsAt w sa m enc l) (he : ∀ r, (enc r).length = m) (h1 : ∀ r, ∀ u ∈ enc r, u.oneCell' = true) (r : ρ) (B : Nat) (us : Array Value) (hus : us.toList = enc r) (hB : w.heap[B]? = some (.cells us e (0, 0))) (hlen : l.length + 1 ≤ 1000000000) :
    ∃ g cap w', (Builtin.append_ #[t, t] ty #[.slice sa l.length l.length, .slice (some ⟨B, 0, none⟩) 1 1]).run P w = .ok (.slice (some ⟨g, 0, none⟩) (l.length + 1) cap) w' ∧ RowsAt w' (some ⟨g, 0, none⟩) m enc (l ++ [r]) ∧ Below w.heap.size w w' ∧ l.length + 1 ≤ cap := by
  obtain ⟨i0, hi0, hz0, hz1', hz2⟩ := info_parts hi
  have hb : (l.length + 1) * bytes ≤ 140737488355328 := by
    have : (l.length + 1) * bytes ≤ 1000000000 * 640 := Nat.mul_le_mul hlen hby
    omega
  have key : ∃ v' w', (Builtin.append_ #[t, t] ty #[.slice sa l.length l.length, .slice (some ⟨B, 0, none⟩) 1 1]).run P w = .ok v' w' ∧ w'.ownsRow w.heap.size e m v' (l.length + 1) (l.flatMap enc ++ us.toList) ∧ w.grownBy w' none := by
    cases sa with
    | none =>
      have hl : l = [] := by
        rcases hrow.out with h | ⟨b, o, h, _⟩
        · exact h
        · cases h
      subst hl
      obtain ⟨v', w', hrun, r1, r2, _⟩ := run_append_own (P := P) w w.heap.size t ty e i0 z m bytes ht hi0 hz0 hz1' hz2 hz1 hm0 (.slice none 0 0) 0 [] (World.ownsRow_nil w _ e m) ⟨B, 0, none⟩ 1 1 us.toList (by rw [hus, he, Nat.one_mul]) (World.news_of_block hB) (by rw [hus]; exact h1 r) (by unfold maxLen; omega) (by simpa using hb) (Nat.le_refl _)
      exact ⟨v', w', hrun, by simpa using r1, by simpa [Value.ownBlock] using r2⟩
    | some ad =>
      have holds : ∀ j u, (l.flatMap enc)[j]? = some u → w.cell? (ad.add j) = some u := by
        rcases hrow.out with h | ⟨b, o, h, _⟩
        · subst h; intro j u hu; simp at hu
        · cases h; exact rows_olds hrow he
      obtain ⟨v', w', hrun, r1, r2⟩ := run_append_arg_grows (P := P) w t ty e i0 z m bytes ht hi0 hz0 hz1' hz2 hz1 hm0 ad l.length l.length (l.flatMap enc) (by
        clear holds hrow hb hlen
        induction l with
        | nil => simp
        | cons x l ih => rw [List.flatMap_cons, List.length_append, ih, he, List.length_cons, Nat.succ_mul]; omega) holds ⟨B, 0, none⟩ 1 1 us.toList (by rw [hus, he, Nat.one_mul]) (World.news_of_block hB) (by omega) (by unfold maxLen; omega) hb
      exact ⟨v', w', hrun, r1, r2⟩
  obtain ⟨v', w', hrun, hown, hgr⟩ := key
  have e2 : l.flatMap enc ++ us.toList = (l ++ [r]).flatMap enc := by rw [hus, List.flatMap_append]; simp
  rw [e2, show l.length + 1 = (l ++ [r]).length by simp] at hown
  obtain ⟨A, c, rfl, hr2, hc, _⟩ := own_rowsN hown he
  obtain ⟨g, cap, e3, -, -⟩ := hown.form (by simp)
  cases e3
  refine ⟨g, c, w', by simpa using hrun, hr2, ⟨hgr.os, hgr.tape, hgr.output, hgr.size, fun k hk => hgr.block k hk (by simp)⟩, by simpa using hc⟩

theorem step_append_full {P : Program} {ops : Array Oper} {o : Oper} {a : Act} {K : Act → World → Prop} {Q : Exit → Act → World → Prop} {E : Prop} (hgd : o.guard = none) (s x : Operand) (t : TypeId)
    (ho : o.op = .call { callee := .builtin .append, args := #[s, x], argTypes := #[t, t] }) (w : World) (e : TypeId) (ht : P.underlying t = some (.slice e)) (z : Value) (m bytes : Nat) (hi : (P.info? e).map (fun i => (i.zero, i.size, i.bytes)) = some (some z, m, bytes)) (hz1 : z.cells.size = m) (hm0 : 0 < m) (hby : bytes ≤ 640)
    {ρ : Type} (enc : ρ → List Value) (l : List ρ) (sa : Option Addr) (hs : a.eval s = .slice sa l.length l.length) (B : Nat) (hx : a.eval x = .slice (some ⟨B, 0, none⟩) 1 1) (he : ∀ r, (enc r).length = m) (h1 : ∀ r, ∀ u ∈ enc r, u.oneCell' = true) (r : ρ) (us : Array Value) (hus : us.toList = enc r) (hlen : l.length + 1 ≤ 1000000000)
    (hrow : RowsAt w sa m enc l) (hB : w.heap[B]? = some (.cells us e (0, 0)))
    (h : ∀ g cap w', RowsAt w' (some ⟨g, 0, none⟩) m enc (l ++ [r]) → Below w.heap.size w w' → l.length + 1 ≤ cap → K (a.put o.dst (.slice (some ⟨g, 0, none⟩) (l.length + 1) cap)) w') :
    if Region.wanted o (yielded ops a.tmps) = true then Oper.wp P o a w K Q else E := by
  have hw : Region.wanted o (yielded ops a.tmps) = true := by simp [Region.wanted, hgd]
  rw [if_pos hw]
  obtain ⟨g, cap, w', hrun, h2, h3, h4⟩ := run_append_full (P := P) w t o.type e ht z m bytes hi hz1 hm0 hby enc l sa hrow he h1 r B us hus hB hlen
  unfold Oper.wp execOp
  simp only [ho, resolve, invoke, builtin, Sem.run_bind, Sem.run_pure, Result.andThen_ok, List.map_toArray, List.map_cons, List.map_nil, hs, hx, hrun]
  exact h g cap w' h2 h3 h4
theorem wp_append_full {P : Program} {ops : Array Oper} {rest : List Oper} {o : Oper} {a : Act} {Q : Exit → Act → World → Prop} (hgd : o.guard = none) (s x : Operand) (t : TypeId)
    (ho : o.op = .call { callee := .builtin .append, args := #[s, x], argTypes := #[t, t] }) (w : World) (e : TypeId) (ht : P.underlying t = some (.slice e)) (z : Value) (m bytes : Nat) (hi : (P.info? e).map (fun i => (i.zero, i.size, i.bytes)) = some (some z, m, bytes)) (hz1 : z.cells.size = m) (hm0 : 0 < m) (hby : bytes ≤ 640)
    {ρ : Type} (enc : ρ → List Value) (l : List ρ) (sa : Option Addr) (hs : a.eval s = .slice sa l.length l.length) (B : Nat) (hx : a.eval x = .slice (some ⟨B, 0, none⟩) 1 1) (he : ∀ r, (enc r).length = m) (h1 : ∀ r, ∀ u ∈ enc r, u.oneCell' = true) (r : ρ) (us : Array Value) (hus : us.toList = enc r) (hlen : l.length + 1 ≤ 1000000000)
    (hrow : RowsAt w sa m enc l) (hB : w.heap[B]? = some (.cells us e (0, 0)))
    (h : ∀ g cap w', RowsAt w' (some ⟨g, 0, none⟩) m enc (l ++ [r]) → Below w.heap.size w w' → l.length + 1 ≤ cap → wpList P ops Q rest (a.put o.dst (.slice (some ⟨g, 0, none⟩) (l.length + 1) cap)) w') :
    wpList P ops Q (o :: rest) a w := by
  refine wpList_plain hgd fun K hK => ?_
  obtain ⟨g, cap, w', hrun, h2, h3, h4⟩ := run_append_full (P := P) w t o.type e ht z m bytes hi hz1 hm0 hby enc l sa hrow he h1 r B us hus hB hlen
  unfold Oper.wp execOp
  simp only [ho, resolve, invoke, builtin, Sem.run_bind, Sem.run_pure, Result.andThen_ok, List.map_toArray, List.map_cons, List.map_nil, hs, hx, hrun]
  exact hK _ _ (h g cap w' h2 h3 h4)
theorem step_store_row {P : Program} {ops : Array Oper} {o : Oper} {a : Act} {w : World} {K : Act → World → Prop} {Q : Exit → Act → World → Prop} {E : Prop} (hgd : o.guard = none) (ty : TypeId) (x y : Operand) (ho : o.op = .store ty x y)
    (g : Nat) (cells : Array Value) (hx : a.eval x = .pointer (some ⟨g, 0, none⟩)) (hy : a.eval y = .agg cells) (t : TypeId) (old : Array Value) (hg : w.heap[g]? = some (.cells old t (0, 0))) (hi : (P.info? ty).map (·.size) = some cells.size)
    (hold : old.size = cells.size) (h1 : cells.all (·.oneCell') = true) (h : K (a.put o.dst undef) (w.setRow g cells)) :
    if Region.wanted o (yielded ops a.tmps) = true then Oper.wp P o a w K Q else E := by
  have hw : Region.wanted o (yielded ops a.tmps) = true := by simp [Region.wanted, hgd]
  rw [if_pos hw]
  exact wp_store_row ty x y ho g cells hx hy t old hg hi hold h1 h
end Go.Proofs.Ythhgijjdddcchaa
