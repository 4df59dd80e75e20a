/-
  'append(l, x, y, ..)' behind a row that has no room.
-/
import Derived.Test.YtafdjgmdkbimoaaDoorAppFull
namespace Go.Proofs.YtafdjgmdkbimoaaDoor
open Go.RowKit
set_option linter.unusedVariables false
set_option linter.unusedSimpArgs false

theorem flat_len {ρ : Type} {enc : ρ → List Value} {m : Nat} (he : ∀ r, (enc r).length = m) : ∀ l : List ρ, (l.flatMap enc).length = l.length * m
  | [] => by simp
  | x :: l => by rw [List.flatMap_cons, List.length_append, flat_len he l, he, List.length_cons, Nat.succ_mul]; omega
theorem run_append_fullN {P : Program} (w : World) (t ty e : TypeId) (ht : P.underlying t = some (.slice e)) (z : Value) (m bytes : Nat) (hi : (P.info? e).map (fun i => (i.zero, i.size, i.bytes)) = some (some z, m, bytes)) (hz1 : z.cells.size = m) (hm0 : 0 < m) (hby : bytes ≤ 640)
    {ρ : Type} (enc : ρ → List Value) (l : List ρ) (b o : Nat) (hrow : RowsAt w (some ⟨b, o, none⟩) m enc l) (he : ∀ r, (enc r).length = m) (h1 : ∀ r, ∀ u ∈ enc r, u.oneCell' = true) (rs : List ρ) (hrs : 0 < rs.length) (B : Nat) (us : Array Value) (hus : us.toList = rs.flatMap enc) (hB : w.heap[B]? = some (.cells us e (0, 0))) (hlen : l.length + rs.length ≤ 1000000000) :
    ∃ g cap w', (Builtin.append_ #[t, t] ty #[.slice (some ⟨b, o, none⟩) l.length l.length, .slice (some ⟨B, 0, none⟩) rs.length rs.length]).run P w = .ok (.slice (some ⟨g, 0, none⟩) (l.length + rs.length) cap) w' ∧ RowsAt w' (some ⟨g, 0, none⟩) m enc (l ++ rs) ∧ Below w.heap.size w w' ∧ l.length + rs.length ≤ cap := by
  obtain ⟨i0, hi0, hz0, hz1', hz2⟩ := info_parts hi
  have hb : (l.length + rs.length) * bytes ≤ 140737488355328 := by
    have : (l.length + rs.length) * bytes ≤ 1000000000 * 640 := Nat.mul_le_mul hlen hby
    omega
  obtain ⟨v', w', hrun, r1, r2⟩ := run_append_arg_grows (P := P) w t ty e i0 z m bytes ht hi0 hz0 hz1' hz2 hz1 hm0 ⟨b, o, none⟩ l.length l.length (l.flatMap enc) (flat_len he l) (rows_olds hrow he) ⟨B, 0, none⟩ rs.length rs.length us.toList (by rw [hus]; exact flat_len he rs) (World.news_of_block hB) (by omega) (by unfold maxLen; omega) hb
  have e2 : l.flatMap enc ++ us.toList = (l ++ rs).flatMap enc := by rw [hus, List.flatMap_append]
  rw [e2, show l.length + rs.length = (l ++ rs).length by simp] at r1
  obtain ⟨A, c, rfl, hr2, hc, _⟩ := own_rowsN r1 he
  obtain ⟨g, cap, e3, -, -⟩ := r1.form (by simp; omega)
  cases e3
  refine ⟨g, c, w', by simpa using hrun, hr2, ⟨r2.os, r2.tape, r2.output, r2.size, fun k hk => r2.block k hk (by simp)⟩, by simpa using hc⟩
theorem wp_append_fullN {P : Program} {ops : Array Oper} {rest : List Oper} {o : Oper} {a : Act} {Q : Exit → Act → World → Prop} (hgd : o.guard = none) (s x : Operand) (t : TypeId)
    (ho : o.op = .call { callee := .builtin .append, args := #[s, x], argTypes := #[t, t] }) (w : World) (e : TypeId) (ht : P.underlying t = some (.slice e)) (z : Value) (m bytes : Nat) (hi : (P.info? e).map (fun i => (i.zero, i.size, i.bytes)) = some (some z, m, bytes)) (hz1 : z.cells.size = m) (hm0 : 0 < m) (hby : bytes ≤ 640)
    {ρ : Type} (enc : ρ → List Value) (l : List ρ) (b o' : Nat) (hs : a.eval s = .slice (some ⟨b, o', none⟩) l.length l.length) (rs : List ρ) (hrs : 0 < rs.length) (B : Nat) (hx : a.eval x = .slice (some ⟨B, 0, none⟩) rs.length rs.length) (he : ∀ r, (enc r).length = m) (h1 : ∀ r, ∀ u ∈ enc r, u.oneCell' = true) (us : Array Value) (hus : us.toList = rs.flatMap enc) (hlen : l.length + rs.length ≤ 1000000000)
    (hrow : RowsAt w (some ⟨b, o', none⟩) m enc l) (hB : w.heap[B]? = some (.cells us e (0, 0)))
    (h : ∀ g cap w', RowsAt w' (some ⟨g, 0, none⟩) m enc (l ++ rs) → Below w.heap.size w w' → wpList P ops Q rest (a.put o.dst (.slice (some ⟨g, 0, none⟩) (l.length + rs.length) cap)) w') :
    wpList P ops Q (o :: rest) a w := by
  refine wpList_plain hgd fun K hK => ?_
  obtain ⟨g, cap, w', hrun, h2, h3, h4⟩ := run_append_fullN (P := P) w t o.type e ht z m bytes hi hz1 hm0 hby enc l b o' hrow he h1 rs hrs B us hus hB hlen
  unfold Oper.wp execOp
  simp only [ho, resolve, invoke, builtin, Sem.run_bind, Sem.run_pure, Result.andThen_ok, List.map_toArray, List.map_cons, List.map_nil, hs, hx, hrun]
  exact hK _ _ (h g cap w' h2 h3)
end Go.Proofs.YtafdjgmdkbimoaaDoor
