/-
  A skip list in memory.
-/
import Derived.Test.YtacgpflheokkaaaSkpPl
import Derived.Test.YtacgpflheokkaaaRow
import Derived.Test.YtacgpflheokkaaaResRow
namespace Go.Proofs.Ytacgpflheokkaaa
open Go.RowKit
set_option linter.unusedVariables false
set_option linter.unusedSimpArgs false

def intsO (l : List Int) : Array Value := (l.map fun n => Value.int .i64 n).toArray
theorem intsO_get (l : List Int) (i : Nat) : (intsO l)[i]? = (l[i]?).map fun n => Value.int .i64 n := by simp [intsO]
abbrev listC (sa : Option Addr) (n cap : Nat) (bt st : Int) : Array Value := #[.slice sa n cap, .int .i64 bt, .int .i64 st]
structure SkM (w : World) (b : Nat) (sa : Option Addr) (cap : Nat) (T : List TowM) (bt st : Int) : Prop where
  own : w.heap[b]? = some (.cells (listC sa T.length cap bt st) 60 (0, 0))
  row : w.ownsRow 0 57 3 (.slice sa T.length cap) T.length (T.flatMap TowM.row)
  nx : ∀ r ∈ T, w.heap[r.nb]? = some (.cells (intsO r.nx) 3 (0, 0))
  inj : (T.map (·.nb)).Nodup
  len : T.length ≤ 70000
theorem towRow_len (r : TowM) : r.row.length = 3 := rfl
section
variable {w w' : World} {b : Nat} {sa : Option Addr} {cap : Nat} {T : List TowM} {bt st : Int}
theorem SkM.rows (h : SkM w b sa cap T bt st) : RowsAt w sa 3 TowM.row T := by
  obtain ⟨a, c, e, hr, _⟩ := own_rowsN h.row towRow_len
  cases e; exact hr
theorem SkM.tow (h : SkM w b sa cap T bt st) (i : Nat) (hi : i < T.length) : ∃ B o, sa = some ⟨B, o, none⟩ ∧ w.cell? ⟨B, o + i * 3, none⟩ = some (.string T[i].key) ∧ w.cell? ⟨B, o + i * 3 + 1, none⟩ = some (.string T[i].value) ∧ w.cell? ⟨B, o + i * 3 + 2, none⟩ = some (.slice (some ⟨T[i].nb, 0, none⟩) T[i].nx.length T[i].nx.length) := by
  obtain ⟨B, o, e, hc⟩ := h.rows.at_ i hi
  exact ⟨B, o, e, hc 0 _ rfl, hc 1 _ rfl, hc 2 _ rfl⟩
theorem SkM.next (h : SkM w b sa cap T bt st) (i : Nat) (hi : i < T.length) (j : Nat) (hj : j < T[i].nx.length) : w.cell? ⟨T[i].nb, j, none⟩ = some (.int .i64 T[i].nx[j]) := by
  rw [cell_of_row _ _ _ _ _ _ (h.nx _ (List.getElem_mem hi)), intsO_get, List.getElem?_eq_getElem hj]; rfl
theorem SkM.cells (h : SkM w b sa cap T bt st) : w.cell? ⟨b, 0, none⟩ = some (.slice sa T.length cap) ∧ w.cell? ⟨b, 1, none⟩ = some (.int .i64 bt) ∧ w.cell? ⟨b, 2, none⟩ = some (.int .i64 st) := by
  refine ⟨?_, ?_, ?_⟩ <;> (rw [cell_of_row _ _ _ _ _ _ h.own]; rfl)
/-- all of the list's blocks stand -/
theorem SkM.same (h : SkM w b sa cap T bt st) (hs : ∀ k o, w.heap[k]? = some o → k ≠ b → w'.heap[k]? = some o) {st' : Int} (ho : w'.heap[b]? = some (.cells (listC sa T.length cap bt st') 60 (0, 0))) : SkM w' b sa cap T bt st' := by
  refine ⟨ho, ?_, fun r hr => hs _ _ (h.nx r hr) (fun e => ?_), h.inj, h.len⟩
  · obtain ⟨hl, hx | ⟨g, c, cur, hv, hb, hc, hr⟩⟩ := h.row
    · exact ⟨hl, .inl hx⟩
    · exact ⟨hl, .inr ⟨g, c, cur, hv, hb, hs _ _ hc (fun e => by subst e; rw [h.own] at hc; cases hc), hr⟩⟩
  · have := h.nx r hr
    rw [e, h.own] at this
    simp only [Option.some.injEq, Obj.cells.injEq] at this
    exact absurd this.2.1 (by decide)
theorem SkM.moved (h : SkM w b sa cap T bt st) (hB : Below w.heap.size w w') : SkM w' b sa cap T bt st :=
  h.same (fun k o hk _ => (hB.block _ (heap_lt hk)).trans hk) ((hB.block _ (heap_lt h.own)).trans h.own)
theorem SkM.key (h : SkM w b sa cap T bt st) (i : Nat) (hi : i < T.length) : keyAt T i = T[i].key ∧ hAt T i = T[i].nx.length ∧ ∀ j (hj : j < T[i].nx.length), nxAt T i j = T[i].nx[j] := by
  refine ⟨by simp [keyAt, hi], by simp [hAt, hi], fun j hj => ?_⟩
  simp [nxAt, hi, hj]
theorem SkM.ne_row (h : SkM w b sa cap T bt st) {B o : Nat} (e : sa = some ⟨B, o, none⟩) : B ≠ b := fun e' => by
  obtain ⟨_, ⟨h1, _⟩ | ⟨g, c, cur, h1, _, h2, _⟩⟩ := h.row
  · subst e; cases h1
  · subst e; cases h1
    rw [e', h.own] at h2
    simp only [Option.some.injEq, Obj.cells.injEq] at h2
    exact absurd h2.2.1 (by decide)
theorem SkM.ne_nx (h : SkM w b sa cap T bt st) {r : TowM} (hr : r ∈ T) : r.nb ≠ b := fun e' => by
  have h2 := h.nx r hr
  rw [e', h.own] at h2
  simp only [Option.some.injEq, Obj.cells.injEq] at h2
  exact absurd h2.2.1 (by decide)
theorem SkM.next_facts (h : SkM w b sa cap T bt st) {q pre suf : List Nat} (hL : Lay T q) (e : q = pre ++ suf) {m : Nat} (hm : m < hAt T (endOf pre)) : ∃ (B o nb ht : Nat), sa = some ⟨B, o, none⟩ ∧ (endOf pre : Int) < (T.length : Int) ∧ (m : Int) < (ht : Int) ∧
    w.cell? ⟨B, o + endOf pre * 3 + 2, none⟩ = some (.slice (some ⟨nb, 0, none⟩) ht ht) ∧ w.cell? ⟨nb, m, none⟩ = some (.int .i64 (nxt T suf m)) ∧ B ≠ b ∧ nb ≠ b := by
  have hat := endOf_lt hL e
  obtain ⟨k1, k2, k3⟩ := h.key (endOf pre) hat
  obtain ⟨B, o, e', -, -, c2⟩ := h.tow (endOf pre) hat
  have hm' := hm
  rw [k2] at hm'
  have c3 := h.next (endOf pre) hat m hm'
  rw [← k3 m hm', hL.nx pre suf e m hm] at c3
  exact ⟨B, o, _, _, e', by omega, by omega, c2, c3, h.ne_row e', h.ne_nx (List.getElem_mem hat)⟩
theorem SkM.key_facts (h : SkM w b sa cap T bt st) {B o : Nat} (e : sa = some ⟨B, o, none⟩) {x : Nat} (hx : x < T.length) : w.cell? ⟨B, o + x * 3, none⟩ = some (.string (keyAt T x)) := by
  obtain ⟨B', o', e', c0, -, -⟩ := h.tow x hx
  rw [e] at e'; cases e'
  rw [(h.key x hx).1]; exact c0
end
end Go.Proofs.Ytacgpflheokkaaa
