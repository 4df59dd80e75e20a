/-
  A tower appended to a list's arena; what a new key's Put keeps.
-/
import Derived.Test.YtacgpflheokkaaaSkpPut
import Derived.Deep.AppendLies
namespace Go.Proofs.Ytacgpflheokkaaa
open Go.RowKit
set_option linter.unusedVariables false
set_option linter.unusedSimpArgs false

theorem info_tow : (Try.prog.info? 57).map (fun i => (i.zero, i.size, i.bytes)) = some (some (.agg #[.string ByteArray.empty, .string ByteArray.empty, .slice none 0 0]), 3, 56) := by kernel_rfl
theorem sk_min2 {P : Program} (ts : Array TypeId) (t : TypeId) (a b : Int) (w : World) : (Builtin.min_ ts t #[.int .i64 a, .int .i64 b]).run P w = .ok (.int .i64 (min a b)) w := by
  by_cases h : a < b
  · simp [Builtin.min_, Builtin.min2, h]; omega
  · simp [Builtin.min_, Builtin.min2, h]; omega
theorem sk_max2 {P : Program} (ts : Array TypeId) (t : TypeId) (a b : Int) (w : World) : (Builtin.max_ ts t #[.int .i64 a, .int .i64 b]).run P w = .ok (.int .i64 (max a b)) w := by
  by_cases h : b < a
  · simp [Builtin.max_, Builtin.max2, h]; omega
  · simp [Builtin.max_, Builtin.max2, h]; omega
section
variable {w w' : World} {b : Nat} {sa : Option Addr} {cap : Nat} {T : List TowM} {bt st : Int}
theorem SkM.of_foot (h : SkM w b sa cap T bt st) (hs : ∀ k, footS b sa T k → w'.heap[k]? = w.heap[k]?) : SkM w' b sa cap T bt st := by
  refine ⟨(hs b (.inl rfl)).trans h.own, ?_, fun r hr => (hs _ (.inr (.inr ⟨r, hr, rfl⟩))).trans (h.nx r hr), h.inj, h.len⟩
  obtain ⟨hl, hx | ⟨g, c, cur, hv, hb, hc, hr⟩⟩ := h.row
  · exact ⟨hl, .inl hx⟩
  · exact ⟨hl, .inr ⟨g, c, cur, hv, hb, (hs g (.inr (.inl ⟨0, by cases hv; rfl⟩))).trans hc, hr⟩⟩
theorem ChgQ.setNew {q : Nat → Prop} {A B : World} (h : ChgQ q A B) (g i : Nat) (v : Value) (hg : A.heap.size ≤ g) : ChgQ q A (B.setCell ⟨g, i, none⟩ v) :=
  ⟨h.os, h.tape, h.output, by have := h.size; simpa [World.setCell] using this, fun k hk hq => (heap_setCell_other _ _ _ _ (by simp; omega)).trans (h.block k hk hq)⟩
theorem foot_setN (b : Nat) (sa : Option Addr) (T : List TowM) (i j : Nat) (v : Int) (k : Nat) : footS b sa (setN T i j v) k ↔ footS b sa T k := by
  unfold footS
  have : (∃ r ∈ setN T i j v, r.nb = k) ↔ ∃ r ∈ T, r.nb = k := by
    have h := setN_nb T i j v
    constructor
    · rintro ⟨r, hr, rfl⟩
      have : r.nb ∈ (setN T i j v).map (·.nb) := List.mem_map.2 ⟨r, hr, rfl⟩
      rw [h] at this
      obtain ⟨r', h1, h2⟩ := List.mem_map.1 this
      exact ⟨r', h1, h2⟩
    · rintro ⟨r, hr, rfl⟩
      have : r.nb ∈ T.map (·.nb) := List.mem_map.2 ⟨r, hr, rfl⟩
      rw [← h] at this
      obtain ⟨r', h1, h2⟩ := List.mem_map.1 this
      exact ⟨r', h1, h2⟩
  rw [this]
theorem foot_link (b : Nat) (sa : Option Addr) (T : List TowM) (q : List Nat) (key : ByteArray) (k : Nat) : ∀ n, footS b sa (linkT T q key n) k ↔ footS b sa T k
  | 0 => Iff.rfl
  | n + 1 => by rw [link_setN, foot_setN]; exact foot_link b sa T q key k n
end
/-- the arena has grown, the list does not know it yet -/
structure SkA (w w' : World) (b : Nat) (sa : Option Addr) (cap : Nat) (T : List TowM) (bt st : Int) (r : TowM) (g cap' : Nat) : Prop where
  own : w'.heap[b]? = some (.cells (listC sa T.length cap bt st) 60 (0, 0))
  row : w'.ownsRow 0 57 3 (.slice (some ⟨g, 0, none⟩) (T.length + 1) cap') (T.length + 1) ((T ++ [r]).flatMap TowM.row)
  keep : ∀ j o, w.heap[j]? = some o → (∀ o', sa ≠ some ⟨j, o', none⟩) → w'.heap[j]? = some o
  lies : sa = some ⟨g, 0, none⟩ ∨ w.heap.size ≤ g
  os : w'.os = w.os
  tape : w'.tape = w.tape
  output : w'.output = w.output
  size : w.heap.size ≤ w'.heap.size
theorem step_append_tow {P : Program} {ops : Array Oper} {o : Oper} {a : Act} {K : Act → World → Prop} {Q : Exit → Act → World → Prop} {E : Prop} (hgd : o.guard = none) (s x : Operand) (t : TypeId)
    (ho : o.op = .call { callee := .builtin .append, args := #[s, x], argTypes := #[t, t] }) (ht : P.underlying t = some (.slice 57)) (hi : (P.info? 57).map (fun i => (i.zero, i.size, i.bytes)) = some (some (.agg #[.string ByteArray.empty, .string ByteArray.empty, .slice none 0 0]), 3, 56))
    (w : World) (b : Nat) (sa : Option Addr) (cap : Nat) (T : List TowM) (bt st : Int) (hM : SkM w b sa cap T bt st) (hs : a.eval s = .slice sa T.length cap) (r : TowM) (hgt : Nat) (hhl : r.nx.length = hgt) (B : Nat) (hx : a.eval x = .slice (some ⟨B, 0, none⟩) 1 1)
    (hB : w.heap[B]? = some (.cells #[.string r.key, .string r.value, .slice (some ⟨r.nb, 0, none⟩) hgt hgt] 57 (0, 0)))
    (h : ∀ g cap' w', SkA w w' b sa cap T bt st r g cap' → K (a.put o.dst (.slice (some ⟨g, 0, none⟩) (T.length + 1) cap')) w') :
    if Region.wanted o (yielded ops a.tmps) = true then Oper.wp P o a w K Q else E := by
  subst hhl
  obtain ⟨i0, hi0, hz0, hz1', hz2⟩ := info_parts hi
  have hlen := hM.len
  refine step_append_lies w hgd s x t ho 0 57 i0 _ 3 56 ht hi0 hz0 hz1' hz2 rfl (by decide) (.slice sa T.length cap) T.length (T.flatMap TowM.row) hs hM.row ⟨B, 0, none⟩ 1 1 [.string r.key, .string r.value, .slice (some ⟨r.nb, 0, none⟩) r.nx.length r.nx.length] hx rfl (World.news_of_block hB) (by simp [Value.oneCell']) (by omega) (by unfold maxLen; omega) ?_ (Nat.zero_le _) w.heap.size rfl ?_
  · omega
  · intro g cap' w' hown' hgrow hat hlt
    have hk : ∀ (j : Nat) (o : Obj), w.heap[j]? = some o → some j ≠ (Value.slice sa T.length cap).ownBlock → w'.heap[j]? = some o := fun j o hj hne => (hgrow.block j (Array.getElem?_eq_some_iff.1 hj).1 hne).trans hj
    refine h g cap' w' ⟨hk _ _ hM.own fun e => ?_, ?_, fun j o hj hne => hk j o hj fun e => ?_, ?_, hgrow.os, hgrow.tape, hgrow.output, hgrow.size⟩
    · cases hsa : sa with
      | none => rw [hsa] at e; cases e
      | some ad =>
        rw [hsa] at e
        obtain ⟨_, ⟨h1, _⟩ | ⟨g2, c, cur, h1, _, h2, _⟩⟩ := hM.row
        · rw [hsa] at h1; cases h1
        · rw [hsa] at h1
          cases h1
          exact hM.ne_row hsa (by simpa [Value.ownBlock] using e.symm)
    · have e2 : (T ++ [r]).flatMap TowM.row = T.flatMap TowM.row ++ [.string r.key, .string r.value, .slice (some ⟨r.nb, 0, none⟩) r.nx.length r.nx.length] := by rw [List.flatMap_append]; rfl
      rw [e2]; exact hown'
    · obtain ⟨_, ⟨h1, _⟩ | ⟨g2, c, cur, h1, _, h2, _⟩⟩ := hM.row
      · simp only [Value.slice.injEq] at h1; rw [h1.1] at e; cases e
      · simp only [Value.slice.injEq] at h1
        have hsa := h1.1
        subst hsa
        have : j = g2 := by simpa [Value.ownBlock] using e
        exact hne 0 (by rw [this])
    · rcases hat with h1 | h1
      · left
        obtain ⟨_, ⟨h3, _⟩ | ⟨g2, c, cur, h3, _, h2, _⟩⟩ := hM.row
        · simp only [Value.slice.injEq] at h3; rw [h3.1] at h1; cases h1
        · simp only [Value.slice.injEq] at h3
          have hsa := h3.1
          subst hsa
          have : g2 = g := by simpa [Value.ownBlock] using h1
          rw [this]
      · exact .inr (by omega)
theorem SkA.chg {w w' : World} {b : Nat} {sa : Option Addr} {cap : Nat} {T : List TowM} {bt st : Int} {r : TowM} {g cap' : Nat} (h : SkA w w' b sa cap T bt st r g cap') : ChgQ (footS b sa T) w w' :=
  ⟨h.os, h.tape, h.output, h.size, fun k hk hq => by
    rw [Array.getElem?_eq_getElem hk]
    exact h.keep k _ (Array.getElem?_eq_getElem hk) fun o' e => hq (.inr (.inl ⟨o', e⟩))⟩
theorem SkA.done {w w' : World} {b : Nat} {sa : Option Addr} {cap : Nat} {T : List TowM} {bt st : Int} {r : TowM} {g cap' : Nat} (h : SkA w w' b sa cap T bt st r g cap') (hM : SkM w b sa cap T bt st) (hr : w.heap[r.nb]? = some (.cells (intsO r.nx) 3 (0, 0))) (hn : ∀ s ∈ T, s.nb ≠ r.nb) (hl : T.length ≤ 60000) :
    SkM (w'.setCell ⟨b, 0, none⟩ (.slice (some ⟨g, 0, none⟩) (T.length + 1) cap')) b (some ⟨g, 0, none⟩) cap' (T ++ [r]) bt st := by
  have hint : ∀ s : TowM, w.heap[s.nb]? = some (.cells (intsO s.nx) 3 (0, 0)) → (w'.setCell ⟨b, 0, none⟩ (.slice (some ⟨g, 0, none⟩) (T.length + 1) cap')).heap[s.nb]? = some (.cells (intsO s.nx) 3 (0, 0)) := fun s hs => by
    refine (heap_setCell_other _ _ _ _ (fun e => ?_)).trans (h.keep _ _ hs fun o' e => ?_)
    · have e' : s.nb = b := e
      rw [e', hM.own] at hs
      simp only [Option.some.injEq, Obj.cells.injEq] at hs
      exact absurd hs.2.1 (by decide)
    · obtain ⟨_, ⟨h1, _⟩ | ⟨g2, c, cur, h1, _, h2, _⟩⟩ := hM.row
      · rw [e] at h1; cases h1
      · rw [e] at h1; cases h1
        rw [h2] at hs
        simp only [Option.some.injEq, Obj.cells.injEq] at hs
        exact absurd hs.2.1 (by decide)
  refine ⟨by rw [heap_setCell_same _ _ 0 _ _ _ h.own]; simp, ?_, fun s hs => ?_, ?_, by simp; omega⟩
  · rw [List.length_append, List.length_singleton]
    obtain ⟨hx, hy | ⟨g2, c, cur, hv, hb, hc, hrr⟩⟩ := h.row
    · cases hy.1
    · refine ⟨hx, .inr ⟨g2, c, cur, hv, hb, (heap_setCell_other _ _ _ _ (fun e => ?_)).trans hc, hrr⟩⟩
      have e' : g2 = b := e
      rw [e', h.own] at hc
      simp only [Option.some.injEq, Obj.cells.injEq] at hc
      exact absurd hc.2.1 (by decide)
  · rcases List.mem_append.1 hs with hs | hs
    · exact hint s (hM.nx s hs)
    · simp only [List.mem_singleton] at hs; subst hs; exact hint _ hr
  · rw [List.map_append, List.map_singleton]
    refine List.nodup_append.2 ⟨hM.inj, by simp, fun x hx y hy => ?_⟩
    obtain ⟨s, hs, rfl⟩ := List.mem_map.1 hx
    simp only [List.mem_singleton] at hy
    subst hy
    exact hn s hs
end Go.Proofs.Ytacgpflheokkaaa
