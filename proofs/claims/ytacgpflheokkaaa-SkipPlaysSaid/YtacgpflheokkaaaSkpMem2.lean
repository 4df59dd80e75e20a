/-
  What turns in a list's memory: a value, a next tower, the bytes.
-/
import Derived.Test.YtacgpflheokkaaaSkpLink
namespace Go.Proofs.Ytacgpflheokkaaa
open Go.RowKit
set_option linter.unusedVariables false
set_option linter.unusedSimpArgs false

def setV (T : List TowM) (x : Nat) (v : ByteArray) : List TowM := T.modify x fun r => { r with value := v }
def setN (T : List TowM) (i j : Nat) (v : Int) : List TowM := T.modify i fun r => { r with nx := r.nx.set j v }
theorem link_setN (T : List TowM) (q : List Nat) (key : ByteArray) (k : Nat) : linkT T q key (k + 1) = setN (linkT T q key k) (aheadI T q key k) k (T.length : Int) := rfl
theorem setV_len (T : List TowM) (x : Nat) (v : ByteArray) : (setV T x v).length = T.length := by simp [setV]
theorem setN_len (T : List TowM) (i j : Nat) (v : Int) : (setN T i j v).length = T.length := by simp [setN]
theorem setN_rows (T : List TowM) (i j : Nat) (v : Int) : (setN T i j v).flatMap TowM.row = T.flatMap TowM.row := by
  unfold setN
  induction T generalizing i with
  | nil => simp
  | cons r T ih =>
    cases i with
    | zero => simp [TowM.row]
    | succ i => simp [ih]
theorem setN_nb (T : List TowM) (i j : Nat) (v : Int) : (setN T i j v).map (·.nb) = T.map (·.nb) := by
  unfold setN
  induction T generalizing i with
  | nil => simp
  | cons r T ih =>
    cases i with
    | zero => simp
    | succ i => simp [ih]
theorem setV_nb (T : List TowM) (x : Nat) (v : ByteArray) : (setV T x v).map (·.nb) = T.map (·.nb) := by
  unfold setV
  induction T generalizing x with
  | nil => simp
  | cons r T ih =>
    cases x with
    | zero => simp
    | succ i => simp [ih]
theorem setV_rows (v : ByteArray) : ∀ (T : List TowM) (x : Nat), x < T.length → (setV T x v).flatMap TowM.row = (T.flatMap TowM.row).set (x * 3 + 1) (.string v)
  | [], x, h => by simp at h
  | r :: T, 0, h => by simp [setV, TowM.row]
  | r :: T, x + 1, h => by
    have := setV_rows v T x (by simpa using h)
    unfold setV at this ⊢
    rw [List.modify_succ_cons, List.flatMap_cons, List.flatMap_cons, this]
    have e : (x + 1) * 3 + 1 = (x * 3 + 1) + 3 := by omega
    rw [e]
    simp [TowM.row]
section
variable {w w' : World} {b : Nat} {sa : Option Addr} {cap : Nat} {T : List TowM} {bt st : Int}
theorem SkM.nb_at (h : SkM w b sa cap T bt st) {i k : Nat} (hi : i < T.length) (hk : k < T.length) (e : T[i].nb = T[k].nb) : i = k := by
  have h1 := List.pairwise_iff_getElem.1 h.inj
  rcases Nat.lt_trichotomy i k with hlt | heq | hgt
  · exact absurd (by rw [List.getElem_map, List.getElem_map]; exact e) (h1 i k (by simpa using hi) (by simpa using hk) hlt)
  · exact heq
  · exact absurd (by rw [List.getElem_map, List.getElem_map]; exact e.symm) (h1 k i (by simpa using hk) (by simpa using hi) hgt)
theorem SkM.setNext (h : SkM w b sa cap T bt st) (i j : Nat) (hi : i < T.length) (v : Int) : SkM (w.setCell ⟨T[i].nb, j, none⟩ (.int .i64 v)) b sa cap (setN T i j v) bt st := by
  have hl := setN_len T i j v
  have hnb := h.ne_nx (List.getElem_mem hi)
  refine ⟨?_, ?_, ?_, by rw [setN_nb]; exact h.inj, by rw [hl]; exact h.len⟩
  · rw [hl, heap_setCell_other _ _ _ _ (fun e => hnb e.symm)]; exact h.own
  · rw [hl, setN_rows]
    obtain ⟨hx, hy | ⟨g, c, cur, hv, hb, hc, hr⟩⟩ := h.row
    · exact ⟨hx, .inl hy⟩
    · refine ⟨hx, .inr ⟨g, c, cur, hv, hb, ?_, hr⟩⟩
      rw [heap_setCell_other _ _ _ _ (fun e => by
        have h2 := h.nx T[i] (List.getElem_mem hi)
        have e' : g = T[i].nb := e
        rw [← e', hc] at h2
        simp only [Option.some.injEq, Obj.cells.injEq] at h2
        exact absurd h2.2.1 (by decide))]
      exact hc
  · intro r hr
    obtain ⟨k, hk, rfl⟩ := List.getElem_of_mem hr
    rw [hl] at hk
    have hg : (setN T i j v)[k]? = if i = k then some { T[k] with nx := T[k].nx.set j v } else some T[k] := by
      unfold setN; rw [List.getElem?_modify, List.getElem?_eq_getElem hk]
      by_cases e : i = k
      · simp [e]
      · simp [e]
    by_cases e : i = k
    · subst e
      rw [if_pos rfl, List.getElem?_eq_getElem (by rw [hl]; exact hk)] at hg
      simp only [Option.some.injEq] at hg
      rw [hg]
      show (w.setCell ⟨T[i].nb, j, none⟩ (.int .i64 v)).heap[T[i].nb]? = _
      rw [heap_setCell_same _ _ j _ _ _ (h.nx _ (List.getElem_mem hi))]
      simp [intsO]
    · rw [if_neg e, List.getElem?_eq_getElem (by rw [hl]; exact hk)] at hg
      simp only [Option.some.injEq] at hg
      rw [hg, heap_setCell_other _ _ _ _ (fun e2 => e (h.nb_at hi hk e2.symm))]
      exact h.nx _ (List.getElem_mem hk)
theorem SkM.setVal (h : SkM w b sa cap T bt st) {B o x : Nat} (e : sa = some ⟨B, o, none⟩) (hx : x < T.length) (v : ByteArray) : SkM (w.setCell ⟨B, o + x * 3 + 1, none⟩ (.string v)) b sa cap (setV T x v) bt st := by
  have hl := setV_len T x v
  have hBb := h.ne_row e
  have ho : o = 0 := by
    obtain ⟨_, ⟨h1, _⟩ | ⟨g, c, cur, h1, _, h2, _⟩⟩ := h.row
    · subst e; cases h1
    · subst e; cases h1; rfl
  subst ho
  subst e
  rw [Nat.zero_add]
  refine ⟨?_, ?_, ?_, by rw [setV_nb]; exact h.inj, by rw [hl]; exact h.len⟩
  · rw [hl, heap_setCell_other _ _ _ _ (fun e => hBb e.symm)]; exact h.own
  · rw [hl, setV_rows v T x hx]; exact (h.row.stored _ _).1
  · intro r hr
    obtain ⟨k, hk, rfl⟩ := List.getElem_of_mem hr
    rw [hl] at hk
    have hg : (setV T x v)[k]? = if x = k then some { T[k] with value := v } else some T[k] := by
      unfold setV; rw [List.getElem?_modify, List.getElem?_eq_getElem hk]
      by_cases e : x = k
      · simp [e]
      · simp [e]
    have hne : ∀ r ∈ T, r.nb ≠ B := fun r hr e' => by
      have h2 := h.nx r hr
      obtain ⟨_, ⟨h1, _⟩ | ⟨g, c, cur, h1, _, h3, _⟩⟩ := h.row
      · cases h1
      · cases h1
        rw [e', h3] at h2
        simp only [Option.some.injEq, Obj.cells.injEq] at h2
        exact absurd h2.2.1 (by decide)
    have hn : (setV T x v)[k].nb = T[k].nb ∧ (setV T x v)[k].nx = T[k].nx := by
      rw [List.getElem?_eq_getElem (by rw [hl]; exact hk)] at hg
      by_cases e : x = k
      · rw [if_pos e] at hg; simp only [Option.some.injEq] at hg; rw [hg]; exact ⟨rfl, rfl⟩
      · rw [if_neg e] at hg; simp only [Option.some.injEq] at hg; rw [hg]; exact ⟨rfl, rfl⟩
    rw [hn.1, hn.2, heap_setCell_other _ _ _ _ (hne _ (List.getElem_mem hk))]
    exact h.nx _ (List.getElem_mem hk)
theorem SkM.setBytes (h : SkM w b sa cap T bt st) (bt' : Int) : SkM (w.setCell ⟨b, 1, none⟩ (.int .i64 bt')) b sa cap T bt' st := by
  refine ⟨by rw [heap_setCell_same _ _ 1 _ _ _ h.own]; rfl, ?_, fun r hr => (heap_setCell_other _ _ _ _ (h.ne_nx hr)).trans (h.nx r hr), h.inj, h.len⟩
  obtain ⟨hx, hy | ⟨g, c, cur, hv, hb, hc, hr⟩⟩ := h.row
  · exact ⟨hx, .inl hy⟩
  · exact ⟨hx, .inr ⟨g, c, cur, hv, hb, (heap_setCell_other _ _ _ _ (fun e => by
      have e' : g = b := e
      rw [e', h.own] at hc
      simp only [Option.some.injEq, Obj.cells.injEq] at hc
      exact absurd hc.2.1 (by decide))).trans hc, hr⟩⟩
end
/-- a value that turns leaves the order -/
theorem setV_get (T : List TowM) (x : Nat) (v : ByteArray) (i : Nat) : (setV T x v)[i]? = (T[i]?).map fun r => { r with value := if x = i then v else r.value } := by
  unfold setV
  rw [List.getElem?_modify]
  cases T[i]? with
  | none => rfl
  | some r => by_cases e : x = i <;> simp [e]
theorem setV_key (T : List TowM) (x : Nat) (v : ByteArray) (i : Nat) : keyAt (setV T x v) i = keyAt T i := by unfold keyAt; rw [setV_get]; cases T[i]? <;> rfl
theorem setV_h (T : List TowM) (x : Nat) (v : ByteArray) (i : Nat) : hAt (setV T x v) i = hAt T i := by unfold hAt; rw [setV_get]; cases T[i]? <;> rfl
theorem setV_nx (T : List TowM) (x : Nat) (v : ByteArray) (i j : Nat) : nxAt (setV T x v) i j = nxAt T i j := by unfold nxAt; rw [setV_get]; cases T[i]? <;> rfl
theorem setV_val (T : List TowM) (x : Nat) (v : ByteArray) (i : Nat) (hi : i < T.length) : valAt (setV T x v) i = if x = i then v else valAt T i := by
  unfold valAt; rw [setV_get, List.getElem?_eq_getElem hi]; rfl
theorem lay_setV {T : List TowM} {q : List Nat} (hL : Lay T q) (x : Nat) (v : ByteArray) : Lay (setV T x v) q := by
  refine ⟨by rw [setV_len]; exact hL.len, by rw [setV_len]; exact hL.mem, hL.nodup, ?_, by rw [setV_h]; exact hL.h0, fun i hi => by rw [setV_h]; exact hL.hs i hi, fun pre suf e j hj => ?_⟩
  · exact hL.sorted.imp fun h => by rw [setV_key, setV_key]; exact h
  · rw [setV_h] at hj
    rw [setV_nx, hL.nx pre suf e j hj]
    unfold nxt
    have : ∀ i, hAt (setV T x v) i = hAt T i := setV_h T x v
    simp only [this]
end Go.Proofs.Ytacgpflheokkaaa
