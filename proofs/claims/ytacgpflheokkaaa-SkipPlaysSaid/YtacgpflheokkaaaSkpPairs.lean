/-
  The plain law: the pairs of a list in their order; what Put makes of them.
-/
import Derived.Test.YtacgpflheokkaaaSkpEnd
namespace Go.Proofs.Ytacgpflheokkaaa
open Go.RowKit Go.Shelf
set_option linter.unusedVariables false
set_option linter.unusedSimpArgs false

def pairsOf (T : List TowM) (q : List Nat) : List PairS := q.map (pairAt T)
/-- the shadow's Put -/
def putP (l : List PairS) (p : PairS) : List PairS := l.takeWhile (fun x => bLt x.1 p.1) ++ p :: (l.dropWhile (fun x => bLt x.1 p.1)).filter (fun x => decide (x.1 ≠ p.1))
/-- the shadow's Put, pair by pair: what is done after some -/
def putS (p : PairS) (s : List PairS × Bool) (x : PairS) : List PairS × Bool :=
  if s.2 = false ∧ bLt x.1 p.1 = false then (if x.1 = p.1 then (s.1 ++ [p], true) else (s.1 ++ [p, x], true)) else (if x.1 = p.1 then s else (s.1 ++ [x], s.2))
def putN (l : List PairS) (p : PairS) : List PairS × Bool := l.foldl (putS p) ([], false)
theorem putN_snoc (l : List PairS) (p x : PairS) : putN (l ++ [x]) p = putS p (putN l p) x := by unfold putN; rw [List.foldl_append]; rfl
theorem putN_done (l acc : List PairS) (p : PairS) : l.foldl (putS p) (acc, true) = (acc ++ l.filter (fun x => decide (x.1 ≠ p.1)), true) := by
  induction l generalizing acc with
  | nil => simp
  | cons x l ih =>
    rw [List.foldl_cons]
    by_cases hx : x.1 = p.1
    · rw [show putS p (acc, true) x = (acc, true) by simp [putS, hx], ih, List.filter_cons_of_neg (by simp [hx])]
    · rw [show putS p (acc, true) x = (acc ++ [x], true) by simp [putS, hx], ih, List.filter_cons_of_pos (by simp [hx])]
      simp
def endP (p : PairS) (s : List PairS × Bool) : List PairS := if s.2 = true then s.1 else s.1 ++ [p]
theorem putN_from (l acc : List PairS) (p : PairS) : endP p (l.foldl (putS p) (acc, false)) = acc ++ putP l p := by
  induction l generalizing acc with
  | nil => simp [putP, endP]
  | cons x l ih =>
    rw [List.foldl_cons]
    cases hb : bLt x.1 p.1 with
    | true =>
      have hne := bLt_ne hb
      rw [show putS p (acc, false) x = (acc ++ [x], false) by simp [putS, hb, hne], ih]
      unfold putP
      rw [List.takeWhile_cons_of_pos (by simpa using hb), List.dropWhile_cons_of_pos (by simpa using hb)]
      simp
    | false =>
      unfold putP
      rw [List.takeWhile_cons_of_neg (by simp [hb]), List.dropWhile_cons_of_neg (by simp [hb])]
      by_cases hx : x.1 = p.1
      · rw [show putS p (acc, false) x = (acc ++ [p], true) by unfold putS; rw [if_pos ⟨rfl, hb⟩, if_pos hx], putN_done, List.filter_cons_of_neg (by simp [hx])]
        simp [endP]
      · rw [show putS p (acc, false) x = (acc ++ [p, x], true) by unfold putS; rw [if_pos ⟨rfl, hb⟩, if_neg hx], putN_done, List.filter_cons_of_pos (by simp [hx])]
        simp [endP]
theorem putN_end (l : List PairS) (p : PairS) : endP p (putN l p) = putP l p := by
  have h := putN_from l [] p
  rw [List.nil_append] at h
  exact h
/-- in a row that parts at a key -/
theorem putP_split {lo hi : List PairS} {p : PairS} (h1 : ∀ x ∈ lo, bLt x.1 p.1 = true) (h2 : ∀ x ∈ hi, bLt x.1 p.1 = false) : putP (lo ++ hi) p = lo ++ p :: hi.filter (fun x => decide (x.1 ≠ p.1)) := by
  unfold putP
  have ht : (lo ++ hi).takeWhile (fun x => bLt x.1 p.1) = lo ∧ (lo ++ hi).dropWhile (fun x => bLt x.1 p.1) = hi := by
    induction lo with
    | nil =>
      cases hi with
      | nil => exact ⟨rfl, rfl⟩
      | cons y r =>
        have := h2 y (by simp)
        exact ⟨List.takeWhile_cons_of_neg (by simp [this]), List.dropWhile_cons_of_neg (by simp [this])⟩
    | cons y r ih =>
      obtain ⟨a, b⟩ := ih fun x hx => h1 x (by simp [hx])
      have := h1 y (by simp)
      refine ⟨?_, ?_⟩
      · rw [List.cons_append, List.takeWhile_cons_of_pos (by simpa using this), a]
      · rw [List.cons_append, List.dropWhile_cons_of_pos (by simpa using this), b]
  rw [ht.1, ht.2]
theorem pairs_put {T : List TowM} {q : List Nat} {key value : ByteArray} {nb h : Nat} (hL : Lay T q) {lo hi : List Nat} (e : q = lo ++ hi) (h1 : ∀ i ∈ lo, bLt (keyAt T i) key = true) (h2 : ∀ i ∈ hi, bLt (keyAt T i) key = false) (hnew : findO T q key = none) :
    pairsOf (putT T q key value nb h) (lo ++ T.length :: hi) = putP (pairsOf T q) (key, value) := by
  have hold : ∀ i ∈ q, pairAt (putT T q key value nb h) i = pairAt T i := fun i hi' => by
    have := (hL.mem i hi').2
    unfold pairAt; rw [put_key i this, put_val i this]
  have hN : pairAt (putT T q key value nb h) T.length = (key, value) := by unfold pairAt; rw [put_keyN, put_valN]
  have hlo : lo.map (pairAt (putT T q key value nb h)) = lo.map (pairAt T) := List.map_congr_left fun i hi' => hold i (by rw [e]; simp [hi'])
  have hhi : hi.map (pairAt (putT T q key value nb h)) = hi.map (pairAt T) := List.map_congr_left fun i hi' => hold i (by rw [e]; simp [hi'])
  have hp : pairsOf T q = lo.map (pairAt T) ++ hi.map (pairAt T) := by unfold pairsOf; rw [e, List.map_append]
  rw [hp, putP_split (p := (key, value)) (by intro x hx; obtain ⟨i, hi', rfl⟩ := List.mem_map.1 hx; exact h1 i hi') (by intro x hx; obtain ⟨i, hi', rfl⟩ := List.mem_map.1 hx; exact h2 i hi')]
  rw [List.filter_eq_self.2]
  · unfold pairsOf
    rw [List.map_append, List.map_cons, hlo, hhi, hN]
  · intro x hx
    obtain ⟨i, hi', rfl⟩ := List.mem_map.1 hx
    have h3 := List.find?_eq_none.1 hnew i (by rw [e]; simp [hi'])
    have h4 : ¬ keyAt T i = key := by simpa using h3
    exact decide_eq_true h4
theorem pairs_setV {T : List TowM} {q : List Nat} {key value : ByteArray} {x : Nat} (hL : Lay T q) (hx : findO T q key = some x) : pairsOf (setV T x value) q = putP (pairsOf T q) (key, value) := by
  obtain ⟨hxq, hxl, hxk⟩ := find_lt hL hx
  obtain ⟨lo, hi, e⟩ := List.append_of_mem hxq
  have hs := hL.sorted
  rw [e] at hs
  obtain ⟨s1, s2, s3⟩ := List.pairwise_append.1 hs
  obtain ⟨s4, s5⟩ := List.pairwise_cons.1 s2
  have h1 : ∀ i ∈ lo, bLt (keyAt T i) key = true := fun i hi' => by rw [← hxk]; exact s3 i hi' x (by simp)
  have h2 : ∀ i ∈ hi, bLt key (keyAt T i) = true := fun i hi' => by rw [← hxk]; exact s4 i hi'
  have hold : ∀ i ∈ q, i ≠ x → pairAt (setV T x value) i = pairAt T i := fun i hi' hne => by
    unfold pairAt; rw [setV_key, setV_val T x value i (hL.mem i hi').2, if_neg (fun h => hne h.symm)]
  have hX : pairAt (setV T x value) x = (key, value) := by unfold pairAt; rw [setV_key, setV_val T x value x hxl, if_pos rfl, hxk]
  have hlo : lo.map (pairAt (setV T x value)) = lo.map (pairAt T) := List.map_congr_left fun i hi' => hold i (by rw [e]; simp [hi']) (fun h => by subst h; exact bLt_ne (h1 _ hi') hxk)
  have hhi : hi.map (pairAt (setV T x value)) = hi.map (pairAt T) := List.map_congr_left fun i hi' => hold i (by rw [e]; simp [hi']) (fun h => by subst h; exact bLt_ne (h2 _ hi') hxk.symm)
  have hp : pairsOf T q = lo.map (pairAt T) ++ (pairAt T x :: hi.map (pairAt T)) := by unfold pairsOf; rw [e, List.map_append, List.map_cons]
  rw [hp, putP_split (p := (key, value)) (by intro y hy; obtain ⟨i, hi', rfl⟩ := List.mem_map.1 hy; exact h1 i hi') (by
    intro y hy
    rcases List.mem_cons.1 hy with rfl | hy
    · show bLt (keyAt T x) key = false; rw [hxk]; exact bLt_irrefl _
    · obtain ⟨i, hi', rfl⟩ := List.mem_map.1 hy; exact bLt_asymm (h2 i hi'))]
  rw [List.filter_cons_of_neg (by simp [pairAt, hxk]), List.filter_eq_self.2]
  · unfold pairsOf
    rw [e, List.map_append, List.map_cons, hlo, hhi, hX]
  · intro y hy
    obtain ⟨i, hi', rfl⟩ := List.mem_map.1 hy
    have := bLt_ne (h2 i hi')
    exact decide_eq_true (fun h : keyAt T i = key => this h.symm)
end Go.Proofs.Ytacgpflheokkaaa
