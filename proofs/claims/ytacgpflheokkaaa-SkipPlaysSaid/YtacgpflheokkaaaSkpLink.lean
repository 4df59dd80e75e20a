/-
  A tower put into a list: the plain law.
-/
import Derived.Test.YtacgpflheokkaaaSkpGet
namespace Go.Proofs.Ytacgpflheokkaaa
open Go.RowKit
set_option linter.unusedVariables false
set_option linter.unusedSimpArgs false

/-- the levels below k turned to the new tower -/
def linkT (T : List TowM) (q : List Nat) (key : ByteArray) : Nat → List TowM
  | 0 => T
  | k + 1 => (linkT T q key k).modify (aheadI T q key k) fun r => { r with nx := r.nx.set k (T.length : Int) }
def newN (T : List TowM) (q : List Nat) (key : ByteArray) (h k : Nat) : List Int := (List.range h).map fun j => if j < k then nxAt T (aheadI T q key j) j else 0
section
variable {T : List TowM} {q : List Nat} {key : ByteArray}
theorem link_len (k : Nat) : (linkT T q key k).length = T.length := by
  induction k with
  | zero => rfl
  | succ k ih => rw [linkT, List.length_modify, ih]
theorem link_get (k i : Nat) : (linkT T q key k)[i]? = (T[i]?).map fun r => { r with nx := (List.range r.nx.length).map fun j => if j < k ∧ aheadI T q key j = i then (T.length : Int) else r.nx.getD j 0 } := by
  induction k with
  | zero =>
    rw [linkT]
    cases h : T[i]? with
    | none => rfl
    | some r =>
      simp only [Option.map_some, Option.some.injEq]
      have : r.nx = (List.range r.nx.length).map fun j => if j < 0 ∧ aheadI T q key j = i then (T.length : Int) else r.nx.getD j 0 := by
        apply List.ext_getElem
        · simp
        · intro j h1 h2; simp [h1]
      rw [← this]
  | succ k ih =>
    rw [linkT, List.getElem?_modify, ih]
    cases h : T[i]? with
    | none => simp
    | some r =>
      simp only [Option.map_eq_map, Option.map_some]
      by_cases e : aheadI T q key k = i
      · rw [if_pos e]
        simp only [Option.some.injEq]
        congr 1
        apply List.ext_getElem
        · simp
        · intro j h1 h2
          have hj : j < r.nx.length := by simpa using h1
          rw [List.getElem_set]
          simp only [List.getElem_map, List.getElem_range]
          by_cases ej : k = j
          · subst ej; rw [if_pos rfl, if_pos ⟨by omega, e⟩]
          · rw [if_neg ej]
            by_cases hk : j < k
            · have : (j < k ∧ aheadI T q key j = i) ↔ (j < k + 1 ∧ aheadI T q key j = i) := by omega
              simp only [this]
            · rw [if_neg (by omega), if_neg (by omega)]
      · rw [if_neg e]
        simp only [id, Option.some.injEq]
        congr 1
        apply List.map_congr_left
        intro j hj
        by_cases ej : j = k
        · subst ej; rw [if_neg (by omega), if_neg (by omega)]
        · have : (j < k ∧ aheadI T q key j = i) ↔ (j < k + 1 ∧ aheadI T q key j = i) := by omega
          simp only [this]
theorem link_key (k i : Nat) : keyAt (linkT T q key k) i = keyAt T i := by unfold keyAt; rw [link_get]; cases T[i]? <;> rfl
theorem link_val (k i : Nat) : valAt (linkT T q key k) i = valAt T i := by unfold valAt; rw [link_get]; cases T[i]? <;> rfl
theorem link_h (k i : Nat) : hAt (linkT T q key k) i = hAt T i := by unfold hAt; rw [link_get]; cases T[i]? <;> simp
theorem link_nx (k i j : Nat) (hj : j < hAt T i) : nxAt (linkT T q key k) i j = if j < k ∧ aheadI T q key j = i then (T.length : Int) else nxAt T i j := by
  unfold nxAt hAt at *
  rw [link_get]
  cases h : T[i]? with
  | none => rw [h] at hj; simp at hj
  | some r =>
    rw [h] at hj
    simp only [Option.map_some, Option.getD_some] at hj ⊢
    rw [List.getD_eq_getElem?_getD, List.getElem?_eq_getElem (by simpa using hj)]
    simp
end
/-- the list with the new tower -/
def putT (T : List TowM) (q : List Nat) (key value : ByteArray) (nb h : Nat) : List TowM := linkT T q key h ++ [⟨key, value, nb, newN T q key h h⟩]
section
variable {T : List TowM} {q : List Nat} {key value : ByteArray} {nb h : Nat}
theorem put_len : (putT T q key value nb h).length = T.length + 1 := by simp [putT, link_len]
theorem put_old (i : Nat) (hi : i < T.length) : (putT T q key value nb h)[i]? = (linkT T q key h)[i]? := by
  rw [putT, List.getElem?_append_left (by rw [link_len]; exact hi)]
theorem put_new : (putT T q key value nb h)[T.length]? = some ⟨key, value, nb, newN T q key h h⟩ := by
  rw [putT, List.getElem?_append_right (by rw [link_len]; omega), link_len]; simp
theorem put_key (i : Nat) (hi : i < T.length) : keyAt (putT T q key value nb h) i = keyAt T i := by
  have := link_key (T := T) (q := q) (key := key) h i
  unfold keyAt at *
  rw [put_old i hi]; exact this
theorem put_val (i : Nat) (hi : i < T.length) : valAt (putT T q key value nb h) i = valAt T i := by
  have := link_val (T := T) (q := q) (key := key) h i
  unfold valAt at *
  rw [put_old i hi]; exact this
theorem put_h (i : Nat) (hi : i < T.length) : hAt (putT T q key value nb h) i = hAt T i := by
  have := link_h (T := T) (q := q) (key := key) h i
  unfold hAt at *
  rw [put_old i hi]; exact this
theorem put_nx (i j : Nat) (hi : i < T.length) (hj : j < hAt T i) : nxAt (putT T q key value nb h) i j = if j < h ∧ aheadI T q key j = i then (T.length : Int) else nxAt T i j := by
  have := link_nx (q := q) (key := key) h i j hj
  rw [← this]; unfold nxAt; rw [put_old i hi]
theorem put_keyN : keyAt (putT T q key value nb h) T.length = key := by unfold keyAt; rw [put_new]; rfl
theorem put_valN : valAt (putT T q key value nb h) T.length = value := by unfold valAt; rw [put_new]; rfl
theorem put_hN : hAt (putT T q key value nb h) T.length = h := by unfold hAt; rw [put_new]; simp [newN]
theorem put_nxN (j : Nat) (hj : j < h) : nxAt (putT T q key value nb h) T.length j = nxAt T (aheadI T q key j) j := by
  have h1 : nxAt (putT T q key value nb h) T.length j = (newN T q key h h).getD j 0 := by unfold nxAt; rw [put_new]; rfl
  rw [h1, List.getD_eq_getElem?_getD, List.getElem?_eq_getElem (by simpa [newN] using hj)]
  simp [newN, hj]
theorem nxt_put {suf : List Nat} (hs : ∀ i ∈ suf, i < T.length) (j : Nat) : nxt (putT T q key value nb h) suf j = nxt T suf j := by
  have : suf.find? (fun i => decide (j < hAt (putT T q key value nb h) i)) = suf.find? (fun i => decide (j < hAt T i)) := by
    induction suf with
    | nil => rfl
    | cons x suf ih =>
      rw [List.find?_cons, List.find?_cons, put_h x (hs x (by simp)), ih fun i hi => hs i (List.mem_cons_of_mem _ hi)]
  unfold nxt
  rw [this]
theorem nxt_skip {T : List TowM} {a : List Nat} {j : Nat} (ha : ∀ i ∈ a, ¬ j < hAt T i) (b : List Nat) : nxt T (a ++ b) j = nxt T b j := by
  unfold nxt
  rw [List.find?_append, List.find?_eq_none.2 (by intro i hi; simpa using ha i hi), Option.none_or]
theorem nxt_in {T : List TowM} {a : List Nat} {j : Nat} (ha : ∃ i ∈ a, j < hAt T i) (b c : List Nat) : nxt T (a ++ b) j = nxt T (a ++ c) j := by
  obtain ⟨i, hi, hj⟩ := ha
  unfold nxt
  rw [List.find?_append, List.find?_append]
  cases hf : a.find? (fun i => decide (j < hAt T i)) with
  | none => have := List.find?_eq_none.1 hf i hi; simp at this; omega
  | some x => rfl
/-- what is ahead of a key on a level, by the part below it -/
theorem ahead_lo {lo hi : List Nat} (e : q = lo ++ hi) (h1 : ∀ i ∈ lo, bLt (keyAt T i) key = true) (h2 : ∀ i ∈ hi, bLt (keyAt T i) key = false) (j : Nat) : aheadI T q key j = endOf (lo.filter fun i => decide (j < hAt T i)) := by
  unfold aheadI
  rw [e, List.filter_append]
  have e1 : hi.filter (fun i => bLt (keyAt T i) key && decide (j < hAt T i)) = [] := by
    rw [List.filter_eq_nil_iff]; intro i hi'; simp [h2 i hi']
  have e2 : lo.filter (fun i => bLt (keyAt T i) key && decide (j < hAt T i)) = lo.filter fun i => decide (j < hAt T i) :=
    List.filter_congr fun i hi' => by simp [h1 i hi']
  rw [e1, e2, List.append_nil]
/-- the last of a row on a level: what stands behind it is on none -/
theorem filter_end (j : Nat) : ∀ lo : List Nat, (lo.filter (fun i => decide (j < hAt T i)) = [] ∧ ∀ i ∈ lo, ¬ j < hAt T i) ∨ ∃ a x b, lo = a ++ x :: b ∧ j < hAt T x ∧ (∀ i ∈ b, ¬ j < hAt T i) ∧ endOf (lo.filter fun i => decide (j < hAt T i)) = x := by
  intro lo
  induction lo with
  | nil => exact .inl ⟨rfl, by simp⟩
  | cons y lo ih =>
    rcases ih with ⟨e, hn⟩ | ⟨a, x, b, e, hx, hb, he⟩
    · by_cases hy : j < hAt T y
      · refine .inr ⟨[], y, lo, rfl, hy, hn, ?_⟩
        rw [List.filter_cons_of_pos (by simpa using hy), e]; rfl
      · refine .inl ⟨by rw [List.filter_cons_of_neg (by simpa using hy), e], fun i hi => ?_⟩
        rcases List.mem_cons.1 hi with rfl | hi
        · exact hy
        · exact hn i hi
    · refine .inr ⟨y :: a, x, b, by rw [e]; rfl, hx, hb, ?_⟩
      have hne : (lo.filter fun i => decide (j < hAt T i)) ≠ [] := by
        rw [e]; intro h; have := List.filter_eq_nil_iff.1 h x (by simp); simp at this; omega
      by_cases hy : j < hAt T y
      · rw [List.filter_cons_of_pos (by simpa using hy)]
        unfold endOf at he ⊢
        rw [List.getLast?_cons]
        cases hl : (lo.filter fun i => decide (j < hAt T i)).getLast? with
        | none => exact absurd (List.getLast?_eq_none_iff.1 hl) hne
        | some z => rw [hl] at he; simpa using he
      · rw [List.filter_cons_of_neg (by simpa using hy)]; exact he
theorem lay_put (hL : Lay T q) {lo hi : List Nat} (e : q = lo ++ hi) (h1 : ∀ i ∈ lo, bLt (keyAt T i) key = true) (h2 : ∀ i ∈ hi, bLt (keyAt T i) key = false) (hnew : findO T q key = none) (hh : 1 ≤ h ∧ h ≤ 12) :
    Lay (putT T q key value nb h) (lo ++ T.length :: hi) := by
  have hlt : ∀ i ∈ q, i < T.length := fun i hi => (hL.mem i hi).2
  have hlo : ∀ i ∈ lo, i < T.length := fun i hi' => hlt i (by rw [e]; simp [hi'])
  have hhi : ∀ i ∈ hi, i < T.length := fun i hi' => hlt i (by rw [e]; simp [hi'])
  have hpos : 0 < T.length := by have := hL.len; omega
  have hnd := hL.nodup
  rw [e] at hnd
  obtain ⟨n1, n2, n3⟩ := List.nodup_append.1 hnd
  have hsd := hL.sorted
  rw [e] at hsd
  obtain ⟨s1, s2, s3⟩ := List.pairwise_append.1 hsd
  have hgt : ∀ i ∈ hi, bLt key (keyAt T i) = true := fun i hi' => by
    rcases bLt_total (keyAt T i) key with h | h | h
    · rw [h2 i hi'] at h; cases h
    · have := List.find?_eq_none.1 hnew i (by rw [e]; simp [hi']); simp [h] at this
    · exact h
  refine ⟨?_, ?_, ?_, ?_, ?_, ?_, ?_⟩
  · rw [put_len, List.length_append, List.length_cons, ← hL.len, e, List.length_append]; omega
  · intro i hi'
    rw [put_len]
    rcases List.mem_append.1 hi' with h | h
    · have := hL.mem i (by rw [e]; simp [h]); omega
    · rcases List.mem_cons.1 h with rfl | h
      · omega
      · have := hL.mem i (by rw [e]; simp [h]); omega
  · refine List.nodup_append.2 ⟨n1, List.nodup_cons.2 ⟨fun hm => by have := hhi _ hm; omega, n2⟩, fun a ha b hb => ?_⟩
    rcases List.mem_cons.1 hb with rfl | hb
    · have := hlo a ha; omega
    · exact n3 a ha b hb
  · refine List.pairwise_append.2 ⟨?_, List.pairwise_cons.2 ⟨fun i hi' => ?_, ?_⟩, fun a ha b hb => ?_⟩
    · exact s1.imp_of_mem fun ha hb hab => by rw [put_key _ (hlo _ ha), put_key _ (hlo _ hb)]; exact hab
    · rw [put_keyN, put_key _ (hhi i hi')]; exact hgt i hi'
    · exact s2.imp_of_mem fun ha hb hab => by rw [put_key _ (hhi _ ha), put_key _ (hhi _ hb)]; exact hab
    · rw [put_key _ (hlo a ha)]
      rcases List.mem_cons.1 hb with rfl | hb
      · rw [put_keyN]; exact h1 a ha
      · rw [put_key _ (hhi b hb)]; exact s3 a ha b hb
  · rw [put_h 0 hpos]; exact hL.h0
  · intro i hi'
    rcases List.mem_append.1 hi' with h | h
    · rw [put_h i (hlo i h)]; exact hL.hs i (by rw [e]; simp [h])
    · rcases List.mem_cons.1 h with rfl | h
      · rw [put_hN]; exact hh
      · rw [put_h i (hhi i h)]; exact hL.hs i (by rw [e]; simp [h])
  · intro pre suf hps j hj
    have hA := ahead_lo (T := T) (key := key) e h1 h2 j
    have hfil : ∀ a : List Nat, a.filter (fun i => decide (j < hAt T i)) ≠ [] → endOf (a.filter fun i => decide (j < hAt T i)) ∈ a := fun a ha => by
      rcases List.eq_nil_or_concat (a.filter fun i => decide (j < hAt T i)) with h | ⟨l, x, h⟩
      · exact absurd h ha
      · rw [h, List.concat_eq_append, endOf_snoc]
        have : x ∈ a.filter fun i => decide (j < hAt T i) := by rw [h]; simp
        exact (List.mem_filter.1 this).1
    -- the new tower stands behind pre
    have caseC : ∀ c, lo = pre ++ c → suf = c ++ T.length :: hi → nxAt (putT T q key value nb h) (endOf pre) j = nxt (putT T q key value nb h) suf j := fun c hc1 hc2 => by
      have hpT : endOf pre < T.length := endOf_lt hL (pre := pre) (suf := c ++ hi) (by rw [e, hc1, List.append_assoc])
      have hj' : j < hAt T (endOf pre) := by rw [← put_h (q := q) (key := key) (value := value) (nb := nb) (h := h) _ hpT]; exact hj
      have hnx := hL.nx pre (c ++ hi) (by rw [e, hc1, List.append_assoc]) j hj'
      have hcT : ∀ i ∈ c ++ hi, i < T.length := fun i hi' => by
        rcases List.mem_append.1 hi' with h | h
        · exact hlo i (by rw [hc1]; simp [h])
        · exact hhi i h
      have hpc : endOf pre ∉ c := fun hm => by
        rcases List.eq_nil_or_concat pre with rfl | ⟨pp, x, rfl⟩
        · have h0 : (0 : Nat) ∈ c := hm
          have := hL.mem 0 (by rw [e, hc1]; simp [h0])
          omega
        · rw [List.concat_eq_append] at hm hc1
          rw [endOf_snoc] at hm
          rw [hc1] at n1
          exact (List.nodup_append.1 n1).2.2 x (by simp) x hm rfl
      rw [put_nx _ _ hpT hj', hc2, hA, hc1, List.filter_append]
      by_cases hc : ∃ i ∈ c, j < hAt T i
      · have hne : c.filter (fun i => decide (j < hAt T i)) ≠ [] := fun h0 => by
          obtain ⟨i, hi', hji⟩ := hc
          have := List.filter_eq_nil_iff.1 h0 i hi'
          simp at this; omega
        have hap : endOf (pre.filter (fun i => decide (j < hAt T i)) ++ c.filter (fun i => decide (j < hAt T i))) = endOf (c.filter fun i => decide (j < hAt T i)) := by
          unfold endOf; rw [List.getLast?_append]
          cases hl : (c.filter fun i => decide (j < hAt T i)).getLast? with
          | none => exact absurd (List.getLast?_eq_none_iff.1 hl) hne
          | some z => rfl
        have hnp : ¬ (j < h ∧ endOf (c.filter fun i => decide (j < hAt T i)) = endOf pre) := fun hh => hpc (hh.2 ▸ hfil c hne)
        rw [hap, if_neg hnp, hnx, ← nxt_put (q := q) (key := key) (value := value) (nb := nb) (h := h) hcT]
        refine nxt_in ?_ _ _
        obtain ⟨i, hi', hji⟩ := hc
        exact ⟨i, hi', by rw [put_h i (hcT i (by simp [hi']))]; exact hji⟩
      · have hc' : ∀ i ∈ c, ¬ j < hAt T i := fun i hi' hji => hc ⟨i, hi', hji⟩
        have h0 : c.filter (fun i => decide (j < hAt T i)) = [] := List.filter_eq_nil_iff.2 fun i hi' => by simpa using hc' i hi'
        have hap : endOf (pre.filter fun i => decide (j < hAt T i)) = endOf pre := by
          rcases List.eq_nil_or_concat pre with rfl | ⟨pp, x, rfl⟩
          · rfl
          · rw [List.concat_eq_append] at hj' ⊢
            rw [endOf_snoc] at hj' ⊢
            rw [List.filter_append, List.filter_cons_of_pos (by simpa using hj'), List.filter_nil, endOf_snoc]
        have hcN : ∀ i ∈ c, ¬ j < hAt (putT T q key value nb h) i := fun i hi' => by rw [put_h i (hcT i (by simp [hi']))]; exact hc' i hi'
        rw [h0, List.append_nil, hap]
        by_cases hjh : j < h
        · rw [if_pos ⟨hjh, rfl⟩, nxt_skip hcN]
          unfold nxt
          rw [List.find?_cons_of_pos (by simpa [put_hN] using hjh)]
        · rw [if_neg (fun hh => hjh hh.1), hnx, nxt_skip hc', ← nxt_put (q := q) (key := key) (value := value) (nb := nb) (h := h) hhi,
            show c ++ T.length :: hi = (c ++ [T.length]) ++ hi by simp, nxt_skip (a := c ++ [T.length])]
          intro i hi'
          rcases List.mem_append.1 hi' with h | h
          · exact hcN i h
          · simp at h; subst h; rw [put_hN]; exact hjh
    rcases List.append_eq_append_iff.1 hps with ⟨c, hc1, hc2⟩ | ⟨c, hc1, hc2⟩
    · cases c with
      | nil => exact caseC [] (by simpa using hc1.symm) (by simpa using hc2.symm)
      | cons y c =>
        rw [List.cons_append, List.cons.injEq] at hc2
        obtain ⟨rfl, hc2⟩ := hc2
        have hsT : ∀ i ∈ suf, i < T.length := fun i hi' => hhi i (by rw [hc2]; simp [hi'])
        rw [nxt_put hsT]
        rcases List.eq_nil_or_concat c with rfl | ⟨c', z, rfl⟩
        · have hpe : endOf pre = T.length := by rw [hc1]; exact endOf_snoc lo _
          simp only [List.nil_append] at hc2
          rw [hpe] at hj ⊢
          rw [put_hN] at hj
          rw [put_nxN j hj, hA, ← hc2]
          rcases filter_end (T := T) j lo with ⟨h0, hn⟩ | ⟨a, x, b, hlo', hx, hb, he⟩
          · rw [h0]
            show nxAt T (endOf []) j = _
            rw [hL.nx [] q rfl j (by show j < hAt T 0; rw [hL.h0]; omega), e, nxt_skip hn]
          · rw [he]
            have := hL.nx (a ++ [x]) (b ++ hi) (by rw [e, hlo']; simp) j (by rw [endOf_snoc]; exact hx)
            rw [endOf_snoc] at this
            rw [this, nxt_skip hb]
        · rw [List.concat_eq_append] at hc1 hc2
          have hpe : endOf pre = z := by rw [hc1, show lo ++ T.length :: (c' ++ [z]) = (lo ++ T.length :: c') ++ [z] by simp, endOf_snoc]
          have hzh : z ∈ hi := by rw [hc2]; simp
          have hzT := hhi z hzh
          rw [hpe] at hj ⊢
          rw [put_h z hzT] at hj
          have hne : ¬ aheadI T q key j = z := fun hh => by
            rw [hA] at hh
            by_cases h0 : lo.filter (fun i => decide (j < hAt T i)) = []
            · rw [h0] at hh
              have h0' : (0 : Nat) = z := hh
              have := hL.mem z (by rw [e]; simp [hzh])
              omega
            · have hm := hfil lo h0
              rw [hh] at hm
              exact n3 z hm z hzh rfl
          rw [put_nx z j hzT hj, if_neg (fun hh => hne hh.2)]
          have := hL.nx (lo ++ (c' ++ [z])) suf (by rw [e, hc2]; simp) j (by rw [← List.append_assoc, endOf_snoc]; exact hj)
          rw [← List.append_assoc, endOf_snoc] at this
          exact this
    · exact caseC c hc1 hc2
end
end Go.Proofs.Ytacgpflheokkaaa
