/-
  A skip list by its pairs and its heights: what its functions do, by contract.
-/
import Derived.Test.YtacgpflheokkaaaSkpRefSame
import Derived.Test.YtacgpflheokkaaaSkpPush
namespace Go.Proofs.Ytacgpflheokkaaa
open Go.RowKit Go.Shelf
set_option linter.unusedVariables false
set_option linter.unusedSimpArgs false

/-- a list in memory: its pairs, its heights; its blocks lie in F -/
abbrev SkL (w : World) (F : Nat → Prop) (b : Nat) (P : List PairS) (H : ByteArray → Int) (st : Int) : Prop :=
  ∃ sa cap T q, SkM w b sa cap T (bytesP P) st ∧ Lay T q ∧ pairsOf T q = P ∧ (∀ k, heightV T q k = H k) ∧ (∀ k, footS b sa T k → F k)
theorem SkL.of_foot {w w' : World} {F : Nat → Prop} {b : Nat} {P : List PairS} {H : ByteArray → Int} {st : Int} (h : SkL w F b P H st) (hs : ∀ k, F k → w'.heap[k]? = w.heap[k]?) : SkL w' F b P H st := by
  obtain ⟨sa, cap, T, q, h1, h2, h3, h4, h5⟩ := h
  exact ⟨sa, cap, T, q, h1.of_foot fun k hk => hs k (h5 k hk), h2, h3, h4, h5⟩
theorem SkL.moved {w w' : World} {F : Nat → Prop} {b : Nat} {P : List PairS} {H : ByteArray → Int} {st : Int} (h : SkL w F b P H st) (hB : Below w.heap.size w w') : SkL w' F b P H st := by
  obtain ⟨sa, cap, T, q, h1, h2, h3, h4, h5⟩ := h
  exact ⟨sa, cap, T, q, h1.moved hB, h2, h3, h4, h5⟩
theorem SkL.mono {w : World} {F G : Nat → Prop} {b : Nat} {P : List PairS} {H : ByteArray → Int} {st : Int} (h : SkL w F b P H st) (hG : ∀ k, F k → G k) : SkL w G b P H st := by
  obtain ⟨sa, cap, T, q, h1, h2, h3, h4, h5⟩ := h
  exact ⟨sa, cap, T, q, h1, h2, h3, h4, fun k hk => hG k (h5 k hk)⟩
theorem SkL.lt {w : World} {F : Nat → Prop} {b : Nat} {P : List PairS} {H : ByteArray → Int} {st : Int} (h : SkL w F b P H st) : SkL w (fun k => F k ∧ k < w.heap.size) b P H st := by
  obtain ⟨sa, cap, T, q, h1, h2, h3, h4, h5⟩ := h
  exact ⟨sa, cap, T, q, h1, h2, h3, h4, fun k hk => ⟨h5 k hk, foot_lt h1 k hk⟩⟩
theorem SkL.root {w : World} {F : Nat → Prop} {b : Nat} {P : List PairS} {H : ByteArray → Int} {st : Int} (h : SkL w F b P H st) : F b ∧ b < w.heap.size := by
  obtain ⟨sa, cap, T, q, h1, h2, h3, h4, h5⟩ := h
  exact ⟨h5 b (.inl rfl), heap_lt h1.own⟩
/-- another list, or what else there is, stays where one is turned -/
theorem SkL.chg {w w' : World} {F G : Nat → Prop} {b : Nat} {P : List PairS} {H : ByteArray → Int} {st : Int} (h : SkL w F b P H st) (hC : ChgQ G w w') (hd : ∀ k, F k → ¬ G k) : SkL w' F b P H st := by
  obtain ⟨sa, cap, T, q, h1, h2, h3, h4, h5⟩ := h
  exact ⟨sa, cap, T, q, h1.of_foot fun k hk => hC.block k (foot_lt h1 k hk) (hd k (h5 k hk)), h2, h3, h4, h5⟩
theorem SkL.sorted {w : World} {F : Nat → Prop} {b : Nat} {P : List PairS} {H : ByteArray → Int} {st : Int} (h : SkL w F b P H st) : P.Pairwise (fun x y => bLt x.1 y.1 = true) := by
  obtain ⟨sa, cap, T, q, h1, h2, rfl, h4, h5⟩ := h
  unfold pairsOf
  rw [List.pairwise_map]
  exact h2.sorted
theorem pairs_len {T : List TowM} {q : List Nat} (hL : Lay T q) : T.length = (pairsOf T q).length + 1 := by unfold pairsOf; rw [List.length_map, hL.len]
theorem pairs_get {T : List TowM} {q : List Nat} (key : ByteArray) : getP (pairsOf T q) key = (findO T q key).map (pairAt T) := by
  unfold getP pairsOf findO
  rw [List.find?_map]
  rfl
theorem pairs_getV {T : List TowM} {q : List Nat} (key : ByteArray) : getPV (pairsOf T q) key = getV T q key ∧ (getP (pairsOf T q) key).isSome = isV T q key := by
  unfold getPV getV isV
  rw [pairs_get]
  cases findO T q key <;> exact ⟨rfl, rfl⟩

/-- the heights behind a Put -/
def putH (P : List PairS) (H : ByteArray → Int) (key : ByteArray) (ht : Int) : ByteArray → Int := fun k => if k = key then (if (getP P key).isSome = true then H key else min (max ht 1) 12) else H k
theorem find_put {T : List TowM} {q lo hi : List Nat} {key value : ByteArray} {nb h : Nat} (hL : Lay T q) (e : q = lo ++ hi) (hnew : findO T q key = none) (k : ByteArray) :
    findO (putT T q key value nb h) (lo ++ T.length :: hi) k = if k = key then some T.length else findO T q k := by
  have hlt : ∀ i ∈ q, i < T.length := fun i hi => (hL.mem i hi).2
  have hc : ∀ l : List Nat, (∀ i ∈ l, i < T.length) → l.find? (fun i => decide (keyAt (putT T q key value nb h) i = k)) = l.find? (fun i => decide (keyAt T i = k)) := fun l hl => by
    induction l with
    | nil => rfl
    | cons x l ih =>
      rw [List.find?_cons, List.find?_cons, put_key x (hl x (by simp)), ih fun i hi => hl i (List.mem_cons_of_mem _ hi)]
  unfold findO at hnew ⊢
  rw [List.find?_append, List.find?_cons, put_keyN, hc lo (fun i hi' => hlt i (by rw [e]; simp [hi'])), hc hi (fun i hi' => hlt i (by rw [e]; simp [hi']))]
  by_cases hk : k = key
  · subst hk
    have h1 : lo.find? (fun i => decide (keyAt T i = k)) = none := by
      rw [e, List.find?_append] at hnew
      cases hf : lo.find? (fun i => decide (keyAt T i = k)) with
      | none => rfl
      | some x => rw [hf] at hnew; cases hnew
    rw [h1, if_pos rfl]
    simp
  · rw [if_neg hk, e, List.find?_append]
    have : decide (key = k) = false := decide_eq_false (fun h => hk h.symm)
    rw [this]
theorem height_put {T : List TowM} {q lo hi : List Nat} {key value : ByteArray} {nb h : Nat} (hL : Lay T q) (e : q = lo ++ hi) (hnew : findO T q key = none) (k : ByteArray) :
    heightV (putT T q key value nb h) (lo ++ T.length :: hi) k = if k = key then (h : Int) else heightV T q k := by
  unfold heightV
  rw [find_put hL e hnew]
  by_cases hk : k = key
  · rw [if_pos hk, if_pos hk]
    simp only [put_hN]
  · rw [if_neg hk, if_neg hk]
    cases hf : findO T q k with
    | none => rfl
    | some x =>
      have := (find_lt hL hf).2.1
      simp only [put_h x this]
theorem height_set {T : List TowM} {q : List Nat} {x : Nat} {v : ByteArray} (k : ByteArray) : heightV (setV T x v) q k = heightV T q k := by
  unfold heightV findO
  simp only [setV_key, setV_h]
theorem bytesP_from (l : List PairS) (s : Int) : l.foldl (fun s x => s + (x.1.size : Int) + (x.2.size : Int)) s = s + bytesP l := by
  unfold bytesP
  induction l generalizing s with
  | nil => simp
  | cons x l ih => rw [List.foldl_cons, List.foldl_cons, ih, ih (0 + _ + _)]; omega
theorem bytesP_append (l m : List PairS) : bytesP (l ++ m) = bytesP l + bytesP m := by
  rw [bytesP, List.foldl_append, bytesP_from]; rfl
theorem bytesP_cons (x : PairS) (l : List PairS) : bytesP (x :: l) = (x.1.size : Int) + (x.2.size : Int) + bytesP l := by
  rw [bytesP, List.foldl_cons, bytesP_from]; omega
theorem bytesP_nonneg (l : List PairS) : 0 ≤ bytesP l := by
  induction l with
  | nil => simp [bytesP]
  | cons x l ih => rw [bytesP_cons]; omega
/-- a put of a new key -/
theorem put_new_bytes {l : List PairS} {p : PairS} (hn : getP l p.1 = none) : bytesP (putP l p) = bytesP l + ((p.1.size : Int) + (p.2.size : Int)) := by
  unfold putP
  have h : (l.dropWhile fun x => bLt x.1 p.1).filter (fun x => decide (x.1 ≠ p.1)) = l.dropWhile fun x => bLt x.1 p.1 := by
    rw [List.filter_eq_self]
    intro x hx
    have := List.find?_eq_none.1 hn x ((List.dropWhile_sublist _).subset hx)
    simpa using this
  rw [h, bytesP_append, bytesP_cons]
  have := bytesP_append (l.takeWhile fun x => bLt x.1 p.1) (l.dropWhile fun x => bLt x.1 p.1)
  rw [List.takeWhile_append_dropWhile] at this
  omega
theorem set_bytes {T : List TowM} {q : List Nat} {key value : ByteArray} {x : Nat} (hL : Lay T q) (hx : findO T q key = some x) : bytesP (pairsOf (setV T x value) q) = bytesP (pairsOf T q) + ((value.size : Int) - ((valAt T x).size : Int)) := by
  obtain ⟨hxq, hxT, hxk⟩ := find_lt hL hx
  obtain ⟨lo, hi, e⟩ := List.append_of_mem hxq
  have hnd := hL.nodup
  rw [e] at hnd
  obtain ⟨n1, n2, n3⟩ := List.nodup_append.1 hnd
  have hold : ∀ i ∈ q, i ≠ x → pairAt (setV T x value) i = pairAt T i := fun i hi' hne => by
    unfold pairAt; rw [setV_key, setV_val T x value i (hL.mem i hi').2, if_neg (fun h => hne h.symm)]
  have hlo : lo.map (pairAt (setV T x value)) = lo.map (pairAt T) := List.map_congr_left fun i hi' => hold i (by rw [e]; simp [hi']) (fun h => n3 i hi' x (by simp) h)
  have hhi : hi.map (pairAt (setV T x value)) = hi.map (pairAt T) := List.map_congr_left fun i hi' => hold i (by rw [e]; simp [hi']) (fun h => by subst h; exact (List.nodup_cons.1 n2).1 hi')
  unfold pairsOf
  rw [e, List.map_append, List.map_append, List.map_cons, List.map_cons, hlo, hhi, bytesP_append, bytesP_append, bytesP_cons, bytesP_cons]
  have h1 : (pairAt (setV T x value) x) = (keyAt T x, value) := by unfold pairAt; rw [setV_key, setV_val T x value x hxT, if_pos rfl]
  rw [h1]
  have h2 : pairAt T x = (keyAt T x, valAt T x) := rfl
  rw [h2]
  simp only
  omega
theorem foot_set {b : Nat} {sa : Option Addr} {T : List TowM} {x : Nat} {v : ByteArray} {k : Nat} (h : footS b sa (setV T x v) k) : footS b sa T k := by
  rcases h with h | h | ⟨r, hr, h⟩
  · exact .inl h
  · exact .inr (.inl h)
  · refine .inr (.inr ?_)
    have hm : k ∈ (setV T x v).map (·.nb) := List.mem_map.2 ⟨r, hr, h⟩
    rw [setV_nb] at hm
    obtain ⟨r', h1, h2⟩ := List.mem_map.1 hm
    exact ⟨r', h1, h2⟩

theorem skl_new (w : World) : Calls Try.prog 8 #[] w fun e w' => ∃ (b : Nat) (F : Nat → Prop), e = .returned (.pointer (some ⟨b, 0, none⟩)) ∧ SkL w' F b [] (fun _ => 0) 0 ∧ Below w.heap.size w w' ∧ (∀ k, F k → w.heap.size ≤ k ∧ k < w'.heap.size) := by
  refine (skip_new w).mono ?_
  rintro e w' ⟨b, g, nb, rfl, hM, hB, h1, h2, h3⟩
  refine ⟨b, footS b (some ⟨g, 0, none⟩) [headT nb], rfl, ⟨_, _, _, [], hM, lay_new nb, rfl, fun _ => rfl, fun _ h => h⟩, hB, ?_⟩
  intro k hk
  refine ⟨?_, foot_lt hM k hk⟩
  rcases hk with rfl | ⟨o, ho⟩ | ⟨r, hr, rfl⟩
  · exact h1
  · cases ho; exact h2
  · simp at hr; subst hr; exact h3
section
variable (b : Nat) (F : Nat → Prop) (P : List PairS) (H : ByteArray → Int) (st : Int) (w : World) (hS : SkL w F b P H st)
include hS
theorem skl_put (key value : ByteArray) (ht : Int) (hP : P.length ≤ 50000) (hb : bytesP P ≤ 1000000000000) (hz : ∀ x ∈ P, x.2.size ≤ 1000000000) (hv : value.size ≤ 1000000000) (hk : key.size ≤ 1000000000) :
    Calls Try.prog 9 #[.pointer (some ⟨b, 0, none⟩), .string key, .string value, .int .i64 ht] w fun e w' => e = .returned (.int .i64 0) ∧
      ∃ (F' : Nat → Prop) (st' : Int), SkL w' F' b (putP P (key, value)) (putH P H key ht) st' ∧ 0 ≤ st' ∧ st' ≤ (P.length : Int) + 12 ∧ (∀ k, F' k → (F k ∨ w.heap.size ≤ k) ∧ k < w'.heap.size) ∧ ChgQ F w w' := by
  obtain ⟨sa, cap, T, q, hM, hL, rfl, hH, hF⟩ := hS
  have hlen := pairs_len hL
  have hql : (pairsOf T q).length = q.length := by simp [pairsOf]
  have hget := pairs_get (T := T) (q := q) key
  cases hf : findO T q key with
  | some x =>
    obtain ⟨hxq, hxT, hxk⟩ := find_lt hL hf
    refine (skip_put_old b sa cap T _ st q key value ht x w hM hL hf ⟨bytesP_nonneg _, hb⟩ hv (hz (pairAt T x) (List.mem_map.2 ⟨x, hxq, rfl⟩))).mono ?_
    rintro e w' ⟨rfl, st', h1, h2, h3, h4⟩
    refine ⟨rfl, fun k => F k ∧ k < w'.heap.size, st', SkL.lt ⟨sa, cap, setV T x value, q, ?_, lay_setV hL x value, pairs_setV hL hf, fun k => ?_, fun k hk => hF k (foot_set hk)⟩, h2, by rw [hql]; exact h3, fun k hk => ⟨.inl hk.1, hk.2⟩, h4.mono hF⟩
    · rw [← pairs_setV hL hf, set_bytes hL hf]; exact h1
    · rw [height_set, hH]
      unfold putH
      rw [hget, hf]
      by_cases hkk : k = key
      · rw [if_pos hkk, hkk]; rfl
      · rw [if_neg hkk]
  | none =>
    obtain ⟨lo, hi, e, hlo, hhi⟩ := split_at hL.sorted key
    obtain ⟨h, hh⟩ : ∃ h : Nat, (h : Int) = min (max ht 1) 12 := ⟨(min (max ht 1) 12).toNat, by omega⟩
    refine (skip_put_new b sa cap T _ st q key value ht h w hM hL hf hh (by omega) ⟨bytesP_nonneg _, hb⟩ hv hk).mono ?_
    rintro e' w' ⟨rfl, sa', cap', nb, st', h1, h2, h3, h4, h5, h6⟩
    have h1' := h1
    refine ⟨rfl, footS b sa' (putT T q key value nb h), st', ⟨sa', cap', _, _, ?_, lay_put hL e hlo hhi hf (by omega), pairs_put hL e hlo hhi hf, fun k => ?_, fun k hk => hk⟩, h2, by rw [hql]; exact h3, ?_, h4.mono hF⟩
    · rw [put_new_bytes (by rw [hget, hf]; rfl)]; exact h1
    · rw [height_put hL e hf]
      unfold putH
      rw [hget, hf]
      by_cases hkk : k = key
      · rw [if_pos hkk, if_pos hkk, hh]; rfl
      · rw [if_neg hkk, if_neg hkk, hH]
    · intro k hk
      refine ⟨?_, foot_lt h1 k hk⟩
      rcases hk with rfl | ⟨o, ho⟩ | ⟨r, hr, hn⟩
      · exact .inl (hF _ (.inl rfl))
      · rcases h6 k o ho with hx | hx
        · exact .inl (hF _ (.inr (.inl hx)))
        · exact .inr hx
      · rcases List.mem_append.1 hr with hr | hr
        · exact .inl (hF _ ((foot_link b sa T q key k h).1 (.inr (.inr ⟨r, hr, hn⟩))))
        · simp at hr; subst hr; subst hn; exact .inr h5
theorem skl_get (key : ByteArray) :
    Calls Try.prog 14 #[.pointer (some ⟨b, 0, none⟩), .string key] w fun e w' => e = .returned (.tuple #[.string (getPV P key), .bool (getP P key).isSome]) ∧
      ∃ st', SkL w' F b P H st' ∧ 0 ≤ st' ∧ st' ≤ (P.length : Int) + 12 ∧ Chg b w w' := by
  obtain ⟨sa, cap, T, q, hM, hL, rfl, hH, hF⟩ := hS
  have hql : (pairsOf T q).length = q.length := by simp [pairsOf]
  refine (skip_get b sa cap T _ st q key w hM hL).mono ?_
  rintro e w' ⟨rfl, hc, st', h1, h2, h3⟩
  obtain ⟨g1, g2⟩ := pairs_getV (T := T) (q := q) key
  exact ⟨by rw [g1, g2], st', ⟨sa, cap, T, q, h1, hL, rfl, hH, hF⟩, h2, by rw [hql]; exact h3, hc⟩
theorem skl_height (key : ByteArray) :
    Calls Try.prog 22 #[.pointer (some ⟨b, 0, none⟩), .string key] w fun e w' => e = .returned (.int .i64 (H key)) ∧
      ∃ st', SkL w' F b P H st' ∧ 0 ≤ st' ∧ st' ≤ (P.length : Int) + 12 ∧ Chg b w w' := by
  obtain ⟨sa, cap, T, q, hM, hL, rfl, hH, hF⟩ := hS
  have hql : (pairsOf T q).length = q.length := by simp [pairsOf]
  refine (skip_height b sa cap T _ st q key w hM hL).mono ?_
  rintro e w' ⟨rfl, hc, st', h1, h2, h3⟩
  exact ⟨by rw [hH], st', ⟨sa, cap, T, q, h1, hL, rfl, hH, hF⟩, h2, by rw [hql]; exact h3, hc⟩
theorem skl_len : Calls Try.prog 11 #[.pointer (some ⟨b, 0, none⟩)] w fun e w' => e = .returned (.int .i64 (P.length : Int)) ∧ w' = w := by
  obtain ⟨sa, cap, T, q, hM, hL, rfl, hH, hF⟩ := hS
  have hlen := pairs_len hL
  refine (skip_len b sa cap T _ st w hM).mono ?_
  rintro e w' ⟨rfl, rfl⟩
  exact ⟨by rw [hlen]; congr 2; omega, rfl⟩
theorem skl_bytes : Calls Try.prog 12 #[.pointer (some ⟨b, 0, none⟩)] w fun e w' => e = .returned (.int .i64 (bytesP P)) ∧ w' = w := by
  obtain ⟨sa, cap, T, q, hM, hL, rfl, hH, hF⟩ := hS
  exact skip_bytes b sa cap T _ st w hM
theorem skl_steps : Calls Try.prog 20 #[.pointer (some ⟨b, 0, none⟩)] w fun e w' => e = .returned (.int .i64 st) ∧ w' = w := by
  obtain ⟨sa, cap, T, q, hM, hL, rfl, hH, hF⟩ := hS
  exact skip_steps b sa cap T _ st w hM
/-- From's rows -/
theorem skl_from_row (key : ByteArray) (Bl Bk : Nat) (most : Int) (hm : -9223372036854775808 ≤ most ∧ most ≤ 9223372036854775807) (hP : P.length ≤ 60000) (hBl : w.heap[Bl]? = some (.cells #[.pointer (some ⟨b, 0, none⟩)] 24 (0, 0))) (hBk : w.heap[Bk]? = some (.cells #[.string key] 9 (0, 0))) :
    Calls Try.prog 16 #[.func (.func 27) #[] #[.pointer (some ⟨Bl, 0, none⟩), .pointer (some ⟨Bk, 0, none⟩)], .int .i64 most] w fun e w' =>
      ∃ a c, e = .returned (.slice a ((fromP P key).take most.toNat).length c) ∧ RowsAt w' a 2 pairRow ((fromP P key).take most.toNat) ∧ (∃ st', SkL w' F b P H st') ∧ ChgQ (fun k => k = b) w w' := by
  obtain ⟨sa, cap, T, q, hM, hL, rfl, hH, hF⟩ := hS
  have hlen := pairs_len hL
  have hql : (pairsOf T q).length = q.length := by simp [pairsOf]
  have hfl := foot_lt hM
  have hBll := heap_lt hBl
  rw [from_pairs]
  have hb := heap_lt hM.own
  refine (law_row 27 b _ (fromL T q key) most q.length (fun W' => ∃ st', SkM W' b sa cap T (bytesP (pairsOf T q)) st') w hb hm (by omega) (by unfold fromL; rw [List.length_map]; exact List.length_filter_le _ _) (fun _ _ => rfl) ?_ ?_).mono ?_
  · rintro A B ⟨st', h⟩ hs
    refine ⟨st', h.of_foot fun k hk => ?_⟩
    have hkA := foot_lt h k hk
    rw [Array.getElem?_eq_getElem hkA]
    exact hs k _ (hfl k hk) (Array.getElem?_eq_getElem hkA)
  · intro W0 hB0 _
    refine from_stops Bl Bk b sa cap T _ st q key _ ⟨?_, ?_, ?_⟩ ?_ W0 (hM.moved hB0) hL ((hB0.block _ (heap_lt hBl)).trans hBl) ((hB0.block _ (heap_lt hBk)).trans hBk)
    · rintro cs fr (h | ⟨cs', fr', h⟩)
      · omega
      · simp only [Obj.cells.injEq] at h; exact absurd h.2.1 (by decide)
    · rintro k o cs fr hk (h | ⟨cs', fr', h⟩)
      · have := hfl k (.inr (.inl ⟨o, hk⟩)); omega
      · simp only [Obj.cells.injEq] at h; exact absurd h.2.1 (by decide)
    · rintro r hr cs fr (h | ⟨cs', fr', h⟩)
      · have := hfl r.nb (.inr (.inr ⟨r, hr, rfl⟩)); omega
      · simp only [Obj.cells.injEq] at h; exact absurd h.2.1 (by decide)
    · rintro cs fr (h | ⟨cs', fr', h⟩)
      · omega
      · simp only [Obj.cells.injEq] at h; exact absurd h.2.1 (by decide)
  · rintro e w' ⟨a, c, rfl, h1, ⟨st', h2⟩, h3⟩
    exact ⟨a, c, rfl, h1, ⟨st', sa, cap, T, q, h2, hL, rfl, hH, hF⟩, h3⟩
end
end Go.Proofs.Ytacgpflheokkaaa
