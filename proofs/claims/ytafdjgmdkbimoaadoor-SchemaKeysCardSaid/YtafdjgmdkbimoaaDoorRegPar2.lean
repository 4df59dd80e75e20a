/-
  A region that draws its order, of operations that leave values and new blocks, and of stores in one forced order beside which some of those (the floating ones) may still be to come.
-/
import Derived.Test.YtafdjgmdkbimoaaDoorRegPar
namespace Go.Proofs.YtafdjgmdkbimoaaDoor
open Go.RowKit
set_option linter.unusedVariables false
set_option linter.unusedSimpArgs false

def parCheck2 (ops : Array Oper) (n : Nat) (slots : List Tmp) (fl : List Nat) : Bool :=
  decide (slots.length = n) && decide slots.Nodup && decide (n < ops.size) && (List.range ops.size).all (fun i => (depsOf ops i).all (fun d => decide (d < i))) &&
  (List.range n).all (fun i => ((ops[i]?).map fun o => decide (o.dst = slots[i]?)).getD false) &&
  (List.range ops.size).all (fun t => decide (t < n) || (((List.range t).all fun j => fl.contains j || (clos ops t (depsOf ops t)).contains j) && ((ops[t]?).map fun o => o.dst.isNone).getD false)) &&
  fl.all (fun j => decide (j < n))

theorem wp_region_par2 {P : Program} {ops : Array Oper} {Q : Exit → Act → World → Prop} {id : Nat} {a : Act} {w : World} (n : Nat) (slots : List Tmp) (al fl : List Nat) (Fct : Nat → Value → World → Prop) (T : Nat → List Value → World → Prop) (hm : P.follows .mixedOrders = true) (hchk : parCheck2 ops n slots fl = true)
    (hF : ∀ j v w w', Fct j v w → Below w.heap.size w w' → Fct j v w')
    (hstep : ∀ i, i < n → ∀ o, ops[i]? = some o → ∀ us wx, us.length = n → Below w.heap.size w wx → (∀ j ∈ depsOf ops i, Fct j (us.getD j undef) wx) →
      ∀ K, (∀ v' w' a', a' = (puts a slots us).put o.dst v' → Fct i v' w' → Below wx.heap.size wx w' → (i ∈ al → ∀ j ∈ al, ∀ v, Fct j v wx → v' ≠ v) → K a' w') → wpList P ops (OnlyN K) [o] (puts a slots us) wx)
    (hdeps : ∀ i ∈ fl, ∀ j ∈ depsOf ops i, j ∈ fl)
    (hT0 : ∀ us wx, us.length = n → Below w.heap.size w wx → (∀ j, j < n → j ∉ fl → Fct j (us.getD j undef) wx) → (∀ i j, i ∈ al → j ∈ al → i < n → j < n → i ≠ j → i ∉ fl → j ∉ fl → us.getD i undef ≠ us.getD j undef) → T 0 us wx)
    (hTfl : ∀ k us wx i v w', us.length = n → i ∈ fl → T k us wx → Below wx.heap.size wx w' → T k (us.set i v) w')
    (htail : ∀ k o, ops[n + k]? = some o → ∀ us wx, us.length = n → Below w.heap.size w wx → T k us wx → (∀ j ∈ depsOf ops (n + k), j ∈ fl → Fct j (us.getD j undef) wx) →
      ∀ K, (∀ w', T (k + 1) us w' → Below w.heap.size w w' → (∀ j ∈ fl, ∀ v, Fct j v wx → Fct j v w') → K (puts a slots us) w') → wpList P ops (OnlyN K) [o] (puts a slots us) wx)
    (hend : ∀ us wx, us.length = n → Below w.heap.size w wx → T (ops.size - n) us wx → (∀ j ∈ fl, Fct j (us.getD j undef) wx) → Q .normal (puts a slots us) wx) :
    (Code.region id ops true).wp P Q a w := by
  simp only [parCheck2, Bool.and_eq_true, decide_eq_true_eq, List.all_eq_true, List.mem_range, Bool.or_eq_true] at hchk
  obtain ⟨⟨⟨⟨⟨⟨c1, c2⟩, c3⟩, c4⟩, c5⟩, c6⟩, c7⟩ := hchk
  have c6' : ∀ s, n ≤ s → s < ops.size → ∀ j, j < s → j ∉ fl → j ∈ clos ops s (depsOf ops s) := fun s h1 h2 j hj hfl => by
    rcases c6 s h2 with h | ⟨h, _⟩
    · omega
    · rcases h j hj with h | h
      · exact absurd (by simpa using h) hfl
      · simpa using h
  have c6d : ∀ s, n ≤ s → s < ops.size → ∀ o, ops[s]? = some o → o.dst = none := fun s h1 h2 o ho => by
    rcases c6 s h2 with h | ⟨_, h⟩
    · omega
    · rw [ho] at h; simpa using h
  have c5' : ∀ i, i < n → ∀ o, ops[i]? = some o → o.dst = slots[i]? := fun i hi o ho => by
    have := c5 i hi
    rw [ho] at this
    simpa using this
  refine wp_region_any hm ?_
  suffices key : ∀ (fuel : Nat) (L : Array Bool) (us : List Value) (wx : World) (k : Nat), L.size = ops.size → (L.toList.filter (· == false)).length ≤ fuel → us.length = n → Below w.heap.size w wx → n + k ≤ ops.size →
      (∀ t, n ≤ t → t < n + k → L.getD t false = true) → (∀ t, n + k ≤ t → t < ops.size → L.getD t true = false) →
      (∀ j, j < n → (k = 0 ∨ j ∈ fl) → L.getD j false = true → Fct j (us.getD j undef) wx) →
      (k = 0 → ∀ i j, i ∈ al → j ∈ al → i < n → j < n → i ≠ j → L.getD i false = true → L.getD j false = true → us.getD i undef ≠ us.getD j undef) →
      (0 < k → T k us wx ∧ ∀ j, j < n → j ∉ fl → L.getD j false = true) → (∀ q, L.getD q false = true → ∀ d ∈ depsOf ops q, L.getD d false = true) →
      wpAny P .any ops Q fuel L (puts a slots us) wx by
    have h := key ops.size (Array.replicate ops.size false) (slots.map fun t => a.tmps.getD t undef) { w with drawn := w.drawn + 1 } 0 (by simp) (by simp) (by simpa using c1) ((Below.refl _ _).trans ⟨rfl, rfl, rfl, Nat.le_refl _, fun _ _ => rfl⟩) (by omega)
      (fun t h1 h2 => by omega) (fun t _ ht => by simp [ht]) (fun j _ _ h => absurd h (by rw [rep_false]; decide)) (fun _ i j _ _ hi _ _ h => absurd h (by rw [rep_false]; decide)) (fun h => absurd h (by omega)) (fun q h => absurd h (by rw [rep_false]; decide))
    rwa [puts_init] at h
  intro fuel
  induction fuel with
  | zero =>
    intro L us wx k hsz hfu hus hB hk htl1 htl2 hf hne hT hcl
    have all : ∀ j, j < ops.size → L.getD j false = true := fun j hj => by
      have h0 : (L.toList.filter (· == false)) = [] := List.eq_nil_of_length_eq_zero (by omega)
      have := List.filter_eq_nil_iff.1 h0 L[j] (by simp)
      rw [Array.getD_eq_getD_getElem?, Array.getElem?_eq_getElem (by omega)]
      simpa using this
    have hke : n + k = ops.size := by
      refine Nat.le_antisymm hk (Nat.le_of_not_lt fun hh => ?_)
      have h1 := htl2 (n + k) (Nat.le_refl _) hh
      have h2 := all (n + k) hh
      rw [Array.getD_eq_getD_getElem?, Array.getElem?_eq_getElem (by omega)] at h1 h2
      simp at h1 h2; rw [h1] at h2; cases h2
    have hk0 : 0 < k := by omega
    refine ⟨?_, ?_⟩
    · rw [List.eq_nil_iff_forall_not_mem]
      intro i hi
      obtain ⟨x1, ⟨o, ho⟩, _⟩ := ready_deps.1 hi
      have hi2 : i < ops.size := (Array.getElem?_eq_some_iff.1 ho).1
      have := all i hi2
      rw [Array.getD_eq_getD_getElem?, Array.getElem?_eq_getElem (by omega)] at x1 this
      simp at x1 this; rw [x1] at this; cases this
    · exact hend us wx hus hB (by rw [show ops.size - n = k by omega]; exact (hT hk0).1) fun j hj => hf j (by have := c7 j hj; simpa using this) (.inr hj) (all j (by have := c7 j hj; omega))
  | succ fuel ih =>
    intro L us wx k hsz hfu hus hB hk htl1 htl2 hf hne hT hcl
    have conv : ∀ j, j < ops.size → L.getD j true = L.getD j false := fun j hj => by
      rw [Array.getD_eq_getD_getElem?, Array.getD_eq_getD_getElem?, Array.getElem?_eq_getElem (by omega)]; rfl
    have count : ∀ i, i < ops.size → L.getD i true = false → ((L.setIfInBounds i true).toList.filter (· == false)).length ≤ fuel := by
      intro i hi2 x1
      have hf1 : ∀ (l : List Bool) (i : Nat), l[i]? = some false → ((l.set i true).filter (· == false)).length + 1 ≤ (l.filter (· == false)).length := by
        intro l
        induction l with
        | nil => intro i h; simp at h
        | cons b l ihl =>
          intro i h
          cases i with
          | zero => simp at h; subst h; simp
          | succ i =>
            have := ihl i (by simpa using h)
            cases b <;> simp at this ⊢ <;> omega
      have hLi : L.toList[i]? = some false := by
        have h1 := x1
        rw [Array.getD_eq_getD_getElem?, Array.getElem?_eq_getElem (by omega)] at h1
        rw [Array.getElem?_toList, Array.getElem?_eq_getElem (by omega)]
        simpa using h1
      have := hf1 _ _ hLi
      rw [Array.toList_setIfInBounds]
      omega
    have clset : ∀ i, (∀ d ∈ depsOf ops i, L.getD d false = true) → ∀ q, (L.setIfInBounds i true).getD q false = true → ∀ d ∈ depsOf ops q, (L.setIfInBounds i true).getD d false = true := by
      intro i x3 q hq d hd
      by_cases e : i = q
      · subst e; exact getD_set_true (x3 d hd)
      · rw [getD_set_ne false e] at hq; exact getD_set_true (hcl q hq d hd)
    refine ⟨fun hnil => ?_, fun i hi => ?_⟩
    · -- nothing is ready: all are listed
      have all : ∀ j, j < ops.size → L.getD j false = true := by
        intro j
        induction j using Nat.strongRecOn with
        | ind j ihj =>
          intro hj
          cases h : L.getD j false with
          | true => rfl
          | false =>
            have : j ∈ Region.ready .any ops L := ready_deps.2 ⟨by rw [conv j hj]; exact h, ⟨_, Array.getElem?_eq_getElem hj⟩, fun d hd => ihj d (c4 j hj d hd) (by have := c4 j hj d hd; omega)⟩
            rw [hnil] at this; cases this
      have hke : n + k = ops.size := by
        refine Nat.le_antisymm hk (Nat.le_of_not_lt fun hh => ?_)
        have h1 := htl2 (n + k) (Nat.le_refl _) hh
        rw [conv _ hh, all _ hh] at h1; cases h1
      have hk0 : 0 < k := by omega
      exact hend us wx hus hB (by rw [show ops.size - n = k by omega]; exact (hT hk0).1) fun j hj => hf j (by have := c7 j hj; simpa using this) (.inr hj) (all j (by have := c7 j hj; omega))
    · obtain ⟨x1, ⟨o, ho⟩, x3⟩ := ready_deps.1 hi
      have hi2 : i < ops.size := (Array.getElem?_eq_some_iff.1 ho).1
      by_cases hin : i < n
      · obtain ⟨t, ht⟩ : ∃ t, slots[i]? = some t := ⟨slots[i], List.getElem?_eq_getElem (by omega)⟩
        have hdst := c5' i hin o ho
        rw [ht] at hdst
        have hifl : 0 < k → i ∈ fl := fun h => by
          refine Classical.byContradiction fun hh => ?_
          have := (hT h).2 i hin hh
          rw [← conv i hi2, x1] at this; cases this
        refine wpOp_of_list ho (hstep i hin o ho us wx hus hB (fun j hj => hf j (by have := c4 i hi2 j hj; omega) ?_ (x3 j hj)) _ ?_)
        · rcases Nat.eq_zero_or_pos k with h | h
          · exact .inl h
          · exact .inr (hdeps i (hifl h) j hj)
        rintro v' w' a' rfl hfi hB' hal
        rw [hdst, puts_set slots us a i t v' c2 (by omega) ht]
        have hget : ∀ j, i ≠ j → (us.set i v').getD j undef = us.getD j undef := fun j h => by
          rw [List.getD_eq_getElem?_getD, List.getD_eq_getElem?_getD, List.getElem?_set_ne h]
        have hgi : (us.set i v').getD i undef = v' := by
          rw [List.getD_eq_getElem?_getD, List.getElem?_set_self (by omega)]; rfl
        refine ih _ _ _ k (by simpa using hsz) (count i hi2 x1) (by simpa using hus) (hB.trans (hB'.mono hB.size)) hk ?_ ?_ ?_ ?_ ?_ (clset i x3)
        · intro q h1 h2; rw [getD_set_ne false (by omega)]; exact htl1 q h1 h2
        · intro q h1 h2; rw [getD_set_ne true (by omega)]; exact htl2 q h1 h2
        · intro j hj hor hL
          by_cases e : i = j
          · subst e; rw [hgi]; exact hfi
          · rw [getD_set_ne false e] at hL
            rw [hget j e]; exact hF _ _ _ _ (hf j hj hor hL) hB'
        · intro hk0 p q hp hq hpn hqn hpq hLp hLq
          by_cases e1 : i = p
          · subst e1
            rw [getD_set_ne false hpq] at hLq
            rw [hgi, hget q hpq]
            exact hal hp q hq _ (hf q hqn (.inl hk0) hLq)
          · rw [getD_set_ne false e1] at hLp
            by_cases e2 : i = q
            · subst e2
              rw [hgi, hget p e1]
              exact fun e => hal hq p hp _ (hf p hpn (.inl hk0) hLp) e.symm
            · rw [getD_set_ne false e2] at hLq
              rw [hget p e1, hget q e2]
              exact hne hk0 p q hp hq hpn hqn hpq hLp hLq
        · intro h
          refine ⟨hTfl k us wx i v' w' hus (hifl h) (hT h).1 hB', fun j hj hnf => ?_⟩
          rw [getD_set_ne false (fun e : i = j => hnf (by rw [← e]; exact hifl h))]; exact (hT h).2 j hj hnf
      · -- a store
        have hin' : n ≤ i := Nat.le_of_not_lt hin
        have hik : i = n + k := by
          refine Nat.le_antisymm (Nat.le_of_not_lt fun hh => ?_) (Nat.le_of_not_lt fun hh => ?_)
          · have := clos_listed hcl i (depsOf ops i) x3 (n + k) (c6' i hin' hi2 (n + k) hh (fun h => by have := c7 _ h; omega))
            have h2 := htl2 (n + k) (Nat.le_refl _) (by omega)
            rw [conv _ (by omega), this] at h2; cases h2
          · have := htl1 i hin' hh
            rw [← conv i hi2, x1] at this; cases this
        subst hik
        have hnf : ∀ j, j < n → j ∉ fl → L.getD j false = true := fun j hj hh => clos_listed hcl _ _ x3 j (c6' _ hin' hi2 j (by omega) hh)
        have hTk : T k us wx := by
          rcases Nat.eq_zero_or_pos k with h | h
          · subst h
            exact hT0 us wx hus hB (fun j hj hh => hf j hj (.inl rfl) (hnf j hj hh)) fun p q hp hq hpn hqn hpq h1 h2 => hne rfl p q hp hq hpn hqn hpq (hnf p hpn h1) (hnf q hqn h2)
          · exact (hT h).1
        refine wpOp_of_list ho (htail k o ho us wx hus hB hTk (fun j hj hfl => hf j (by have := c7 j hfl; simpa using this) (.inr hfl) (x3 j hj)) _ ?_)
        intro w' hT' hB' hfl'
        refine ih _ _ _ (k + 1) (by simpa using hsz) (count _ hi2 x1) hus hB' (by omega) ?_ ?_ ?_ (fun h => by omega) ?_ (clset _ x3)
        · intro q h1 h2
          by_cases e : n + k = q
          · subst e; simp [Array.getElem_setIfInBounds, hsz, hi2]
          · rw [getD_set_ne false e]; exact htl1 q h1 (by omega)
        · intro q h1 h2; rw [getD_set_ne true (by omega)]; exact htl2 q (by omega) h2
        · intro j hj hor hL
          have hjf : j ∈ fl := by rcases hor with h | h; omega; exact h
          rw [getD_set_ne false (by omega)] at hL
          exact hfl' j hjf _ (hf j hj (.inr hjf) hL)
        · intro _
          exact ⟨hT', fun j hj hh => by rw [getD_set_ne false (by omega)]; exact hnf j hj hh⟩
end Go.Proofs.YtafdjgmdkbimoaaDoor
