/-
  A region that draws its order, whose operations keep what a relation says: each is walked once.
-/
import Derived.Test.YtacgpflheokkaaaRegPar
namespace Go.Proofs.Ytacgpflheokkaaa
open Go.RowKit
set_option linter.unusedVariables false
set_option linter.unusedSimpArgs false

section
variable {P : Program} {ops : Array Oper} {Q : Exit → Act → World → Prop}
theorem wp_region_parR {id : Nat} {a : Act} {w : World} (n : Nat) (slots : List Tmp) (al : List Nat) (Fct : Nat → Value → World → Prop) (Rel : World → World → Prop) (hRd : Rel w { w with drawn := w.drawn + 1 }) (hRt : ∀ A B C, Rel A B → Rel B C → Rel A C) (hm : P.follows .mixedOrders = true) (hchk : parCheck ops n slots = true)
    (hF : ∀ j v w w', Fct j v w → Rel w w' → Fct j v w')
    (hstep : ∀ i, i < n → ∀ o, ops[i]? = some o → ∀ us wx, us.length = n → Rel w wx → (∀ j ∈ depsOf ops i, Fct j (us.getD j undef) wx) →
      ∀ K, (∀ v' w' a', a' = (puts a slots us).put o.dst v' → Fct i v' w' → Rel wx w' → (i ∈ al → ∀ j ∈ al, ∀ v, Fct j v wx → v' ≠ v) → K a' w') → wpList P ops (OnlyN K) [o] (puts a slots us) wx)
    (htail : ∀ us wx, us.length = n → Rel w wx → (∀ j, j < n → Fct j (us.getD j undef) wx) → (∀ i j, i ∈ al → j ∈ al → i < n → j < n → i ≠ j → us.getD i undef ≠ us.getD j undef) → wpList P ops Q (ops.toList.drop n) (puts a slots us) wx) :
    (Code.region id ops true).wp P Q a w := by
  simp only [parCheck, Bool.and_eq_true, decide_eq_true_eq, List.all_eq_true, List.mem_range, Bool.or_eq_true] at hchk
  obtain ⟨⟨⟨⟨⟨c1, c2⟩, c3⟩, c4⟩, c5⟩, c6⟩ := hchk
  have c6' : ∀ s, n ≤ s → s < ops.size → ∀ j, j < s → j ∈ clos ops s (depsOf ops s) := fun s h1 h2 j hj => by
    rcases c6 s h2 with h | h
    · omega
    · simpa using h j hj
  have c5' : ∀ i, i < n → ∀ o, ops[i]? = some o → o.dst = slots[i]? := fun i hi o ho => by
    have := c5 i hi
    rw [ho] at this
    simpa using this
  refine wp_region_any hm ?_
  suffices key : ∀ (fuel : Nat) (L : Array Bool) (us : List Value) (wx : World), L.size = ops.size → (L.toList.filter (· == false)).length ≤ fuel → us.length = n → Rel w wx → (∀ j, j < n → L.getD j false = true → Fct j (us.getD j undef) wx) →
      (∀ i j, i ∈ al → j ∈ al → i < n → j < n → i ≠ j → L.getD i false = true → L.getD j false = true → us.getD i undef ≠ us.getD j undef) → (∀ t, n ≤ t → t < ops.size → L.getD t true = false) → (∀ k, L.getD k false = true → ∀ d ∈ depsOf ops k, L.getD d false = true) →
      wpAny P .any ops Q fuel L (puts a slots us) wx by
    have h := key ops.size (Array.replicate ops.size false) (slots.map fun t => a.tmps.getD t undef) { w with drawn := w.drawn + 1 } (by simp) (by simp) (by simpa using c1) hRd
      (fun j hj h => absurd h (by rw [rep_false]; decide)) (fun i j _ _ hi _ _ h => absurd h (by rw [rep_false]; decide)) (fun t _ ht => by simp [ht]) (fun k h => absurd h (by rw [rep_false]; decide))
    rwa [puts_init] at h
  intro fuel
  induction fuel with
  | zero =>
    intro L us wx hsz hfu hus hB hf hne htl hcl
    have all : ∀ j, j < ops.size → L.getD j false = true := fun j hj => by
      have h0 : (L.toList.filter (· == false)) = [] := List.eq_nil_of_length_eq_zero (by omega)
      have := List.filter_eq_nil_iff.1 h0 L[j] (by simp)
      rw [Array.getD_eq_getD_getElem?, Array.getElem?_eq_getElem (by omega)]
      simpa using this
    refine wpAny_tail c4 0 n L _ _ ?_ hsz (fun j _ h => all j h) (fun j h1 h2 => htl j h1 h2) c6' hcl (htail us wx hus hB (fun j hj => hf j hj (all j (by omega))) fun i j h1 h2 h3 h4 h5 => hne i j h1 h2 h3 h4 h5 (all i (by omega)) (all j (by omega)))
    refine Nat.le_of_not_lt fun hh => ?_
    have h1 := htl n (Nat.le_refl _) (by omega)
    have h2 := all n (by omega)
    rw [Array.getD_eq_getD_getElem?, Array.getElem?_eq_getElem (by omega)] at h1 h2
    simp at h1 h2; rw [h1] at h2; cases h2
  | succ fuel ih =>
    intro L us wx hsz hfu hus hB hf hne htl hcl
    have conv : ∀ j, j < ops.size → L.getD j true = L.getD j false := fun j hj => by
      rw [Array.getD_eq_getD_getElem?, Array.getD_eq_getD_getElem?, Array.getElem?_eq_getElem (by omega)]; rfl
    by_cases hall : ∀ j, j < n → L.getD j false = true
    · -- the tail
      refine wpAny_tail c4 (fuel + 1) n L _ _ ?_ hsz (fun j h _ => hall j h) (fun j h1 h2 => htl j h1 h2) c6' hcl (htail us wx hus hB (fun j hj => hf j hj (hall j hj)) fun i j h1 h2 h3 h4 h5 => hne i j h1 h2 h3 h4 h5 (hall i h3) (hall j h4))
      -- as many are unlisted as there are in the tail
      have hcount : ∀ (l : List Bool) (n : Nat), (∀ j (h : j < l.length), n ≤ j → l[j] = false) → l.length ≤ n + (l.filter (· == false)).length := by
        intro l
        induction l with
        | nil => intro n _; simp
        | cons b l ihl =>
          intro n h
          cases n with
          | zero =>
            have hb := h 0 (by simp) (by omega)
            simp only [List.getElem_cons_zero] at hb
            have := ihl 0 (fun j hj _ => by have := h (j + 1) (by simpa using hj) (by omega); simpa using this)
            subst hb
            simp; simpa using this
          | succ n =>
            have := ihl n (fun j hj hn => by have := h (j + 1) (by simpa using hj) (by omega); simpa using this)
            have h2 : (l.filter (· == false)).length ≤ ((b :: l).filter (· == false)).length := by
              cases b <;> simp
            simp only [List.length_cons]; omega
      have := hcount L.toList n (fun j hj hn => by
        have h1 := htl j hn (by simpa [hsz] using hj)
        rw [Array.getD_eq_getD_getElem?, Array.getElem?_eq_getElem (by simpa using hj)] at h1
        simpa using h1)
      rw [Array.length_toList, hsz] at this
      omega
    · -- some operation of the first part is to come
      obtain ⟨m, hm1, hm2, hm3⟩ : ∃ m, m < n ∧ L.getD m false = false ∧ ∀ j, j < m → L.getD j false = true := by
        have : ∃ m, m < n ∧ L.getD m false = false := by
          refine Classical.byContradiction fun hc => hall fun j hj => ?_
          cases h : L.getD j false with
          | true => rfl
          | false => exact absurd ⟨j, hj, h⟩ hc
        obtain ⟨m, h1, h2⟩ := this
        induction m using Nat.strongRecOn with
        | ind m ihm =>
          by_cases hh : ∀ j, j < m → L.getD j false = true
          · exact ⟨m, h1, h2, hh⟩
          · have : ∃ j, j < m ∧ L.getD j false = false := by
              refine Classical.byContradiction fun hc => hh fun j hj => ?_
              cases h : L.getD j false with
              | true => rfl
              | false => exact absurd ⟨j, hj, h⟩ hc
            obtain ⟨j, hj, hjf⟩ := this
            exact ihm j hj (by omega) hjf
      have hmr : m ∈ Region.ready .any ops L := ready_deps.2 ⟨by rw [conv m (by omega)]; exact hm2, ⟨_, Array.getElem?_eq_getElem (by omega)⟩, fun d hd => hm3 d (c4 m (by omega) d hd)⟩
      refine ⟨fun e => (by rw [e] at hmr; cases hmr), fun i hi => ?_⟩
      obtain ⟨x1, ⟨o, ho⟩, x3⟩ := ready_deps.1 hi
      have hi2 : i < ops.size := (Array.getElem?_eq_some_iff.1 ho).1
      have hin : i < n := by
        refine Nat.lt_of_not_le fun hh => ?_
        have := clos_listed hcl i (depsOf ops i) x3 m (c6' i hh hi2 m (by omega))
        rw [hm2] at this; cases this
      have hlen : slots.length = n := c1
      obtain ⟨t, ht⟩ : ∃ t, slots[i]? = some t := ⟨slots[i], List.getElem?_eq_getElem (by omega)⟩
      have hdst := c5' i hin o ho
      rw [ht] at hdst
      refine wpOp_of_list ho (hstep i hin o ho us wx hus hB (fun j hj => hf j (by have := c4 i hi2 j hj; omega) (x3 j hj)) _ ?_)
      rintro v' w' a' rfl hfi hB' hal
      rw [hdst, puts_set slots us a i t v' c2 (by omega) ht]
      have hget : ∀ j, i ≠ j → (us.set i v').getD j undef = us.getD j undef := fun j h => by
        rw [List.getD_eq_getElem?_getD, List.getD_eq_getElem?_getD, List.getElem?_set_ne h]
      have hgi : (us.set i v').getD i undef = v' := by
        rw [List.getD_eq_getElem?_getD, List.getElem?_set_self (by omega)]; rfl
      refine ih _ _ _ (by simpa using hsz) ?_ (by simpa using hus) (hRt _ _ _ hB hB') ?_ ?_ ?_ ?_
      · -- one fewer
        have hf1 : ∀ (l : List Bool) (i : Nat), l[i]? = some false → ((l.set i true).filter (· == false)).length + 1 ≤ (l.filter (· == false)).length := by
          intro l
          induction l with
          | nil => intro i h; simp at h
          | cons b l ihl =>
            intro i h
            cases i with
            | zero => simp at h; subst h; simp
            | succ i =>
              have := ihl i (by simpa using h)
              cases b <;> simp at this ⊢ <;> omega
        have hLi : L.toList[i]? = some false := by
          have h1 := x1
          rw [Array.getD_eq_getD_getElem?, Array.getElem?_eq_getElem (by omega)] at h1
          rw [Array.getElem?_toList, Array.getElem?_eq_getElem (by omega)]
          simpa using h1
        have := hf1 _ _ hLi
        rw [Array.toList_setIfInBounds]
        omega
      · intro j hj hL
        by_cases e : i = j
        · subst e; rw [hgi]; exact hfi
        · rw [getD_set_ne false e] at hL
          rw [hget j e]; exact hF _ _ _ _ (hf j hj hL) hB'
      · intro p q hp hq hpn hqn hpq hLp hLq
        by_cases e1 : i = p
        · subst e1
          rw [getD_set_ne false hpq] at hLq
          rw [hgi, hget q hpq]
          exact hal hp q hq _ (hf q hqn hLq)
        · rw [getD_set_ne false e1] at hLp
          by_cases e2 : i = q
          · subst e2
            rw [hgi, hget p e1]
            exact fun e => hal hq p hp _ (hf p hpn hLp) e.symm
          · rw [getD_set_ne false e2] at hLq
            rw [hget p e1, hget q e2]
            exact hne p q hp hq hpn hqn hpq hLp hLq
      · intro t' h1 h2
        rw [getD_set_ne true (by omega)]; exact htl t' h1 h2
      · intro k hk d hd
        by_cases e : i = k
        · subst e; exact getD_set_true (x3 d hd)
        · rw [getD_set_ne false e] at hk; exact getD_set_true (hcl k hk d hd)
end
end Go.Proofs.Ytacgpflheokkaaa
