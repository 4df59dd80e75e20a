/-
  A region that draws its order, whose operations each leave a value and new blocks alone, ahead of a tail in one forced order: each operation is walked once, whatever the order.
-/
import Derived.Test.YtacgpflheokkaaaBase
import Derived.Orders
namespace Go.Proofs.Ytacgpflheokkaaa
open Go.RowKit
set_option linter.unusedVariables false
set_option linter.unusedSimpArgs false

def OnlyN (K : Act → World → Prop) : Exit → Act → World → Prop
  | .normal, a, w => K a w
  | _, _, _ => False
def puts (a : Act) : List Tmp → List Value → Act
  | t :: ts, v :: vs => puts (a.put (some t) v) ts vs
  | _, _ => a
def depsOf (ops : Array Oper) (i : Nat) : List Nat := ((ops[i]?).map fun o => (o.after.toList.filter (Region.binds .any)).map (·.on)).getD []
def clos (ops : Array Oper) : Nat → List Nat → List Nat
  | 0, acc => acc
  | k + 1, acc => clos ops k (if acc.contains k then acc ++ depsOf ops k else acc)
def parCheck (ops : Array Oper) (n : Nat) (slots : List Tmp) : Bool :=
  decide (slots.length = n) && decide slots.Nodup && decide (n ≤ ops.size) && (List.range ops.size).all (fun i => (depsOf ops i).all (fun d => decide (d < i))) &&
  (List.range n).all (fun i => ((ops[i]?).map fun o => decide (o.dst = slots[i]?)).getD false) &&
  (List.range ops.size).all (fun t => decide (t < n) || (List.range t).all fun j => (clos ops t (depsOf ops t)).contains j)

theorem put_self (a : Act) (t : Tmp) : a.put (some t) (a.tmps.getD t undef) = a := by
  obtain ⟨ts, ds⟩ := a
  simp only [Act.put]
  congr 1
  apply Array.ext
  · simp
  · intro i h1 h2
    rw [Array.getElem_setIfInBounds]
    split
    · rename_i h; subst h; simp [Array.getD, h2]
    · rfl
theorem put_put (a : Act) (t : Tmp) (u v : Value) : (a.put (some t) u).put (some t) v = a.put (some t) v := by
  obtain ⟨ts, ds⟩ := a
  show Act.mk ((ts.setIfInBounds t u).setIfInBounds t v) ds = Act.mk (ts.setIfInBounds t v) ds
  congr 1
  apply Array.ext
  · simp
  · intro i h1 h2
    by_cases e : t = i
    · subst e; simp
    · simp [Array.getElem_setIfInBounds, e]
theorem rep_false (m j : Nat) : (Array.replicate m false).getD j false = false := by
  rw [Array.getD_eq_getD_getElem?, Array.getElem?_replicate]
  split <;> rfl
theorem puts_init (a : Act) : ∀ slots : List Tmp, puts a slots (slots.map fun t => a.tmps.getD t undef) = a
  | [] => rfl
  | t :: ts => by simp only [List.map_cons, puts, put_self]; exact puts_init a ts
theorem puts_put : ∀ (slots : List Tmp) (us : List Value) (a : Act) (t : Tmp) (v : Value), t ∉ slots → (puts a slots us).put (some t) v = puts (a.put (some t) v) slots us
  | [], _, _, _, _, _ => by simp [puts]
  | _ :: _, [], _, _, _, _ => by simp [puts]
  | s :: ss, u :: us, a, t, v, h => by
    simp only [List.mem_cons, not_or] at h
    simp only [puts]
    rw [puts_put ss us _ t v h.2, Act.put_comm a u v (by rintro d hd e; cases hd; cases e; exact h.1 rfl)]
theorem puts_set : ∀ (slots : List Tmp) (us : List Value) (a : Act) (i : Nat) (t : Tmp) (v : Value), slots.Nodup → us.length = slots.length → slots[i]? = some t → (puts a slots us).put (some t) v = puts a slots (us.set i v)
  | [], _, _, _, _, _, _, _, h => by simp at h
  | _ :: _, [], _, _, _, _, _, h, _ => by simp at h
  | s :: ss, u :: us, a, 0, t, v, hn, hl, h => by
    simp only [List.getElem?_cons_zero, Option.some.injEq] at h
    subst h
    simp only [List.set_cons_zero, puts]
    rw [puts_put ss us _ s v (List.nodup_cons.1 hn).1, put_put]
  | s :: ss, u :: us, a, i + 1, t, v, hn, hl, h => by
    simp only [List.getElem?_cons_succ] at h
    simp only [List.set_cons_succ, puts]
    exact puts_set ss us _ i t v (List.nodup_cons.1 hn).2 (by simpa using hl) h

section
variable {P : Program} {ops : Array Oper} {Q : Exit → Act → World → Prop}
theorem wpOp_of_list {i : Nat} {o : Oper} (hi : ops[i]? = some o) {K : Act → World → Prop} {a : Act} {w : World} (h : wpList P ops (OnlyN K) [o] a w) : wpOp P ops Q i K a w := by
  unfold wpOp
  simp only [hi]
  unfold wpList at h
  split at h
  · rename_i hw
    rw [if_pos hw]
    rcases h with h | ⟨_, a, w, h⟩
    · left
      unfold Oper.wp at *
      generalize (execOp a.eval o).run P w = r at *
      cases r with
      | ok n w' =>
        cases n <;> simp only [Oper.upon] at h ⊢ <;>
          first
            | exact h
            | exact Calls.mono h (fun e w'' he => by
                cases e with
                | returned v => exact he
                | panicked c => exact False.elim he
                | outgrown => obtain ⟨_, _, he⟩ := he; exact False.elim he)
            | exact Rows.mono h (fun _ _ he => he)
      | halt x w' => cases x <;> simp only [Oper.upon] at h ⊢ <;> exact False.elim h
    · exact False.elim h
  · rename_i hw
    rw [if_neg hw]
    exact h

theorem mem_depsOf {i d : Nat} {o : Oper} (hi : ops[i]? = some o) : d ∈ depsOf ops i ↔ ∃ e ∈ o.after, Region.binds .any e = true ∧ e.on = d := by
  simp only [depsOf, hi, Option.map_some, Option.getD_some, List.mem_map, List.mem_filter, Array.mem_toList_iff]
  constructor
  · rintro ⟨e, ⟨h1, h2⟩, h3⟩; exact ⟨e, h1, h2, h3⟩
  · rintro ⟨e, h1, h2, h3⟩; exact ⟨e, ⟨h1, h2⟩, h3⟩
theorem ready_deps {i : Nat} {L : Array Bool} : i ∈ Region.ready .any ops L ↔ L.getD i true = false ∧ (∃ o, ops[i]? = some o) ∧ ∀ d ∈ depsOf ops i, L.getD d false = true := by
  rw [mem_ready]
  constructor
  · rintro ⟨h1, o, ho, h2⟩
    refine ⟨h1, ⟨o, ho⟩, fun d hd => ?_⟩
    obtain ⟨e, h3, h4, rfl⟩ := (mem_depsOf ho).1 hd
    exact h2 e h3 h4
  · rintro ⟨h1, ⟨o, ho⟩, h2⟩
    exact ⟨h1, o, ho, fun e he hb => h2 _ ((mem_depsOf ho).2 ⟨e, he, hb, rfl⟩)⟩

/-- all that an operation waits for, listed -/
theorem clos_listed {L : Array Bool} (hcl : ∀ k, L.getD k false = true → ∀ d ∈ depsOf ops k, L.getD d false = true) : ∀ (k : Nat) (acc : List Nat), (∀ d ∈ acc, L.getD d false = true) → ∀ d ∈ clos ops k acc, L.getD d false = true
  | 0, acc, h => h
  | k + 1, acc, h => by
    unfold clos
    refine clos_listed hcl k _ ?_
    split
    · rename_i hc
      intro d hd
      rcases List.mem_append.1 hd with h1 | h1
      · exact h d h1
      · exact hcl k (h k (by simpa using hc)) d h1
    · exact h

/-- the tail: one order -/
theorem wpAny_tail (hlt : ∀ i, i < ops.size → ∀ d ∈ depsOf ops i, d < i) : ∀ (fuel t : Nat) (L : Array Bool) (a : Act) (w : World), ops.size ≤ t + fuel → L.size = ops.size → (∀ j, j < t → j < ops.size → L.getD j false = true) → (∀ j, t ≤ j → j < ops.size → L.getD j true = false) →
    (∀ s, t ≤ s → s < ops.size → ∀ j, j < s → j ∈ clos ops s (depsOf ops s)) → (∀ k, L.getD k false = true → ∀ d ∈ depsOf ops k, L.getD d false = true) → wpList P ops Q (ops.toList.drop t) a w → wpAny P .any ops Q fuel L a w := by
  intro fuel
  induction fuel with
  | zero =>
    intro t L a w hf hsz h1 h2 h3 hcl h
    refine ⟨?_, ?_⟩
    · rw [List.eq_nil_iff_forall_not_mem]
      intro i hi
      obtain ⟨x1, ⟨o, ho⟩, _⟩ := ready_deps.1 hi
      have hi2 : i < ops.size := (Array.getElem?_eq_some_iff.1 ho).1
      have := h1 i (by omega) hi2
      rw [Array.getD_eq_getD_getElem?, Array.getElem?_eq_getElem (by omega)] at x1 this
      simp at x1 this; rw [x1] at this; cases this
    · rw [List.drop_of_length_le (by simp; omega)] at h
      exact h
  | succ fuel ih =>
    intro t L a w hf hsz h1 h2 h3 hcl h
    have conv : ∀ j, j < ops.size → L.getD j true = L.getD j false := fun j hj => by
      rw [Array.getD_eq_getD_getElem?, Array.getD_eq_getD_getElem?, Array.getElem?_eq_getElem (by omega)]; rfl
    rcases Nat.lt_or_ge t ops.size with ht | ht
    · -- the next one is ready
      have htr : t ∈ Region.ready .any ops L := ready_deps.2 ⟨h2 t (Nat.le_refl _) ht, ⟨_, Array.getElem?_eq_getElem ht⟩, fun d hd => h1 d (hlt t ht d hd) (by have := hlt t ht d hd; omega)⟩
      refine ⟨fun e => (by rw [e] at htr; cases htr), fun i hi => ?_⟩
      obtain ⟨x1, ⟨o, ho⟩, x3⟩ := ready_deps.1 hi
      have hi2 : i < ops.size := (Array.getElem?_eq_some_iff.1 ho).1
      have hti : t ≤ i := by
        refine Nat.le_of_not_lt fun hh => ?_
        have := h1 i hh hi2
        rw [← conv i hi2, x1] at this; cases this
      have hit : i = t := by
        refine Nat.le_antisymm (Nat.le_of_not_lt fun hh => ?_) hti
        have := clos_listed hcl i (depsOf ops i) x3 t (h3 i hti hi2 t hh)
        rw [← conv t ht, h2 t (Nat.le_refl _) ht] at this; cases this
      subst hit
      have hd : ops.toList.drop i = o :: ops.toList.drop (i + 1) := by
        rw [List.drop_eq_getElem_cons (by simpa using hi2)]
        congr 1
        have := (Array.getElem?_eq_some_iff.1 ho).2
        simpa using this
      rw [hd] at h
      unfold wpOp
      simp only [ho]
      have step : ∀ a' w', wpList P ops Q (ops.toList.drop (i + 1)) a' w' → wpAny P .any ops Q fuel (L.setIfInBounds i true) a' w' := fun a' w' hh => by
        refine ih (i + 1) _ a' w' (by omega) (by simpa using hsz) ?_ ?_ (fun s hs => h3 s (by omega)) ?_ hh
        · intro j hj hj2
          by_cases e : i = j
          · subst e; simp [Array.getElem_setIfInBounds, hsz, hj2]
          · rw [getD_set_ne false e]; exact h1 j (by omega) hj2
        · intro j hj hj2; rw [getD_set_ne true (by omega)]; exact h2 j (by omega) hj2
        · intro k hk d hd
          by_cases e : i = k
          · subst e; exact getD_set_true (x3 d hd)
          · rw [getD_set_ne false e] at hk; exact getD_set_true (hcl k hk d hd)
      unfold wpList at h
      split at h
      · rename_i hw
        rw [if_pos hw]
        exact h.imp (Oper.wp_mono step) id
      · rename_i hw
        rw [if_neg hw]
        exact step _ _ h
    · have hnil : Region.ready .any ops L = [] := by
        rw [List.eq_nil_iff_forall_not_mem]
        intro i hi
        obtain ⟨x1, ⟨o, ho⟩, _⟩ := ready_deps.1 hi
        have hi2 : i < ops.size := (Array.getElem?_eq_some_iff.1 ho).1
        have := h1 i (by omega) hi2
        rw [← conv i hi2, x1] at this; cases this
      rw [List.drop_of_length_le (by simp; omega)] at h
      exact ⟨fun _ => h, fun i hi => by rw [hnil] at hi; cases hi⟩

theorem wp_region_par {id : Nat} {a : Act} {w : World} (n : Nat) (slots : List Tmp) (al : List Nat) (Fct : Nat → Value → World → Prop) (hm : P.follows .mixedOrders = true) (hchk : parCheck ops n slots = true)
    (hF : ∀ j v w w', Fct j v w → Below w.heap.size w w' → Fct j v w')
    (hstep : ∀ i, i < n → ∀ o, ops[i]? = some o → ∀ us wx, us.length = n → Below w.heap.size w wx → (∀ j ∈ depsOf ops i, Fct j (us.getD j undef) wx) →
      ∀ K, (∀ v' w' a', a' = (puts a slots us).put o.dst v' → Fct i v' w' → Below wx.heap.size wx w' → (i ∈ al → ∀ j ∈ al, ∀ v, Fct j v wx → v' ≠ v) → K a' w') → wpList P ops (OnlyN K) [o] (puts a slots us) wx)
    (htail : ∀ us wx, us.length = n → Below w.heap.size w wx → (∀ j, j < n → Fct j (us.getD j undef) wx) → (∀ i j, i ∈ al → j ∈ al → i < n → j < n → i ≠ j → us.getD i undef ≠ us.getD j undef) → wpList P ops Q (ops.toList.drop n) (puts a slots us) wx) :
    (Code.region id ops true).wp P Q a w := by
  simp only [parCheck, Bool.and_eq_true, decide_eq_true_eq, List.all_eq_true, List.mem_range, Bool.or_eq_true] at hchk
  obtain ⟨⟨⟨⟨⟨c1, c2⟩, c3⟩, c4⟩, c5⟩, c6⟩ := hchk
  have c6' : ∀ s, n ≤ s → s < ops.size → ∀ j, j < s → j ∈ clos ops s (depsOf ops s) := fun s h1 h2 j hj => by
    rcases c6 s h2 with h | h
    · omega
    · simpa using h j hj
  have c5' : ∀ i, i < n → ∀ o, ops[i]? = some o → o.dst = slots[i]? := fun i hi o ho => by
    have := c5 i hi
    rw [ho] at this
    simpa using this
  refine wp_region_any hm ?_
  suffices key : ∀ (fuel : Nat) (L : Array Bool) (us : List Value) (wx : World), L.size = ops.size → (L.toList.filter (· == false)).length ≤ fuel → us.length = n → Below w.heap.size w wx → (∀ j, j < n → L.getD j false = true → Fct j (us.getD j undef) wx) →
      (∀ i j, i ∈ al → j ∈ al → i < n → j < n → i ≠ j → L.getD i false = true → L.getD j false = true → us.getD i undef ≠ us.getD j undef) → (∀ t, n ≤ t → t < ops.size → L.getD t true = false) → (∀ k, L.getD k false = true → ∀ d ∈ depsOf ops k, L.getD d false = true) →
      wpAny P .any ops Q fuel L (puts a slots us) wx by
    have h := key ops.size (Array.replicate ops.size false) (slots.map fun t => a.tmps.getD t undef) { w with drawn := w.drawn + 1 } (by simp) (by simp) (by simpa using c1) ((Below.refl _ _).trans ⟨rfl, rfl, rfl, Nat.le_refl _, fun _ _ => rfl⟩)
      (fun j hj h => absurd h (by rw [rep_false]; decide)) (fun i j _ _ hi _ _ h => absurd h (by rw [rep_false]; decide)) (fun t _ ht => by simp [ht]) (fun k h => absurd h (by rw [rep_false]; decide))
    rwa [puts_init] at h
  intro fuel
  induction fuel with
  | zero =>
    intro L us wx hsz hfu hus hB hf hne htl hcl
    have all : ∀ j, j < ops.size → L.getD j false = true := fun j hj => by
      have h0 : (L.toList.filter (· == false)) = [] := List.eq_nil_of_length_eq_zero (by omega)
      have := List.filter_eq_nil_iff.1 h0 L[j] (by simp)
      rw [Array.getD_eq_getD_getElem?, Array.getElem?_eq_getElem (by omega)]
      simpa using this
    refine wpAny_tail c4 0 n L _ _ ?_ hsz (fun j _ h => all j h) (fun j h1 h2 => htl j h1 h2) c6' hcl (htail us wx hus hB (fun j hj => hf j hj (all j (by omega))) fun i j h1 h2 h3 h4 h5 => hne i j h1 h2 h3 h4 h5 (all i (by omega)) (all j (by omega)))
    refine Nat.le_of_not_lt fun hh => ?_
    have h1 := htl n (Nat.le_refl _) (by omega)
    have h2 := all n (by omega)
    rw [Array.getD_eq_getD_getElem?, Array.getElem?_eq_getElem (by omega)] at h1 h2
    simp at h1 h2; rw [h1] at h2; cases h2
  | succ fuel ih =>
    intro L us wx hsz hfu hus hB hf hne htl hcl
    have conv : ∀ j, j < ops.size → L.getD j true = L.getD j false := fun j hj => by
      rw [Array.getD_eq_getD_getElem?, Array.getD_eq_getD_getElem?, Array.getElem?_eq_getElem (by omega)]; rfl
    by_cases hall : ∀ j, j < n → L.getD j false = true
    · -- the tail
      refine wpAny_tail c4 (fuel + 1) n L _ _ ?_ hsz (fun j h _ => hall j h) (fun j h1 h2 => htl j h1 h2) c6' hcl (htail us wx hus hB (fun j hj => hf j hj (hall j hj)) fun i j h1 h2 h3 h4 h5 => hne i j h1 h2 h3 h4 h5 (hall i h3) (hall j h4))
      -- as many are unlisted as there are in the tail
      have hcount : ∀ (l : List Bool) (n : Nat), (∀ j (h : j < l.length), n ≤ j → l[j] = false) → l.length ≤ n + (l.filter (· == false)).length := by
        intro l
        induction l with
        | nil => intro n _; simp
        | cons b l ihl =>
          intro n h
          cases n with
          | zero =>
            have hb := h 0 (by simp) (by omega)
            simp only [List.getElem_cons_zero] at hb
            have := ihl 0 (fun j hj _ => by have := h (j + 1) (by simpa using hj) (by omega); simpa using this)
            subst hb
            simp; simpa using this
          | succ n =>
            have := ihl n (fun j hj hn => by have := h (j + 1) (by simpa using hj) (by omega); simpa using this)
            have h2 : (l.filter (· == false)).length ≤ ((b :: l).filter (· == false)).length := by
              cases b <;> simp
            simp only [List.length_cons]; omega
      have := hcount L.toList n (fun j hj hn => by
        have h1 := htl j hn (by simpa [hsz] using hj)
        rw [Array.getD_eq_getD_getElem?, Array.getElem?_eq_getElem (by simpa using hj)] at h1
        simpa using h1)
      rw [Array.length_toList, hsz] at this
      omega
    · -- some operation of the first part is to come
      obtain ⟨m, hm1, hm2, hm3⟩ : ∃ m, m < n ∧ L.getD m false = false ∧ ∀ j, j < m → L.getD j false = true := by
        have : ∃ m, m < n ∧ L.getD m false = false := by
          refine Classical.byContradiction fun hc => hall fun j hj => ?_
          cases h : L.getD j false with
          | true => rfl
          | false => exact absurd ⟨j, hj, h⟩ hc
        obtain ⟨m, h1, h2⟩ := this
        induction m using Nat.strongRecOn with
        | ind m ihm =>
          by_cases hh : ∀ j, j < m → L.getD j false = true
          · exact ⟨m, h1, h2, hh⟩
          · have : ∃ j, j < m ∧ L.getD j false = false := by
              refine Classical.byContradiction fun hc => hh fun j hj => ?_
              cases h : L.getD j false with
              | true => rfl
              | false => exact absurd ⟨j, hj, h⟩ hc
            obtain ⟨j, hj, hjf⟩ := this
            exact ihm j hj (by omega) hjf
      have hmr : m ∈ Region.ready .any ops L := ready_deps.2 ⟨by rw [conv m (by omega)]; exact hm2, ⟨_, Array.getElem?_eq_getElem (by omega)⟩, fun d hd => hm3 d (c4 m (by omega) d hd)⟩
      refine ⟨fun e => (by rw [e] at hmr; cases hmr), fun i hi => ?_⟩
      obtain ⟨x1, ⟨o, ho⟩, x3⟩ := ready_deps.1 hi
      have hi2 : i < ops.size := (Array.getElem?_eq_some_iff.1 ho).1
      have hin : i < n := by
        refine Nat.lt_of_not_le fun hh => ?_
        have := clos_listed hcl i (depsOf ops i) x3 m (c6' i hh hi2 m (by omega))
        rw [hm2] at this; cases this
      have hlen : slots.length = n := c1
      obtain ⟨t, ht⟩ : ∃ t, slots[i]? = some t := ⟨slots[i], List.getElem?_eq_getElem (by omega)⟩
      have hdst := c5' i hin o ho
      rw [ht] at hdst
      refine wpOp_of_list ho (hstep i hin o ho us wx hus hB (fun j hj => hf j (by have := c4 i hi2 j hj; omega) (x3 j hj)) _ ?_)
      rintro v' w' a' rfl hfi hB' hal
      rw [hdst, puts_set slots us a i t v' c2 (by omega) ht]
      have hget : ∀ j, i ≠ j → (us.set i v').getD j undef = us.getD j undef := fun j h => by
        rw [List.getD_eq_getElem?_getD, List.getD_eq_getElem?_getD, List.getElem?_set_ne h]
      have hgi : (us.set i v').getD i undef = v' := by
        rw [List.getD_eq_getElem?_getD, List.getElem?_set_self (by omega)]; rfl
      refine ih _ _ _ (by simpa using hsz) ?_ (by simpa using hus) (hB.trans (hB'.mono hB.size)) ?_ ?_ ?_ ?_
      · -- one fewer
        have hf1 : ∀ (l : List Bool) (i : Nat), l[i]? = some false → ((l.set i true).filter (· == false)).length + 1 ≤ (l.filter (· == false)).length := by
          intro l
          induction l with
          | nil => intro i h; simp at h
          | cons b l ihl =>
            intro i h
            cases i with
            | zero => simp at h; subst h; simp
            | succ i =>
              have := ihl i (by simpa using h)
              cases b <;> simp at this ⊢ <;> omega
        have hLi : L.toList[i]? = some false := by
          have h1 := x1
          rw [Array.getD_eq_getD_getElem?, Array.getElem?_eq_getElem (by omega)] at h1
          rw [Array.getElem?_toList, Array.getElem?_eq_getElem (by omega)]
          simpa using h1
        have := hf1 _ _ hLi
        rw [Array.toList_setIfInBounds]
        omega
      · intro j hj hL
        by_cases e : i = j
        · subst e; rw [hgi]; exact hfi
        · rw [getD_set_ne false e] at hL
          rw [hget j e]; exact hF _ _ _ _ (hf j hj hL) hB'
      · intro p q hp hq hpn hqn hpq hLp hLq
        by_cases e1 : i = p
        · subst e1
          rw [getD_set_ne false hpq] at hLq
          rw [hgi, hget q hpq]
          exact hal hp q hq _ (hf q hqn hLq)
        · rw [getD_set_ne false e1] at hLp
          by_cases e2 : i = q
          · subst e2
            rw [hgi, hget p e1]
            exact fun e => hal hq p hp _ (hf p hpn hLp) e.symm
          · rw [getD_set_ne false e2] at hLq
            rw [hget p e1, hget q e2]
            exact hne p q hp hq hpn hqn hpq hLp hLq
      · intro t' h1 h2
        rw [getD_set_ne true (by omega)]; exact htl t' h1 h2
      · intro k hk d hd
        by_cases e : i = k
        · subst e; exact getD_set_true (x3 d hd)
        · rw [getD_set_ne false e] at hk; exact getD_set_true (hcl k hk d hd)
end
end Go.Proofs.Ytacgpflheokkaaa
