/-
  The plain law of keys: what is made is parsed as it was, stands in the order of its row, and begins what goes on from it.
-/
import Derived.Test.YtafdjgmdkbimoaaDoorKeyPts
namespace Go.Proofs.YtafdjgmdkbimoaaDoor
open Go.RowKit
set_option linter.unusedVariables false
set_option linter.unusedSimpArgs false

/-- a part with what counts alone, all of it in its bounds -/
structure Neat (p : PartR) : Prop where
  good : p.good
  plain : plainP p = p
/-- a part's bytes -/
def encP (p : PartR) : List UInt8 := (partB p).getD []
def encL (l : List PartR) : List UInt8 := l.flatMap encP
theorem encL_cons (p : PartR) (l : List PartR) : encL (p :: l) = encP p ++ encL l := rfl

theorem make_ok : ∀ (l : List PartR) (acc : List UInt8), (makeGo l acc).2 = 0 → (∀ p ∈ l, (partB p).isSome = true) ∧ (makeGo l acc).1 = acc ++ encL l ∧ (l = [] ∨ (makeGo l acc).1.length ≤ 200)
  | [], acc, _ => ⟨by simp, by simp [makeGo, encL], .inl rfl⟩
  | p :: l, acc, h => by
    rw [makeGo] at h ⊢
    cases hb : partB p with
    | none => simp [hb] at h
    | some t =>
      simp only [hb] at h ⊢
      have he : encP p = t := by unfold encP; rw [hb]; rfl
      by_cases h2 : 200 < (acc ++ t).length
      · rw [if_pos h2] at h; simp at h
      · rw [if_neg h2] at h ⊢
        obtain ⟨h3, h4, h5⟩ := make_ok l (acc ++ t) h
        refine ⟨?_, by rw [h4, encL_cons, he, List.append_assoc], .inr ?_⟩
        · intro q hq
          rcases List.mem_cons.1 hq with rfl | hq
          · rw [hb]; rfl
          · exact h3 q hq
        · rcases h5 with rfl | h5
          · simp only [makeGo]; omega
          · exact h5

theorem leN_leL (k : Nat) : ∀ n, n < 256 ^ k → leN (leL k n) = n := by
  induction k with
  | zero => intro n h; simp at h; subst h; rfl
  | succ k ih =>
    intro n h
    rw [Nat.pow_succ] at h
    rw [leL, leN, ih _ (by omega), UInt8.toNat_ofNat']
    omega
theorem leN_beL (n : Nat) (h : n < 18446744073709551616) : leN (beL n).reverse = n := by
  unfold beL
  rw [List.reverse_reverse]
  exact leN_leL 8 n h

theorem unq_esc (l rest : List UInt8) : ∀ acc, unqL (escL l ++ 0 :: 0 :: rest) acc = some (acc ++ l, rest) := by
  induction l with
  | nil => intro acc; rw [escL_nil, List.nil_append, unqL, if_pos rfl, if_pos rfl, List.append_nil]
  | cons b l ih =>
    intro acc
    by_cases hb : b = 0
    · subst hb
      rw [escL_zero, List.cons_append, List.cons_append, unqL, if_pos rfl, if_neg (by decide), if_pos rfl, ih]
      simp
    · rw [escL_cons b l hb, List.cons_append, unqL_ne b _ _ hb, ih]
      simp

theorem neat_cases {p : PartR} (h : Neat p) (hs : (partB p).isSome = true) :
    (∃ n, p = ⟨105, n, 0, ByteArray.empty⟩ ∧ (-9223372036854775808 ≤ n ∧ n ≤ 9223372036854775807) ∧ encP p = 105 :: beL (liftI n).toNat) ∨
    (∃ n, p = ⟨100, n, 0, ByteArray.empty⟩ ∧ (-9223372036854775808 ≤ n ∧ n ≤ 9223372036854775807) ∧ encP p = 100 :: beL (18446744073709551615 - liftI n).toNat) ∨
    (∃ u, p = ⟨117, 0, u, ByteArray.empty⟩ ∧ (0 ≤ u ∧ u < 18446744073709551616) ∧ encP p = 117 :: beL u.toNat) ∨
    (∃ s, p = ⟨116, 0, 0, s⟩ ∧ encP p = 116 :: (escL s.data.toList ++ [0, 0])) := by
  obtain ⟨⟨h1, h2, h3, h4⟩, h5⟩ := h
  obtain ⟨a, n, u, s⟩ := p
  unfold encP
  unfold partB at hs ⊢
  unfold plainP at h5
  simp only at h1 h2 h3 h4 h5 hs ⊢
  by_cases c1 : a = 105
  · subst c1
    simp at h5
    obtain ⟨rfl, rfl⟩ := h5
    exact .inl ⟨n, rfl, h2, rfl⟩
  by_cases c2 : a = 100
  · subst c2
    simp at h5
    obtain ⟨rfl, rfl⟩ := h5
    exact .inr (.inl ⟨n, rfl, h2, rfl⟩)
  by_cases c3 : a = 117
  · subst c3
    simp at h5
    obtain ⟨rfl, rfl⟩ := h5
    exact .inr (.inr (.inl ⟨u, rfl, h3, rfl⟩))
  by_cases c4 : a = 116
  · subst c4
    simp at h5
    obtain ⟨rfl, rfl⟩ := h5
    exact .inr (.inr (.inr ⟨s, rfl, rfl⟩))
  · simp [c1, c2, c3, c4] at hs

theorem encP_ne {p : PartR} (hs : (partB p).isSome = true) : encP p ≠ [] := by
  obtain ⟨t, ht⟩ := Option.isSome_iff_exists.1 hs
  have := partB_ne ht
  unfold encP; rw [ht]; exact this

theorem num_back (c : UInt8) (n : Nat) (rest : List UInt8) (h : n < 18446744073709551616) : ¬ (beL n ++ rest).length < 8 ∧ leN ((beL n ++ rest).take 8).reverse = n := by
  have hl := beL_length n
  refine ⟨by rw [List.length_append]; omega, ?_⟩
  rw [List.take_left' hl]
  exact leN_beL n h

theorem str_self (s : ByteArray) : str s.data.toList = s := by
  apply ByteArray.ext; rw [str]
theorem part_back {p : PartR} (h : Neat p) (hs : (partB p).isSome = true) (rest : List UInt8) : partD (encP p ++ rest) = (p, ((encP p).length : Int)) := by
  rcases neat_cases h hs with ⟨n, hp, hn, he⟩ | ⟨n, hp, hn, he⟩ | ⟨u, hp, hn, he⟩ | ⟨s, hp, he⟩
  · have hb := liftI_bd n hn
    obtain ⟨h1, h2⟩ := num_back 105 (liftI n).toNat rest (by omega)
    have e : ((((liftI n).toNat : Nat) : Int)) = liftI n := by omega
    have e2 : dropI (liftI n) = n := by unfold dropI liftI; omega
    rw [he, List.cons_append, partD, if_neg (by decide), if_neg h1, if_pos rfl, h2, e, e2, hp]
    simp [beL_length]
  · have hb := liftI_bd n hn
    obtain ⟨h1, h2⟩ := num_back 100 (18446744073709551615 - liftI n).toNat rest (by omega)
    have e : ((((18446744073709551615 - liftI n).toNat : Nat) : Int)) = 18446744073709551615 - liftI n := by omega
    have e2 : dropI (18446744073709551615 - (18446744073709551615 - liftI n)) = n := by unfold dropI liftI; omega
    rw [he, List.cons_append, partD, if_neg (by decide), if_neg h1, if_neg (by decide), if_pos rfl, h2, e, e2, hp]
    simp [beL_length]
  · obtain ⟨h1, h2⟩ := num_back 117 u.toNat rest (by omega)
    have e : (((u.toNat : Nat) : Int)) = u := by omega
    rw [he, List.cons_append, partD, if_neg (by decide), if_neg h1, if_neg (by decide), if_neg (by decide), if_pos rfl, h2, e, hp]
    simp [beL_length]
  · have hq := unq_esc s.data.toList rest []
    have e : escL s.data.toList ++ [0, 0] ++ rest = escL s.data.toList ++ 0 :: 0 :: rest := by simp
    rw [he, List.cons_append, partD, if_pos rfl, e, hq, hp]
    simp only [List.nil_append, str_self]
    congr 1
    simp only [List.length_append, List.length_cons, List.length_nil]
    omega

theorem partsF_back (l : List PartR) : ∀ (acc : List PartR) (f : Nat), (∀ p ∈ l, Neat p ∧ (partB p).isSome = true) → (encL l).length ≤ f → partsF f (encL l) acc = some (acc ++ l) := by
  induction l with
  | nil => intro acc f _ _; cases f <;> simp [encL, partsF]
  | cons p l ih =>
    intro acc f h hf
    obtain ⟨hp, hs⟩ := h p (List.mem_cons_self ..)
    have hne := encP_ne hs
    have hb := part_back hp hs (encL l)
    rw [encL_cons] at hf ⊢
    rw [List.length_append] at hf
    have hpos : 0 < (encP p).length := List.length_pos_iff.2 hne
    obtain ⟨g, rfl⟩ : ∃ g, f = g + 1 := ⟨f - 1, by omega⟩
    obtain ⟨c, r, hcr⟩ : ∃ c r, encP p ++ encL l = c :: r := by
      cases hx : encP p ++ encL l with
      | nil => simp [hne] at hx
      | cons c r => exact ⟨c, r, rfl⟩
    have e : partsF (g + 1) (encP p ++ encL l) acc = if (partD (encP p ++ encL l)).2 < 0 then none else partsF g ((encP p ++ encL l).drop (partD (encP p ++ encL l)).2.toNat) (acc ++ [(partD (encP p ++ encL l)).1]) := by
      rw [hcr]; rfl
    rw [e, hb]
    simp only
    rw [if_neg (by omega), Int.toNat_natCast, List.drop_left, ih _ _ (fun q hq => h q (List.mem_cons_of_mem _ hq)) (by omega)]
    simp

theorem parts_back (l : List PartR) (h : ∀ p ∈ l, Neat p ∧ (partB p).isSome = true) (hl : (encL l).length ≤ 200) : partsR (encL l) = (l, 0) := by
  unfold partsR partsL
  rw [if_neg (by omega), partsF_back l [] _ h (Nat.le_refl _)]; simp

theorem cmpI_lt (a b : Int) : decide (cmpI a b < 0) = decide (a < b) := by
  unfold cmpI; split
  · simp [*]
  · split <;> simp [*]
theorem cmpI_eq (a b : Int) : decide (cmpI a b = 0) = decide (a = b) := by
  unfold cmpI; split
  · have : ¬ a = b := by omega
    simp [*]
  · split
    · have : ¬ a = b := by omega
      simp [*]
    · have : a = b := by omega
      simp [*]
theorem cmpS_lt (a b : ByteArray) : decide (cmpS a b < 0) = Op.bytesLess a.data.toList b.data.toList := by
  unfold cmpS
  rw [ByteArray.toList_eq, ByteArray.toList_eq]
  cases h : Op.bytesLess a.data.toList b.data.toList
  · rw [if_neg (by simp)]
    split <;> rfl
  · rw [if_pos rfl]; rfl
theorem bl_irrefl (l : List UInt8) : Op.bytesLess l l = false := by
  induction l with
  | nil => rfl
  | cons a l ih => rw [bl_same]; exact ih
theorem cmpS_eq (a b : ByteArray) : decide (cmpS a b = 0) = (a.data.toList == b.data.toList) := by
  unfold cmpS
  by_cases h : a = b
  · subst h
    rw [ByteArray.toList_eq, bl_irrefl, if_neg (by simp), if_pos rfl]; simp
  · have hn : (a.data.toList == b.data.toList) = false := by
      apply beq_eq_false_iff_ne.2
      intro e
      apply h
      have := congrArg str e
      rwa [str_self, str_self] at this
    rw [hn, if_neg h]
    split <;> rfl

theorem part_less {p q : PartR} (hp : Neat p) (hsp : (partB p).isSome = true) (hq : Neat q) (hsq : (partB q).isSome = true) (x y : List UInt8) :
    Op.bytesLess (encP p ++ x) (encP q ++ y) = (decide (cmpP p q < 0) || (decide (cmpP p q = 0) && Op.bytesLess x y)) := by
  have hd : ∀ (c d : UInt8) (l m : List UInt8), c ≠ d → Op.bytesLess (c :: l) (d :: m) = decide (c < d) := by
    intro c d l m h
    rw [bl_cons]
    have : (c == d) = false := by simp [h]
    rw [this]; simp
  rcases neat_cases hp hsp with ⟨n, rfl, hn, he⟩ | ⟨n, rfl, hn, he⟩ | ⟨u, rfl, hn, he⟩ | ⟨s, rfl, he⟩ <;> rcases neat_cases hq hsq with ⟨n', rfl, hn', he'⟩ | ⟨n', rfl, hn', he'⟩ | ⟨u', rfl, hn', he'⟩ | ⟨s', rfl, he'⟩ <;> rw [he, he', List.cons_append, List.cons_append]
  all_goals first | (rw [hd _ _ _ _ (by decide)]; unfold cmpP; simp [cmpI]; done) | skip
  · have h1 := liftI_bd n hn
    have h2 := liftI_bd n' hn'
    rw [bl_same, beL_less _ _ _ _ (by omega) (by omega)]
    unfold cmpP
    simp only [not_true_eq_false, if_false, if_true]
    rw [cmpI_lt, cmpI_eq]
    have e1 : decide ((liftI n).toNat < (liftI n').toNat) = decide (n < n') := by unfold liftI at h1 h2 ⊢; apply decide_eq_decide.2; omega
    have e2 : ((liftI n).toNat == (liftI n').toNat) = decide (n = n') := by
      unfold liftI at h1 h2 ⊢
      rw [Bool.eq_iff_iff, beq_iff_eq, decide_eq_true_iff]; omega
    rw [e1, e2]
  · have h1 := liftI_bd n hn
    have h2 := liftI_bd n' hn'
    rw [bl_same, beL_less _ _ _ _ (by omega) (by omega)]
    unfold cmpP
    simp only [not_true_eq_false, if_false, if_true]
    rw [if_neg (by decide), cmpI_lt, cmpI_eq]
    have e1 : decide ((18446744073709551615 - liftI n).toNat < (18446744073709551615 - liftI n').toNat) = decide (n' < n) := by unfold liftI at h1 h2 ⊢; apply decide_eq_decide.2; omega
    have e2 : ((18446744073709551615 - liftI n).toNat == (18446744073709551615 - liftI n').toNat) = decide (n' = n) := by
      unfold liftI at h1 h2 ⊢
      rw [Bool.eq_iff_iff, beq_iff_eq, decide_eq_true_iff]; omega
    rw [e1, e2]
  · rw [bl_same, beL_less _ _ _ _ (by omega) (by omega)]
    unfold cmpP
    simp only [not_true_eq_false, if_false, if_true]
    rw [if_neg (by decide), if_neg (by decide), cmpI_lt, cmpI_eq]
    have e1 : decide (u.toNat < u'.toNat) = decide (u < u') := by apply decide_eq_decide.2; omega
    have e2 : (u.toNat == u'.toNat) = decide (u = u') := by
      rw [Bool.eq_iff_iff, beq_iff_eq, decide_eq_true_iff]; omega
    rw [e1, e2]
  · have e : ∀ (l z : List UInt8), escL l ++ [0, 0] ++ z = escL l ++ 0 :: 0 :: z := fun l z => by simp
    rw [bl_same, e, e, escL_less]
    unfold cmpP
    simp only [not_true_eq_false, if_false, if_true]
    rw [if_neg (by decide), if_neg (by decide), if_neg (by decide), cmpS_lt, cmpS_eq]

theorem rows_less (l : List PartR) : ∀ (m : List PartR), (∀ p ∈ l, Neat p ∧ (partB p).isSome = true) → (∀ p ∈ m, Neat p ∧ (partB p).isSome = true) → Op.bytesLess (encL l) (encL m) = decide (cmpL l m < 0) := by
  induction l with
  | nil =>
    intro m _ hm
    cases m with
    | nil => rfl
    | cons q m =>
      have hne := encP_ne (hm q (List.mem_cons_self ..)).2
      rw [encL_cons]
      show Op.bytesLess [] _ = _
      cases hx : encP q with
      | nil => exact absurd hx hne
      | cons c r => rfl
  | cons p l ih =>
    intro m hl hm
    cases m with
    | nil => show Op.bytesLess _ [] = _; rw [bl_nil_right]; rfl
    | cons q m =>
      obtain ⟨h1, h2⟩ := hl p (List.mem_cons_self ..)
      obtain ⟨h3, h4⟩ := hm q (List.mem_cons_self ..)
      rw [encL_cons, encL_cons, part_less h1 h2 h3 h4, ih m (fun x hx => hl x (List.mem_cons_of_mem _ hx)) (fun x hx => hm x (List.mem_cons_of_mem _ hx)), cmpL]
      by_cases h0 : cmpP p q = 0
      · rw [if_pos h0]; simp [h0]
      · rw [if_neg h0]; simp [h0]

theorem enc_begins (l : List PartR) : ∀ (m : List PartR) (z : List UInt8), (∀ p ∈ l, Neat p ∧ (partB p).isSome = true) → (∀ p ∈ m, Neat p ∧ (partB p).isSome = true) → encL m = encL l ++ z → ∃ r, m = l ++ r := by
  induction l with
  | nil => intro m z _ _ _; exact ⟨m, rfl⟩
  | cons p l ih =>
    intro m z hl hm h
    obtain ⟨h1, h2⟩ := hl p (List.mem_cons_self ..)
    cases m with
    | nil =>
      exfalso
      have := encP_ne h2
      rw [encL_cons] at h
      have h' := congrArg List.length h
      have hpos : 0 < (encP p).length := List.length_pos_iff.2 this
      simp [encL] at h'
      omega
    | cons q m =>
      obtain ⟨h3, h4⟩ := hm q (List.mem_cons_self ..)
      rw [encL_cons, encL_cons, List.append_assoc] at h
      have a1 := part_back h3 h4 (encL m)
      have a2 := part_back h1 h2 (encL l ++ z)
      rw [h, a2] at a1
      simp at a1
      obtain ⟨rfl, _⟩ := a1
      obtain ⟨r, rfl⟩ := ih m z (fun x hx => hl x (List.mem_cons_of_mem _ hx)) (fun x hx => hm x (List.mem_cons_of_mem _ hx)) (List.append_cancel_left h)
      exact ⟨r, rfl⟩

theorem partEq_eq (p q : PartR) : partEq p q = true ↔ p = q := by
  obtain ⟨a, n, u, s⟩ := p
  obtain ⟨a', n', u', s'⟩ := q
  unfold partEq
  simp only [PartR.mk.injEq]
  by_cases h1 : a = a' <;> by_cases h2 : n = n' <;> by_cases h3 : u = u' <;> by_cases h4 : s = s' <;> simp [h1, h2, h3, h4]
theorem sameL_eq : ∀ (l m : List PartR), sameL l m = true ↔ l = m
  | [], [] => by simp [sameL]
  | [], _ :: _ => by simp [sameL]
  | _ :: _, [] => by simp [sameL]
  | p :: l, q :: m => by rw [sameL, Bool.and_eq_true, partEq_eq, sameL_eq l m, List.cons.injEq]

theorem keys_same (l m : List PartR) (hl : ∀ p ∈ l, Neat p ∧ (partB p).isSome = true) (hm : ∀ p ∈ m, Neat p ∧ (partB p).isSome = true) : (encL l = encL m) ↔ sameL l m = true := by
  rw [sameL_eq]
  constructor
  · intro h
    obtain ⟨r, hr⟩ := enc_begins l m [] hl hm (by rw [List.append_nil]; exact h.symm)
    obtain ⟨r', hr'⟩ := enc_begins m l [] hm hl (by rw [List.append_nil]; exact h)
    have h1 := congrArg List.length hr
    have h2 := congrArg List.length hr'
    rw [List.length_append] at h1 h2
    have : r = [] := List.length_eq_zero_iff.mp (by omega)
    rw [hr, this, List.append_nil]
  · rintro rfl; rfl
theorem keys_begin (l m : List PartR) (hl : ∀ p ∈ l, Neat p ∧ (partB p).isSome = true) (hm : ∀ p ∈ m, Neat p ∧ (partB p).isSome = true) : (encL l).isPrefixOf (encL m) = (decide (l.length ≤ m.length) && sameL l (m.take l.length)) := by
  rw [Bool.eq_iff_iff, List.isPrefixOf_iff_prefix, Bool.and_eq_true, decide_eq_true_iff, sameL_eq]
  constructor
  · rintro ⟨z, hz⟩
    obtain ⟨r, rfl⟩ := enc_begins l m z hl hm hz.symm
    simp
  · rintro ⟨_, h⟩
    refine ⟨encL (m.drop l.length), ?_⟩
    have e : m = l ++ m.drop l.length := by
      have := List.take_append_drop l.length m
      rw [← h] at this; exact this.symm
    conv => rhs; rw [e]
    unfold encL
    rw [List.flatMap_append]

theorem plain_neat {p : PartR} (h : p.good) : Neat (plainP p) := by
  obtain ⟨h1, h2, h3, h4⟩ := h
  obtain ⟨a, n, u, s⟩ := p
  simp only at h1 h2 h3 h4
  refine ⟨⟨h1, ?_, ?_, ?_⟩, ?_⟩
  · unfold plainP; simp only; split <;> omega
  · unfold plainP; simp only; split <;> omega
  · unfold plainP; simp only; split
    · exact h4
    · decide
  · unfold plainP
    simp only [PartR.mk.injEq, true_and]
    refine ⟨?_, ?_, ?_⟩ <;> split <;> rfl

end Go.Proofs.YtafdjgmdkbimoaaDoor
