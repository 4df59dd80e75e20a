/-
  The plain law of SchemaKeys: what a key is of, by shapes of parts, and by making the key anew.
-/
import Derived.Test.YtafdjgmdkbimoaaDoorSchOrd
namespace Go.Proofs.YtafdjgmdkbimoaaDoor
open Go.RowKit
set_option linter.unusedVariables false
set_option linter.unusedSimpArgs false

theorem unq_canon : ∀ (l acc u v : List UInt8), unqL l acc = some (u, v) → ∃ t, u = acc ++ t ∧ l = escL t ++ 0 :: 0 :: v
  | [], acc, u, v, h => by simp [unqL] at h
  | [_], acc, u, v, h => by simp [unqL] at h
  | b :: c :: r, acc, u, v, h => by
    rw [unqL] at h
    split at h
    · rename_i hb
      subst hb
      split at h
      · rename_i hc
        subst hc
        cases h
        exact ⟨[], by simp, by simp [escL_nil]⟩
      · split at h
        · rename_i hc
          subst hc
          obtain ⟨t, h1, h2⟩ := unq_canon r _ u v h
          exact ⟨0 :: t, by rw [h1]; simp, by rw [h2, escL_zero]; simp⟩
        · cases h
    · rename_i hb
      obtain ⟨t, h1, h2⟩ := unq_canon (c :: r) _ u v h
      exact ⟨b :: t, by rw [h1]; simp, by rw [h2, escL_cons b t hb]; simp⟩
theorem leL_leN : ∀ (m : List UInt8), leL m.length (leN m) = m
  | [] => rfl
  | c :: m => by
    have hc := c.toNat_lt
    rw [List.length_cons, leL, leN, show (c.toNat + 256 * leN m) / 256 = leN m by omega, leL_leN m, show (c.toNat + 256 * leN m) % 256 = c.toNat by omega]
    simp
theorem leN_lt' (l : List UInt8) (h : l.length = 8) : leN l < 18446744073709551616 := by
  have : ∀ a : List UInt8, leN a < 256 ^ a.length := by
    intro a
    induction a with
    | nil => decide
    | cons c r ih =>
      have := c.toNat_lt
      rw [leN, List.length_cons, Nat.pow_succ]
      omega
  have h2 := this l
  rw [h] at h2
  exact h2
theorem beL_canon (m : List UInt8) (h : m.length = 8) : beL (leN m.reverse) = m := by
  unfold beL
  have := leL_leN m.reverse
  rw [List.length_reverse, h] at this
  rw [this, List.reverse_reverse]
theorem fine_text' (s : ByteArray) (h : s.size ≤ maxLen) : Fine ⟨116, 0, 0, s⟩ := ⟨⟨⟨by simp, by simp, by simp, h⟩, by simp [plainP]⟩, by unfold partB; rw [if_neg (by simp), if_neg (by simp), if_neg (by simp), if_pos rfl]; rfl⟩

theorem partD_canon (c : UInt8) (r : List UInt8) (hl : r.length ≤ 1000) (h : 0 ≤ (partD (c :: r)).2) : Fine (partD (c :: r)).1 ∧ c :: r = encP (partD (c :: r)).1 ++ (c :: r).drop (partD (c :: r)).2.toNat := by
  rw [partD] at h ⊢
  by_cases h1 : c = 116
  · rw [if_pos h1] at h ⊢
    subst h1
    cases hq : unqL r [] with
    | none => rw [hq] at h; simp at h
    | some tq =>
      obtain ⟨t, q⟩ := tq
      rw [hq] at h
      obtain ⟨u, e1, e2⟩ := unq_canon r [] t q hq
      simp only [List.nil_append] at e1
      subst e1
      have hle := congrArg List.length e2
      simp only [List.length_append, List.length_cons] at hle
      have ht : t.length ≤ (escL t).length := by
        clear hq e2 hle h
        induction t with
        | nil => simp
        | cons b t ih =>
          by_cases hb : b = 0
          · subst hb; rw [escL_zero]; simp; omega
          · rw [escL_cons b t hb]; simp; omega
      refine ⟨fine_text' _ (by rw [str_size]; exact Nat.le_trans (by omega) (by decide : (1000 : Nat) ≤ maxLen)), ?_⟩
      have e3 : ((r.length : Int) - (q.length : Int) + 1).toNat = (escL t).length + 2 + 1 := by omega
      have e4 : encP ⟨116, 0, 0, str t⟩ = 116 :: (escL t ++ [0, 0]) := by
        unfold encP partB
        rw [if_neg (by simp), if_neg (by simp), if_neg (by simp), if_pos rfl, str_data]; rfl
      simp only [e3, e4, List.drop_succ_cons]
      rw [e2]
      have : (escL t ++ 0 :: 0 :: q).drop ((escL t).length + 2) = q := by
        rw [List.drop_append]; simp
      rw [this]; simp
  · rw [if_neg h1] at h ⊢
    by_cases h2 : r.length < 8
    · rw [if_pos h2] at h; simp at h
    · rw [if_neg h2] at h ⊢
      have h8 : (r.take 8).length = 8 := by simp; omega
      have hb := leN_lt' (r.take 8).reverse (by simpa using h8)
      have hc8 := beL_canon (r.take 8) h8
      have hsp : r = r.take 8 ++ r.drop 8 := (List.take_append_drop 8 r).symm
      by_cases h3 : c = 105
      · rw [if_pos h3] at h ⊢
        subst h3
        refine ⟨fine_up _ (by unfold dropI; omega), ?_⟩
        have e4 : encP ⟨105, dropI (leN (r.take 8).reverse), 0, ByteArray.empty⟩ = 105 :: r.take 8 := by
          unfold encP partB
          rw [if_pos rfl]
          simp only [Option.getD_some]
          rw [show (liftI (dropI (leN (r.take 8).reverse))).toNat = leN (r.take 8).reverse by unfold liftI dropI; omega, hc8]
        rw [e4]
        simp
      · rw [if_neg h3] at h ⊢
        by_cases h4 : c = 100
        · rw [if_pos h4] at h ⊢
          subst h4
          refine ⟨fine_down _ (by unfold dropI; omega), ?_⟩
          have e4 : encP ⟨100, dropI (18446744073709551615 - (leN (r.take 8).reverse : Int)), 0, ByteArray.empty⟩ = 100 :: r.take 8 := by
            unfold encP partB
            rw [if_neg (by simp), if_pos rfl]
            simp only [Option.getD_some]
            rw [show (18446744073709551615 - liftI (dropI (18446744073709551615 - (leN (r.take 8).reverse : Int)))).toNat = leN (r.take 8).reverse by unfold liftI dropI; omega, hc8]
          rw [e4]
          simp
        · rw [if_neg h4] at h ⊢
          by_cases h5 : c = 117
          · rw [if_pos h5] at h ⊢
            subst h5
            refine ⟨fine_count _ (by omega), ?_⟩
            have e4 : encP ⟨117, 0, leN (r.take 8).reverse, ByteArray.empty⟩ = 117 :: r.take 8 := by
              unfold encP partB
              rw [if_neg (by simp), if_neg (by simp), if_pos rfl]
              simp only [Option.getD_some]
              rw [show ((leN (r.take 8).reverse : Int)).toNat = leN (r.take 8).reverse by omega, hc8]
            rw [e4]
            simp
          · rw [if_neg h5] at h; simp at h

theorem partsF_canon : ∀ (f : Nat) (l : List UInt8) (acc r : List PartR), l.length ≤ 1000 → partsF f l acc = some r → ∃ m, r = acc ++ m ∧ (∀ p ∈ m, Fine p) ∧ l = encL m := by
  intro f
  induction f with
  | zero =>
    intro l acc r hl h
    cases l with
    | nil => simp only [partsF, Option.some.injEq] at h; subst h; exact ⟨[], by simp, by simp, rfl⟩
    | cons c l => simp [partsF] at h
  | succ f ih =>
    intro l acc r hl h
    cases l with
    | nil => simp only [partsF, Option.some.injEq] at h; subst h; exact ⟨[], by simp, by simp, rfl⟩
    | cons c l =>
      rw [partsF] at h
      split at h
      · cases h
      · rename_i hn
        obtain ⟨h1, h2⟩ := partD_canon c l (by simp at hl; omega) (by omega)
        obtain ⟨m, e1, e2, e3⟩ := ih _ _ _ (by rw [List.length_drop]; omega) h
        refine ⟨(partD (c :: l)).1 :: m, by rw [e1]; simp, ?_, ?_⟩
        · intro p hp
          rcases List.mem_cons.1 hp with rfl | hp
          · exact h1
          · exact e2 p hp
        · rw [encL_cons, ← e3]; exact h2
theorem partsR_canon (l : List UInt8) (h : (partsR l).2 = 0) : (∀ p ∈ (partsR l).1, Fine p) ∧ l = encL (partsR l).1 ∧ l.length ≤ 200 := by
  unfold partsR partsL at h ⊢
  split at h
  · simp at h
  · rename_i r hr
    split at hr
    · cases hr
    · rename_i hlen
      obtain ⟨m, e1, e2, e3⟩ := partsF_canon _ _ _ _ (by omega) hr
      simp only [List.nil_append] at e1
      subst e1
      exact ⟨e2, e3, by omega⟩

/-- a thing's row of parts -/
def rowR (t : ThingR) : List PartR :=
  ⟨116, 0, 0, t.sort⟩ :: (if t.sort = ⟨#[97]⟩ then [⟨117, 0, t.account, ByteArray.empty⟩, ⟨105, t.kind, 0, ByteArray.empty⟩]
    else if t.sort = ⟨#[111]⟩ then [⟨117, 0, t.id, ByteArray.empty⟩]
    else if t.sort = ⟨#[98]⟩ then placeL t.kind t.price t.rank t.id
    else if t.sort = ⟨#[101]⟩ then [⟨117, 0, t.at_, ByteArray.empty⟩, ⟨117, 0, t.id, ByteArray.empty⟩]
    else if t.sort = ⟨#[110]⟩ then [⟨116, 0, 0, t.name⟩] else [])
def zT (s : ByteArray) : ThingR := ⟨s, 0, 0, 0, 0, 0, 0, ByteArray.empty⟩
/-- a thing but for its kind, the kind's number -/
def pre21 : List PartR → Option (ThingR × Int)
  | p :: x :: r => if p.sort ≠ 116 then none
      else if p.s = ⟨#[97]⟩ then some (match r with | [y] => (⟨p.s, x.u, 0, 0, 0, 0, 0, ByteArray.empty⟩, y.n) | _ => (zT p.s, 0))
      else if p.s = ⟨#[111]⟩ then some (⟨p.s, 0, x.u, 0, 0, 0, 0, ByteArray.empty⟩, 0)
      else if p.s = ⟨#[98]⟩ then some (match r with | [y, z, v] => (⟨p.s, 0, v.u, 0, y.n, z.u, 0, ByteArray.empty⟩, x.n) | _ => (zT p.s, 0))
      else if p.s = ⟨#[101]⟩ then some (match r with | [y] => (⟨p.s, 0, y.u, 0, 0, 0, x.u, ByteArray.empty⟩, 0) | _ => (zT p.s, 0))
      else if p.s = ⟨#[110]⟩ then some (⟨p.s, 0, 0, 0, 0, 0, 0, x.s⟩, 0)
      else none
  | _ => none
def kindT (t : ThingR) (n : Int) : ThingR := { t with kind := n }
def parse21 (k : List UInt8) : Option ThingR :=
  if ¬ (partsR k).2 = 0 then none else match pre21 (partsR k).1 with
  | none => none
  | some (t, n) => if smallB n = true then (if (makeGo (rowR (kindT t n)) []).2 = 0 ∧ (makeGo (rowR (kindT t n)) []).1 = k then some (kindT t n) else none) else none

theorem make_same (t : ThingR) (l : List PartR) (ht : ∀ p ∈ rowR t, Fine p) (hl : ∀ p ∈ l, Fine p) (hk : (encL l).length ≤ 200) : ((makeGo (rowR t) []).2 = 0 ∧ (makeGo (rowR t) []).1 = encL l) ↔ rowR t = l := by
  constructor
  · rintro ⟨h1, h2⟩
    obtain ⟨_, h3, _⟩ := make_ok _ _ h1
    rw [h3, List.nil_append] at h2
    exact (sameL_eq _ _).1 ((keys_same _ _ ht hl).1 h2)
  · intro h
    rw [h, make_short l [] (fun p hp => (hl p hp).2) (by simpa using hk)]
    simp
theorem fine_117 {x : PartR} (h : Fine x) : (⟨117, 0, x.u, ByteArray.empty⟩ = x) ↔ x.sort = 117 := by
  obtain ⟨a, n, u, s⟩ := x
  have hp := h.1.plain
  unfold plainP at hp
  simp only [PartR.mk.injEq] at hp ⊢
  constructor
  · rintro ⟨h1, _⟩; exact h1.symm
  · rintro rfl; simp at hp; exact ⟨rfl, hp.1, trivial, hp.2⟩
theorem fine_105 {x : PartR} (h : Fine x) : (⟨105, x.n, 0, ByteArray.empty⟩ = x) ↔ x.sort = 105 := by
  obtain ⟨a, n, u, s⟩ := x
  have hp := h.1.plain
  unfold plainP at hp
  simp only [PartR.mk.injEq] at hp ⊢
  constructor
  · rintro ⟨h1, _⟩; exact h1.symm
  · rintro rfl; simp at hp; exact ⟨rfl, trivial, hp.1, hp.2⟩
theorem fine_100 {x : PartR} (h : Fine x) : (⟨100, x.n, 0, ByteArray.empty⟩ = x) ↔ x.sort = 100 := by
  obtain ⟨a, n, u, s⟩ := x
  have hp := h.1.plain
  unfold plainP at hp
  simp only [PartR.mk.injEq] at hp ⊢
  constructor
  · rintro ⟨h1, _⟩; exact h1.symm
  · rintro rfl; simp at hp; exact ⟨rfl, trivial, hp.1, hp.2⟩
theorem fine_116 {x : PartR} (h : Fine x) : (⟨116, 0, 0, x.s⟩ = x) ↔ x.sort = 116 := by
  obtain ⟨a, n, u, s⟩ := x
  have hp := h.1.plain
  unfold plainP at hp
  simp only [PartR.mk.injEq] at hp ⊢
  constructor
  · rintro ⟨h1, _⟩; exact h1.symm
  · rintro rfl; simp at hp; exact ⟨rfl, hp.1, hp.2, trivial⟩
theorem small_bd {n : Int} (h : smallB n = true) : -9223372036854775808 ≤ n ∧ n ≤ 9223372036854775807 := by
  unfold smallB at h; simp at h; omega
theorem rowR_fine (t : ThingR) (hs : t.sort.size ≤ maxLen) (hn : t.name.size ≤ maxLen) (ha : 0 ≤ t.account ∧ t.account < 18446744073709551616) (hi : 0 ≤ t.id ∧ t.id < 18446744073709551616) (hk : -9223372036854775808 ≤ t.kind ∧ t.kind ≤ 9223372036854775807) (hp : -9223372036854775808 ≤ t.price ∧ t.price ≤ 9223372036854775807) (hr : 0 ≤ t.rank ∧ t.rank < 18446744073709551616) (hat : 0 ≤ t.at_ ∧ t.at_ < 18446744073709551616) : ∀ p ∈ rowR t, Fine p := by
  intro p h
  unfold rowR at h
  rcases List.mem_cons.1 h with rfl | h
  · exact fine_text' _ hs
  split at h
  · simp only [List.mem_cons, List.mem_nil_iff, or_false] at h
    rcases h with rfl | rfl
    · exact fine_count _ ha
    · exact fine_up _ hk
  split at h
  · simp only [List.mem_cons, List.mem_nil_iff, or_false] at h
    subst h; exact fine_count _ hi
  split at h
  · exact (place_fine _ _ _ _ hk hp hr hi p h).1
  split at h
  · simp only [List.mem_cons, List.mem_nil_iff, or_false] at h
    rcases h with rfl | rfl
    · exact fine_count _ hat
    · exact fine_count _ hi
  split at h
  · simp only [List.mem_cons, List.mem_nil_iff, or_false] at h
    subst h; exact fine_text' _ hn
  · simp at h
end Go.Proofs.YtafdjgmdkbimoaaDoor
