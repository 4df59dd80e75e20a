/-
  Two skip lists side by side, by contract; what a script of Puts leaves.
-/
import Derived.Test.YtacgpflheokkaaaSkpAct
import Derived.Test.YtacgpflheokkaaaSkpAwake
namespace Go.Proofs.Ytacgpflheokkaaa
open Go.RowKit Go.Shelf
set_option linter.unusedVariables false
set_option linter.unusedSimpArgs false

/-- the pairs behind a script -/
def playP (l : List Act7R) : List PairS := l.foldl (fun P x => putP P (x.key, x.value)) []
theorem playP_take (l : List Act7R) (k : Nat) (h : k < l.length) : playP (l.take (k + 1)) = putP (playP (l.take k)) (l[k].key, l[k].value) := by
  unfold playP; rw [List.take_succ_eq_append_getElem h, List.foldl_append]; rfl
theorem mem_put {l : List PairS} {p x : PairS} (h : x ∈ putP l p) : x ∈ l ∨ x = p := by
  unfold putP at h
  rcases List.mem_append.1 h with h | h
  · exact .inl ((List.takeWhile_sublist _).subset h)
  · rcases List.mem_cons.1 h with h | h
    · exact .inr h
    · exact .inl ((List.dropWhile_sublist _).subset (List.mem_filter.1 h).1)
theorem bytesP_filter (l : List PairS) (f : PairS → Bool) : bytesP (l.filter f) ≤ bytesP l := by
  induction l with
  | nil => simp
  | cons x l ih =>
    cases h : f x with
    | true => rw [List.filter_cons_of_pos h, bytesP_cons, bytesP_cons]; omega
    | false => rw [List.filter_cons_of_neg (by rw [h]; simp), bytesP_cons]; omega
theorem put_sizes (l : List PairS) (p : PairS) : (putP l p).length ≤ l.length + 1 ∧ bytesP (putP l p) ≤ bytesP l + ((p.1.size : Int) + (p.2.size : Int)) := by
  unfold putP
  have h1 : (l.takeWhile fun x => bLt x.1 p.1).length + (l.dropWhile fun x => bLt x.1 p.1).length = l.length := by rw [← List.length_append, List.takeWhile_append_dropWhile]
  have h2 := bytesP_append (l.takeWhile fun x => bLt x.1 p.1) (l.dropWhile fun x => bLt x.1 p.1)
  rw [List.takeWhile_append_dropWhile] at h2
  have h3 := List.length_filter_le (fun x => decide (x.1 ≠ p.1)) (l.dropWhile fun x => bLt x.1 p.1)
  have h4 := bytesP_filter (l.dropWhile fun x => bLt x.1 p.1) (fun x => decide (x.1 ≠ p.1))
  constructor
  · rw [List.length_append, List.length_cons]; omega
  · rw [bytesP_append, bytesP_cons]; omega
/-- small pairs -/
structure SmallP (P : List PairS) (k : Nat) : Prop where
  len : P.length ≤ k
  bytes : bytesP P ≤ 600 * (k : Int)
  sz : ∀ x ∈ P, x.1.size ≤ 300 ∧ x.2.size ≤ 300
theorem SmallP.put {P : List PairS} {k : Nat} (h : SmallP P k) {p : PairS} (h1 : p.1.size ≤ 300) (h2 : p.2.size ≤ 300) : SmallP (putP P p) (k + 1) := by
  obtain ⟨a, b⟩ := put_sizes P p
  have := h.len
  have := h.bytes
  refine ⟨by omega, by omega, fun x hx => ?_⟩
  rcases mem_put hx with hx | rfl
  · exact h.sz x hx
  · exact ⟨h1, h2⟩
theorem play_small {l : List Act7R} (h : Light7 l) (k : Nat) (hk : k ≤ l.length) : SmallP (playP (l.take k)) k := by
  induction k with
  | zero => exact ⟨by simp [playP], by simp [playP, bytesP], by simp [playP]⟩
  | succ k ih =>
    rw [playP_take l k (by omega)]
    have hx := h l[k] (List.getElem_mem (by omega))
    exact (ih (by omega)).put hx.2.1 hx.2.2

theorem rows_chgQ {ρ : Type} {w w' : World} {q : Nat → Prop} {A : Option Addr} {m : Nat} {enc : ρ → List Value} {l : List ρ} (h : RowsAt w A m enc l) (hC : ChgQ q w w') (hd : l = [] ∨ ∀ b o, A = some ⟨b, o, none⟩ → ¬ q b) : RowsAt w' A m enc l := by
  rcases h.out with e | ⟨b, o, e, hc⟩
  · exact ⟨.inl e⟩
  · rcases hd with e' | hd
    · exact ⟨.inl e'⟩
    · refine ⟨.inr ⟨b, o, e, fun i r hi j v hv => ?_⟩⟩
      have h1 := hc i r hi j v hv
      have hb := World.block_lt_of_cell? w _ h1
      have h2 := hC.block b hb (hd b o e)
      unfold World.cell? at h1 ⊢
      simp only at h1 ⊢
      rw [h2]; exact h1
/-- a row of pairs stays where a list's own cells turn -/
theorem rows_chg {w w' : World} {F : Nat → Prop} {b : Nat} {P : List PairS} {H : ByteArray → Int} {st : Int} (hS : SkL w F b P H st) (hC : ChgQ (fun k => k = b) w w') {A : Option Addr} {l : List PairS} (h : RowsAt w A 2 pairRow l) : RowsAt w' A 2 pairRow l := by
  obtain ⟨sa, cap, T, q, hM, _⟩ := hS
  refine rows_chgQ h hC ?_
  cases l with
  | nil => exact .inl rfl
  | cons x l =>
    refine .inr ?_
    rintro b' o rfl rfl
    obtain ⟨b2, o2, e2, c0, _⟩ := pair_cells h 0 (by simp)
    cases e2
    rw [cell_of_row _ _ _ _ _ _ hM.own] at c0
    have h3 : ∀ k, (listC sa T.length cap (bytesP P) st)[k]? ≠ some (Value.string (x :: l)[0].1) := fun k => by
      match k with
      | 0 | 1 | 2 => simp [listC]
      | k + 3 => rw [Array.getElem?_eq_none (by simp [listC])]; simp
    exact h3 _ c0

/-- two lists of their own -/
def TwoS (n : Nat) (w : World) (a b : Nat) (Pa Pb : List PairS) : Prop :=
  ∃ (Fa Fb : Nat → Prop) (Ha Hb : ByteArray → Int) (sa sb : Int), SkL w Fa a Pa Ha sa ∧ SkL w Fb b Pb Hb sb ∧ (∀ k, Fa k → ¬ Fb k) ∧ (∀ k, Fa k → n ≤ k ∧ k < w.heap.size) ∧ (∀ k, Fb k → n ≤ k ∧ k < w.heap.size)
theorem TwoS.symm {n : Nat} {w : World} {a b : Nat} {Pa Pb : List PairS} (h : TwoS n w a b Pa Pb) : TwoS n w b a Pb Pa := by
  obtain ⟨Fa, Fb, Ha, Hb, sa, sb, h1, h2, h3, h4, h5⟩ := h
  exact ⟨Fb, Fa, Hb, Ha, sb, sa, h2, h1, fun k hk hh => h3 k hh hk, h5, h4⟩
theorem TwoS.moved {n : Nat} {w w' : World} {a b : Nat} {Pa Pb : List PairS} (h : TwoS n w a b Pa Pb) (hB : Below w.heap.size w w') : TwoS n w' a b Pa Pb := by
  obtain ⟨Fa, Fb, Ha, Hb, sa, sb, h1, h2, h3, h4, h5⟩ := h
  have hs := hB.size
  exact ⟨Fa, Fb, Ha, Hb, sa, sb, h1.moved hB, h2.moved hB, h3, fun k hk => ⟨(h4 k hk).1, Nat.lt_of_lt_of_le (h4 k hk).2 hs⟩, fun k hk => ⟨(h5 k hk).1, Nat.lt_of_lt_of_le (h5 k hk).2 hs⟩⟩
theorem TwoS.ofTwo {n : Nat} {w w' : World} {a b : Nat} {Fa Fb : Nat → Prop} {Ha Hb : ByteArray → Int} {sa sb : Int} {Pa Pb : List PairS} (ha : SkL w Fa a Pa Ha sa) (hFa : ∀ k, Fa k → n ≤ k ∧ k < w.heap.size) (hB : Below w.heap.size w w') (hn : n ≤ w.heap.size) (hb : SkL w' Fb b Pb Hb sb) (hFb : ∀ k, Fb k → w.heap.size ≤ k ∧ k < w'.heap.size) : TwoS n w' a b Pa Pb := by
  have hs := hB.size
  refine ⟨Fa, Fb, Ha, Hb, sa, sb, ha.moved hB, hb, fun k hk hh => ?_, fun k hk => ⟨(hFa k hk).1, Nat.lt_of_lt_of_le (hFa k hk).2 hs⟩, fun k hk => ⟨Nat.le_trans hn (hFb k hk).1, (hFb k hk).2⟩⟩
  have := (hFa k hk).2
  have := (hFb k hh).1
  omega
section
variable {n : Nat} {w : World} {a b : Nat} {Pa Pb : List PairS} (h : TwoS n w a b Pa Pb)
include h
theorem two_put_a (hn : n ≤ w.heap.size) {v : World} (hvw : Below w.heap.size w v) (key value : ByteArray) (ht : Int) {j : Nat} (hP : SmallP Pa j) (hj : j ≤ 2000) (hk : key.size ≤ 300) (hv : value.size ≤ 300) :
    Calls Try.prog 9 #[.pointer (some ⟨a, 0, none⟩), .string key, .string value, .int .i64 ht] v fun e w' => e = .returned (.int .i64 0) ∧ TwoS n w' a b (putP Pa (key, value)) Pb ∧ Below n v w' ∧ (∀ k, w.heap.size ≤ k → k < v.heap.size → w'.heap[k]? = v.heap[k]?) := by
  obtain ⟨Fa, Fb, Ha, Hb, sa, sb, h1, h2, h3, h4, h5⟩ := h
  have h4o := h4
  have hsv := hvw.size
  replace h1 := h1.moved hvw
  replace h2 := h2.moved hvw
  replace h4 : ∀ k, Fa k → n ≤ k ∧ k < v.heap.size := fun k hk => ⟨(h4 k hk).1, Nat.lt_of_lt_of_le (h4 k hk).2 hsv⟩
  replace h5 : ∀ k, Fb k → n ≤ k ∧ k < v.heap.size := fun k hk => ⟨(h5 k hk).1, Nat.lt_of_lt_of_le (h5 k hk).2 hsv⟩
  have hl := hP.len
  have hb := hP.bytes
  refine (skl_put a Fa Pa Ha sa v h1 key value ht (by omega) (by omega) (fun x hx => by have := (hP.sz x hx).2; omega) (by omega) (by omega)).mono ?_
  rintro e w' ⟨rfl, F', st', hS, h01, h02, hF, hC⟩
  have hs := hC.size
  refine ⟨rfl, ⟨F', Fb, _, Hb, st', sb, hS, h2.chg hC (fun k hk hh => h3 k hh hk), fun k hk hh => ?_, fun k hk => ⟨?_, (hF k hk).2⟩, fun k hk => ⟨(h5 k hk).1, Nat.lt_of_lt_of_le (h5 k hk).2 hs⟩⟩, hC.below (Nat.le_trans hn hsv) (fun k hk => (h4 k hk).1), fun k hk1 hk2 => hC.block k hk2 (fun hh => by have := (h4o k hh).2; omega)⟩
  · rcases (hF k hk).1 with h6 | h6
    · exact h3 k h6 hh
    · have := (h5 k hh).2; omega
  · rcases (hF k hk).1 with h6 | h6
    · exact (h4 k h6).1
    · omega
theorem two_get_a (hn : n ≤ w.heap.size) (key : ByteArray) :
    Calls Try.prog 14 #[.pointer (some ⟨a, 0, none⟩), .string key] w fun e w' => e = .returned (.tuple #[.string (getPV Pa key), .bool (getP Pa key).isSome]) ∧ TwoS n w' a b Pa Pb ∧ Below n w w' := by
  obtain ⟨Fa, Fb, Ha, Hb, sa, sb, h1, h2, h3, h4, h5⟩ := h
  refine (skl_get a Fa Pa Ha sa w h1 key).mono ?_
  rintro e w' ⟨rfl, st', hS, h01, h02, hC⟩
  have hs := hC.size
  exact ⟨rfl, ⟨Fa, Fb, Ha, Hb, st', sb, hS, h2.of_foot fun k hk => hC.block k (h5 k hk).2 (by rintro rfl; exact h3 k h1.root.1 hk), h3, fun k hk => ⟨(h4 k hk).1, Nat.lt_of_lt_of_le (h4 k hk).2 hs⟩, fun k hk => ⟨(h5 k hk).1, Nat.lt_of_lt_of_le (h5 k hk).2 hs⟩⟩, ⟨hC.os, hC.tape, hC.output, hC.size, fun k hk => hC.block k (by omega) (by rintro rfl; have := (h4 k h1.root.1).1; omega)⟩⟩
theorem two_len_a : Calls Try.prog 11 #[.pointer (some ⟨a, 0, none⟩)] w fun e w' => e = .returned (.int .i64 (Pa.length : Int)) ∧ w' = w := by
  obtain ⟨Fa, Fb, Ha, Hb, sa, sb, h1, h2, h3, h4, h5⟩ := h
  exact skl_len a Fa Pa Ha sa w h1
theorem two_bytes_a : Calls Try.prog 12 #[.pointer (some ⟨a, 0, none⟩)] w fun e w' => e = .returned (.int .i64 (bytesP Pa)) ∧ w' = w := by
  obtain ⟨Fa, Fb, Ha, Hb, sa, sb, h1, h2, h3, h4, h5⟩ := h
  exact skl_bytes a Fa Pa Ha sa w h1
theorem two_from_a (hn : n ≤ w.heap.size) (key : ByteArray) (Bl Bk : Nat) (hP : Pa.length ≤ 60000) (hBl : w.heap[Bl]? = some (.cells #[.pointer (some ⟨a, 0, none⟩)] 24 (0, 0))) (hBk : w.heap[Bk]? = some (.cells #[.string key] 9 (0, 0))) :
    Calls Try.prog 16 #[.func (.func 27) #[] #[.pointer (some ⟨Bl, 0, none⟩), .pointer (some ⟨Bk, 0, none⟩)], .int .i64 200] w fun e w' =>
      ∃ A c, e = .returned (.slice A ((fromP Pa key).take 200).length c) ∧ RowsAt w' A 2 pairRow ((fromP Pa key).take 200) ∧ TwoS n w' a b Pa Pb ∧ Below n w w' ∧ (∀ A l, RowsAt w A 2 pairRow l → RowsAt w' A 2 pairRow l) := by
  have hT := h
  obtain ⟨Fa, Fb, Ha, Hb, sa, sb, h1, h2, h3, h4, h5⟩ := h
  refine (skl_from_row a Fa Pa Ha sa w h1 key Bl Bk 200 (by decide) hP hBl hBk).mono ?_
  rintro e w' ⟨A, c, rfl, hR, ⟨st', hS⟩, hC⟩
  have hs := hC.size
  exact ⟨A, c, rfl, hR, ⟨Fa, Fb, Ha, Hb, st', sb, hS, h2.chg hC (by rintro k hk rfl; exact h3 k h1.root.1 hk), h3, fun k hk => ⟨(h4 k hk).1, Nat.lt_of_lt_of_le (h4 k hk).2 hs⟩, fun k hk => ⟨(h5 k hk).1, Nat.lt_of_lt_of_le (h5 k hk).2 hs⟩⟩, hC.below hn (by rintro k rfl; exact (h4 k h1.root.1).1), fun A l hl => rows_chg h1 hC hl⟩
theorem two_down_a (hn : n ≤ w.heap.size) (key : ByteArray) (Bl Bk : Nat) (hP : Pa.length ≤ 60000) (hBl : w.heap[Bl]? = some (.cells #[.pointer (some ⟨a, 0, none⟩)] 24 (0, 0))) (hBk : w.heap[Bk]? = some (.cells #[.string key] 9 (0, 0))) :
    Calls Try.prog 16 #[.func (.func 28) #[] #[.pointer (some ⟨Bl, 0, none⟩), .pointer (some ⟨Bk, 0, none⟩)], .int .i64 200] w fun e w' =>
      ∃ A c, e = .returned (.slice A ((downP Pa key).take 200).length c) ∧ RowsAt w' A 2 pairRow ((downP Pa key).take 200) ∧ TwoS n w' a b Pa Pb ∧ Below n w w' ∧ (∀ A l, RowsAt w A 2 pairRow l → RowsAt w' A 2 pairRow l) := by
  obtain ⟨Fa, Fb, Ha, Hb, sa, sb, h1, h2, h3, h4, h5⟩ := h
  refine (skl_down_row a Fa Pa Ha sa w h1 key Bl Bk 200 (by decide) hP hBl hBk).mono ?_
  rintro e w' ⟨A, c, rfl, hR, ⟨st', hS⟩, hC⟩
  have hs := hC.size
  exact ⟨A, c, rfl, hR, ⟨Fa, Fb, Ha, Hb, st', sb, hS, h2.chg hC (by rintro k hk rfl; exact h3 k h1.root.1 hk), h3, fun k hk => ⟨(h4 k hk).1, Nat.lt_of_lt_of_le (h4 k hk).2 hs⟩, fun k hk => ⟨(h5 k hk).1, Nat.lt_of_lt_of_le (h5 k hk).2 hs⟩⟩, hC.below hn (by rintro k rfl; exact (h4 k h1.root.1).1), fun A l hl => rows_chg h1 hC hl⟩
end
end Go.Proofs.Ytacgpflheokkaaa
