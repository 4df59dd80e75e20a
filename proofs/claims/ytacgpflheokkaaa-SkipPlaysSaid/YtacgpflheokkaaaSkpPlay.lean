/-
  A list, its pairs as the document has them, and a map of heights: what a script of Puts leaves.
-/
import Derived.Test.YtacgpflheokkaaaSkpTwo
import Derived.Maps.OwnSet
import Derived.Maps.OwnOps
namespace Go.Proofs.Ytacgpflheokkaaa
open Go.RowKit Go.Shelf Go.Maps
set_option linter.unusedVariables false
set_option linter.unusedSimpArgs false

theorem rows_take {ρ : Type} {w : World} {A : Option Addr} {m : Nat} {enc : ρ → List Value} {l : List ρ} (h : RowsAt w A m enc l) (n : Nat) : RowsAt w A m enc (l.take n) := by
  rcases h.out with e | ⟨b, o, e, hc⟩
  · exact ⟨.inl (by rw [e, List.take_nil])⟩
  · refine ⟨.inr ⟨b, o, e, fun i r hi j v hv => hc i r ?_ j v hv⟩⟩
    rw [List.getElem?_take] at hi
    split at hi
    · exact hi
    · cases hi
theorem law_str : Keyed Try.prog 9 := string_keyed Try.underlying9
theorem zero_int (w : World) : (zeroValue 3).run Try.prog w = .ok (.int .i64 0) w := by kernel_rfl
def kl7 (s : ByteArray) : Lit := .string s.data.toList
abbrev i64d (n : Int) : DataW Unit := .lit (.int .i64 n)
theorem kl7_inj {s t : ByteArray} (h : kl7 s = kl7 t) : s = t := by
  unfold kl7 at h
  injection h with h
  exact ByteArray.ext (Array.toList_inj.mp h)
theorem key7 (s : ByteArray) (hs : s.size ≤ 300) : keyOf Try.prog 9 (.string s) = some (kl7 s)   := WideMaps.keyOf_string_mk Try.underlying9 (by unfold maxLen; omega)
theorem getP_put (l : List PairS) (p : PairS) (s : ByteArray) : (getP (putP l p) s).isSome = (decide (s = p.1) || (getP l s).isSome) := by
  unfold getP putP
  have hl : l.find? (fun x => decide (x.1 = s)) = (l.takeWhile (fun x => bLt x.1 p.1) ++ l.dropWhile (fun x => bLt x.1 p.1)).find? (fun x => decide (x.1 = s)) := by rw [List.takeWhile_append_dropWhile]
  rw [hl, List.find?_append, List.find?_append, List.find?_cons]
  by_cases hs : s = p.1
  · subst hs
    simp only [decide_true, Option.isSome_or, Option.isSome_some, Bool.or_true, Bool.true_or]
  · have h1 : decide (p.1 = s) = false := decide_eq_false (fun h => hs h.symm)
    rw [h1, decide_eq_false hs, Bool.false_or]
    have h2 : ((l.dropWhile fun x => bLt x.1 p.1).filter fun x => decide (x.1 ≠ p.1)).find? (fun x => decide (x.1 = s)) = (l.dropWhile fun x => bLt x.1 p.1).find? (fun x => decide (x.1 = s)) := by
      rw [List.find?_filter]
      congr 1
      funext x
      by_cases hx : x.1 = s
      · rw [decide_eq_true hx]
        have h3 : x.1 ≠ p.1 := fun h => hs (by rw [← hx, h])
        simp [h3]
      · rw [decide_eq_false hx]
        simp
    rw [h2]
/-- the heights as the map has them -/
def MapH (D : DataW Unit) (H : ByteArray → Int) (P : List PairS) : Prop := IsMap D ∧ ∀ s, D.atKey (kl7 s) (i64d 0) = i64d (H s) ∧ Maps.has D (kl7 s) = (getP P s).isSome
theorem mapH_start : MapH (.map []) (fun _ => 0) [] := ⟨isMap_empty, fun _ => ⟨rfl, rfl⟩⟩
theorem mapH_new {D : DataW Unit} {H : ByteArray → Int} {P : List PairS} (h : MapH D H P) (key value : ByteArray) (ht : Int) (hn : (getP P key).isSome = false) : MapH (D.put (kl7 key) (i64d (min (max ht 1) 12))) (putH P H key ht) (putP P (key, value)) := by
  refine ⟨h.1.put _ _, fun s => ?_⟩
  rw [getP_put]
  unfold putH
  by_cases hs : s = key
  · subst hs
    rw [if_pos rfl, hn, if_neg (by decide), decide_eq_true rfl, Bool.true_or]
    exact ⟨atKey_put_same h.1 (show WideAt.IsKeyLit (.string _) from trivial) _ _, has_put_same h.1 (show WideAt.IsKeyLit (.string _) from trivial) _⟩
  · have hk : kl7 s ≠ kl7 key := fun e => hs (kl7_inj e)
    rw [if_neg hs, decide_eq_false hs, Bool.false_or]
    exact ⟨by rw [atKey_put_other hk]; exact (h.2 s).1, by rw [has_put_other hk]; exact (h.2 s).2⟩
theorem mapH_old {D : DataW Unit} {H : ByteArray → Int} {P : List PairS} (h : MapH D H P) (key value : ByteArray) (ht : Int) (hn : (getP P key).isSome = true) : MapH D (putH P H key ht) (putP P (key, value)) := by
  refine ⟨h.1, fun s => ?_⟩
  rw [getP_put]
  unfold putH
  by_cases hs : s = key
  · subst hs
    rw [if_pos rfl, hn, if_pos rfl, decide_eq_true rfl, Bool.true_or]
    exact ⟨(h.2 s).1, by rw [(h.2 s).2, hn]⟩
  · rw [if_neg hs, decide_eq_false hs, Bool.false_or]
    exact h.2 s
theorem ownsMap_of {w w' : World} {k : TypeId} {R : Value → Option (DataW Unit × List MemPlace)} {b n : Nat} {D : DataW Unit} (h : w.ownsMap Try.prog k R b n D) (e : w'.heap[b]? = w.heap[b]?) : w'.ownsMap Try.prog k R b n D := by
  obtain ⟨es, cl, h1, h2⟩ := h
  exact ⟨es, cl, e.trans h1, h2⟩
/-- the list, the row, the map -/
structure PlayS (n : Nat) (w : World) (b M : Nat) (A : Option Addr) (P : List PairS) (H : ByteArray → Int) (j : Nat) : Prop where
  ex : ∃ (F : Nat → Prop) (st : Int) (D : DataW Unit), SkL w F b P H st ∧ (∀ k, F k → n ≤ k ∧ k < w.heap.size) ∧ RowsAt w A 2 pairRow P ∧ (∀ B o, A = some ⟨B, o, none⟩ → ¬ F B) ∧ w.ownsMap Try.prog 9 (plainElem Try.prog 3) M j D ∧ ¬ F M ∧ MapH D H P ∧ n ≤ M
/-- .. and what is behind a look-up: at most so many towers were stepped over -/
def StS (n : Nat) (w : World) (b M : Nat) (A : Option Addr) (P : List PairS) (H : ByteArray → Int) (j : Nat) : Prop :=
  ∃ (F : Nat → Prop) (st : Int) (D : DataW Unit), SkL w F b P H st ∧ (∀ k, F k → n ≤ k ∧ k < w.heap.size) ∧ RowsAt w A 2 pairRow P ∧ (∀ B o, A = some ⟨B, o, none⟩ → ¬ F B) ∧ w.ownsMap Try.prog 9 (plainElem Try.prog 3) M j D ∧ ¬ F M ∧ MapH D H P ∧ n ≤ M ∧ 0 ≤ st ∧ st ≤ (P.length : Int) + 12
theorem StS.play {n : Nat} {w : World} {b M : Nat} {A : Option Addr} {P : List PairS} {H : ByteArray → Int} {j : Nat} (h : StS n w b M A P H j) : PlayS n w b M A P H j := by
  obtain ⟨F, st, D, h1, h2, h3, h4, h5, h6, h7, h8, _⟩ := h
  exact ⟨F, st, D, h1, h2, h3, h4, h5, h6, h7, h8⟩
section
variable {n : Nat} {w w' : World} {b M : Nat} {A : Option Addr} {P : List PairS} {H : ByteArray → Int} {j : Nat}
theorem PlayS.moved (h : PlayS n w b M A P H j) (hB : Below w.heap.size w w') : PlayS n w' b M A P H j := by
  obtain ⟨F, st, D, h1, h2, h3, h4, h5, h6, h7, h8⟩ := h.ex
  exact ⟨F, st, D, h1.moved hB, fun k hk => ⟨(h2 k hk).1, Nat.lt_of_lt_of_le (h2 k hk).2 hB.size⟩, h3.moved hB, h4, ownsMap_of h5 (hB.block _ h5.lt), h6, h7, h8⟩
theorem StS.moved (h : StS n w b M A P H j) (hB : Below w.heap.size w w') : StS n w' b M A P H j := by
  obtain ⟨F, st, D, h1, h2, h3, h4, h5, h6, h7, h8⟩ := h
  exact ⟨F, st, D, h1.moved hB, fun k hk => ⟨(h2 k hk).1, Nat.lt_of_lt_of_le (h2 k hk).2 hB.size⟩, h3.moved hB, h4, ownsMap_of h5 (hB.block _ h5.lt), h6, h7, h8⟩
/-- behind a Put the list is another one; the row, the map are the old ones -/
structure MidS (n : Nat) (w : World) (b M : Nat) (A : Option Addr) (P P' : List PairS) (H H' : ByteArray → Int) (j : Nat) : Prop where
  ex : ∃ (F : Nat → Prop) (st : Int) (D : DataW Unit), SkL w F b P' H' st ∧ (∀ k, F k → n ≤ k ∧ k < w.heap.size) ∧ RowsAt w A 2 pairRow P ∧ w.ownsMap Try.prog 9 (plainElem Try.prog 3) M j D ∧ ¬ F M ∧ MapH D H P ∧ n ≤ M
theorem play_put (h : PlayS n w b M A P H j) (hn : n ≤ w.heap.size) {v : World} (hvw : Below w.heap.size w v) (key value : ByteArray) (ht : Int) {i : Nat} (hP : SmallP P i) (hj : i ≤ 2000) (hk : key.size ≤ 300) (hv : value.size ≤ 300) :
    Calls Try.prog 9 #[.pointer (some ⟨b, 0, none⟩), .string key, .string value, .int .i64 ht] v fun e w' => e = .returned (.int .i64 0) ∧ MidS n w' b M A P (putP P (key, value)) H (putH P H key ht) j ∧ Below n v w' ∧ (∀ k, w.heap.size ≤ k → k < v.heap.size → w'.heap[k]? = v.heap[k]?) := by
  have h0 := h
  obtain ⟨F0, st0, D0, g1, g2, _⟩ := h0.ex
  have hl := hP.len
  have hb := hP.bytes
  have hsv := hvw.size
  obtain ⟨F, st, D, h1, h2, h3, h4, h5, h6, h7, h8⟩ := h.ex
  have hM := h5.lt
  have h1' := h1.moved hvw
  refine (skl_put b F P H st v h1' key value ht (by omega) (by omega) (fun x hx => by have := (hP.sz x hx).2; omega) (by omega) (by omega)).mono ?_
  rintro e w' ⟨rfl, F', st', hS, h01, h02, hF, hC⟩
  refine ⟨rfl, ⟨F', st', D, hS, fun k hk => ⟨?_, (hF k hk).2⟩, rows_chgQ (h3.moved hvw) hC (.inr h4), ownsMap_of (ownsMap_of h5 (hvw.block _ hM)) (hC.block _ (Nat.lt_of_lt_of_le hM hsv) h6), fun hh => ?_, h7, h8⟩, hC.below (Nat.le_trans hn hsv) (fun k hk => (h2 k hk).1), fun k hk1 hk2 => hC.block k hk2 (fun hh => by have := (h2 k hh).2; omega)⟩
  · rcases (hF k hk).1 with hx | hx
    · exact (h2 k hx).1
    · omega
  · rcases (hF M hh).1 with hx | hx
    · exact h6 hx
    · omega
/-- the document's Put gives the new row -/
theorem mid_row {P' : List PairS} {H' : ByteArray → Int} (h : MidS n w b M A P P' H H' j) {A' : Option Addr} (hB : Below w.heap.size w w') (hr : RowsAt w' A' 2 pairRow P') (hA : ∀ B o, A' = some ⟨B, o, none⟩ → w.heap.size ≤ B) :
    ∃ (F : Nat → Prop) (st : Int) (D : DataW Unit), SkL w' F b P' H' st ∧ (∀ k, F k → n ≤ k ∧ k < w'.heap.size) ∧ RowsAt w' A' 2 pairRow P' ∧ (∀ B o, A' = some ⟨B, o, none⟩ → ¬ F B) ∧ w'.ownsMap Try.prog 9 (plainElem Try.prog 3) M j D ∧ ¬ F M ∧ MapH D H P ∧ n ≤ M := by
  obtain ⟨F, st, D, h1, h2, h3, h5, h6, h7, h8⟩ := h.ex
  refine ⟨F, st, D, h1.moved hB, fun k hk => ⟨(h2 k hk).1, Nat.lt_of_lt_of_le (h2 k hk).2 hB.size⟩, hr, fun B o e hh => ?_, ownsMap_of h5 (hB.block _ h5.lt), h6, h7, h8⟩
  have := hA B o e
  have := (h2 B hh).2
  omega
/-- the map's store -/
theorem play_store {F : Nat → Prop} {st : Int} {D D' : DataW Unit} {key value : ByteArray} {ht : Int} (h1 : SkL w F b (putP P (key, value)) (putH P H key ht) st) (h2 : ∀ k, F k → n ≤ k ∧ k < w.heap.size) (h3 : RowsAt w A 2 pairRow (putP P (key, value))) (h4 : ∀ B o, A = some ⟨B, o, none⟩ → ¬ F B) (h6 : ¬ F M) (h8 : n ≤ M)
    (hD : MapH D' (putH P H key ht) (putP P (key, value))) (hown : w'.ownsMap Try.prog 9 (plainElem Try.prog 3) M (j + 1) D') (hg : w.grownBy w' (some M)) (hAM : ∀ B o, A = some ⟨B, o, none⟩ → B ≠ M) : PlayS n w' b M A (putP P (key, value)) (putH P H key ht) (j + 1) := by
  have hC : ChgQ (fun k => k = M) w w' := ⟨hg.os, hg.tape, hg.output, hg.size, fun k hk hq => hg.block k hk (by simpa using hq)⟩
  refine ⟨F, st, D', h1.of_foot fun k hk => hg.block k (h2 k hk).2 (by simp; rintro rfl; exact h6 hk), fun k hk => ⟨(h2 k hk).1, Nat.lt_of_lt_of_le (h2 k hk).2 hg.size⟩, rows_chgQ h3 hC (.inr hAM), h4, hown, h6, hD, h8⟩
theorem play_get (h : PlayS n w b M A P H j) (hn : n ≤ w.heap.size) (key : ByteArray) :
    Calls Try.prog 14 #[.pointer (some ⟨b, 0, none⟩), .string key] w fun e w' => e = .returned (.tuple #[.string (getPV P key), .bool (getP P key).isSome]) ∧ StS n w' b M A P H j ∧ Chg b w w' := by
  obtain ⟨F, st, D, h1, h2, h3, h4, h5, h6, h7, h8⟩ := h.ex
  refine (skl_get b F P H st w h1 key).mono ?_
  rintro e w' ⟨rfl, st', hS, h01, h02, hC⟩
  have hrt := h1.root.1
  exact ⟨rfl, ⟨F, st', D, hS, fun k hk => ⟨(h2 k hk).1, Nat.lt_of_lt_of_le (h2 k hk).2 hC.size⟩, rows_chgQ h3 ⟨hC.os, hC.tape, hC.output, hC.size, hC.block⟩ (.inr fun B o e => by rintro rfl; exact h4 _ o e hrt), h4, ownsMap_of h5 (hC.block _ h5.lt (by rintro rfl; exact h6 hrt)), h6, h7, h8, h01, h02⟩, hC⟩
/-- what the list's own functions may turn -/
structure RelS (n : Nat) (b M : Nat) (A : Option Addr) (P : List PairS) (H : ByteArray → Int) (j : Nat) (w w' : World) : Prop where
  chg : ChgQ (fun k => k = b) w w'
  rows : ∀ (B : Option Addr) (l : List PairS), RowsAt w B 2 pairRow l → RowsAt w' B 2 pairRow l
  st : StS n w b M A P H j → StS n w' b M A P H j
theorem RelS.refl (w : World) : RelS n b M A P H j w w := ⟨ChgQ.refl _ _, fun _ _ h => h, fun h => h⟩
theorem RelS.drew1 (w : World) : RelS n b M A P H j w { w with drawn := w.drawn + 1 } := ⟨⟨rfl, rfl, rfl, Nat.le_refl _, fun _ _ _ => rfl⟩, fun _ _ h => ⟨h.out⟩, fun h => h.moved ⟨rfl, rfl, rfl, Nat.le_refl _, fun _ _ => rfl⟩⟩
theorem RelS.trans {u v x : World} (h : RelS n b M A P H j u v) (k : RelS n b M A P H j v x) : RelS n b M A P H j u x := ⟨h.chg.trans k.chg, fun B l hl => k.rows B l (h.rows B l hl), fun hs => k.st (h.st hs)⟩
theorem RelS.below (hB : Below w.heap.size w w') : RelS n b M A P H j w w' := ⟨ChgQ.of_below hB, fun _ _ h => h.moved hB, fun h => h.moved hB⟩
theorem st_height (h : StS n w b M A P H j) (key : ByteArray) :
    Calls Try.prog 22 #[.pointer (some ⟨b, 0, none⟩), .string key] w fun e w' => e = .returned (.int .i64 (H key)) ∧ RelS n b M A P H j w w' := by
  obtain ⟨F, st, D, h1, h2, h3, h4, h5, h6, h7, h8, h9⟩ := h
  refine (skl_height b F P H st w h1 key).mono ?_
  rintro e w' ⟨rfl, st', hS, h01, h02, hC⟩
  have hrt := h1.root.1
  have hC' : ChgQ (fun k => k = b) w w' := ⟨hC.os, hC.tape, hC.output, hC.size, hC.block⟩
  exact ⟨rfl, hC', fun B l hl => rows_chg h1 hC' hl, fun _ => ⟨F, st', D, hS, fun k hk => ⟨(h2 k hk).1, Nat.lt_of_lt_of_le (h2 k hk).2 hC.size⟩, rows_chg h1 hC' h3, h4, ownsMap_of h5 (hC.block _ h5.lt (by rintro rfl; exact h6 hrt)), h6, h7, h8, h01, h02⟩⟩
theorem st_steps (h : StS n w b M A P H j) : Calls Try.prog 20 #[.pointer (some ⟨b, 0, none⟩)] w fun e w' => (∃ s : Int, e = .returned (.int .i64 s) ∧ 0 ≤ s ∧ s ≤ (P.length : Int) + 12) ∧ w' = w := by
  obtain ⟨F, st, D, h1, h2, h3, h4, h5, h6, h7, h8, h9, h10⟩ := h
  exact (skl_steps b F P H st w h1).mono fun _ _ ⟨h1, h2⟩ => ⟨⟨st, h1, h9, h10⟩, h2⟩
theorem st_len (h : StS n w b M A P H j) : Calls Try.prog 11 #[.pointer (some ⟨b, 0, none⟩)] w fun e w' => e = .returned (.int .i64 (P.length : Int)) ∧ w' = w := by
  obtain ⟨F, st, D, h1, _⟩ := h
  exact skl_len b F P H st w h1
theorem st_bytes (h : StS n w b M A P H j) : Calls Try.prog 12 #[.pointer (some ⟨b, 0, none⟩)] w fun e w' => e = .returned (.int .i64 (bytesP P)) ∧ w' = w := by
  obtain ⟨F, st, D, h1, _⟩ := h
  exact skl_bytes b F P H st w h1
theorem st_row (h : StS n w b M A P H j) : RowsAt w A 2 pairRow P := by obtain ⟨_, _, _, _, _, h3, _⟩ := h; exact h3
theorem st_map (h : StS n w b M A P H j) (s : ByteArray) (hs : s.size ≤ 300) (t : TypeId) (ht : Try.prog.underlying t = some (.map 9 3)) : (Instr.lookup t (.map (some M)) (.string s) false).run Try.prog w = .ok (.int .i64 (H s)) w := by
  obtain ⟨F, st, D, h1, h2, h3, h4, h5, h6, h7, _⟩ := h
  obtain ⟨c, hrun, hat, hwc⟩ := h5.lookup_int law_str ht Try.underlying3 (zero_int _) (key7 s hs)
  rw [(h7.2 s).1] at hat
  cases hat
  exact hrun
/-- what the iterators may turn -/
structure RelP (n : Nat) (b M : Nat) (A : Option Addr) (P : List PairS) (H : ByteArray → Int) (j : Nat) (w w' : World) : Prop where
  chg : ChgQ (fun k => k = b) w w'
  rows : ∀ (B : Option Addr) (l : List PairS), RowsAt w B 2 pairRow l → RowsAt w' B 2 pairRow l
  st : PlayS n w b M A P H j → PlayS n w' b M A P H j
theorem RelP.refl (w : World) : RelP n b M A P H j w w := ⟨ChgQ.refl _ _, fun _ _ h => h, fun h => h⟩
theorem RelP.drew1 (w : World) : RelP n b M A P H j w { w with drawn := w.drawn + 1 } := ⟨⟨rfl, rfl, rfl, Nat.le_refl _, fun _ _ _ => rfl⟩, fun _ _ h => ⟨h.out⟩, fun h => h.moved ⟨rfl, rfl, rfl, Nat.le_refl _, fun _ _ => rfl⟩⟩
theorem RelP.trans {u v x : World} (h : RelP n b M A P H j u v) (k : RelP n b M A P H j v x) : RelP n b M A P H j u x := ⟨h.chg.trans k.chg, fun B l hl => k.rows B l (h.rows B l hl), fun hs => k.st (h.st hs)⟩
theorem RelP.below (hB : Below w.heap.size w w') : RelP n b M A P H j w w' := ⟨ChgQ.of_below hB, fun _ _ h => h.moved hB, fun h => h.moved hB⟩
theorem play_height (h : PlayS n w b M A P H j) (key : ByteArray) :
    Calls Try.prog 22 #[.pointer (some ⟨b, 0, none⟩), .string key] w fun e w' => e = .returned (.int .i64 (H key)) ∧ RelP n b M A P H j w w' := by
  obtain ⟨F, st, D, h1, h2, h3, h4, h5, h6, h7, h8⟩ := h.ex
  refine (skl_height b F P H st w h1 key).mono ?_
  rintro e w' ⟨rfl, st', hS, h01, h02, hC⟩
  have hrt := h1.root.1
  have hC' : ChgQ (fun k => k = b) w w' := ⟨hC.os, hC.tape, hC.output, hC.size, hC.block⟩
  exact ⟨rfl, hC', fun B l hl => rows_chg h1 hC' hl, fun _ => ⟨F, st', D, hS, fun k hk => ⟨(h2 k hk).1, Nat.lt_of_lt_of_le (h2 k hk).2 hC.size⟩, rows_chg h1 hC' h3, h4, ownsMap_of h5 (hC.block _ h5.lt (by rintro rfl; exact h6 hrt)), h6, h7, h8⟩⟩
theorem play_row (h : PlayS n w b M A P H j) : RowsAt w A 2 pairRow P := by obtain ⟨_, _, _, _, _, h3, _⟩ := h.ex; exact h3
theorem play_map (h : PlayS n w b M A P H j) (s : ByteArray) (hs : s.size ≤ 300) (t : TypeId) (ht : Try.prog.underlying t = some (.map 9 3)) : (Instr.lookup t (.map (some M)) (.string s) false).run Try.prog w = .ok (.int .i64 (H s)) w := by
  obtain ⟨F, st, D, h1, h2, h3, h4, h5, h6, h7, _⟩ := h.ex
  obtain ⟨c, hrun, hat, hwc⟩ := h5.lookup_int law_str ht Try.underlying3 (zero_int _) (key7 s hs)
  rw [(h7.2 s).1] at hat
  cases hat
  exact hrun
theorem play_rowcall (h : PlayS n w b M A P H j) {gf : Nat} {lb : Array Value} {R : List PairS} {most : Int}
    (hc : ∀ F st, SkL w F b P H st → Calls Try.prog 16 #[.func (.func gf) #[] lb, .int .i64 most] w fun e w' => ∃ a c, e = .returned (.slice a R.length c) ∧ RowsAt w' a 2 pairRow R ∧ (∃ st', SkL w' F b P H st') ∧ ChgQ (fun k => k = b) w w') :
    Calls Try.prog 16 #[.func (.func gf) #[] lb, .int .i64 most] w fun e w' => ∃ a c, e = .returned (.slice a R.length c) ∧ RowsAt w' a 2 pairRow R ∧ RelP n b M A P H j w w' := by
  obtain ⟨F, st, D, h1, h2, h3, h4, h5, h6, h7, h8⟩ := h.ex
  refine (hc F st h1).mono ?_
  rintro e w' ⟨a, c, rfl, hR, ⟨st', hS⟩, hC⟩
  have hrt := h1.root.1
  exact ⟨a, c, rfl, hR, hC, fun B l hl => rows_chg h1 hC hl, fun _ => ⟨F, st', D, hS, fun k hk => ⟨(h2 k hk).1, Nat.lt_of_lt_of_le (h2 k hk).2 hC.size⟩, rows_chg h1 hC h3, h4, ownsMap_of h5 (hC.block _ h5.lt (by rintro rfl; exact h6 hrt)), h6, h7, h8⟩⟩
end
end Go.Proofs.Ytacgpflheokkaaa
