/-
  The order of places and expiries: order.Better by contract; the plain law.
-/
import Derived.Test.YtafdjgmdkbimoaaDoorSchBnd
import Derived.Test.YtafdjgmdkbimoaaDoorKeyPlain
namespace Go.Proofs.YtafdjgmdkbimoaaDoor
open Go.RowKit
set_option linter.unusedVariables false
set_option linter.unusedSimpArgs false

set_option maxHeartbeats 2000000 in
theorem order_better (sd a b : Int) (w : World) :
    Calls Tryd.prog 7 #[.int .i64 sd, .int .i64 a, .int .i64 b] w fun e w' => e = .returned (.bool (decide ((sd = 1 ∧ b < a) ∨ (sd = 2 ∧ a < b)))) ∧ Below w.heap.size w w' := by
  by_cases h1 : sd = 1
  · obtain ⟨a1, a2⟩ := eq_bb h1
    obtain ⟨a3, a4⟩ := ne_bb (show ¬ sd = 2 by omega)
    by_cases h2 : b < a
    · have e : decide ((sd = 1 ∧ b < a) ∨ (sd = 2 ∧ a < b)) = true := by simp [h1, h2]
      rw [e]
      clear e h1
      go_enter Tryd.func7, Tryd.ntmps7
      go_wp2
      go_ret
      exact ⟨by simp [h2], by (repeat (first | exact Below.refl _ _ | assumption | apply below_drewN | (refine Below.alloc ?_ (by first | assumption | omega | (simp; try omega)) _)))⟩
    · have e : decide ((sd = 1 ∧ b < a) ∨ (sd = 2 ∧ a < b)) = false := by simp [h1, h2]
      rw [e]
      clear e h1
      go_enter Tryd.func7, Tryd.ntmps7
      go_wp2
      go_ret
      exact ⟨by simp [h2], by (repeat (first | exact Below.refl _ _ | assumption | apply below_drewN | (refine Below.alloc ?_ (by first | assumption | omega | (simp; try omega)) _)))⟩
  · obtain ⟨a1, a2⟩ := ne_bb h1
    by_cases h3 : sd = 2
    · obtain ⟨a3, a4⟩ := eq_bb h3
      by_cases h2 : a < b
      · have e : decide ((sd = 1 ∧ b < a) ∨ (sd = 2 ∧ a < b)) = true := by simp [h3, h2]
        rw [e]
        clear e h1 h3
        go_enter Tryd.func7, Tryd.ntmps7
        go_wp2
        go_ret
        exact ⟨by simp [h2], by (repeat (first | exact Below.refl _ _ | assumption | apply below_drewN | (refine Below.alloc ?_ (by first | assumption | omega | (simp; try omega)) _)))⟩
      · have e : decide ((sd = 1 ∧ b < a) ∨ (sd = 2 ∧ a < b)) = false := by simp [h3, h2]
        rw [e]
        clear e h1 h3
        go_enter Tryd.func7, Tryd.ntmps7
        go_wp2
        go_ret
        exact ⟨by simp [h2], by (repeat (first | exact Below.refl _ _ | assumption | apply below_drewN | (refine Below.alloc ?_ (by first | assumption | omega | (simp; try omega)) _)))⟩
    · obtain ⟨a3, a4⟩ := ne_bb h3
      have e : decide ((sd = 1 ∧ b < a) ∨ (sd = 2 ∧ a < b)) = false := by simp [h1, h3]
      rw [e]
      clear e h1 h3
      go_enter Tryd.func7, Tryd.ntmps7
      go_wp2
      go_ret
      exact ⟨rfl, by (repeat (first | exact Below.refl _ _ | assumption | apply below_drewN | (refine Below.alloc ?_ (by first | assumption | omega | (simp; try omega)) _)))⟩

/-- parts that are neat and have bytes -/
abbrev Fine (p : PartR) : Prop := Neat p ∧ (partB p).isSome = true
theorem fine_up (n : Int) (h : -9223372036854775808 ≤ n ∧ n ≤ 9223372036854775807) : Fine ⟨105, n, 0, ByteArray.empty⟩ := ⟨⟨good_up n h, by simp [plainP]⟩, by unfold partB; rw [if_pos rfl]; rfl⟩
theorem fine_down (n : Int) (h : -9223372036854775808 ≤ n ∧ n ≤ 9223372036854775807) : Fine ⟨100, n, 0, ByteArray.empty⟩ := ⟨⟨good_down n h, by simp [plainP]⟩, by unfold partB; rw [if_neg (by simp), if_pos rfl]; rfl⟩
theorem fine_count (u : Int) (h : 0 ≤ u ∧ u < 18446744073709551616) : Fine ⟨117, 0, u, ByteArray.empty⟩ := ⟨⟨good_count u h, by simp [plainP]⟩, by unfold partB; rw [if_neg (by simp), if_neg (by simp), if_pos rfl]; rfl⟩
theorem fine_text (s : ByteArray) (h : s.size ≤ 300) : Fine ⟨116, 0, 0, s⟩ := ⟨⟨good_text s h, by simp [plainP]⟩, by unfold partB; rw [if_neg (by simp), if_neg (by simp), if_neg (by simp), if_pos rfl]; rfl⟩

theorem make_short : ∀ (l : List PartR) (acc : List UInt8), (∀ p ∈ l, (partB p).isSome = true) → (acc ++ encL l).length ≤ 200 → makeGo l acc = (acc ++ encL l, 0)
  | [], acc, _, _ => by simp [makeGo, encL]
  | p :: l, acc, h, hl => by
    obtain ⟨t, ht⟩ := Option.isSome_iff_exists.1 (h p (List.mem_cons_self ..))
    have he : encP p = t := by unfold encP; rw [ht]; rfl
    rw [encL_cons, he, ← List.append_assoc] at hl
    have h2 : (acc ++ t).length ≤ 200 := by rw [List.length_append] at hl; omega
    rw [makeGo, ht]
    simp only
    rw [if_neg (by omega), make_short l (acc ++ t) (fun q hq => h q (List.mem_cons_of_mem _ hq)) hl, encL_cons, he, List.append_assoc]

theorem enc_num_len (p : PartR) (h : Fine p) (hs : p.sort ≠ 116) : (encP p).length = 9 := by
  rcases neat_cases h.1 h.2 with ⟨n, rfl, _, e⟩ | ⟨n, rfl, _, e⟩ | ⟨n, rfl, _, e⟩ | ⟨s, rfl, e⟩
  · rw [e]; simp [beL_length]
  · rw [e]; simp [beL_length]
  · rw [e]; simp [beL_length]
  · exact absurd rfl hs
theorem enc_nums_len : ∀ (l : List PartR), (∀ p ∈ l, Fine p ∧ p.sort ≠ 116) → (encL l).length = 9 * l.length
  | [], _ => rfl
  | p :: l, h => by
    obtain ⟨h1, h2⟩ := h p (List.mem_cons_self ..)
    rw [encL_cons, List.length_append, enc_num_len p h1 h2, enc_nums_len l (fun q hq => h q (List.mem_cons_of_mem _ hq)), List.length_cons]; omega

theorem ofS_nums (c : UInt8) (hc : c ≠ 0) (l : List PartR) (h : ∀ p ∈ l, Fine p ∧ p.sort ≠ 116) (hl : l.length ≤ 20) :
    (ofS ⟨#[c]⟩ l).data.toList = encL (ofL ⟨#[c]⟩ l) ∧ (encL (ofL ⟨#[c]⟩ l)).length ≤ 200 ∧ ∀ p ∈ ofL ⟨#[c]⟩ l, Fine p := by
  have hf : Fine ⟨116, 0, 0, ⟨#[c]⟩⟩ := fine_text _ (show (1 : Nat) ≤ 300 by omega)
  have hall : ∀ p ∈ ofL ⟨#[c]⟩ l, Fine p := by
    intro p hp
    rcases List.mem_cons.1 hp with rfl | hp
    · exact hf
    · exact (h p hp).1
  have e : encP ⟨116, 0, 0, ⟨#[c]⟩⟩ = [116, c, 0, 0] := by
    unfold encP partB
    rw [if_neg (by simp), if_neg (by simp), if_neg (by simp), if_pos rfl]
    show 116 :: (escL [c] ++ [0, 0]) = _
    rw [escL_cons c [] hc]; rfl
  have hlen : (encL (ofL ⟨#[c]⟩ l)).length ≤ 200 := by
    unfold ofL
    rw [encL_cons, List.length_append, e, enc_nums_len l h]
    simp; omega
  refine ⟨?_, hlen, hall⟩
  unfold ofS
  rw [str_data, make_short _ [] (fun p hp => (hall p hp).2) (by simpa using hlen)]
  simp

theorem place_fine (sd pr rk id : Int) (h1 : -9223372036854775808 ≤ sd ∧ sd ≤ 9223372036854775807) (h2 : -9223372036854775808 ≤ pr ∧ pr ≤ 9223372036854775807) (h3 : 0 ≤ rk ∧ rk < 18446744073709551616) (h4 : 0 ≤ id ∧ id < 18446744073709551616) : ∀ p ∈ placeL sd pr rk id, Fine p ∧ p.sort ≠ 116 := by
  intro p hp
  simp only [placeL, List.mem_cons, List.mem_nil_iff, or_false] at hp
  rcases hp with rfl | rfl | rfl | rfl
  · exact ⟨fine_up _ h1, by simp⟩
  · split
    · exact ⟨fine_down _ h2, by simp⟩
    · exact ⟨fine_up _ h2, by simp⟩
  · exact ⟨fine_count _ h3, by simp⟩
  · exact ⟨fine_count _ h4, by simp⟩

theorem cmpI_z {a : Int} : cmpI a a = 0 := by unfold cmpI; simp
theorem cmpP_same_text (s : ByteArray) : cmpP ⟨116, 0, 0, s⟩ ⟨116, 0, 0, s⟩ = 0 := by
  unfold cmpP
  have h := cmpS_eq s s
  simp at h ⊢
  exact h
theorem less_step (p q : PartR) (l m : List PartR) : decide (cmpL (p :: l) (q :: m) < 0) = (decide (cmpP p q < 0) || (decide (cmpP p q = 0) && decide (cmpL l m < 0))) := by
  rw [cmpL]
  by_cases h : cmpP p q = 0
  · rw [if_pos h]; simp [h]
  · rw [if_neg h]; simp [h]
theorem lt_up (a b : Int) : decide (cmpP ⟨105, a, 0, ByteArray.empty⟩ ⟨105, b, 0, ByteArray.empty⟩ < 0) = decide (a < b) ∧ decide (cmpP ⟨105, a, 0, ByteArray.empty⟩ ⟨105, b, 0, ByteArray.empty⟩ = 0) = decide (a = b) := by
  unfold cmpP; simp only [not_true_eq_false, if_false, if_true]; exact ⟨cmpI_lt a b, cmpI_eq a b⟩
theorem lt_down (a b : Int) : decide (cmpP ⟨100, a, 0, ByteArray.empty⟩ ⟨100, b, 0, ByteArray.empty⟩ < 0) = decide (b < a) ∧ decide (cmpP ⟨100, a, 0, ByteArray.empty⟩ ⟨100, b, 0, ByteArray.empty⟩ = 0) = decide (b = a) := by
  unfold cmpP; simp only [not_true_eq_false, if_false, if_true]
  rw [if_neg (by decide)]; exact ⟨cmpI_lt b a, cmpI_eq b a⟩
theorem lt_count (a b : Int) : decide (cmpP ⟨117, 0, a, ByteArray.empty⟩ ⟨117, 0, b, ByteArray.empty⟩ < 0) = decide (a < b) ∧ decide (cmpP ⟨117, 0, a, ByteArray.empty⟩ ⟨117, 0, b, ByteArray.empty⟩ = 0) = decide (a = b) := by
  unfold cmpP; simp only [not_true_eq_false, if_false, if_true]
  rw [if_neg (by decide), if_neg (by decide)]; exact ⟨cmpI_lt a b, cmpI_eq a b⟩

def idB (rk id rk' id' : Int) : Bool := decide (rk < rk') || (decide (rk = rk') && decide (id < id'))
theorem less_id (rk id rk' id' : Int) : decide (cmpL [⟨117, 0, rk, ByteArray.empty⟩, ⟨117, 0, id, ByteArray.empty⟩] [⟨117, 0, rk', ByteArray.empty⟩, ⟨117, 0, id', ByteArray.empty⟩] < 0) = idB rk id rk' id' := by
  rw [less_step, less_step, (lt_count rk rk').1, (lt_count rk rk').2, (lt_count id id').1, (lt_count id id').2]
  unfold idB
  simp [cmpL]
def aheadB (sd pr rk id sd' pr' rk' id' : Int) : Bool :=
  decide (sd < sd') || (decide (sd = sd') && (decide ((sd = 1 ∧ pr' < pr) ∨ (sd = 2 ∧ pr < pr')) || (decide (pr = pr') && idB rk id rk' id')))
theorem less_place (sd pr rk id sd' pr' rk' id' : Int) (h : sd = 1 ∨ sd = 2) (h' : sd' = 1 ∨ sd' = 2) :
    decide (cmpL (ofL ⟨#[98]⟩ (placeL sd pr rk id)) (ofL ⟨#[98]⟩ (placeL sd' pr' rk' id')) < 0) = aheadB sd pr rk id sd' pr' rk' id' := by
  unfold ofL placeL aheadB
  rw [less_step, cmpP_same_text, less_step, (lt_up sd sd').1, (lt_up sd sd').2]
  simp only [Int.lt_irrefl, decide_false, decide_true, Bool.false_or, Bool.true_and]
  rw [less_step, less_id]
  rcases h with rfl | rfl <;> rcases h' with rfl | rfl
  · rw [if_pos rfl, (lt_down pr pr').1, (lt_down pr pr').2]
    simp [eq_comm]
  · simp
  · simp
  · rw [if_neg (by decide), (lt_up pr pr').1, (lt_up pr pr').2]
    simp
theorem less_expiry (rk id rk' id' : Int) :
    decide (cmpL (ofL ⟨#[101]⟩ [⟨117, 0, rk, ByteArray.empty⟩, ⟨117, 0, id, ByteArray.empty⟩]) (ofL ⟨#[101]⟩ [⟨117, 0, rk', ByteArray.empty⟩, ⟨117, 0, id', ByteArray.empty⟩]) < 0) = idB rk id rk' id' := by
  unfold ofL
  rw [less_step, cmpP_same_text, less_id]
  simp

theorem parse_place (sd pr rk id : Int) (h1 : sd = 1 ∨ sd = 2) (h2 : -9223372036854775808 ≤ pr ∧ pr ≤ 9223372036854775807) (h3 : 0 ≤ rk ∧ rk < 18446744073709551616) (h4 : 0 ≤ id ∧ id < 18446744073709551616) :
    thingR (ofS ⟨#[98]⟩ (placeL sd pr rk id)).data.toList = (⟨⟨#[98]⟩, 0, id, sd, pr, rk, 0, ByteArray.empty⟩, 0) := by
  obtain ⟨e1, e2, e3⟩ := ofS_nums 98 (by decide) (placeL sd pr rk id) (place_fine sd pr rk id (by omega) h2 h3 h4) (by simp [placeL])
  have hp := parts_back _ e3 e2
  unfold thingR thingO
  rw [e1, hp]
  simp only [ofL]
  have hf : (!(shapeL ⟨#[98]⟩).isEmpty && fitsL (placeL sd pr rk id) (shapeL ⟨#[98]⟩)) = true := by
    have hs : shapeL ⟨#[98]⟩ = [105, 112, 117, 117] := by decide
    rw [hs]
    unfold placeL
    rcases h1 with rfl | rfl <;> simp [fitsL, fit1]
  rw [if_neg (by simp), if_pos ⟨trivial, hf⟩]
  have hb : bodyT ⟨#[98]⟩ (placeL sd pr rk id) = some ⟨⟨#[98]⟩, 0, id, sd, pr, rk, 0, ByteArray.empty⟩ := by
    unfold bodyT placeL
    rw [if_neg (by decide), if_neg (by decide), if_pos rfl]
    simp only
    have hsm : smallB sd = true := by rcases h1 with rfl | rfl <;> decide
    rw [if_pos trivial, hsm]; rfl
  rw [hb]; rfl

theorem place_order (sd pr rk id sd' pr' rk' id' : Int) (h : sd = 1 ∨ sd = 2) (h' : sd' = 1 ∨ sd' = 2) (h2 : -9223372036854775808 ≤ pr ∧ pr ≤ 9223372036854775807) (h3 : 0 ≤ rk ∧ rk < 18446744073709551616) (h4 : 0 ≤ id ∧ id < 18446744073709551616)
    (h2' : -9223372036854775808 ≤ pr' ∧ pr' ≤ 9223372036854775807) (h3' : 0 ≤ rk' ∧ rk' < 18446744073709551616) (h4' : 0 ≤ id' ∧ id' < 18446744073709551616) :
    Op.bytesLess (ofS ⟨#[98]⟩ (placeL sd pr rk id)).toList (ofS ⟨#[98]⟩ (placeL sd' pr' rk' id')).toList = aheadB sd pr rk id sd' pr' rk' id' := by
  obtain ⟨e1, _, e3⟩ := ofS_nums 98 (by decide) (placeL sd pr rk id) (place_fine sd pr rk id (by omega) h2 h3 h4) (by simp [placeL])
  obtain ⟨f1, _, f3⟩ := ofS_nums 98 (by decide) (placeL sd' pr' rk' id') (place_fine sd' pr' rk' id' (by omega) h2' h3' h4') (by simp [placeL])
  rw [ByteArray.toList_eq, ByteArray.toList_eq, e1, f1, rows_less _ _ e3 f3, less_place _ _ _ _ _ _ _ _ h h']
theorem expiry_order (rk id rk' id' : Int) (h3 : 0 ≤ rk ∧ rk < 18446744073709551616) (h4 : 0 ≤ id ∧ id < 18446744073709551616) (h3' : 0 ≤ rk' ∧ rk' < 18446744073709551616) (h4' : 0 ≤ id' ∧ id' < 18446744073709551616) :
    Op.bytesLess (ofS ⟨#[101]⟩ [⟨117, 0, rk, ByteArray.empty⟩, ⟨117, 0, id, ByteArray.empty⟩]).toList (ofS ⟨#[101]⟩ [⟨117, 0, rk', ByteArray.empty⟩, ⟨117, 0, id', ByteArray.empty⟩]).toList = idB rk id rk' id' := by
  obtain ⟨e1, _, e3⟩ := ofS_nums 101 (by decide) [⟨117, 0, rk, ByteArray.empty⟩, ⟨117, 0, id, ByteArray.empty⟩] (by intro p hp; simp at hp; rcases hp with rfl | rfl; exact ⟨fine_count _ h3, by simp⟩; exact ⟨fine_count _ h4, by simp⟩) (by simp)
  obtain ⟨f1, _, f3⟩ := ofS_nums 101 (by decide) [⟨117, 0, rk', ByteArray.empty⟩, ⟨117, 0, id', ByteArray.empty⟩] (by intro p hp; simp at hp; rcases hp with rfl | rfl; exact ⟨fine_count _ h3', by simp⟩; exact ⟨fine_count _ h4', by simp⟩) (by simp)
  rw [ByteArray.toList_eq, ByteArray.toList_eq, e1, f1, rows_less _ _ e3 f3, less_expiry]

end Go.Proofs.YtafdjgmdkbimoaaDoor
