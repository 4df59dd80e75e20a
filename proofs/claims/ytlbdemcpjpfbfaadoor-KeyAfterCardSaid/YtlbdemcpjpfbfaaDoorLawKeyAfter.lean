/-
  The walk of KeyAfter: all texts that begin with one stand ahead of what is behind them, and no others from it on do.
-/
import Derived.Test.YtlbdemcpjpfbfaaDoorKeyAwake
import Derived.Test.YtlbdemcpjpfbfaaDoorShelf
namespace Go.Proofs.YtlbdemcpjpfbfaaDoor
open Go.RowKit
set_option linter.unusedVariables false
set_option linter.unusedSimpArgs false

/-- behind a beginning, told from its first byte on -/
def afterF : List UInt8 → Option (List UInt8)
  | [] => none
  | c :: r => match afterF r with
    | some a => some (c :: a)
    | none => if c = 255 then none else some [c + 1]
theorem afterF_full (l : List UInt8) : afterF (l ++ [255]) = afterF l := by
  induction l with
  | nil => rfl
  | cons c l ih => rw [List.cons_append, afterF, afterF, ih]
theorem afterF_some (l : List UInt8) (c : UInt8) (h : c ≠ 255) : afterF (l ++ [c]) = some (l ++ [c + 1]) := by
  induction l with
  | nil => simp [afterF, h]
  | cons d l ih => rw [List.cons_append, afterF, ih]; rfl
theorem afterF_eq (l : List UInt8) : afterL l = afterF l := by
  have : ∀ r : List UInt8, afterL r.reverse = afterF r.reverse := by
    intro r
    induction r with
    | nil => rfl
    | cons c r ih =>
      rw [List.reverse_cons]
      by_cases h : c = 255
      · rw [h, afterL_full, afterF_full, ih]
      · rw [afterL_some _ _ h, afterF_some _ _ h]
  have h := this l.reverse
  rwa [List.reverse_reverse] at h

theorem less_self_append (p s : List UInt8) : Op.bytesLess (p ++ s) p = false := by
  induction p with
  | nil => cases s <;> rfl
  | cons c p ih =>
    rw [List.cons_append, Op.bytesLess, ih]
    simp
theorem u8_lt_succ (c : UInt8) (h : c ≠ 255) : c < c + 1 := by
  rw [UInt8.lt_iff_toNat_lt, UInt8.toNat_add]
  have h1 := c.toNat_lt
  have h2 : c.toNat ≠ 255 := fun e => h (UInt8.toNat_inj.mp e)
  show c.toNat < (c.toNat + 1) % 256
  omega
theorem less_after (p s a : List UInt8) (h : afterF p = some a) : Op.bytesLess (p ++ s) a = true := by
  induction p generalizing a with
  | nil => simp [afterF] at h
  | cons c p ih =>
    rw [afterF] at h
    cases hp : afterF p with
    | some a' =>
      rw [hp] at h
      simp at h
      subst h
      rw [List.cons_append, Op.bytesLess, ih a' hp]; simp
    | none =>
      rw [hp] at h
      simp at h
      obtain ⟨h1, rfl⟩ := h
      rw [List.cons_append, Op.bytesLess]
      simp [u8_lt_succ c h1]
theorem in_prefix (p t : List UInt8) : (!Op.bytesLess t p && (match afterF p with | none => true | some a => Op.bytesLess t a)) = p.isPrefixOf t := by
  induction p generalizing t with
  | nil => cases t <;> rfl
  | cons c p ih =>
    cases t with
    | nil => rfl
    | cons d u =>
      rw [Op.bytesLess, List.isPrefixOf]
      have ihu := ih u
      by_cases e : d = c
      · subst e
        have e1 : (decide (d < d) || d == d && Op.bytesLess u p) = Op.bytesLess u p := by simp
        rw [e1]
        have e2 : (d == d && p.isPrefixOf u) = p.isPrefixOf u := by simp
        rw [e2, ← ihu]
        congr 1
        rw [afterF]
        cases hp : afterF p with
        | some a' => simp [Op.bytesLess]
        | none =>
          by_cases h : d = 255
          · simp [h]
          · simp only [if_neg h]
            rw [Op.bytesLess]
            simp [u8_lt_succ d h]
      · have e3 : (c == d) = false := by simp; exact fun h => e h.symm
        have e4 : (d == c) = false := by simp [e]
        rw [e3, e4, Bool.false_and, Bool.false_and, Bool.or_false]
        by_cases hlt : d < c
        · simp [hlt]
        · have hgt : c < d := by
            rw [UInt8.lt_iff_toNat_lt] at hlt ⊢
            have : d.toNat ≠ c.toNat := fun h => e (UInt8.toNat_inj.mp h)
            omega
          simp only [hlt, decide_false, Bool.not_false, Bool.true_and]
          rw [afterF]
          cases hp : afterF p with
          | some a' => simp [Op.bytesLess, hlt, e4]
          | none =>
            by_cases h : c = 255
            · exfalso
              rw [UInt8.lt_iff_toNat_lt, h] at hgt
              have := d.toNat_lt
              have h2 : (255 : UInt8).toNat = 255 := rfl
              omega
            · simp only [if_neg h]
              rw [Op.bytesLess]
              have h3 : ¬ d < c + 1 := by
                rw [UInt8.lt_iff_toNat_lt, UInt8.toNat_add] at *
                have h1 := c.toNat_lt
                have h2 : c.toNat ≠ 255 := fun e => h (UInt8.toNat_inj.mp e)
                show ¬ d.toNat < (c.toNat + 1) % 256
                omega
              have h4 : Op.bytesLess u [] = false := by cases u <;> rfl
              simp [h3, h4]

set_option maxRecDepth 100000 in
set_option maxHeartbeats 4000000 in
theorem KeyAfter_walk (p s t : ByteArray) (w : World) (wp : p.size ≤ 140737488351232) (ws : s.size ≤ 140737488351232) (wt : t.size ≤ 140737488351232) :
    Calls Tryd.prog 4 #[.string p, .string s, .string t] w fun e w' => e = .returned (.bool true) ∧ Below w.heap.size w w' := by
  have W0 : Below w.heap.size w w := Below.refl _ _
  have AW : Hid (∀ wx, Below w.heap.size w wx → Calls Tryd.prog 7 #[] wx fun e w' => e = .returned (.bool true) ∧ Below w.heap.size w w') := Lib.hid fun wx h => (awake04 wx).mono fun _ _ ⟨h1, h2⟩ => ⟨h1, below_at h h2⟩
  by_cases hbad : 300 < p.size ∨ 300 < s.size ∨ 300 < t.size
  · have hcase : 300 < p.size ∨ (¬ 300 < p.size ∧ 300 < s.size) ∨ (¬ 300 < p.size ∧ ¬ 300 < s.size ∧ 300 < t.size) := by omega
    clear hbad
    rcases hcase with h | ⟨h, h2⟩ | ⟨h, h2, h3⟩ <;>
    · go_enter Tryd.func4, Tryd.ntmps4
      go_wp2_with (go_at_call 7; (with_reducible refine (AW.out _ (by assumption)).mono ?_); rintro e w1 ⟨rfl, hB1⟩)
      go_ret
      exact ⟨rfl, hB1⟩
  · have h1 : ¬ 300 < p.size := fun h => hbad (.inl h)
    have h2 : ¬ 300 < s.size := fun h => hbad (.inr (.inl h))
    have h3 : ¬ 300 < t.size := fun h => hbad (.inr (.inr h))
    clear hbad
    have KA : Hid (∀ wx, Below w.heap.size w wx → Calls Tryd.prog 14 #[.string p] wx fun e w' => e = .returned (.tuple #[.string (str ((afterL p.data.toList).getD [])), .bool (afterL p.data.toList).isSome]) ∧ Below w.heap.size w w') := Lib.hid fun wx h => (key_after p wx (by omega)).mono fun _ _ ⟨h1, h2⟩ => ⟨h1, below_at h h2⟩
    have HP : Hid (∀ wx, Calls Tryd.prog 15 #[.string t, .string p] wx fun e w' => e = .returned (.bool (Lib.hasPrefix t.data.toList p.data.toList)) ∧ w' = wx) := Lib.hid fun wx => Tryd.strings_HasPrefix t p wx
    have F1 := less_self_append p.toList s.toList
    have F3 := in_prefix p.toList t.toList
    have F2 := less_after p.toList s.toList
    have ep : p.data.toList = p.toList := (ByteArray.toList_eq p).symm
    have et : t.data.toList = t.toList := (ByteArray.toList_eq t).symm
    have eps : (p ++ s).toList = p.toList ++ s.toList := by rw [ByteArray.toList_eq, ByteArray.toList_eq, ByteArray.toList_eq]; simp
    rw [ep, afterF_eq] at KA
    rw [ep, et] at HP
    unfold Lib.hasPrefix at HP
    rw [← F3] at HP
    rw [← eps] at F1 F2
    clear F3 ep et eps
    cases ha : afterF p.toList with
    | none =>
      rw [ha] at HP KA
      simp only [Option.getD_none, Option.isSome_none, Bool.and_true] at HP KA
      cases hb : Op.bytesLess t.toList p.toList <;>
      · rw [hb] at HP
        go_enter Tryd.func4, Tryd.ntmps4
        go_wp2_with (first | (go_at_call 7; (with_reducible refine (AW.out _ (by assumption)).mono ?_); rintro e w1 ⟨rfl, hB1⟩) | (go_at_call 14; (with_reducible refine (KA.out _ (by assumption)).mono ?_); rintro e w2 ⟨rfl, hB2⟩) | (go_at_call 15; (with_reducible refine (HP.out _).mono ?_); rintro e w3 ⟨rfl, rfl⟩))
        go_ret
        exact ⟨rfl, hB2⟩
    | some a =>
      have ea : (str a).toList = a := by rw [ByteArray.toList_eq, str_data]
      have F4 := F2 a ha
      rw [ha] at HP KA
      simp only [Option.getD_some, Option.isSome_some] at HP KA
      rw [← ea] at F4 HP
      clear ea ha F2
      obtain ⟨A, hA⟩ : ∃ A, A = str a := ⟨_, rfl⟩
      rw [← hA] at F4 HP KA
      clear hA
      cases hb : Op.bytesLess t.toList p.toList <;> cases hb2 : Op.bytesLess t.toList A.toList <;>
      · rw [hb, hb2] at HP
        go_enter Tryd.func4, Tryd.ntmps4
        go_wp2_with (first | (go_at_call 7; (with_reducible refine (AW.out _ (by assumption)).mono ?_); rintro e w1 ⟨rfl, hB1⟩) | (go_at_call 14; (with_reducible refine (KA.out _ (by assumption)).mono ?_); rintro e w2 ⟨rfl, hB2⟩) | (go_at_call 15; (with_reducible refine (HP.out _).mono ?_); rintro e w3 ⟨rfl, rfl⟩))
        go_ret
        exact ⟨rfl, hB2⟩

end Go.Proofs.YtlbdemcpjpfbfaaDoor
