/-
  The walk of KeyAfter: all texts that begin with one stand ahead of what is behind them, and no others from it on do.
-/
import Derived.Test.YtafdjgmdkbimoaaDoorKeyAwake
import Derived.Test.YtafdjgmdkbimoaaDoorShelf
namespace Go.Proofs.YtafdjgmdkbimoaaDoor
open Go.RowKit
set_option linter.unusedVariables false
set_option linter.unusedSimpArgs false

/-- behind a beginning, told from its first byte on -/
def afterF : List UInt8 → Option (List UInt8)
  | [] => none
  | c :: r => match afterF r with
    | some a => some (c :: a)
    | none => if c = 255 then none else some [c + 1]
theorem afterF_full (l : List UInt8) : afterF (l ++ [255]) = afterF l := by
  induction l with
  | nil => rfl
  | cons c l ih => rw [List.cons_append, afterF, afterF, ih]
theorem afterF_some (l : List UInt8) (c : UInt8) (h : c ≠ 255) : afterF (l ++ [c]) = some (l ++ [c + 1]) := by
  induction l with
  | nil => simp [afterF, h]
  | cons d l ih => rw [List.cons_append, afterF, ih]; rfl
theorem afterF_eq (l : List UInt8) : afterL l = afterF l := by
  have : ∀ r : List UInt8, afterL r.reverse = afterF r.reverse := by
    intro r
    induction r with
    | nil => rfl
    | cons c r ih =>
      rw [List.reverse_cons]
      by_cases h : c = 255
      · rw [h, afterL_full, afterF_full, ih]
      · rw [afterL_some _ _ h, afterF_some _ _ h]
  have h := this l.reverse
  rwa [List.reverse_reverse] at h

theorem less_self_append (p s : List UInt8) : Op.bytesLess (p ++ s) p = false := by
  induction p with
  | nil => cases s <;> rfl
  | cons c p ih =>
    rw [List.cons_append, Op.bytesLess, ih]
    simp
theorem u8_lt_succ (c : UInt8) (h : c ≠ 255) : c < c + 1 := by
  rw [UInt8.lt_iff_toNat_lt, UInt8.toNat_add]
  have h1 := c.toNat_lt
  have h2 : c.toNat ≠ 255 := fun e => h (UInt8.toNat_inj.mp e)
  show c.toNat < (c.toNat + 1) % 256
  omega
theorem less_after (p s a : List UInt8) (h : afterF p = some a) : Op.bytesLess (p ++ s) a = true := by
  induction p generalizing a with
  | nil => simp [afterF] at h
  | cons c p ih =>
    rw [afterF] at h
    cases hp : afterF p with
    | some a' =>
      rw [hp] at h
      simp at h
      subst h
      rw [List.cons_append, Op.bytesLess, ih a' hp]; simp
    | none =>
      rw [hp] at h
      simp at h
      obtain ⟨h1, rfl⟩ := h
      rw [List.cons_append, Op.bytesLess]
      simp [u8_lt_succ c h1]
theorem in_prefix (p t : List UInt8) : (!Op.bytesLess t p && (match afterF p with | none => true | some a => Op.bytesLess t a)) = p.isPrefixOf t := by
  induction p generalizing t with
  | nil => cases t <;> rfl
  | cons c p ih =>
    cases t with
    | nil => rfl
    | cons d u =>
      rw [Op.bytesLess, List.isPrefixOf]
      have ihu := ih u
      by_cases e : d = c
      · subst e
        have e1 : (decide (d < d) || d == d && Op.bytesLess u p) = Op.bytesLess u p := by simp
        rw [e1]
        have e2 : (d == d && p.isPrefixOf u) = p.isPrefixOf u := by simp
        rw [e2, ← ihu]
        congr 1
        rw [afterF]
        cases hp : afterF p with
        | some a' => simp [Op.bytesLess]
        | none =>
          by_cases h : d = 255
          · simp [h]
          · simp only [if_neg h]
            rw [Op.bytesLess]
            simp [u8_lt_succ d h]
      · have e3 : (c == d) = false := by simp; exact fun h => e h.symm
        have e4 : (d == c) = false := by simp [e]
        rw [e3, e4, Bool.false_and, Bool.false_and, Bool.or_false]
        by_cases hlt : d < c
        · simp [hlt]
        · have hgt : c < d := by
            rw [UInt8.lt_iff_toNat_lt] at hlt ⊢
            have : d.toNat ≠ c.toNat := fun h => e (UInt8.toNat_inj.mp h)
            omega
          simp only [hlt, decide_false, Bool.not_false, Bool.true_and]
          rw [afterF]
          cases hp : afterF p with
          | some a' => simp [Op.bytesLess, hlt, e4]
          | none =>
            by_cases h : c = 255
            · exfalso
              rw [UInt8.lt_iff_toNat_lt, h] at hgt
              have := d.toNat_lt
              have h2 : (255 : UInt8).toNat = 255 := rfl
              omega
            · simp only [if_neg h]
              rw [Op.bytesLess]
              have h3 : ¬ d < c + 1 := by
                rw [UInt8.lt_iff_toNat_lt, UInt8.toNat_add] at *
                have h1 := c.toNat_lt
                have h2 : c.toNat ≠ 255 := fun e => h (UInt8.toNat_inj.mp e)
                show ¬ d.toNat < (c.toNat + 1) % 256
                omega
              have h4 : Op.bytesLess u [] = false := by cases u <;> rfl
              simp [h3, h4]

end Go.Proofs.YtafdjgmdkbimoaaDoor
