/-
  A float turned about; floats that stand for the same number.
-/
import Derived.Test.YtkllcidmahhkoaaFlt
namespace Go.Proofs.Ytkllcidmahhkoaa
open Ieee

theorem neg_read (x : Nat) {s : Bool} {m : Nat} {p : Int} (h : D.read x = .number s m p) : D.read (Op.negFloat .f64 x) = .number (!s) m p := by
  have e : Op.negFloat .f64 x = x ^^^ 2 ^ 63 := rfl
  have e1 : (x ^^^ 2 ^ 63) % 9223372036854775808 = x % 9223372036854775808 := by
    have := Nat.xor_mod_two_pow (a := x) (b := 2 ^ 63) (n := 63)
    rw [show (2 : Nat) ^ 63 % 2 ^ 63 = 0 by decide, Nat.xor_zero] at this
    exact this
  have e2 : (x ^^^ 2 ^ 63) / 9223372036854775808 % 2 = (x / 9223372036854775808 + 1) % 2 := by
    have := Nat.xor_div_two_pow (a := x) (b := 2 ^ 63) (n := 63)
    rw [show (2 : Nat) ^ 63 / 2 ^ 63 = 1 by decide] at this
    rw [show (9223372036854775808 : Nat) = 2 ^ 63 by decide, this]
    have h2 := Nat.xor_mod_two_pow (a := x / 2 ^ 63) (b := 1) (n := 1)
    rw [show (2 : Nat) ^ 1 = 2 by decide, show (1 : Nat) % 2 = 1 by decide] at h2
    rw [h2]
    generalize x / 2 ^ 63 = y
    have : y % 2 = 0 ∨ y % 2 = 1 := by omega
    rcases this with h | h
    · rw [h, show (0 ^^^ 1 : Nat) = 1 by decide]; omega
    · rw [h, show (1 ^^^ 1 : Nat) = 0 by decide]; omega
  rw [e]
  unfold Format.read at h ⊢
  simp only [D_sw, e1, e2] at h ⊢
  have hs : ((x / 9223372036854775808 + 1) % 2 == 1) = !(x / 9223372036854775808 % 2 == 1) := by
    have : x / 9223372036854775808 % 2 = 0 ∨ x / 9223372036854775808 % 2 = 1 := by omega
    rcases this with h | h
    · rw [h, show (x / 9223372036854775808 + 1) % 2 = 1 by omega]; rfl
    · rw [h, show (x / 9223372036854775808 + 1) % 2 = 0 by omega]; rfl
  rw [hs]
  split at h
  · cases h; rw [if_pos (by assumption)]
  · rename_i h1
    rw [if_neg h1]
    split at h
    · cases h; rw [if_pos (by assumption)]
    · split at h <;> cases h
theorem rep_neg {q x : Nat} {n : Int} (h : Rep q x n) : Rep q (Op.negFloat .f64 x) (-n) := by
  obtain ⟨s, e, h1, h2⟩ := h
  refine ⟨!s, e, ?_, neg_sign h2⟩
  rw [Int.natAbs_neg]
  exact neg_read x h1
theorem rep_same {x y : Nat} {a b : Int} (hx : Rep 0 x a) (hy : Rep 0 y b) (e : a = b) : FloatKind.f64.format.order x y = some .eq := by
  subst e
  rw [rep_order hx hy]
  simp
end Go.Proofs.Ytkllcidmahhkoaa
