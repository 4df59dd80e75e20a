/-
  Afford, Cost, and the chapter's example, by contract.
-/
import Derived.Test.YtbhhfdkidpmfeaaAmt
namespace Go.Proofs.Ytbhhfdkidpmfeaa
open Go.RowKit
set_option linter.unusedVariables false
set_option linter.unusedSimpArgs false

def affordS (c p : Int) : Int := if p < 1 then 0 else if c < p then 0 else c / p

set_option maxHeartbeats 1000000 in
theorem amount_afford (c p : Int) (w : World) (hc : in64 c = true) (hp : in64 p = true) :
    Calls Try.prog 34 #[.int .i64 c, .int .i64 p] w fun e w' => e = .returned (.int .i64 (affordS c p)) ∧ Drew w w' := by
  rw [in64_iff] at hc hp
  by_cases h1 : p < 1
  · have E : Hid (affordS c p = 0) := Lib.hid (if_pos h1)
    go_enter Try.func34, Try.ntmps34
    go_wp2
    go_ret
    exact ⟨ret1 E.out.symm, by repeat (first | exact Drew.refl _ | apply Drew.step)⟩
  · by_cases h2 : c < p
    · have E : Hid (affordS c p = 0) := Lib.hid (by unfold affordS; rw [if_neg h1, if_pos h2])
      go_enter Try.func34, Try.ntmps34
      go_wp2
      go_ret
      exact ⟨ret1 E.out.symm, by repeat (first | exact Drew.refl _ | apply Drew.step)⟩
    · have E : Hid (affordS c p = c / p) := Lib.hid (by unfold affordS; rw [if_neg h1, if_neg h2])
      have p0 : (p == 0) = false := by simp; omega
      have b0 : 0 ≤ c / p := Int.ediv_nonneg (by omega) (by omega)
      have b1 : c / p ≤ 9223372036854775807 := by have := Int.ediv_le_self p (a := c) (by omega); omega
      go_enter Try.func34, Try.ntmps34
      go_wp2
      go_ret
      exact ⟨ret1 E.out.symm, by repeat (first | exact Drew.refl _ | apply Drew.step)⟩

def costS (n : Int) : Int := if in64 n then (if n < 0 then 0 else n) else 0
def costE (n : Int) : Int := if in64 n then (if n < 0 then 25 else 0) else 24

set_option maxHeartbeats 1000000 in
theorem amount_cost (a b : Int) (w : World) (ha : in64 a = true) (hb : in64 b = true) :
    Calls Try.prog 18 #[.int .i64 a, .int .i64 b] w fun e w' => e = .returned (.tuple #[.int .i64 (costS (a * b)), .int .i64 (costE (a * b))]) ∧ Drew w w' := by
  have Ha := Lib.hid ha
  have Hb := Lib.hid hb
  clear ha hb
  cases hi : in64 (a * b)
  · have F := Lib.hid (fits_no hi)
    have E : Hid (costS (a * b) = 0 ∧ costE (a * b) = 24) := Lib.hid (by simp [costS, costE, hi])
    clear hi
    go_enter Try.func18, Try.ntmps18
    go_wp2_with (go_at_call 28; refine (amount_mul _ _ _ Ha.out Hb.out).mono ?_; rw [F.out.1, F.out.2]; rintro e w' ⟨rfl, ⟨nd, rfl⟩⟩)
    go_ret2
    exact ⟨ret2 E.out.1.symm E.out.2.symm, by repeat (first | exact Drew.refl _ | apply Drew.step)⟩
  · have F := Lib.hid (fits_yes hi)
    by_cases hn : a * b < 0
    · have E : Hid (costS (a * b) = 0 ∧ costE (a * b) = 25) := Lib.hid (by simp [costS, costE, hi, hn])
      have hn1 : decide (a * b < 0) = true := decide_eq_true hn
      clear hi hn
      go_enter Try.func18, Try.ntmps18
      go_wp2_with (go_at_call 28; refine (amount_mul _ _ _ Ha.out Hb.out).mono ?_; rw [F.out.1, F.out.2]; rintro e w' ⟨rfl, ⟨nd, rfl⟩⟩)
      go_ret2
      exact ⟨ret2 E.out.1.symm E.out.2.symm, by repeat (first | exact Drew.refl _ | apply Drew.step)⟩
    · have E : Hid (costS (a * b) = a * b ∧ costE (a * b) = 0) := Lib.hid (by simp [costS, costE, hi, hn])
      have hn1 : decide (a * b < 0) = false := decide_eq_false hn
      clear hi hn
      go_enter Try.func18, Try.ntmps18
      go_wp2_with (go_at_call 28; refine (amount_mul _ _ _ Ha.out Hb.out).mono ?_; rw [F.out.1, F.out.2]; rintro e w' ⟨rfl, ⟨nd, rfl⟩⟩)
      go_ret2
      exact ⟨ret2 E.out.1.symm E.out.2.symm, by repeat (first | exact Drew.refl _ | apply Drew.step)⟩

theorem amount_mul40 (w : World) :
    Calls Try.prog 28 #[.int .i64 1099511627776, .int .i64 1099511627776] w fun e w' => e = .returned (.tuple #[.int .i64 0, .int .i64 24]) ∧ Drew w w' := by
  have h := amount_mul 1099511627776 1099511627776 w (by decide) (by decide)
  have e1 : fits64 (1099511627776 * 1099511627776) = 0 := by decide
  have e2 : over64 (1099511627776 * 1099511627776) = 24 := by decide
  rw [e1, e2] at h
  exact h
theorem amount_add23 (w : World) :
    Calls Try.prog 26 #[.int .i64 2, .int .i64 3] w fun e w' => e = .returned (.tuple #[.int .i64 5, .int .i64 0]) ∧ Drew w w' := by
  have h := amount_add 2 3 w (by decide) (by decide)
  have e1 : fits64 (2 + 3) = 5 := by decide
  have e2 : over64 (2 + 3) = 0 := by decide
  rw [e1, e2] at h
  exact h
theorem amount_afford10 (w : World) :
    Calls Try.prog 34 #[.int .i64 10, .int .i64 3] w fun e w' => e = .returned (.int .i64 3) ∧ Drew w w' := by
  have h := amount_afford 10 3 w (by decide) (by decide)
  have e1 : affordS 10 3 = 3 := by decide
  rw [e1] at h
  exact h

set_option maxHeartbeats 1000000 in
theorem awake19 (w : World) :
    Calls Try.prog 27 #[] w fun e w' => e = .returned (.bool true) ∧ Drew w w' := by
  go_enter Try.func27, Try.ntmps27
  go_wp2_with (first | (go_at_call 28; refine (amount_mul40 _).mono ?_; rintro e w' ⟨rfl, ⟨nd, rfl⟩⟩) | (go_at_call 26; refine (amount_add23 _).mono ?_; rintro e w' ⟨rfl, ⟨nd, rfl⟩⟩) | (go_at_call 34; refine (amount_afford10 _).mono ?_; rintro e w' ⟨rfl, ⟨nd, rfl⟩⟩))
  go_ret
  exact ⟨rfl, by repeat (first | exact Drew.refl _ | apply Drew.step)⟩

end Go.Proofs.Ytbhhfdkidpmfeaa
