/-
  The walk of AmountReckons: sums, differences, products and costs of any numbers.
-/
import Derived.Test.YtjhndklfjkahoaaAmtRefMul
import Derived.Test.YtjhndklfjkahoaaLawAmountLaws
namespace Go.Proofs.Ytjhndklfjkahoaa
open Go.RowKit
set_option linter.unusedVariables false
set_option linter.unusedSimpArgs false

set_option maxHeartbeats 1000000 in
theorem ref_mul_0l (b : Int) (w : World) :
    Calls Try.prog 17 #[.int .i64 0, .int .i64 b] w fun e w' => e = .returned (.tuple #[.int .i64 0, .int .i64 0]) ∧ Drew w w' := by
  go_enter Try.func17, Try.ntmps17
  go_wp2
  go_ret2
  exact ⟨rfl, by repeat (first | exact Drew.refl _ | apply Drew.step)⟩
set_option maxHeartbeats 1000000 in
theorem ref_mul_0r (a : Int) (w : World) (ha : ¬ a = 0) :
    Calls Try.prog 17 #[.int .i64 a, .int .i64 0] w fun e w' => e = .returned (.tuple #[.int .i64 0, .int .i64 0]) ∧ Drew w w' := by
  obtain ⟨h0, h1⟩ := ne_bb ha
  clear ha
  go_enter Try.func17, Try.ntmps17
  go_wp2
  go_ret2
  exact ⟨rfl, by repeat (first | exact Drew.refl _ | apply Drew.step)⟩
set_option maxHeartbeats 1000000 in
theorem ref_mul_br (a : Int) (w : World) (ha : ¬ a = 0) (h1 : ¬ a = 1) :
    Calls Try.prog 17 #[.int .i64 a, .int .i64 (-9223372036854775808)] w fun e w' => e = .returned (.tuple #[.int .i64 0, .int .i64 24]) ∧ Drew w w' := by
  obtain ⟨h2, h3⟩ := ne_bb ha
  obtain ⟨h4, h5⟩ := ne_bb h1
  clear ha h1
  go_enter Try.func17, Try.ntmps17
  go_wp2
  go_ret2
  exact ⟨rfl, by repeat (first | exact Drew.refl _ | apply Drew.step)⟩
set_option maxHeartbeats 1000000 in
theorem ref_mul_1r (w : World) :
    Calls Try.prog 17 #[.int .i64 1, .int .i64 (-9223372036854775808)] w fun e w' => e = .returned (.tuple #[.int .i64 (-9223372036854775808), .int .i64 0]) ∧ Drew w w' := by
  go_enter Try.func17, Try.ntmps17
  go_wp2
  go_ret2
  exact ⟨rfl, by repeat (first | exact Drew.refl _ | apply Drew.step)⟩
set_option maxHeartbeats 1000000 in
theorem ref_mul_bl (b : Int) (w : World) (hb : ¬ b = 0) (h1 : ¬ b = 1) (hm : ¬ b = -9223372036854775808) :
    Calls Try.prog 17 #[.int .i64 (-9223372036854775808), .int .i64 b] w fun e w' => e = .returned (.tuple #[.int .i64 0, .int .i64 24]) ∧ Drew w w' := by
  obtain ⟨h2, h3⟩ := ne_bb hb
  obtain ⟨h4, h5⟩ := ne_bb h1
  obtain ⟨h6, h7⟩ := ne_bb hm
  clear hb h1 hm
  go_enter Try.func17, Try.ntmps17
  go_wp2
  go_ret2
  exact ⟨rfl, by repeat (first | exact Drew.refl _ | apply Drew.step)⟩
set_option maxHeartbeats 1000000 in
theorem ref_mul_1l (w : World) :
    Calls Try.prog 17 #[.int .i64 (-9223372036854775808), .int .i64 1] w fun e w' => e = .returned (.tuple #[.int .i64 (-9223372036854775808), .int .i64 0]) ∧ Drew w w' := by
  go_enter Try.func17, Try.ntmps17
  go_wp2
  go_ret2
  exact ⟨rfl, by repeat (first | exact Drew.refl _ | apply Drew.step)⟩

theorem big_out {a : Int} (ha : in64 a = true) (h0 : ¬ a = 0) (h1 : ¬ a = 1) : in64 (a * -9223372036854775808) = false := by
  rw [in64_not]; rw [in64_iff] at ha; omega

theorem ref_mul (a b : Int) (w : World) (ha : in64 a = true) (hb : in64 b = true) :
    Calls Try.prog 17 #[.int .i64 a, .int .i64 b] w fun e w' => e = .returned (.tuple #[.int .i64 (fits64 (a * b)), .int .i64 (over64 (a * b))]) ∧ Drew w w' := by
  have f0 : fits64 0 = 0 ∧ over64 0 = 0 := by decide
  have fb : in64 (-9223372036854775808) = true := by decide
  have ia := (in64_iff a).mp ha
  have ib := (in64_iff b).mp hb
  by_cases a0 : a = 0
  · subst a0; rw [Int.zero_mul, f0.1, f0.2]; exact ref_mul_0l b w
  by_cases b0 : b = 0
  · subst b0; rw [Int.mul_zero, f0.1, f0.2]; exact ref_mul_0r a w a0
  by_cases bb : b = -9223372036854775808
  · subst bb
    by_cases a1 : a = 1
    · subst a1; rw [Int.one_mul, (fits_yes fb).1, (fits_yes fb).2]; exact ref_mul_1r w
    · have h := fits_no (big_out ha a0 a1); rw [h.1, h.2]; exact ref_mul_br a w a0 a1
  by_cases ab : a = -9223372036854775808
  · subst ab
    by_cases b1 : b = 1
    · subst b1; rw [Int.mul_one, (fits_yes fb).1, (fits_yes fb).2]; exact ref_mul_1l w
    · have h := fits_no (big_out hb b0 b1); rw [Int.mul_comm, h.1, h.2]; exact ref_mul_bl b w b0 b1 bb
  by_cases sa : a < 0 <;> by_cases sb : b < 0
  · have h := ref_mul_nn (-a) (-b) w (by omega) (by omega) (by omega) (by omega)
    rw [Int.neg_neg, Int.neg_neg, Int.neg_mul_neg] at h; exact h
  · have h := ref_mul_np (-a) b w (by omega) (by omega) (by omega) (by omega)
    rw [Int.neg_neg, Int.neg_mul, Int.neg_neg] at h; exact h
  · have h := ref_mul_pn a (-b) w (by omega) (by omega) (by omega) (by omega)
    rw [Int.neg_neg, Int.mul_neg, Int.neg_neg] at h; exact h
  · exact ref_mul_pp a b w (by omega) (by omega) (by omega) (by omega)

set_option maxHeartbeats 1000000 in
theorem ref_cost (a b : Int) (w : World) (ha : in64 a = true) (hb : in64 b = true) :
    Calls Try.prog 18 #[.int .i64 a, .int .i64 b] w fun e w' => e = .returned (.tuple #[.int .i64 (costS (a * b)), .int .i64 (costE (a * b))]) ∧ Drew w w' := by
  have Ha := Lib.hid ha
  have Hb := Lib.hid hb
  clear ha hb
  cases hi : in64 (a * b)
  · have F := Lib.hid (fits_no hi)
    have E : Hid (costS (a * b) = 0 ∧ costE (a * b) = 24) := Lib.hid (by simp [costS, costE, hi])
    clear hi
    go_enter Try.func18, Try.ntmps18
    go_wp2_with (go_at_call 17; refine (ref_mul _ _ _ Ha.out Hb.out).mono ?_; rw [F.out.1, F.out.2]; rintro e w' ⟨rfl, ⟨nd, rfl⟩⟩)
    go_ret2
    exact ⟨ret2 E.out.1.symm E.out.2.symm, by repeat (first | exact Drew.refl _ | apply Drew.step)⟩
  · have F := Lib.hid (fits_yes hi)
    by_cases hn : a * b < 0
    · have E : Hid (costS (a * b) = 0 ∧ costE (a * b) = 25) := Lib.hid (by simp [costS, costE, hi, hn])
      have hn1 : decide (a * b < 0) = true := decide_eq_true hn
      clear hi hn
      go_enter Try.func18, Try.ntmps18
      go_wp2_with (go_at_call 17; refine (ref_mul _ _ _ Ha.out Hb.out).mono ?_; rw [F.out.1, F.out.2]; rintro e w' ⟨rfl, ⟨nd, rfl⟩⟩)
      go_ret2
      exact ⟨ret2 E.out.1.symm E.out.2.symm, by repeat (first | exact Drew.refl _ | apply Drew.step)⟩
    · have E : Hid (costS (a * b) = a * b ∧ costE (a * b) = 0) := Lib.hid (by simp [costS, costE, hi, hn])
      have hn1 : decide (a * b < 0) = false := decide_eq_false hn
      clear hi hn
      go_enter Try.func18, Try.ntmps18
      go_wp2_with (go_at_call 17; refine (ref_mul _ _ _ Ha.out Hb.out).mono ?_; rw [F.out.1, F.out.2]; rintro e w' ⟨rfl, ⟨nd, rfl⟩⟩)
      go_ret2
      exact ⟨ret2 E.out.1.symm E.out.2.symm, by repeat (first | exact Drew.refl _ | apply Drew.step)⟩

set_option maxHeartbeats 1000000 in
theorem AmountReckons_walk (a b : Int) (w : World) (wa : (Lit.int .i64 a).wf = true) (wb : (Lit.int .i64 b).wf = true) :
    Calls Try.prog 6 #[.int .i64 a, .int .i64 b] w fun e w' => e = .returned (.bool true) ∧ Below w.heap.size w w' := by
  have hA := Lib.hid (in64_wf wa)
  have hB := Lib.hid (in64_wf wb)
  clear wa wb
  suffices h : Calls Try.prog 6 #[.int .i64 a, .int .i64 b] w fun e w' => e = .returned (.bool true) ∧ Drew w w' from h.mono fun _ _ h => ⟨h.1, h.2.below⟩
  obtain ⟨c1, hc1⟩ : ∃ c1, c1 = fits64 (a + b) := ⟨_, rfl⟩
  have C1 := Lib.hid hc1
  clear hc1
  obtain ⟨c2, hc2⟩ : ∃ c2, c2 = over64 (a + b) := ⟨_, rfl⟩
  have C2 := Lib.hid hc2
  clear hc2
  obtain ⟨d1, hd1⟩ : ∃ d1, d1 = fits64 (a - b) := ⟨_, rfl⟩
  have D1 := Lib.hid hd1
  clear hd1
  obtain ⟨d2, hd2⟩ : ∃ d2, d2 = over64 (a - b) := ⟨_, rfl⟩
  have D2 := Lib.hid hd2
  clear hd2
  obtain ⟨m1, hm1⟩ : ∃ m1, m1 = fits64 (a * b) := ⟨_, rfl⟩
  have M1 := Lib.hid hm1
  clear hm1
  obtain ⟨m2, hm2⟩ : ∃ m2, m2 = over64 (a * b) := ⟨_, rfl⟩
  have M2 := Lib.hid hm2
  clear hm2
  obtain ⟨k1, hk1⟩ : ∃ k1, k1 = costS (a * b) := ⟨_, rfl⟩
  have K1 := Lib.hid hk1
  clear hk1
  obtain ⟨k2, hk2⟩ : ∃ k2, k2 = costE (a * b) := ⟨_, rfl⟩
  have K2 := Lib.hid hk2
  clear hk2
  obtain ⟨r1, hr1⟩ : ∃ r1, r1 = rightS a b := ⟨_, rfl⟩
  have R1 := Lib.hid hr1
  clear hr1
  go_enter Try.func6, Try.ntmps6
  go_wp2_with (first | (go_at_call 7; refine (awake19 _).mono ?_; rintro e w' ⟨rfl, ⟨nd, rfl⟩⟩) | (go_at_call 10; refine (amount_add _ _ _ hA.out hB.out).mono ?_; rw [← C1.out, ← C2.out]; rintro e w' ⟨rfl, ⟨nd, rfl⟩⟩) | (go_at_call 15; refine (ref_add _ _ _ hA.out hB.out).mono ?_; rw [← C1.out, ← C2.out]; rintro e w' ⟨rfl, ⟨nd, rfl⟩⟩) | (go_at_call 12; refine (amount_sub _ _ _ hA.out hB.out).mono ?_; rw [← D1.out, ← D2.out]; rintro e w' ⟨rfl, ⟨nd, rfl⟩⟩) | (go_at_call 16; refine (ref_sub _ _ _ hA.out hB.out).mono ?_; rw [← D1.out, ← D2.out]; rintro e w' ⟨rfl, ⟨nd, rfl⟩⟩) | (go_at_call 11; refine (amount_mul _ _ _ hA.out hB.out).mono ?_; rw [← M1.out, ← M2.out]; rintro e w' ⟨rfl, ⟨nd, rfl⟩⟩) | (go_at_call 17; refine (ref_mul _ _ _ hA.out hB.out).mono ?_; rw [← M1.out, ← M2.out]; rintro e w' ⟨rfl, ⟨nd, rfl⟩⟩) | (go_at_call 9; refine (amount_cost _ _ _ hA.out hB.out).mono ?_; rw [← K1.out, ← K2.out]; rintro e w' ⟨rfl, ⟨nd, rfl⟩⟩) | (go_at_call 18; refine (ref_cost _ _ _ hA.out hB.out).mono ?_; rw [← K1.out, ← K2.out]; rintro e w' ⟨rfl, ⟨nd, rfl⟩⟩) | (go_at_call 19; refine (amount_right _ _ _ hA.out hB.out).mono ?_; rw [← R1.out]; rintro e w' ⟨rfl, ⟨nd, rfl⟩⟩) | (go_at_call 20; refine (ref_right _ _ _ hA.out hB.out).mono ?_; rw [← R1.out]; rintro e w' ⟨rfl, ⟨nd, rfl⟩⟩))
  go_ret
  exact ⟨rfl, by repeat (first | exact Drew.refl _ | apply Drew.step)⟩

end Go.Proofs.Ytjhndklfjkahoaa
