/-
  The document's product, by contract.
-/
import Derived.Test.YtjhndklfjkahoaaAmtRef
namespace Go.Proofs.Ytjhndklfjkahoaa
open Go.RowKit
set_option linter.unusedVariables false
set_option linter.unusedSimpArgs false

theorem div_facts (P Q : Int) (hP : 1 ≤ P) (hP2 : P ≤ 9223372036854775807) (hQ : 1 ≤ Q) (hQ2 : Q ≤ 9223372036854775807) :
    0 ≤ 9223372036854775807 / Q ∧ 9223372036854775807 / Q ≤ 9223372036854775807 ∧ 0 ≤ 9223372036854775807 % Q ∧ 9223372036854775807 % Q < Q ∧
    (9223372036854775807 / Q < P ↔ 9223372036854775807 < P * Q) := by
  refine ⟨Int.ediv_nonneg (by omega) (by omega), Int.ediv_le_self _ (by omega), Int.emod_nonneg _ (by omega), Int.emod_lt_of_pos _ (by omega), ?_⟩
  exact Int.ediv_lt_iff_lt_mul (by omega)

theorem sgn_facts (P : Int) (hP : 1 ≤ P) (hP2 : P ≤ 9223372036854775807) : ((P == 0) = false ∧ (P != 0) = true ∧ (-P == 0) = false ∧ (-P != 0) = true) ∧
    ((P == -9223372036854775808) = false ∧ (P != -9223372036854775808) = true ∧ (-P == -9223372036854775808) = false ∧ (-P != -9223372036854775808) = true) := by
  have a := ne_bb (a := P) (b := 0) (by omega)
  have b := ne_bb (a := -P) (b := 0) (by omega)
  have c := ne_bb (a := P) (b := -9223372036854775808) (by omega)
  have d := ne_bb (a := -P) (b := -9223372036854775808) (by omega)
  exact ⟨⟨a.1, a.2, b.1, b.2⟩, ⟨c.1, c.2, d.1, d.2⟩⟩

set_option maxHeartbeats 1000000 in
theorem ref_mul_pp (P Q : Int) (w : World) (hP : 1 ≤ P) (hP2 : P ≤ 9223372036854775807) (hQ : 1 ≤ Q) (hQ2 : Q ≤ 9223372036854775807) :
    Calls Try.prog 17 #[.int .i64 P, .int .i64 Q] w fun e w' => e = .returned (.tuple #[.int .i64 (fits64 (P * Q)), .int .i64 (over64 (P * Q))]) ∧ Drew w w' := by
  obtain ⟨d0, d1, r0, r1, hd⟩ := div_facts P Q hP hP2 hQ hQ2
  obtain ⟨⟨pa, pb, pc, pd⟩, pe, pf, pg, ph⟩ := sgn_facts P hP hP2
  obtain ⟨⟨qa, qb, qc, qd⟩, qe, qf, qg, qh⟩ := sgn_facts Q hQ hQ2
  have l1 : decide (P < 0) = false := decide_eq_false (by omega)
  have l2 : decide (0 < P) = true := decide_eq_true (by omega)
  have l3 : decide (-P < 0) = true := decide_eq_true (by omega)
  have l4 : decide (Q < 0) = false := decide_eq_false (by omega)
  have l5 : decide (0 < Q) = true := decide_eq_true (by omega)
  have l6 : decide (-Q < 0) = true := decide_eq_true (by omega)
  have m0 : 0 ≤ P * Q := Int.mul_nonneg (by omega) (by omega)
  by_cases c : 9223372036854775807 / Q < P
  · have hn : Hid (in64 (P * Q) = false) := Lib.hid (by rw [in64_not]; have := hd.mp c; omega)
    clear hd
    go_enter Try.func17, Try.ntmps17
    go_wp2
    go_ret2
    exact ⟨ret2 (fits_no hn.out).1.symm (fits_no hn.out).2.symm, by repeat (first | exact Drew.refl _ | apply Drew.step)⟩
  · have m1 : P * Q ≤ 9223372036854775807 := by apply Classical.byContradiction; intro h; exact c (hd.mpr (by omega))
    have hy : Hid (in64 (P * Q) = true) := Lib.hid (by rw [in64_iff]; omega)
    clear hd
    go_enter Try.func17, Try.ntmps17
    go_wp2
    go_ret2
    exact ⟨ret2 (fits_yes hy.out).1.symm (fits_yes hy.out).2.symm, by repeat (first | exact Drew.refl _ | apply Drew.step)⟩

set_option maxHeartbeats 1000000 in
theorem ref_mul_nn (P Q : Int) (w : World) (hP : 1 ≤ P) (hP2 : P ≤ 9223372036854775807) (hQ : 1 ≤ Q) (hQ2 : Q ≤ 9223372036854775807) :
    Calls Try.prog 17 #[.int .i64 (-P), .int .i64 (-Q)] w fun e w' => e = .returned (.tuple #[.int .i64 (fits64 (P * Q)), .int .i64 (over64 (P * Q))]) ∧ Drew w w' := by
  obtain ⟨d0, d1, r0, r1, hd⟩ := div_facts P Q hP hP2 hQ hQ2
  obtain ⟨⟨pa, pb, pc, pd⟩, pe, pf, pg, ph⟩ := sgn_facts P hP hP2
  obtain ⟨⟨qa, qb, qc, qd⟩, qe, qf, qg, qh⟩ := sgn_facts Q hQ hQ2
  have l1 : decide (P < 0) = false := decide_eq_false (by omega)
  have l2 : decide (0 < P) = true := decide_eq_true (by omega)
  have l3 : decide (-P < 0) = true := decide_eq_true (by omega)
  have l4 : decide (Q < 0) = false := decide_eq_false (by omega)
  have l5 : decide (0 < Q) = true := decide_eq_true (by omega)
  have l6 : decide (-Q < 0) = true := decide_eq_true (by omega)
  have m0 : 0 ≤ P * Q := Int.mul_nonneg (by omega) (by omega)
  by_cases c : 9223372036854775807 / Q < P
  · have hn : Hid (in64 (P * Q) = false) := Lib.hid (by rw [in64_not]; have := hd.mp c; omega)
    clear hd
    go_enter Try.func17, Try.ntmps17
    go_wp2
    go_ret2
    exact ⟨ret2 (fits_no hn.out).1.symm (fits_no hn.out).2.symm, by repeat (first | exact Drew.refl _ | apply Drew.step)⟩
  · have m1 : P * Q ≤ 9223372036854775807 := by apply Classical.byContradiction; intro h; exact c (hd.mpr (by omega))
    have hy : Hid (in64 (P * Q) = true) := Lib.hid (by rw [in64_iff]; omega)
    clear hd
    go_enter Try.func17, Try.ntmps17
    go_wp2
    go_ret2
    exact ⟨ret2 (fits_yes hy.out).1.symm (fits_yes hy.out).2.symm, by repeat (first | exact Drew.refl _ | apply Drew.step)⟩

set_option maxHeartbeats 1000000 in
theorem ref_mul_np (P Q : Int) (w : World) (hP : 1 ≤ P) (hP2 : P ≤ 9223372036854775807) (hQ : 1 ≤ Q) (hQ2 : Q ≤ 9223372036854775807) :
    Calls Try.prog 17 #[.int .i64 (-P), .int .i64 Q] w fun e w' => e = .returned (.tuple #[.int .i64 (fits64 (-(P * Q))), .int .i64 (over64 (-(P * Q)))]) ∧ Drew w w' := by
  obtain ⟨d0, d1, r0, r1, hd⟩ := div_facts P Q hP hP2 hQ hQ2
  obtain ⟨⟨pa, pb, pc, pd⟩, pe, pf, pg, ph⟩ := sgn_facts P hP hP2
  obtain ⟨⟨qa, qb, qc, qd⟩, qe, qf, qg, qh⟩ := sgn_facts Q hQ hQ2
  have l1 : decide (P < 0) = false := decide_eq_false (by omega)
  have l2 : decide (0 < P) = true := decide_eq_true (by omega)
  have l3 : decide (-P < 0) = true := decide_eq_true (by omega)
  have l4 : decide (Q < 0) = false := decide_eq_false (by omega)
  have l5 : decide (0 < Q) = true := decide_eq_true (by omega)
  have l6 : decide (-Q < 0) = true := decide_eq_true (by omega)
  have m0 : 0 ≤ P * Q := Int.mul_nonneg (by omega) (by omega)
  by_cases c : 9223372036854775807 / Q < P
  · have m1 := hd.mp c
    clear hd
    have x0 : (P - 1) * Q = P * Q - Q := by rw [Int.sub_mul, Int.one_mul]
    have dm : Q * (9223372036854775807 / Q) + 9223372036854775807 % Q = 9223372036854775807 := Int.mul_ediv_add_emod _ _
    by_cases e1 : P - 1 = 9223372036854775807 / Q
    · by_cases e2 : 9223372036854775807 % Q = Q - 1
      · have m2 : P * Q = 9223372036854775808 := by rw [← e1, e2, Int.mul_comm] at dm; omega
        have hy : Hid (in64 (-(P * Q)) = true ∧ -(P * Q) = -9223372036854775808) := Lib.hid (by rw [in64_iff]; omega)
        obtain ⟨f1, f2⟩ := eq_bb e1
        obtain ⟨g1, g2⟩ := eq_bb e2
        have y0 : 0 ≤ (P - 1) * Q := by omega
        have y1 : (P - 1) * Q ≤ 9223372036854775807 := by omega
        have y2 : 0 ≤ (P - 1) * Q + Q := by omega
        have y3 : (P - 1) * Q + Q - 1 ≤ 9223372036854775807 := by omega
        have z : (P - 1) * Q + Q - 1 = 9223372036854775807 := by omega
        obtain ⟨z1, z2⟩ := eq_bb z
        have y4 : wrap64 (wrap64 ((P - 1) * Q + Q) - 1) = 9223372036854775807 := by rw [x0] at *; unfold wrap64; omega
        obtain ⟨z3, z4⟩ := eq_bb y4
        clear e1 e2 m2 x0 dm z y4 m1
        go_enter Try.func17, Try.ntmps17
        go_wp2
        go_ret2
        exact ⟨ret2 ((fits_yes hy.out.1).1.trans hy.out.2).symm (fits_yes hy.out.1).2.symm, by repeat (first | exact Drew.refl _ | apply Drew.step)⟩
      · have hn : Hid (in64 (-(P * Q)) = false) := Lib.hid (by
          rw [in64_not]; intro h; apply e2
          rw [← e1] at dm
          rw [Int.mul_comm] at dm
          omega)
        obtain ⟨f1, f2⟩ := eq_bb e1
        obtain ⟨g1, g2⟩ := ne_bb e2
        clear e1 e2 x0 dm m1
        go_enter Try.func17, Try.ntmps17
        go_wp2
        go_ret2
        exact ⟨ret2 (fits_no hn.out).1.symm (fits_no hn.out).2.symm, by repeat (first | exact Drew.refl _ | apply Drew.step)⟩
    · have hn : Hid (in64 (-(P * Q)) = false) := Lib.hid (by
        rw [in64_not]; intro h; apply e1
        have h2 : P * Q = 9223372036854775808 := by omega
        have h3 : 9223372036854775807 / Q < P := c
        have h4 : P - 1 ≤ 9223372036854775807 / Q := by
          rw [Int.le_ediv_iff_mul_le (by omega)]; omega
        omega)
      obtain ⟨f1, f2⟩ := ne_bb e1
      clear e1 x0 dm m1
      go_enter Try.func17, Try.ntmps17
      go_wp2
      go_ret2
      exact ⟨ret2 (fits_no hn.out).1.symm (fits_no hn.out).2.symm, by repeat (first | exact Drew.refl _ | apply Drew.step)⟩
  · have m1 : P * Q ≤ 9223372036854775807 := by apply Classical.byContradiction; intro h; exact c (hd.mpr (by omega))
    have hy : Hid (in64 (-(P * Q)) = true) := Lib.hid (by rw [in64_iff]; omega)
    clear hd
    go_enter Try.func17, Try.ntmps17
    go_wp2
    go_ret2
    exact ⟨ret2 (fits_yes hy.out).1.symm (fits_yes hy.out).2.symm, by repeat (first | exact Drew.refl _ | apply Drew.step)⟩

set_option maxHeartbeats 1000000 in
theorem ref_mul_pn (P Q : Int) (w : World) (hP : 1 ≤ P) (hP2 : P ≤ 9223372036854775807) (hQ : 1 ≤ Q) (hQ2 : Q ≤ 9223372036854775807) :
    Calls Try.prog 17 #[.int .i64 P, .int .i64 (-Q)] w fun e w' => e = .returned (.tuple #[.int .i64 (fits64 (-(P * Q))), .int .i64 (over64 (-(P * Q)))]) ∧ Drew w w' := by
  obtain ⟨d0, d1, r0, r1, hd⟩ := div_facts P Q hP hP2 hQ hQ2
  obtain ⟨⟨pa, pb, pc, pd⟩, pe, pf, pg, ph⟩ := sgn_facts P hP hP2
  obtain ⟨⟨qa, qb, qc, qd⟩, qe, qf, qg, qh⟩ := sgn_facts Q hQ hQ2
  have l1 : decide (P < 0) = false := decide_eq_false (by omega)
  have l2 : decide (0 < P) = true := decide_eq_true (by omega)
  have l3 : decide (-P < 0) = true := decide_eq_true (by omega)
  have l4 : decide (Q < 0) = false := decide_eq_false (by omega)
  have l5 : decide (0 < Q) = true := decide_eq_true (by omega)
  have l6 : decide (-Q < 0) = true := decide_eq_true (by omega)
  have m0 : 0 ≤ P * Q := Int.mul_nonneg (by omega) (by omega)
  by_cases c : 9223372036854775807 / Q < P
  · have m1 := hd.mp c
    clear hd
    have x0 : (P - 1) * Q = P * Q - Q := by rw [Int.sub_mul, Int.one_mul]
    have dm : Q * (9223372036854775807 / Q) + 9223372036854775807 % Q = 9223372036854775807 := Int.mul_ediv_add_emod _ _
    by_cases e1 : P - 1 = 9223372036854775807 / Q
    · by_cases e2 : 9223372036854775807 % Q = Q - 1
      · have m2 : P * Q = 9223372036854775808 := by rw [← e1, e2, Int.mul_comm] at dm; omega
        have hy : Hid (in64 (-(P * Q)) = true ∧ -(P * Q) = -9223372036854775808) := Lib.hid (by rw [in64_iff]; omega)
        obtain ⟨f1, f2⟩ := eq_bb e1
        obtain ⟨g1, g2⟩ := eq_bb e2
        have y0 : 0 ≤ (P - 1) * Q := by omega
        have y1 : (P - 1) * Q ≤ 9223372036854775807 := by omega
        have y2 : 0 ≤ (P - 1) * Q + Q := by omega
        have y3 : (P - 1) * Q + Q - 1 ≤ 9223372036854775807 := by omega
        have z : (P - 1) * Q + Q - 1 = 9223372036854775807 := by omega
        obtain ⟨z1, z2⟩ := eq_bb z
        have y4 : wrap64 (wrap64 ((P - 1) * Q + Q) - 1) = 9223372036854775807 := by rw [x0] at *; unfold wrap64; omega
        obtain ⟨z3, z4⟩ := eq_bb y4
        clear e1 e2 m2 x0 dm z y4 m1
        go_enter Try.func17, Try.ntmps17
        go_wp2
        go_ret2
        exact ⟨ret2 ((fits_yes hy.out.1).1.trans hy.out.2).symm (fits_yes hy.out.1).2.symm, by repeat (first | exact Drew.refl _ | apply Drew.step)⟩
      · have hn : Hid (in64 (-(P * Q)) = false) := Lib.hid (by
          rw [in64_not]; intro h; apply e2
          rw [← e1] at dm
          rw [Int.mul_comm] at dm
          omega)
        obtain ⟨f1, f2⟩ := eq_bb e1
        obtain ⟨g1, g2⟩ := ne_bb e2
        clear e1 e2 x0 dm m1
        go_enter Try.func17, Try.ntmps17
        go_wp2
        go_ret2
        exact ⟨ret2 (fits_no hn.out).1.symm (fits_no hn.out).2.symm, by repeat (first | exact Drew.refl _ | apply Drew.step)⟩
    · have hn : Hid (in64 (-(P * Q)) = false) := Lib.hid (by
        rw [in64_not]; intro h; apply e1
        have h2 : P * Q = 9223372036854775808 := by omega
        have h3 : 9223372036854775807 / Q < P := c
        have h4 : P - 1 ≤ 9223372036854775807 / Q := by
          rw [Int.le_ediv_iff_mul_le (by omega)]; omega
        omega)
      obtain ⟨f1, f2⟩ := ne_bb e1
      clear e1 x0 dm m1
      go_enter Try.func17, Try.ntmps17
      go_wp2
      go_ret2
      exact ⟨ret2 (fits_no hn.out).1.symm (fits_no hn.out).2.symm, by repeat (first | exact Drew.refl _ | apply Drew.step)⟩
  · have m1 : P * Q ≤ 9223372036854775807 := by apply Classical.byContradiction; intro h; exact c (hd.mpr (by omega))
    have hy : Hid (in64 (-(P * Q)) = true) := Lib.hid (by rw [in64_iff]; omega)
    clear hd
    go_enter Try.func17, Try.ntmps17
    go_wp2
    go_ret2
    exact ⟨ret2 (fits_yes hy.out).1.symm (fits_yes hy.out).2.symm, by repeat (first | exact Drew.refl _ | apply Drew.step)⟩

end Go.Proofs.Ytjhndklfjkahoaa
