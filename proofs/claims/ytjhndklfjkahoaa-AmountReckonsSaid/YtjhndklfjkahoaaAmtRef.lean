/-
  The document's sums and differences, by contract.
-/
import Derived.Test.YtjhndklfjkahoaaAmtSum
namespace Go.Proofs.Ytjhndklfjkahoaa
open Go.RowKit
set_option linter.unusedVariables false
set_option linter.unusedSimpArgs false

set_option maxHeartbeats 1000000 in
theorem ref_add (a b : Int) (w : World) (ha : in64 a = true) (hb : in64 b = true) :
    Calls Try.prog 15 #[.int .i64 a, .int .i64 b] w fun e w' => e = .returned (.tuple #[.int .i64 (fits64 (a + b)), .int .i64 (over64 (a + b))]) ∧ Drew w w' := by
  rw [in64_iff] at ha hb
  by_cases p : 0 < b <;> by_cases q : b < 0 <;> by_cases c : 9223372036854775807 - b < a <;> by_cases d : a < -9223372036854775808 - b
  all_goals (try (exfalso; omega))
  all_goals
    first
    | (have hy : Hid (in64 (a + b) = true) := Lib.hid (by rw [in64_iff]; omega)
       have G : Hid (wrap64 (a + b) = a + b) := Lib.hid (by have := hy.out; rw [in64_iff] at this; unfold wrap64; omega)
       go_enter Try.func15, Try.ntmps15
       go_wp2
       go_ret2
       exact ⟨ret2 (by first | exact (fits_yes hy.out).1.symm | exact G.out.trans (fits_yes hy.out).1.symm) (fits_yes hy.out).2.symm, by repeat (first | exact Drew.refl _ | apply Drew.step)⟩)
    | (have hn : Hid (in64 (a + b) = false) := Lib.hid (by rw [in64_not]; omega)
       go_enter Try.func15, Try.ntmps15
       go_wp2
       go_ret2
       exact ⟨ret2 (fits_no hn.out).1.symm (fits_no hn.out).2.symm, by repeat (first | exact Drew.refl _ | apply Drew.step)⟩)

set_option maxHeartbeats 1000000 in
theorem ref_sub (a b : Int) (w : World) (ha : in64 a = true) (hb : in64 b = true) :
    Calls Try.prog 16 #[.int .i64 a, .int .i64 b] w fun e w' => e = .returned (.tuple #[.int .i64 (fits64 (a - b)), .int .i64 (over64 (a - b))]) ∧ Drew w w' := by
  rw [in64_iff] at ha hb
  by_cases p : 0 < b <;> by_cases q : b < 0 <;> by_cases c : 9223372036854775807 + b < a <;> by_cases d : a < -9223372036854775808 + b
  all_goals (try (exfalso; omega))
  all_goals
    first
    | (have hy : Hid (in64 (a - b) = true) := Lib.hid (by rw [in64_iff]; omega)
       have G : Hid (wrap64 (a - b) = a - b) := Lib.hid (by have := hy.out; rw [in64_iff] at this; unfold wrap64; omega)
       go_enter Try.func16, Try.ntmps16
       go_wp2
       go_ret2
       exact ⟨ret2 (by first | exact (fits_yes hy.out).1.symm | exact G.out.trans (fits_yes hy.out).1.symm) (fits_yes hy.out).2.symm, by repeat (first | exact Drew.refl _ | apply Drew.step)⟩)
    | (have hn : Hid (in64 (a - b) = false) := Lib.hid (by rw [in64_not]; omega)
       go_enter Try.func16, Try.ntmps16
       go_wp2
       go_ret2
       exact ⟨ret2 (fits_no hn.out).1.symm (fits_no hn.out).2.symm, by repeat (first | exact Drew.refl _ | apply Drew.step)⟩)

/-- may an order be so: the two texts' one answer -/
def rightS (p s : Int) : Int := if p < 1 ∨ 1099511627776 < p then 28 else if s < 1 ∨ 1099511627776 < s then 29 else 0

set_option maxHeartbeats 1000000 in
theorem amount_right (p s : Int) (w : World) (hp : in64 p = true) (hs : in64 s = true) :
    Calls Try.prog 19 #[.int .i64 p, .int .i64 s] w fun e w' => e = .returned (.int .i64 (rightS p s)) ∧ Drew w w' := by
  clear hp hs
  by_cases c1 : p < 1 <;> by_cases c2 : 1099511627776 < p <;> by_cases c3 : s < 1 <;> by_cases c4 : 1099511627776 < s
  all_goals (try (exfalso; omega))
  all_goals
    obtain ⟨t, ht⟩ : ∃ t, t = rightS p s := ⟨_, rfl⟩
    rw [← ht]
    simp only [rightS, c1, c2, c3, c4, true_or, or_true, or_self, if_true, if_false] at ht
    subst ht
    go_enter Try.func19, Try.ntmps19
    go_wp2
    go_ret
    exact ⟨rfl, by repeat (first | exact Drew.refl _ | apply Drew.step)⟩

set_option maxHeartbeats 1000000 in
theorem ref_right (p s : Int) (w : World) (hp : in64 p = true) (hs : in64 s = true) :
    Calls Try.prog 20 #[.int .i64 p, .int .i64 s] w fun e w' => e = .returned (.int .i64 (rightS p s)) ∧ Drew w w' := by
  clear hp hs
  by_cases c1 : p < 1 <;> by_cases c2 : 1099511627776 < p <;> by_cases c3 : s < 1 <;> by_cases c4 : 1099511627776 < s
  all_goals (try (exfalso; omega))
  all_goals
    obtain ⟨t, ht⟩ : ∃ t, t = rightS p s := ⟨_, rfl⟩
    rw [← ht]
    simp only [rightS, c1, c2, c3, c4, true_or, or_true, or_self, if_true, if_false] at ht
    subst ht
    go_enter Try.func20, Try.ntmps20
    go_wp2
    go_ret
    exact ⟨rfl, by repeat (first | exact Drew.refl _ | apply Drew.step)⟩

end Go.Proofs.Ytjhndklfjkahoaa
