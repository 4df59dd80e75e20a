/-
  The document's sums and differences, by contract.
-/
import Derived.Test.YtfhbmeebkhefhaaAmtSum
namespace Go.Proofs.Ytfhbmeebkhefhaa
open Go.RowKit
set_option linter.unusedVariables false
set_option linter.unusedSimpArgs false

set_option maxHeartbeats 1000000 in
theorem ref_add (a b : Int) (w : World) (ha : in64 a = true) (hb : in64 b = true) :
    Calls Try.prog 19 #[.int .i64 a, .int .i64 b] w fun e w' => e = .returned (.tuple #[.int .i64 (fits64 (a + b)), .int .i64 (over64 (a + b))]) ∧ Drew w w' := by
  rw [in64_iff] at ha hb
  by_cases p : 0 < b <;> by_cases q : b < 0 <;> by_cases c : 9223372036854775807 - b < a <;> by_cases d : a < -9223372036854775808 - b
  all_goals (try (exfalso; omega))
  all_goals
    first
    | (have hy : Hid (in64 (a + b) = true) := Lib.hid (by rw [in64_iff]; omega)
       have G : Hid (wrap64 (a + b) = a + b) := Lib.hid (by have := hy.out; rw [in64_iff] at this; unfold wrap64; omega)
       go_enter Try.func19, Try.ntmps19
       go_wp2
       go_ret2
       exact ⟨ret2 (by first | exact (fits_yes hy.out).1.symm | exact G.out.trans (fits_yes hy.out).1.symm) (fits_yes hy.out).2.symm, by repeat (first | exact Drew.refl _ | apply Drew.step)⟩)
    | (have hn : Hid (in64 (a + b) = false) := Lib.hid (by rw [in64_not]; omega)
       go_enter Try.func19, Try.ntmps19
       go_wp2
       go_ret2
       exact ⟨ret2 (fits_no hn.out).1.symm (fits_no hn.out).2.symm, by repeat (first | exact Drew.refl _ | apply Drew.step)⟩)

set_option maxHeartbeats 1000000 in
theorem ref_sub (a b : Int) (w : World) (ha : in64 a = true) (hb : in64 b = true) :
    Calls Try.prog 12 #[.int .i64 a, .int .i64 b] w fun e w' => e = .returned (.tuple #[.int .i64 (fits64 (a - b)), .int .i64 (over64 (a - b))]) ∧ Drew w w' := by
  rw [in64_iff] at ha hb
  by_cases p : 0 < b <;> by_cases q : b < 0 <;> by_cases c : 9223372036854775807 + b < a <;> by_cases d : a < -9223372036854775808 + b
  all_goals (try (exfalso; omega))
  all_goals
    first
    | (have hy : Hid (in64 (a - b) = true) := Lib.hid (by rw [in64_iff]; omega)
       have G : Hid (wrap64 (a - b) = a - b) := Lib.hid (by have := hy.out; rw [in64_iff] at this; unfold wrap64; omega)
       go_enter Try.func12, Try.ntmps12
       go_wp2
       go_ret2
       exact ⟨ret2 (by first | exact (fits_yes hy.out).1.symm | exact G.out.trans (fits_yes hy.out).1.symm) (fits_yes hy.out).2.symm, by repeat (first | exact Drew.refl _ | apply Drew.step)⟩)
    | (have hn : Hid (in64 (a - b) = false) := Lib.hid (by rw [in64_not]; omega)
       go_enter Try.func12, Try.ntmps12
       go_wp2
       go_ret2
       exact ⟨ret2 (fits_no hn.out).1.symm (fits_no hn.out).2.symm, by repeat (first | exact Drew.refl _ | apply Drew.step)⟩)

/-- may an order be so: the two texts' one answer -/
def rightS (p s : Int) : Int := if p < 1 ∨ 1099511627776 < p then 28 else if s < 1 ∨ 1099511627776 < s then 29 else 0

end Go.Proofs.Ytfhbmeebkhefhaa
