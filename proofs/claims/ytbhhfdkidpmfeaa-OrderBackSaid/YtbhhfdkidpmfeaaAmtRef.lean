/-
  The document's sums and differences, by contract.
-/
import Derived.Test.YtbhhfdkidpmfeaaAmtSum
namespace Go.Proofs.Ytbhhfdkidpmfeaa
open Go.RowKit
set_option linter.unusedVariables false
set_option linter.unusedSimpArgs false

/-- may an order be so: the two texts' one answer -/
def rightS (p s : Int) : Int := if p < 1 ∨ 1099511627776 < p then 28 else if s < 1 ∨ 1099511627776 < s then 29 else 0

set_option maxHeartbeats 1000000 in
theorem amount_right (p s : Int) (w : World) (hp : in64 p = true) (hs : in64 s = true) :
    Calls Try.prog 16 #[.int .i64 p, .int .i64 s] w fun e w' => e = .returned (.int .i64 (rightS p s)) ∧ Drew w w' := by
  clear hp hs
  by_cases c1 : p < 1 <;> by_cases c2 : 1099511627776 < p <;> by_cases c3 : s < 1 <;> by_cases c4 : 1099511627776 < s
  all_goals (try (exfalso; omega))
  all_goals
    obtain ⟨t, ht⟩ : ∃ t, t = rightS p s := ⟨_, rfl⟩
    rw [← ht]
    simp only [rightS, c1, c2, c3, c4, true_or, or_true, or_self, if_true, if_false] at ht
    subst ht
    go_enter Try.func16, Try.ntmps16
    go_wp2
    go_ret
    exact ⟨rfl, by repeat (first | exact Drew.refl _ | apply Drew.step)⟩

end Go.Proofs.Ytbhhfdkidpmfeaa
