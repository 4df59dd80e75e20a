/-
  Afford, Cost, and the chapter's example, by contract.
-/
import Derived.Test.YtfhbmeebkhefhaaAmt
namespace Go.Proofs.Ytfhbmeebkhefhaa
open Go.RowKit
set_option linter.unusedVariables false
set_option linter.unusedSimpArgs false

def affordS (c p : Int) : Int := if p < 1 then 0 else if c < p then 0 else c / p

def costS (n : Int) : Int := if in64 n then (if n < 0 then 0 else n) else 0
def costE (n : Int) : Int := if in64 n then (if n < 0 then 25 else 0) else 24

theorem amount_add23 (w : World) :
    Calls Try.prog 22 #[.int .i64 2, .int .i64 3] w fun e w' => e = .returned (.tuple #[.int .i64 5, .int .i64 0]) ∧ Drew w w' := by
  have h := amount_add 2 3 w (by decide) (by decide)
  have e1 : fits64 (2 + 3) = 5 := by decide
  have e2 : over64 (2 + 3) = 0 := by decide
  rw [e1, e2] at h
  exact h
end Go.Proofs.Ytfhbmeebkhefhaa
