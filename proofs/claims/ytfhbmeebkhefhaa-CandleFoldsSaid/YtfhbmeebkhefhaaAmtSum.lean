/-
  Sum, by contract: a row of numbers that came in, one behind the other.
-/
import Derived.Test.YtfhbmeebkhefhaaAmtAwake
namespace Go.Proofs.Ytfhbmeebkhefhaa
open Go.RowKit
set_option linter.unusedVariables false
set_option linter.unusedSimpArgs false

/-- A slice of whole numbers that reads as a list. -/
def ReadsI (k : IntKind) (w : World) (A : Option Addr) (n : Nat) (xs : List Int) : Prop :=
  xs.length = n ∧ n ≤ maxLen ∧ (0 < n → ∃ ad, A = some ad ∧ ∀ j, j < n → w.cell? (ad.add j) = some (.int k (xs.getD j 0)))
theorem ReadsI.at_ {k : IntKind} {w : World} {A : Option Addr} {n : Nat} {xs : List Int} (h : ReadsI k w A n xs) (j : Nat) (hj : j < n) :
    ∃ ad, A = some ad ∧ w.cell? (ad.add j) = some (.int k (xs.getD j 0)) := by
  obtain ⟨ad, e, hc⟩ := h.2.2 (by omega)
  exact ⟨ad, e, hc _ hj⟩
theorem ReadsI.drew {k : IntKind} {w w' : World} {A : Option Addr} {n : Nat} {xs : List Int} (h : ReadsI k w A n xs) (d : Drew w w') : ReadsI k w' A n xs := by
  obtain ⟨⟨m, rfl⟩⟩ := d
  exact h

/-- one number behind the other; what doesn't fit ends it -/
def sumS : Int → List Int → Int × Int
  | n, [] => (n, 0)
  | n, x :: r => if in64 (n + x) then sumS (n + x) r else (0, 24)

theorem drop_at (l : List Int) (i : Nat) (h : i < l.length) : l.drop i = l.getD i 0 :: l.drop (i + 1) := by
  rw [List.drop_eq_getElem_cons h]; simp [List.getD_eq_getElem?_getD, h]

end Go.Proofs.Ytfhbmeebkhefhaa
