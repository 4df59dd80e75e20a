/-
  The chapter's examples hold.
-/
import Derived.Test.YthhgijjdddcchaaRdText
namespace Go.Proofs.Ythhgijjdddcchaa
open Go.RowKit
set_option linter.unusedVariables false
set_option linter.unusedSimpArgs false

theorem num300 : str (numL (300 : Int).toNat) = ⟨#[172, 2]⟩ := by
  rw [show (300 : Int).toNat = 300 from rfl, numL_high (by omega), numL_low (by omega)]; rfl
theorem signed1 : str (numL (zz (-1)).toNat) = ⟨#[1]⟩ := by
  rw [show (zz (-1)).toNat = 1 from by decide, numL_low (by omega)]; rfl
theorem awake_num : (RS.mk ⟨#[172, 2]⟩ 0 0).num = (300, ⟨⟨#[172, 2]⟩, 2, 0⟩) := by
  have h : scanL (RS.mk ⟨#[172, 2]⟩ 0 0).rest 0 0 = (300, 2, 0) := by decide
  unfold RS.num
  rw [if_neg (by simp), h]
  rfl

end Go.Proofs.Ythhgijjdddcchaa
