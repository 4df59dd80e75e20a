/-
  The walk of VarintNil: a reader that is none.
-/
import Derived.Test.YtomhjbbggegfdaaVarAwake
import Derived.Test.YtomhjbbggegfdaaRdNil
namespace Go.Proofs.Ytomhjbbggegfdaa
open Go.RowKit
set_option linter.unusedVariables false
set_option linter.unusedSimpArgs false

set_option maxRecDepth 100000 in
set_option maxHeartbeats 4000000 in
theorem VarintNil_walk (w : World) :
    Calls Try.prog 6 #[] w fun e w' => e = .returned (.bool true) ∧ Below w.heap.size w w' := by
  have he : (str []).toList = [] := by rw [ByteArray.toList_eq]; rfl
  go_enter Try.func6, Try.ntmps6
  go_wp2_with (first | (go_at_call 8; refine (awake03 _).mono ?_; rintro e w1 ⟨rfl, hB1⟩) | (go_at_call 33; refine (nil_num _).mono ?_; rintro e w' ⟨rfl, ⟨d, rfl⟩⟩) | (go_at_call 20; refine (nil_signed _).mono ?_; rintro e w' ⟨rfl, ⟨d, rfl⟩⟩) | (go_at_call 22; refine (nil_text9 _).mono ?_; rintro e w' ⟨rfl, ⟨d, rfl⟩⟩) | (go_at_call 24; refine (nil_fixed _).mono ?_; rintro e w' ⟨rfl, ⟨d, rfl⟩⟩) | (go_at_call 26; refine (nil_wide _).mono ?_; rintro e w' ⟨rfl, ⟨d, rfl⟩⟩) | (go_at_call 27; refine (nil_take _ _).mono ?_; rintro e w' ⟨rfl, ⟨d, rfl⟩⟩) | (go_at_call 36; refine (nil_left _).mono ?_; rintro e w' ⟨rfl, ⟨d, rfl⟩⟩) | (go_at_call 35; refine (nil_at _).mono ?_; rintro e w' ⟨rfl, ⟨d, rfl⟩⟩) | (go_at_call 37; refine (nil_err _).mono ?_; rintro e w' ⟨rfl, ⟨d, rfl⟩⟩) | (go_at_call 31; refine (nil_end _).mono ?_; rintro e w' ⟨rfl, ⟨d, rfl⟩⟩) | (go_at_call 29; refine (nil_fail _ _).mono ?_; rintro e w' ⟨rfl, ⟨d, rfl⟩⟩))
  go_ret
  exact ⟨rfl, by exact (((Drew.refl w).step _).belowB _).trans (below_drewN (hB1.mono (by simp)) _)⟩

end Go.Proofs.Ytomhjbbggegfdaa
