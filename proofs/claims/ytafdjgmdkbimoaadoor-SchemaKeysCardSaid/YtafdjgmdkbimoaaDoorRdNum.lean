/-
  The reader's readers by contract.
-/
import Derived.Test.YtafdjgmdkbimoaaDoorRdScan
namespace Go.Proofs.YtafdjgmdkbimoaaDoor
open Go.RowKit
set_option linter.unusedVariables false
set_option linter.unusedSimpArgs false

set_option maxHeartbeats 1000000 in
theorem rd_over (s : ByteArray) (w : World) :
    Calls Tryd.prog 55 #[.string s] w fun e w' => ∃ b, e = .returned (.pointer (some ⟨b, 0, none⟩)) ∧ RdAt TR w' b ⟨s, 0, 0⟩ ∧ w.heap.size ≤ b ∧ Below w.heap.size w w' := by
  go_enter Tryd.func55, Tryd.ntmps55
  go_wp2
  go_ret
  exact ⟨w.heap.size, rfl, heap_alloc_new _ _, Nat.le_refl _, (Below.refl _ _).alloc (Nat.le_refl _) _⟩

end Go.Proofs.YtafdjgmdkbimoaaDoor
