/-
  The chapter's example of batches holds.
-/
import Derived.Test.YthhgijjdddcchaaBatLight
import Derived.Test.YthhgijjdddcchaaBatPl
namespace Go.Proofs.Ythhgijjdddcchaa
open Go.RowKit
set_option linter.unusedVariables false
set_option linter.unusedSimpArgs false

theorem bytes5 : str (bytesB 5 []) = ⟨#[5, 0, 0, 0, 0, 0, 0, 0, 0]⟩ := by
  have h : bytesB 5 [] = [5, 0, 0, 0, 0, 0, 0, 0, 0] := by
    show (leL 8 (5 : Int).toNat ++ numL 0) ++ [] = _
    rw [numL_low (by omega)]
    rfl
  rw [h]; rfl
set_option maxRecDepth 100000 in
set_option maxHeartbeats 1000000 in
theorem awake06 (w : World) :
    Calls Try.prog 4 #[] w fun e w' => e = .returned (.bool true) ∧ Below w.heap.size w w' := by
  have BY : Hid (∀ wx, Calls Try.prog 6 #[.agg #[.int .u64 5, .slice none 0 0]] wx fun e w' => e = .returned (.tuple #[.string ⟨#[5, 0, 0, 0, 0, 0, 0, 0, 0]⟩, .int .i64 0]) ∧ Below wx.heap.size wx w') := Lib.hid fun wx => by
    have h := batch_bytes_ok 5 [] none 0 wx (by omega) (by omega) ⟨.inl rfl⟩ (by decide)
    rw [bytes5] at h
    exact h
  have NX : Hid (∀ wx, Calls Try.prog 9 #[.agg #[.int .u64 5, .slice none 0 0]] wx fun e w' => e = .returned (.int .u64 5) ∧ Below wx.heap.size wx w') := Lib.hid fun wx => batch_next0 5 wx (by omega) (by omega)
  have hz := zero_bat
  go_enter Try.func4, Try.ntmps4
  go_wp2_with (first | (go_at_call 6; (with_reducible refine (BY.out _).mono ?_); rintro e w1 ⟨rfl, hB1⟩) | (go_at_call 9; (with_reducible refine (NX.out _).mono ?_); rintro e w2 ⟨rfl, hB2⟩))
  go_ret
  exact ⟨rfl, below_at hB1 hB2⟩
end Go.Proofs.Ythhgijjdddcchaa
