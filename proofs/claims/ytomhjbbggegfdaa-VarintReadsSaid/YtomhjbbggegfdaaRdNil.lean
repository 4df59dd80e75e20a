/-
  A reader that is none: each method by contract.
-/
import Derived.Test.YtomhjbbggegfdaaRdText
namespace Go.Proofs.Ytomhjbbggegfdaa
open Go.RowKit
set_option linter.unusedVariables false
set_option linter.unusedSimpArgs false

set_option maxHeartbeats 1000000 in
theorem nil_ok (w : World) :
    Calls Try.prog 40 #[.pointer none] w fun e w' => e = .returned (.bool false) ∧ Drew w w' := by
  go_enter Try.func40, Try.ntmps40
  go_wp2
  go_ret
  exact ⟨rfl, by repeat (first | exact Drew.refl _ | apply Drew.step)⟩

set_option maxHeartbeats 1000000 in
theorem nil_fail (x : Int) (w : World) :
    Calls Try.prog 29 #[.pointer none, .int .i64 x] w fun e w' => e = .returned (.tuple #[]) ∧ Drew w w' := by
  go_enter Try.func29, Try.ntmps29
  go_wp2_with (first | (go_at_call 40; refine (nil_ok _).mono ?_; rintro e w' ⟨rfl, ⟨d, rfl⟩⟩))
  go_end0
  exact ⟨rfl, by repeat (first | exact Drew.refl _ | apply Drew.step)⟩

set_option maxHeartbeats 1000000 in
theorem nil_take (x : Int) (w : World) :
    Calls Try.prog 27 #[.pointer none, .int .i64 x] w fun e w' => e = .returned (.string (str [])) ∧ Drew w w' := by
  go_enter Try.func27, Try.ntmps27
  go_wp2_with (first | (go_at_call 40; refine (nil_ok _).mono ?_; rintro e w' ⟨rfl, ⟨d, rfl⟩⟩))
  go_ret
  exact ⟨rfl, by repeat (first | exact Drew.refl _ | apply Drew.step)⟩

set_option maxHeartbeats 1000000 in
theorem nil_num (w : World) :
    Calls Try.prog 33 #[.pointer none] w fun e w' => e = .returned (.int .u64 0) ∧ Drew w w' := by
  go_enter Try.func33, Try.ntmps33
  go_wp2_with (first | (go_at_call 40; refine (nil_ok _).mono ?_; rintro e w' ⟨rfl, ⟨d, rfl⟩⟩))
  go_ret
  exact ⟨rfl, by repeat (first | exact Drew.refl _ | apply Drew.step)⟩

set_option maxHeartbeats 1000000 in
theorem nil_err (w : World) :
    Calls Try.prog 37 #[.pointer none] w fun e w' => e = .returned (.int .i64 1) ∧ Drew w w' := by
  go_enter Try.func37, Try.ntmps37
  go_wp2
  go_ret
  exact ⟨rfl, by repeat (first | exact Drew.refl _ | apply Drew.step)⟩

set_option maxHeartbeats 1000000 in
theorem nil_left (w : World) :
    Calls Try.prog 36 #[.pointer none] w fun e w' => e = .returned (.int .i64 0) ∧ Drew w w' := by
  go_enter Try.func36, Try.ntmps36
  go_wp2
  go_ret
  exact ⟨rfl, by repeat (first | exact Drew.refl _ | apply Drew.step)⟩

set_option maxHeartbeats 1000000 in
theorem nil_at (w : World) :
    Calls Try.prog 35 #[.pointer none] w fun e w' => e = .returned (.int .i64 0) ∧ Drew w w' := by
  go_enter Try.func35, Try.ntmps35
  go_wp2
  go_ret
  exact ⟨rfl, by repeat (first | exact Drew.refl _ | apply Drew.step)⟩

set_option maxHeartbeats 1000000 in
theorem nil_end (w : World) :
    Calls Try.prog 31 #[.pointer none] w fun e w' => e = .returned (.int .i64 1) ∧ Drew w w' := by
  go_enter Try.func31, Try.ntmps31
  go_wp2_with (first | (go_at_call 37; refine (nil_err _).mono ?_; rintro e w' ⟨rfl, ⟨d, rfl⟩⟩))
  go_ret
  exact ⟨rfl, by repeat (first | exact Drew.refl _ | apply Drew.step)⟩

theorem and00 : Go.bits .and .u64 0 1 = 0 := by decide
theorem xor00 : Go.bits .xor .i64 0 0 = 0 := by decide

set_option maxHeartbeats 1000000 in
theorem nil_signed (w : World) :
    Calls Try.prog 20 #[.pointer none] w fun e w' => e = .returned (.int .i64 0) ∧ Drew w w' := by
  have e1 := and00
  have e2 := xor00
  go_enter Try.func20, Try.ntmps20
  go_wp2_with (first | (go_at_call 33; refine (nil_num _).mono ?_; rintro e w' ⟨rfl, ⟨d, rfl⟩⟩))
  go_ret
  exact ⟨rfl, by repeat (first | exact Drew.refl _ | apply Drew.step)⟩

set_option maxHeartbeats 1000000 in
theorem nil_text9 (w : World) :
    Calls Try.prog 22 #[.pointer none, .int .i64 9] w fun e w' => e = .returned (.string (str [])) ∧ Drew w w' := by
  go_enter Try.func22, Try.ntmps22
  go_wp2_with (first | (go_at_call 33; refine (nil_num _).mono ?_; rintro e w' ⟨rfl, ⟨d, rfl⟩⟩) | (go_at_call 27; refine (nil_take _ _).mono ?_; rintro e w' ⟨rfl, ⟨d, rfl⟩⟩) | (go_at_call 29; refine (nil_fail _ _).mono ?_; rintro e w' ⟨rfl, ⟨d, rfl⟩⟩))
  go_ret
  exact ⟨rfl, by repeat (first | exact Drew.refl _ | apply Drew.step)⟩

theorem big_none (w : World) : Calls Try.prog 39 #[.string (str [])] w fun e w' => e = .returned (.int .u64 0) ∧ Drew w w' := rd_big (str []) w (by decide)

set_option maxHeartbeats 1000000 in
theorem nil_fixed (w : World) :
    Calls Try.prog 24 #[.pointer none] w fun e w' => e = .returned (.int .u32 0) ∧ Drew w w' := by
  go_enter Try.func24, Try.ntmps24
  go_wp2_with (first | (go_at_call 27; refine (nil_take _ _).mono ?_; rintro e w' ⟨rfl, ⟨d, rfl⟩⟩) | (go_at_call 39; refine (big_none _).mono ?_; rintro e w' ⟨rfl, ⟨d, rfl⟩⟩))
  go_ret
  exact ⟨rfl, by repeat (first | exact Drew.refl _ | apply Drew.step)⟩

set_option maxHeartbeats 1000000 in
theorem nil_wide (w : World) :
    Calls Try.prog 26 #[.pointer none] w fun e w' => e = .returned (.int .u64 0) ∧ Drew w w' := by
  go_enter Try.func26, Try.ntmps26
  go_wp2_with (first | (go_at_call 27; refine (nil_take _ _).mono ?_; rintro e w' ⟨rfl, ⟨d, rfl⟩⟩) | (go_at_call 39; refine (big_none _).mono ?_; rintro e w' ⟨rfl, ⟨d, rfl⟩⟩))
  go_ret
  exact ⟨rfl, by repeat (first | exact Drew.refl _ | apply Drew.step)⟩

end Go.Proofs.Ytomhjbbggegfdaa
