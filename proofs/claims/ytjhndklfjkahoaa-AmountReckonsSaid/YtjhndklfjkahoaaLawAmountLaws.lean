/-
  The walk of AmountLaws: numbers can be turned about; what was added can be taken off.
-/
import Derived.Test.YtjhndklfjkahoaaAmtAwake
namespace Go.Proofs.Ytjhndklfjkahoaa
open Go.RowKit
set_option linter.unusedVariables false
set_option linter.unusedSimpArgs false

theorem amount_add_to (a b x y : Int) (w : World) (ha : in64 a = true) (hb : in64 b = true) (hx : x = fits64 (a + b)) (hy : y = over64 (a + b)) :
    Calls Try.prog 10 #[.int .i64 a, .int .i64 b] w fun e w' => e = .returned (.tuple #[.int .i64 x, .int .i64 y]) ∧ Drew w w' := by
  rw [hx, hy]; exact amount_add a b w ha hb
theorem amount_sub_to (a b x y : Int) (w : World) (ha : in64 a = true) (hb : in64 b = true) (hx : x = fits64 (a - b)) (hy : y = over64 (a - b)) :
    Calls Try.prog 12 #[.int .i64 a, .int .i64 b] w fun e w' => e = .returned (.tuple #[.int .i64 x, .int .i64 y]) ∧ Drew w w' := by
  rw [hx, hy]; exact amount_sub a b w ha hb
theorem amount_mul_to (a b x y : Int) (w : World) (ha : in64 a = true) (hb : in64 b = true) (hx : x = fits64 (a * b)) (hy : y = over64 (a * b)) :
    Calls Try.prog 11 #[.int .i64 a, .int .i64 b] w fun e w' => e = .returned (.tuple #[.int .i64 x, .int .i64 y]) ∧ Drew w w' := by
  rw [hx, hy]; exact amount_mul a b w ha hb

set_option maxHeartbeats 1000000 in
theorem AmountLaws_walk (a b : Int) (w : World) (wa : (Lit.int .i64 a).wf = true) (wb : (Lit.int .i64 b).wf = true) :
    Calls Try.prog 4 #[.int .i64 a, .int .i64 b] w fun e w' => e = .returned (.bool true) ∧ Below w.heap.size w w' := by
  have hA := Lib.hid (in64_wf wa)
  have hB := Lib.hid (in64_wf wb)
  clear wa wb
  suffices h : Calls Try.prog 4 #[.int .i64 a, .int .i64 b] w fun e w' => e = .returned (.bool true) ∧ Drew w w' from h.mono fun _ _ h => ⟨h.1, h.2.below⟩
  obtain ⟨c, hc⟩ : ∃ c, c = fits64 (a + b) := ⟨_, rfl⟩
  obtain ⟨m, hm⟩ : ∃ m, m = fits64 (a * b) := ⟨_, rfl⟩
  obtain ⟨o, ho⟩ : ∃ o, o = over64 (a * b) := ⟨_, rfl⟩
  have HC := Lib.hid hc
  have HM := Lib.hid hm
  have HO := Lib.hid ho
  have HC2 : Hid (c = fits64 (b + a)) := Lib.hid (by rw [hc, Int.add_comm])
  have HM2 : Hid (m = fits64 (b * a)) := Lib.hid (by rw [hm, Int.mul_comm])
  have HO2 : Hid (o = over64 (b * a)) := Lib.hid (by rw [ho, Int.mul_comm])
  clear hc hm ho
  have M1 := fun w => amount_mul_to a b m o w hA.out hB.out HM.out HO.out
  have M2 := fun w => amount_mul_to b a m o w hB.out hA.out HM2.out HO2.out
  have HM1 := Lib.hid M1
  have HM2 := Lib.hid M2
  clear M1 M2
  cases hi : in64 (a + b)
  · have A1 := Lib.hid fun w => amount_add_to a b c 24 w hA.out hB.out HC.out (fits_no hi).2.symm
    have A2 := Lib.hid fun w => amount_add_to b a c 24 w hB.out hA.out HC2.out (by rw [Int.add_comm]; exact (fits_no hi).2.symm)
    clear hi
    go_enter Try.func4, Try.ntmps4
    go_wp2_with (first | (go_at_call 7; refine (awake19 _).mono ?_; rintro e w' ⟨rfl, ⟨nd, rfl⟩⟩) | (go_at_call 10; (first | (with_reducible refine (A1.out _).mono ?_) | (with_reducible refine (A2.out _).mono ?_)); rintro e w' ⟨rfl, ⟨nd, rfl⟩⟩) | (go_at_call 11; (first | (with_reducible refine (HM1.out _).mono ?_) | (with_reducible refine (HM2.out _).mono ?_)); rintro e w' ⟨rfl, ⟨nd, rfl⟩⟩))
    go_ret
    exact ⟨rfl, by repeat (first | exact Drew.refl _ | apply Drew.step)⟩
  · have hcv : c = a + b := by rw [HC.out, (fits_yes hi).1]
    have hcb : in64 c = true := by rw [hcv]; exact hi
    have A1 := Lib.hid fun w => amount_add_to a b c 0 w hA.out hB.out HC.out (fits_yes hi).2.symm
    have A2 := Lib.hid fun w => amount_add_to b a c 0 w hB.out hA.out HC2.out (by rw [Int.add_comm]; exact (fits_yes hi).2.symm)
    have e : c - b = a := by omega
    have S := Lib.hid fun w => amount_sub_to c b a 0 w hcb hB.out (by rw [e, (fits_yes hA.out).1]) (by rw [e, (fits_yes hA.out).2])
    clear hi e hcv hcb
    go_enter Try.func4, Try.ntmps4
    go_wp2_with (first | (go_at_call 7; refine (awake19 _).mono ?_; rintro e w' ⟨rfl, ⟨nd, rfl⟩⟩) | (go_at_call 10; (first | (with_reducible refine (A1.out _).mono ?_) | (with_reducible refine (A2.out _).mono ?_)); rintro e w' ⟨rfl, ⟨nd, rfl⟩⟩) | (go_at_call 11; (first | (with_reducible refine (HM1.out _).mono ?_) | (with_reducible refine (HM2.out _).mono ?_)); rintro e w' ⟨rfl, ⟨nd, rfl⟩⟩) | (go_at_call 12; refine (S.out _).mono ?_; rintro e w' ⟨rfl, ⟨nd, rfl⟩⟩))
    go_ret
    exact ⟨rfl, by repeat (first | exact Drew.refl _ | apply Drew.step)⟩

end Go.Proofs.Ytjhndklfjkahoaa
