/-
  The chapter's examples hold.
-/
import Derived.Test.YtomhjbbggegfdaaRdText
namespace Go.Proofs.Ytomhjbbggegfdaa
open Go.RowKit
set_option linter.unusedVariables false
set_option linter.unusedSimpArgs false

theorem num300 : str (numL (300 : Int).toNat) = ⟨#[172, 2]⟩ := by
  rw [show (300 : Int).toNat = 300 from rfl, numL_high (by omega), numL_low (by omega)]; rfl
theorem signed1 : str (numL (zz (-1)).toNat) = ⟨#[1]⟩ := by
  rw [show (zz (-1)).toNat = 1 from by decide, numL_low (by omega)]; rfl
theorem awake_num : (RS.mk ⟨#[172, 2]⟩ 0 0).num = (300, ⟨⟨#[172, 2]⟩, 2, 0⟩) := by
  have h : scanL (RS.mk ⟨#[172, 2]⟩ 0 0).rest 0 0 = (300, 2, 0) := by decide
  unfold RS.num
  rw [if_neg (by simp), h]
  rfl

set_option maxHeartbeats 1000000 in
theorem awake03 (w : World) :
    Calls Try.prog 8 #[] w fun e w' => e = .returned (.bool true) ∧ Below w.heap.size w w' := by
  have N1 : Hid (∀ w, Calls Try.prog 9 #[.int .u64 300] w fun e w' => e = .returned (.string ⟨#[172, 2]⟩) ∧ Below w.heap.size w w') := Lib.hid fun w => by
    have h := varint_num 300 w (by omega) (by omega)
    rw [num300] at h; exact h
  have S1 : Hid (∀ w, Calls Try.prog 11 #[.int .i64 (-1)] w fun e w' => e = .returned (.string ⟨#[1]⟩) ∧ Below w.heap.size w w') := Lib.hid fun w => by
    have h := varint_signed (-1) w (by omega) (by omega)
    rw [signed1] at h; exact h
  have R1 : Hid (∀ b w, RdAt TR w b ⟨⟨#[172, 2]⟩, 0, 0⟩ → Calls Try.prog 33 #[.pointer (some ⟨b, 0, none⟩)] w fun e w' => e = .returned (.int .u64 300) ∧ RdAt TR w' b ⟨⟨#[172, 2]⟩, 2, 0⟩ ∧ Chg b w w') := Lib.hid fun b w hr => by
    have h := rd_num b _ w hr (Nat.zero_le _) (by decide)
    rw [awake_num] at h; exact h
  have E1 : Hid (∀ b w, RdAt TR w b ⟨⟨#[172, 2]⟩, 2, 0⟩ → Calls Try.prog 31 #[.pointer (some ⟨b, 0, none⟩)] w fun e w' => e = .returned (.int .i64 0) ∧ Drew w w') := Lib.hid fun b w hr => by
    have h := rd_end b _ w hr (Nat.le_refl _) (by decide)
    exact h
  go_enter Try.func8, Try.ntmps8
  go_wp2_with (first | (go_at_call 19; refine (rd_over _ _).mono ?_; rintro e w1 ⟨b, rfl, hR1, hb, hB1⟩) | (go_at_call 9; refine (N1.out _).mono ?_; rintro e w2 ⟨rfl, hB2⟩) | (go_at_call 11; refine (S1.out _).mono ?_; rintro e w3 ⟨rfl, hB3⟩) | (go_at_call 33; refine (R1.out b _ ((hR1.below hB2).below hB3)).mono ?_; rintro e w4 ⟨rfl, hR4, hC4⟩) | (go_at_call 31; refine (E1.out b _ hR4).mono ?_; rintro e w' ⟨rfl, ⟨d, rfl⟩⟩))
  go_ret
  have hz : w.heap.size ≤ w3.heap.size := Nat.le_trans hB1.size (Nat.le_trans hB2.size hB3.size)
  exact ⟨rfl, below_drewN ((below_at (below_at hB1 hB2) hB3).trans (hC4.below hb hz)) _⟩

end Go.Proofs.Ytomhjbbggegfdaa
