/-
  The walk of CrcMasks: a number masked, and back; whether a text has a masked sum.
-/
import Derived.Test.YtligilfbhigdcaaCrcMask
namespace Go.Proofs.Ytligilfbhigdcaa
open Go.RowKit
set_option linter.unusedVariables false
set_option linter.unusedSimpArgs false

set_option maxHeartbeats 2000000 in
theorem CrcMasks_walk (n m : Int) (s : ByteArray) (w : World) (wn : (Lit.int .u32 n).wf = true) (wm : (Lit.int .u32 m).wf = true) (ws : s.size ≤ 140737488351232) :
    Calls Try.prog 6 #[.int .u32 n, .int .u32 m, .string s] w fun e w' => e = .returned (.bool true) ∧ Below w.heap.size w w' := by
  obtain ⟨n0, n1⟩ := wf_u32 wn
  obtain ⟨m0, m1⟩ := wf_u32 wm
  clear wn wm
  by_cases hlong : 5000 < s.size
  · go_enter Try.func6, Try.ntmps6
    go_wp2_with (go_at_call 7; refine (awake01 _).mono ?_; rintro e w1 ⟨rfl, hB⟩)
    go_ret
    exact ⟨rfl, hB⟩
  · obtain ⟨t, ht⟩ : ∃ t, t = (((crcFrom 0#32 (bytesOf s)).toNat : Nat) : Int) := ⟨_, rfl⟩
    have hb : 0 ≤ t ∧ t < 4294967296 := by have := (crcFrom 0#32 (bytesOf s)).isLt; omega
    have HT := Lib.hid ht
    obtain ⟨tb0, tb1⟩ := hb
    have TB := Lib.hid (And.intro tb0 tb1)
    clear ht tb0 tb1
    obtain ⟨x, hx⟩ : ∃ x, x = maskI n := ⟨_, rfl⟩
    obtain ⟨y, hy⟩ : ∃ y, y = unmaskI m := ⟨_, rfl⟩
    obtain ⟨z, hz⟩ : ∃ z, z = maskI t := ⟨_, rfl⟩
    have XB : Hid (0 ≤ x ∧ x < 4294967296) := Lib.hid (by rw [hx]; exact maskI_bd _)
    have YB : Hid (0 ≤ y ∧ y < 4294967296) := Lib.hid (by rw [hy]; exact unmaskI_bd _)
    have ZB : Hid (0 ≤ z ∧ z < 4294967296) := Lib.hid (by rw [hz]; exact maskI_bd _)
    have N := Lib.hid (And.intro n0 n1)
    have M := Lib.hid (And.intro m0 m1)
    have MN := Lib.hid fun w => (hx ▸ crc_mask n w n0 n1)
    have RN := Lib.hid fun w => (hx ▸ ref_mask n w n0 n1)
    have UX : Hid (∀ w, Calls Try.prog 16 #[.int .u32 x] w fun e w' => e = .returned (.int .u32 n) ∧ Drew w w') := Lib.hid fun w => by
      have h := crc_unmask x w XB.out.1 XB.out.2
      rw [hx, unmask_mask n n0 n1, ← hx] at h
      exact h
    have UM := Lib.hid fun w => (hy ▸ crc_unmask m w m0 m1)
    have MY : Hid (∀ w, Calls Try.prog 15 #[.int .u32 y] w fun e w' => e = .returned (.int .u32 m) ∧ Drew w w') := Lib.hid fun w => by
      have h := crc_mask y w YB.out.1 YB.out.2
      rw [hy, mask_unmask m m0 m1, ← hy] at h
      exact h
    have RT := Lib.hid fun w => (hz ▸ ref_mask t w TB.out.1 TB.out.2)
    have WZ : Hid (∀ w, Calls Try.prog 17 #[.string s, .int .u32 z] w fun e w' => e = .returned (.bool true) ∧ Below w.heap.size w w') := Lib.hid fun w => by
      have h := crc_whole s z w ws ZB.out.1 ZB.out.2
      rw [← HT.out, ← hz, show (z == z) = true from by simp] at h
      exact h
    have WN : Hid (∀ w, Calls Try.prog 17 #[.string s, .int .u32 n] w fun e w' => e = .returned (.bool (n == z)) ∧ Below w.heap.size w w') := Lib.hid fun w => by
      have h := crc_whole s n w ws n0 n1
      rw [← HT.out, ← hz, show (z == n) = (n == z) from by rw [Bool.eq_iff_iff]; simp; exact eq_comm] at h
      exact h
    clear hx hy hz
    cases q0 : (n == z)
    all_goals
      have q1 : (n != z) = !(n == z) := rfl
      rw [q0] at q1 WN
      go_enter Try.func6, Try.ntmps6
      go_wp2_with (first | (go_at_call 7; refine (awake01 _).mono ?_; rintro e w1 ⟨rfl, hB1⟩) | (go_at_call 13; refine (ref_of _ _ ws).mono ?_; rw [← HT.out]; rintro e w' ⟨rfl, ⟨nd, rfl⟩⟩) | (go_at_call 14; (first | (with_reducible refine (RT.out _).mono ?_) | (with_reducible refine (RN.out _).mono ?_)); rintro e w' ⟨rfl, ⟨nd, rfl⟩⟩) | (go_at_call 15; (first | (with_reducible refine (MN.out _).mono ?_) | (with_reducible refine (MY.out _).mono ?_)); rintro e w' ⟨rfl, ⟨nd, rfl⟩⟩) | (go_at_call 16; (first | (with_reducible refine (UX.out _).mono ?_) | (with_reducible refine (UM.out _).mono ?_)); rintro e w' ⟨rfl, ⟨nd, rfl⟩⟩) | (go_at_call 17; (with_reducible refine (WZ.out _).mono ?_); rintro e w2 ⟨rfl, hB2⟩) | (go_at_call 17; (with_reducible refine (WN.out _).mono ?_); rintro e w3 ⟨rfl, hB3⟩))
      go_ret
      exact ⟨rfl, below_draws (below_next (below_next hB1 (by first | exact Drew.refl _ | exact (Drew.refl _).step _) hB2 hB1.size) (by first | exact Drew.refl _ | exact (Drew.refl _).step _) hB3 (Nat.le_trans hB1.size (Nat.le_trans (by simp) hB2.size))) (by first | exact Drew.refl _ | exact (Drew.refl _).step _)⟩

end Go.Proofs.Ytligilfbhigdcaa
