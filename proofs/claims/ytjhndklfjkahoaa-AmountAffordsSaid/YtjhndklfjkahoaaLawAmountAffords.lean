/-
  The walk of AmountAffords: what one can afford costs no more than one has, and one more would.
-/
import Derived.Test.YtjhndklfjkahoaaAmtAwake
namespace Go.Proofs.Ytjhndklfjkahoaa
open Go.RowKit
set_option linter.unusedVariables false
set_option linter.unusedSimpArgs false

theorem afford_fact (c p : Int) (hc : in64 c = true) (hp : in64 p = true) (h1 : ¬ p < 1) (h2 : ¬ c < p) :
    affordS c p = c / p ∧ costE (p * (c / p)) = 0 ∧ costS (p * (c / p)) ≤ c ∧ 1 ≤ c / p ∧ in64 (c / p) = true ∧ in64 (wrap64 (c / p + 1)) = true ∧
    (costE (p * wrap64 (c / p + 1)) = 0 → c < costS (p * wrap64 (c / p + 1))) := by
  rw [in64_iff] at hc hp
  have hm : p * (c / p) + c % p = c := Int.mul_ediv_add_emod c p
  have hr0 : 0 ≤ c % p := Int.emod_nonneg _ (by omega)
  have hr1 : c % p < p := Int.emod_lt_of_pos _ (by omega)
  have hq : 1 ≤ c / p := (Int.le_ediv_iff_mul_le (by omega)).mpr (by omega)
  have hq2 : c / p ≤ c := Int.ediv_le_self p (by omega)
  have hpq : 0 ≤ p * (c / p) := Int.mul_nonneg (by omega) (by omega)
  have hin : in64 (p * (c / p)) = true := by rw [in64_iff]; omega
  have e : affordS c p = c / p := by unfold affordS; rw [if_neg h1, if_neg h2]
  have ce : costE (p * (c / p)) = 0 := by unfold costE; rw [hin, if_pos rfl, if_neg (by omega)]
  have cs : costS (p * (c / p)) = p * (c / p) := by unfold costS; rw [hin, if_pos rfl, if_neg (by omega)]
  refine ⟨e, ce, by omega, hq, by rw [in64_iff]; omega, by rw [in64_iff]; unfold wrap64; omega, ?_⟩
  by_cases hmax : c / p = 9223372036854775807
  · have hp1 : p = 1 := by
      apply Classical.byContradiction
      intro hne
      have : 2 * (c / p) ≤ p * (c / p) := Int.mul_le_mul_of_nonneg_right (by omega) (by omega)
      omega
    have hw : wrap64 (c / p + 1) = -9223372036854775808 := by rw [hmax]; unfold wrap64; omega
    rw [hw, hp1]
    intro h
    exact absurd h (by decide)
  · have hw : wrap64 (c / p + 1) = c / p + 1 := by unfold wrap64; omega
    rw [hw]
    have hx : p * (c / p + 1) = p * (c / p) + p := by rw [Int.mul_add, Int.mul_one]
    rw [hx]
    intro h
    unfold costE at h
    unfold costS
    cases hi : in64 (p * (c / p) + p)
    · rw [hi] at h; simp at h
    · rw [if_pos rfl, if_neg (by omega)]; omega

theorem in64_0 : in64 0 = true := by decide

set_option maxHeartbeats 1000000 in
theorem AmountAffords_walk (c p : Int) (w : World) (wc : (Lit.int .i64 c).wf = true) (wp : (Lit.int .i64 p).wf = true) :
    Calls Try.prog 3 #[.int .i64 c, .int .i64 p] w fun e w' => e = .returned (.bool true) ∧ Below w.heap.size w w' := by
  have hc := Lib.hid (in64_wf wc)
  have hp := Lib.hid (in64_wf wp)
  clear wc wp
  suffices h : Calls Try.prog 3 #[.int .i64 c, .int .i64 p] w fun e w' => e = .returned (.bool true) ∧ Drew w w' from h.mono fun _ _ h => ⟨h.1, h.2.below⟩
  by_cases h1 : p < 1
  · have E : Hid (affordS c p = 0) := Lib.hid (if_pos h1)
    go_enter Try.func3, Try.ntmps3
    go_wp2_with (first | (go_at_call 7; refine (awake19 _).mono ?_; rintro e w' ⟨rfl, ⟨nd, rfl⟩⟩) | (go_at_call 8; refine (amount_afford _ _ _ hc.out hp.out).mono ?_; rw [E.out]; rintro e w' ⟨rfl, ⟨nd, rfl⟩⟩))
    go_ret
    exact ⟨rfl, by repeat (first | exact Drew.refl _ | apply Drew.step)⟩
  · by_cases h2 : c < p
    · have E : Hid (affordS c p = 0) := Lib.hid (by unfold affordS; rw [if_neg h1, if_pos h2])
      go_enter Try.func3, Try.ntmps3
      go_wp2_with (first | (go_at_call 7; refine (awake19 _).mono ?_; rintro e w' ⟨rfl, ⟨nd, rfl⟩⟩) | (go_at_call 8; refine (amount_afford _ _ _ hc.out hp.out).mono ?_; rw [E.out]; rintro e w' ⟨rfl, ⟨nd, rfl⟩⟩))
      go_ret
      exact ⟨rfl, by repeat (first | exact Drew.refl _ | apply Drew.step)⟩
    · obtain ⟨e0, e1, e2, e3, e4, e5, e6⟩ := afford_fact c p hc.out hp.out h1 h2
      have E0 := Lib.hid e0
      have E1 := Lib.hid e1
      have E4 := Lib.hid e4
      have E5 := Lib.hid e5
      have E6 := Lib.hid e6
      clear e0 e1 e4 e5 e6
      obtain ⟨q, hq⟩ : ∃ q, q = c / p := ⟨_, rfl⟩
      rw [← hq] at E0 E1 E4 E5 E6 e2 e3
      obtain ⟨x, hx⟩ : ∃ x, x = costS (p * q) := ⟨_, rfl⟩
      rw [← hx] at e2
      obtain ⟨y, hy⟩ : ∃ y, y = costS (p * wrap64 (q + 1)) := ⟨_, rfl⟩
      obtain ⟨z, hz⟩ : ∃ z, z = costE (p * wrap64 (q + 1)) := ⟨_, rfl⟩
      rw [← hy, ← hz] at E6
      have HX := Lib.hid hx
      have HY := Lib.hid hy
      have HZ := Lib.hid hz
      clear hx hy hz hq
      by_cases hz : z = 0
      · have hlt : c < y := E6.out hz
        obtain ⟨z0, z1⟩ := eq_bb hz
        clear hz
        go_enter Try.func3, Try.ntmps3
        go_wp2_with (first | (go_at_call 7; refine (awake19 _).mono ?_; rintro e w' ⟨rfl, ⟨nd, rfl⟩⟩) | (go_at_call 8; refine (amount_afford _ _ _ hc.out hp.out).mono ?_; rw [E0.out]; rintro e w' ⟨rfl, ⟨nd, rfl⟩⟩) | (go_at_call 9; (with_reducible refine (amount_cost _ _ _ hp.out (by first | (with_reducible exact E4.out) | (with_reducible exact E5.out))).mono ?_); first | (rw [E1.out, ← HX.out]; rintro e w' ⟨rfl, ⟨nd, rfl⟩⟩) | (rw [← HY.out, ← HZ.out]; rintro e w' ⟨rfl, ⟨nd, rfl⟩⟩)))
        go_ret
        exact ⟨rfl, by repeat (first | exact Drew.refl _ | apply Drew.step)⟩
      · obtain ⟨z0, z1⟩ := ne_bb hz
        clear hz
        go_enter Try.func3, Try.ntmps3
        go_wp2_with (first | (go_at_call 7; refine (awake19 _).mono ?_; rintro e w' ⟨rfl, ⟨nd, rfl⟩⟩) | (go_at_call 8; refine (amount_afford _ _ _ hc.out hp.out).mono ?_; rw [E0.out]; rintro e w' ⟨rfl, ⟨nd, rfl⟩⟩) | (go_at_call 9; (with_reducible refine (amount_cost _ _ _ hp.out (by first | (with_reducible exact E4.out) | (with_reducible exact E5.out))).mono ?_); first | (rw [E1.out, ← HX.out]; rintro e w' ⟨rfl, ⟨nd, rfl⟩⟩) | (rw [← HY.out, ← HZ.out]; rintro e w' ⟨rfl, ⟨nd, rfl⟩⟩)))
        go_ret
        exact ⟨rfl, by repeat (first | exact Drew.refl _ | apply Drew.step)⟩

end Go.Proofs.Ytjhndklfjkahoaa
