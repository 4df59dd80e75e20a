/-
  The functions of package amount by contract.
-/
import Derived.Test.YtbhhfdkidpmfeaaAmtMath
namespace Go.Proofs.Ytbhhfdkidpmfeaa
open Go.RowKit
set_option linter.unusedVariables false
set_option linter.unusedSimpArgs false

theorem ret2 {k l : IntKind} {a b c d : Int} (h : a = b) (g : c = d) : Ending.returned (.tuple #[.int k a, .int l c]) = .returned (.tuple #[.int k b, .int l d]) := by rw [h, g]
theorem ret1 {k : IntKind} {a b : Int} (h : a = b) : Ending.returned (.int k a) = .returned (.int k b) := by rw [h]

theorem fits_yes {n : Int} (h : in64 n = true) : fits64 n = n ∧ over64 n = 0 := by simp [fits64, over64, h]
theorem fits_no {n : Int} (h : in64 n = false) : fits64 n = 0 ∧ over64 n = 24 := by simp [fits64, over64, h]

set_option maxHeartbeats 1000000 in
theorem amount_add (a b : Int) (w : World) (ha : in64 a = true) (hb : in64 b = true) :
    Calls Try.prog 26 #[.int .i64 a, .int .i64 b] w fun e w' => e = .returned (.tuple #[.int .i64 (fits64 (a + b)), .int .i64 (over64 (a + b))]) ∧ Drew w w' := by
  rw [in64_iff] at ha hb
  by_cases c : a < wrap64 (a + b) <;> by_cases d : 0 < b <;> by_cases b0 : (b == 0) = true
  all_goals (try (exfalso; unfold wrap64 at c; simp at b0; omega))
  all_goals (try (replace b0 : (b == 0) = false := by simpa using b0))
  all_goals
    first
    | (have hy : Hid (in64 (a + b) = true) := Lib.hid (by rw [in64_iff]; unfold wrap64 at c; simp at b0; omega)
       have G : Hid (wrap64 (a + b) = a + b) := Lib.hid (by have := hy.out; rw [in64_iff] at this; unfold wrap64; omega)
       go_enter Try.func26, Try.ntmps26
       go_wp2
       go_ret2
       exact ⟨ret2 (by have h := G.out; rw [(fits_yes hy.out).1]; simpa using h) (fits_yes hy.out).2.symm, by repeat (first | exact Drew.refl _ | apply Drew.step)⟩)
    | (have hn : Hid (in64 (a + b) = false) := Lib.hid (by rw [in64_not]; unfold wrap64 at c; simp at b0; omega)
       go_enter Try.func26, Try.ntmps26
       go_wp2
       go_ret2
       exact ⟨ret2 (fits_no hn.out).1.symm (fits_no hn.out).2.symm, by repeat (first | exact Drew.refl _ | apply Drew.step)⟩)

set_option maxHeartbeats 1000000 in
theorem amount_size (a : Int) (w : World) (ha : in64 a = true) :
    Calls Try.prog 36 #[.int .i64 a] w fun e w' => e = .returned (.int .u64 (absI a)) ∧ Drew w w' := by
  have H := Lib.hid ha
  rw [in64_iff] at ha
  by_cases c : a < 0
  · go_enter Try.func36, Try.ntmps36
    go_wp2
    go_ret
    exact ⟨ret1 (by rw [absI_neg c]; simp only [IntKind.wrap, IntKind.bits, IntKind.signed]; simp; omega), by repeat (first | exact Drew.refl _ | apply Drew.step)⟩
  · go_enter Try.func36, Try.ntmps36
    go_wp2
    go_ret
    exact ⟨ret1 (by rw [absI_pos (by omega)]), by repeat (first | exact Drew.refl _ | apply Drew.step)⟩

set_option maxHeartbeats 1000000 in
theorem bits_mul64 (a b : Int) (w : World) (ha0 : 0 ≤ a) (ha : a < 18446744073709551616) (hb0 : 0 ≤ b) (hb : b < 18446744073709551616) :
    Calls Try.prog 35 #[.int .u64 a, .int .u64 b] w fun e w' => e = .returned (.tuple #[.int .u64 (hi64 a b), .int .u64 (lo64 a b)]) ∧ Drew w w' := by
  have H := Lib.hid (mul64_hi a b ha0 ha hb0 hb)
  have L := Lib.hid (mul64_lo a b)
  clear ha0 ha hb0 hb
  go_enter Try.func35, Try.ntmps35
  go_wp2
  go_ret2
  exact ⟨ret2 H.out L.out, by repeat (first | exact Drew.refl _ | apply Drew.step)⟩

theorem iff_of {p q : Prop} (hp : p) (hq : q) : p ↔ q := ⟨fun _ => hq, fun _ => hp⟩
theorem iff_no {p q : Prop} (hp : ¬ p) (hq : ¬ q) : p ↔ q := ⟨fun h => absurd h hp, fun h => absurd h hq⟩

set_option maxHeartbeats 2000000 in
theorem amount_mul (a b : Int) (w : World) (ha : in64 a = true) (hb : in64 b = true) :
    Calls Try.prog 28 #[.int .i64 a, .int .i64 b] w fun e w' => e = .returned (.tuple #[.int .i64 (fits64 (a * b)), .int .i64 (over64 (a * b))]) ∧ Drew w w' := by
  have A := Lib.hid (absI_bd a ha)
  have B := Lib.hid (absI_bd b hb)
  have Ha := Lib.hid ha
  have Hb := Lib.hid hb
  clear ha hb
  have L0 : 0 ≤ lo64 (absI a) (absI b) := (hi_lo a b).2.1
  have L1 : lo64 (absI a) (absI b) < 18446744073709551616 := (hi_lo a b).2.2
  by_cases sa : a < 0 <;> by_cases sb : b < 0
  · have s : Hid (((a < 0) ↔ (b < 0))) := Lib.hid (iff_of sa sb)
    have sa1 : decide (a < 0) = true := decide_eq_true sa
    have sb1 : decide (b < 0) = true := decide_eq_true sb
    clear sa sb
    have hm : Hid ((9223372036854775807 : Int) = if (a < 0) ↔ (b < 0) then 9223372036854775807 else 9223372036854775808) := Lib.hid (by rw [if_pos s.out])
    by_cases ch : hi64 (absI a) (absI b) = 0
    · by_cases cl : 9223372036854775807 < lo64 (absI a) (absI b)
      · have O := Lib.hid (mul_over a b _ hm.out (.inr cl) Ha.out Hb.out)
        have ch0 : (hi64 (absI a) (absI b) == 0) = true := by simpa using ch
        have ch1 : (hi64 (absI a) (absI b) != 0) = false := by simpa using ch
        clear ch
        go_enter Try.func28, Try.ntmps28
        go_wp2_with (first | (go_at_call 36; refine (amount_size _ _ (by first | exact Ha.out | exact Hb.out)).mono ?_; rintro e w' ⟨rfl, ⟨nd, rfl⟩⟩) | (go_at_call 35; refine (bits_mul64 _ _ _ A.out.1 (Int.lt_of_le_of_lt A.out.2 (by decide)) B.out.1 (Int.lt_of_le_of_lt B.out.2 (by decide))).mono ?_; rintro e w' ⟨rfl, ⟨nd, rfl⟩⟩))
        go_ret2

        exact ⟨ret2 (fits_no O.out).1.symm (fits_no O.out).2.symm, by repeat (first | exact Drew.refl _ | apply Drew.step)⟩
      · have F := Lib.hid (mul_fits a b _ hm.out ch cl)
        have ch0 : (hi64 (absI a) (absI b) == 0) = true := by simpa using ch
        have ch1 : (hi64 (absI a) (absI b) != 0) = false := by simpa using ch
        clear ch
        go_enter Try.func28, Try.ntmps28
        go_wp2_with (first | (go_at_call 36; refine (amount_size _ _ (by first | exact Ha.out | exact Hb.out)).mono ?_; rintro e w' ⟨rfl, ⟨nd, rfl⟩⟩) | (go_at_call 35; refine (bits_mul64 _ _ _ A.out.1 (Int.lt_of_le_of_lt A.out.2 (by decide)) B.out.1 (Int.lt_of_le_of_lt B.out.2 (by decide))).mono ?_; rintro e w' ⟨rfl, ⟨nd, rfl⟩⟩))
        go_ret2

        exact ⟨ret2 (by rw [(fits_yes F.out.1).1]; have h1 := F.out.2.1 s.out; have h2 := F.out.1; rw [in64_iff] at h2; rw [h1]; try (unfold wrap64; omega)) (fits_yes F.out.1).2.symm, by repeat (first | exact Drew.refl _ | apply Drew.step)⟩
    · have O := Lib.hid (mul_over a b _ hm.out (.inl ch) Ha.out Hb.out)
      have ch0 : (hi64 (absI a) (absI b) == 0) = false := by simpa using ch
      have ch1 : (hi64 (absI a) (absI b) != 0) = true := by simpa using ch
      clear ch
      by_cases cl : 9223372036854775807 < lo64 (absI a) (absI b)
      all_goals
        go_enter Try.func28, Try.ntmps28
        go_wp2_with (first | (go_at_call 36; refine (amount_size _ _ (by first | exact Ha.out | exact Hb.out)).mono ?_; rintro e w' ⟨rfl, ⟨nd, rfl⟩⟩) | (go_at_call 35; refine (bits_mul64 _ _ _ A.out.1 (Int.lt_of_le_of_lt A.out.2 (by decide)) B.out.1 (Int.lt_of_le_of_lt B.out.2 (by decide))).mono ?_; rintro e w' ⟨rfl, ⟨nd, rfl⟩⟩))
        go_ret2

        exact ⟨ret2 (fits_no O.out).1.symm (fits_no O.out).2.symm, by repeat (first | exact Drew.refl _ | apply Drew.step)⟩
  · have s : Hid (¬ ((a < 0) ↔ (b < 0))) := Lib.hid (fun h => sb (h.mp sa))
    have sa1 : decide (a < 0) = true := decide_eq_true sa
    have sb1 : decide (b < 0) = false := decide_eq_false sb
    clear sa sb
    have hm : Hid ((9223372036854775808 : Int) = if (a < 0) ↔ (b < 0) then 9223372036854775807 else 9223372036854775808) := Lib.hid (by rw [if_neg s.out])
    by_cases ch : hi64 (absI a) (absI b) = 0
    · by_cases cl : 9223372036854775808 < lo64 (absI a) (absI b)
      · have O := Lib.hid (mul_over a b _ hm.out (.inr cl) Ha.out Hb.out)
        have ch0 : (hi64 (absI a) (absI b) == 0) = true := by simpa using ch
        have ch1 : (hi64 (absI a) (absI b) != 0) = false := by simpa using ch
        clear ch
        go_enter Try.func28, Try.ntmps28
        go_wp2_with (first | (go_at_call 36; refine (amount_size _ _ (by first | exact Ha.out | exact Hb.out)).mono ?_; rintro e w' ⟨rfl, ⟨nd, rfl⟩⟩) | (go_at_call 35; refine (bits_mul64 _ _ _ A.out.1 (Int.lt_of_le_of_lt A.out.2 (by decide)) B.out.1 (Int.lt_of_le_of_lt B.out.2 (by decide))).mono ?_; rintro e w' ⟨rfl, ⟨nd, rfl⟩⟩))
        go_ret2

        exact ⟨ret2 (fits_no O.out).1.symm (fits_no O.out).2.symm, by repeat (first | exact Drew.refl _ | apply Drew.step)⟩
      · have F := Lib.hid (mul_fits a b _ hm.out ch cl)
        have ch0 : (hi64 (absI a) (absI b) == 0) = true := by simpa using ch
        have ch1 : (hi64 (absI a) (absI b) != 0) = false := by simpa using ch
        clear ch
        go_enter Try.func28, Try.ntmps28
        go_wp2_with (first | (go_at_call 36; refine (amount_size _ _ (by first | exact Ha.out | exact Hb.out)).mono ?_; rintro e w' ⟨rfl, ⟨nd, rfl⟩⟩) | (go_at_call 35; refine (bits_mul64 _ _ _ A.out.1 (Int.lt_of_le_of_lt A.out.2 (by decide)) B.out.1 (Int.lt_of_le_of_lt B.out.2 (by decide))).mono ?_; rintro e w' ⟨rfl, ⟨nd, rfl⟩⟩))
        go_ret2

        exact ⟨ret2 (by rw [(fits_yes F.out.1).1]; have h1 := F.out.2.2 s.out; have h2 := F.out.1; rw [in64_iff] at h2; rw [h1]; try (unfold wrap64; omega)) (fits_yes F.out.1).2.symm, by repeat (first | exact Drew.refl _ | apply Drew.step)⟩
    · have O := Lib.hid (mul_over a b _ hm.out (.inl ch) Ha.out Hb.out)
      have ch0 : (hi64 (absI a) (absI b) == 0) = false := by simpa using ch
      have ch1 : (hi64 (absI a) (absI b) != 0) = true := by simpa using ch
      clear ch
      by_cases cl : 9223372036854775808 < lo64 (absI a) (absI b)
      all_goals
        go_enter Try.func28, Try.ntmps28
        go_wp2_with (first | (go_at_call 36; refine (amount_size _ _ (by first | exact Ha.out | exact Hb.out)).mono ?_; rintro e w' ⟨rfl, ⟨nd, rfl⟩⟩) | (go_at_call 35; refine (bits_mul64 _ _ _ A.out.1 (Int.lt_of_le_of_lt A.out.2 (by decide)) B.out.1 (Int.lt_of_le_of_lt B.out.2 (by decide))).mono ?_; rintro e w' ⟨rfl, ⟨nd, rfl⟩⟩))
        go_ret2

        exact ⟨ret2 (fits_no O.out).1.symm (fits_no O.out).2.symm, by repeat (first | exact Drew.refl _ | apply Drew.step)⟩
  · have s : Hid (¬ ((a < 0) ↔ (b < 0))) := Lib.hid (fun h => sa (h.mpr sb))
    have sa1 : decide (a < 0) = false := decide_eq_false sa
    have sb1 : decide (b < 0) = true := decide_eq_true sb
    clear sa sb
    have hm : Hid ((9223372036854775808 : Int) = if (a < 0) ↔ (b < 0) then 9223372036854775807 else 9223372036854775808) := Lib.hid (by rw [if_neg s.out])
    by_cases ch : hi64 (absI a) (absI b) = 0
    · by_cases cl : 9223372036854775808 < lo64 (absI a) (absI b)
      · have O := Lib.hid (mul_over a b _ hm.out (.inr cl) Ha.out Hb.out)
        have ch0 : (hi64 (absI a) (absI b) == 0) = true := by simpa using ch
        have ch1 : (hi64 (absI a) (absI b) != 0) = false := by simpa using ch
        clear ch
        go_enter Try.func28, Try.ntmps28
        go_wp2_with (first | (go_at_call 36; refine (amount_size _ _ (by first | exact Ha.out | exact Hb.out)).mono ?_; rintro e w' ⟨rfl, ⟨nd, rfl⟩⟩) | (go_at_call 35; refine (bits_mul64 _ _ _ A.out.1 (Int.lt_of_le_of_lt A.out.2 (by decide)) B.out.1 (Int.lt_of_le_of_lt B.out.2 (by decide))).mono ?_; rintro e w' ⟨rfl, ⟨nd, rfl⟩⟩))
        go_ret2

        exact ⟨ret2 (fits_no O.out).1.symm (fits_no O.out).2.symm, by repeat (first | exact Drew.refl _ | apply Drew.step)⟩
      · have F := Lib.hid (mul_fits a b _ hm.out ch cl)
        have ch0 : (hi64 (absI a) (absI b) == 0) = true := by simpa using ch
        have ch1 : (hi64 (absI a) (absI b) != 0) = false := by simpa using ch
        clear ch
        go_enter Try.func28, Try.ntmps28
        go_wp2_with (first | (go_at_call 36; refine (amount_size _ _ (by first | exact Ha.out | exact Hb.out)).mono ?_; rintro e w' ⟨rfl, ⟨nd, rfl⟩⟩) | (go_at_call 35; refine (bits_mul64 _ _ _ A.out.1 (Int.lt_of_le_of_lt A.out.2 (by decide)) B.out.1 (Int.lt_of_le_of_lt B.out.2 (by decide))).mono ?_; rintro e w' ⟨rfl, ⟨nd, rfl⟩⟩))
        go_ret2

        exact ⟨ret2 (by rw [(fits_yes F.out.1).1]; have h1 := F.out.2.2 s.out; have h2 := F.out.1; rw [in64_iff] at h2; rw [h1]; try (unfold wrap64; omega)) (fits_yes F.out.1).2.symm, by repeat (first | exact Drew.refl _ | apply Drew.step)⟩
    · have O := Lib.hid (mul_over a b _ hm.out (.inl ch) Ha.out Hb.out)
      have ch0 : (hi64 (absI a) (absI b) == 0) = false := by simpa using ch
      have ch1 : (hi64 (absI a) (absI b) != 0) = true := by simpa using ch
      clear ch
      by_cases cl : 9223372036854775808 < lo64 (absI a) (absI b)
      all_goals
        go_enter Try.func28, Try.ntmps28
        go_wp2_with (first | (go_at_call 36; refine (amount_size _ _ (by first | exact Ha.out | exact Hb.out)).mono ?_; rintro e w' ⟨rfl, ⟨nd, rfl⟩⟩) | (go_at_call 35; refine (bits_mul64 _ _ _ A.out.1 (Int.lt_of_le_of_lt A.out.2 (by decide)) B.out.1 (Int.lt_of_le_of_lt B.out.2 (by decide))).mono ?_; rintro e w' ⟨rfl, ⟨nd, rfl⟩⟩))
        go_ret2

        exact ⟨ret2 (fits_no O.out).1.symm (fits_no O.out).2.symm, by repeat (first | exact Drew.refl _ | apply Drew.step)⟩
  · have s : Hid (((a < 0) ↔ (b < 0))) := Lib.hid (iff_no sa sb)
    have sa1 : decide (a < 0) = false := decide_eq_false sa
    have sb1 : decide (b < 0) = false := decide_eq_false sb
    clear sa sb
    have hm : Hid ((9223372036854775807 : Int) = if (a < 0) ↔ (b < 0) then 9223372036854775807 else 9223372036854775808) := Lib.hid (by rw [if_pos s.out])
    by_cases ch : hi64 (absI a) (absI b) = 0
    · by_cases cl : 9223372036854775807 < lo64 (absI a) (absI b)
      · have O := Lib.hid (mul_over a b _ hm.out (.inr cl) Ha.out Hb.out)
        have ch0 : (hi64 (absI a) (absI b) == 0) = true := by simpa using ch
        have ch1 : (hi64 (absI a) (absI b) != 0) = false := by simpa using ch
        clear ch
        go_enter Try.func28, Try.ntmps28
        go_wp2_with (first | (go_at_call 36; refine (amount_size _ _ (by first | exact Ha.out | exact Hb.out)).mono ?_; rintro e w' ⟨rfl, ⟨nd, rfl⟩⟩) | (go_at_call 35; refine (bits_mul64 _ _ _ A.out.1 (Int.lt_of_le_of_lt A.out.2 (by decide)) B.out.1 (Int.lt_of_le_of_lt B.out.2 (by decide))).mono ?_; rintro e w' ⟨rfl, ⟨nd, rfl⟩⟩))
        go_ret2

        exact ⟨ret2 (fits_no O.out).1.symm (fits_no O.out).2.symm, by repeat (first | exact Drew.refl _ | apply Drew.step)⟩
      · have F := Lib.hid (mul_fits a b _ hm.out ch cl)
        have ch0 : (hi64 (absI a) (absI b) == 0) = true := by simpa using ch
        have ch1 : (hi64 (absI a) (absI b) != 0) = false := by simpa using ch
        clear ch
        go_enter Try.func28, Try.ntmps28
        go_wp2_with (first | (go_at_call 36; refine (amount_size _ _ (by first | exact Ha.out | exact Hb.out)).mono ?_; rintro e w' ⟨rfl, ⟨nd, rfl⟩⟩) | (go_at_call 35; refine (bits_mul64 _ _ _ A.out.1 (Int.lt_of_le_of_lt A.out.2 (by decide)) B.out.1 (Int.lt_of_le_of_lt B.out.2 (by decide))).mono ?_; rintro e w' ⟨rfl, ⟨nd, rfl⟩⟩))
        go_ret2

        exact ⟨ret2 (by rw [(fits_yes F.out.1).1]; have h1 := F.out.2.1 s.out; have h2 := F.out.1; rw [in64_iff] at h2; rw [h1]; try (unfold wrap64; omega)) (fits_yes F.out.1).2.symm, by repeat (first | exact Drew.refl _ | apply Drew.step)⟩
    · have O := Lib.hid (mul_over a b _ hm.out (.inl ch) Ha.out Hb.out)
      have ch0 : (hi64 (absI a) (absI b) == 0) = false := by simpa using ch
      have ch1 : (hi64 (absI a) (absI b) != 0) = true := by simpa using ch
      clear ch
      by_cases cl : 9223372036854775807 < lo64 (absI a) (absI b)
      all_goals
        go_enter Try.func28, Try.ntmps28
        go_wp2_with (first | (go_at_call 36; refine (amount_size _ _ (by first | exact Ha.out | exact Hb.out)).mono ?_; rintro e w' ⟨rfl, ⟨nd, rfl⟩⟩) | (go_at_call 35; refine (bits_mul64 _ _ _ A.out.1 (Int.lt_of_le_of_lt A.out.2 (by decide)) B.out.1 (Int.lt_of_le_of_lt B.out.2 (by decide))).mono ?_; rintro e w' ⟨rfl, ⟨nd, rfl⟩⟩))
        go_ret2

        exact ⟨ret2 (fits_no O.out).1.symm (fits_no O.out).2.symm, by repeat (first | exact Drew.refl _ | apply Drew.step)⟩

end Go.Proofs.Ytbhhfdkidpmfeaa
