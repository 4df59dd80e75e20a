/-
  The functions of package amount by contract.
-/
import Derived.Test.YtfhbmeebkhefhaaAmtMath
namespace Go.Proofs.Ytfhbmeebkhefhaa
open Go.RowKit
set_option linter.unusedVariables false
set_option linter.unusedSimpArgs false

theorem ret2 {k l : IntKind} {a b c d : Int} (h : a = b) (g : c = d) : Ending.returned (.tuple #[.int k a, .int l c]) = .returned (.tuple #[.int k b, .int l d]) := by rw [h, g]
theorem ret1 {k : IntKind} {a b : Int} (h : a = b) : Ending.returned (.int k a) = .returned (.int k b) := by rw [h]

theorem fits_yes {n : Int} (h : in64 n = true) : fits64 n = n ∧ over64 n = 0 := by simp [fits64, over64, h]
theorem fits_no {n : Int} (h : in64 n = false) : fits64 n = 0 ∧ over64 n = 24 := by simp [fits64, over64, h]

set_option maxHeartbeats 1000000 in
theorem amount_add (a b : Int) (w : World) (ha : in64 a = true) (hb : in64 b = true) :
    Calls Try.prog 22 #[.int .i64 a, .int .i64 b] w fun e w' => e = .returned (.tuple #[.int .i64 (fits64 (a + b)), .int .i64 (over64 (a + b))]) ∧ Drew w w' := by
  rw [in64_iff] at ha hb
  by_cases c : a < wrap64 (a + b) <;> by_cases d : 0 < b <;> by_cases b0 : (b == 0) = true
  all_goals (try (exfalso; unfold wrap64 at c; simp at b0; omega))
  all_goals (try (replace b0 : (b == 0) = false := by simpa using b0))
  all_goals
    first
    | (have hy : Hid (in64 (a + b) = true) := Lib.hid (by rw [in64_iff]; unfold wrap64 at c; simp at b0; omega)
       have G : Hid (wrap64 (a + b) = a + b) := Lib.hid (by have := hy.out; rw [in64_iff] at this; unfold wrap64; omega)
       go_enter Try.func22, Try.ntmps22
       go_wp2
       go_ret2
       exact ⟨ret2 (by have h := G.out; rw [(fits_yes hy.out).1]; simpa using h) (fits_yes hy.out).2.symm, by repeat (first | exact Drew.refl _ | apply Drew.step)⟩)
    | (have hn : Hid (in64 (a + b) = false) := Lib.hid (by rw [in64_not]; unfold wrap64 at c; simp at b0; omega)
       go_enter Try.func22, Try.ntmps22
       go_wp2
       go_ret2
       exact ⟨ret2 (fits_no hn.out).1.symm (fits_no hn.out).2.symm, by repeat (first | exact Drew.refl _ | apply Drew.step)⟩)

set_option maxHeartbeats 1000000 in
theorem amount_sub (a b : Int) (w : World) (ha : in64 a = true) (hb : in64 b = true) :
    Calls Try.prog 18 #[.int .i64 a, .int .i64 b] w fun e w' => e = .returned (.tuple #[.int .i64 (fits64 (a - b)), .int .i64 (over64 (a - b))]) ∧ Drew w w' := by
  rw [in64_iff] at ha hb
  by_cases c : wrap64 (a - b) < a <;> by_cases d : 0 < b <;> by_cases b0 : (b == 0) = true
  all_goals (try (exfalso; unfold wrap64 at c; simp at b0; omega))
  all_goals (try (replace b0 : (b == 0) = false := by simpa using b0))
  all_goals
    first
    | (have hy : Hid (in64 (a - b) = true) := Lib.hid (by rw [in64_iff]; unfold wrap64 at c; simp at b0; omega)
       have G : Hid (wrap64 (a - b) = a - b) := Lib.hid (by have := hy.out; rw [in64_iff] at this; unfold wrap64; omega)
       go_enter Try.func18, Try.ntmps18
       go_wp2
       go_ret2
       exact ⟨ret2 (by have h := G.out; rw [(fits_yes hy.out).1]; simpa using h) (fits_yes hy.out).2.symm, by repeat (first | exact Drew.refl _ | apply Drew.step)⟩)
    | (have hn : Hid (in64 (a - b) = false) := Lib.hid (by rw [in64_not]; unfold wrap64 at c; simp at b0; omega)
       go_enter Try.func18, Try.ntmps18
       go_wp2
       go_ret2
       exact ⟨ret2 (fits_no hn.out).1.symm (fits_no hn.out).2.symm, by repeat (first | exact Drew.refl _ | apply Drew.step)⟩)

theorem iff_of {p q : Prop} (hp : p) (hq : q) : p ↔ q := ⟨fun _ => hq, fun _ => hp⟩
theorem iff_no {p q : Prop} (hp : ¬ p) (hq : ¬ q) : p ↔ q := ⟨fun h => absurd h hp, fun h => absurd h hq⟩

end Go.Proofs.Ytfhbmeebkhefhaa
