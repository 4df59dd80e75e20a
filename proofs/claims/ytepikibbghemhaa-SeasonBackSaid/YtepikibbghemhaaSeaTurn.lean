/-
  i to a power: what season.Turn hands back.
-/
import Derived.Test.YtepikibbghemhaaBase
import Derived.Test.YtepikibbghemhaaFlt
import Derived.ScopeJumps
import Derived.WalkMore
import Derived.WalkSmall
namespace Go.Proofs.Ytepikibbghemhaa
open Go.RowKit
set_option linter.unusedVariables false
set_option linter.unusedSimpArgs false

theorem and3 (k : Int) : bits .and .i64 k 3 = k % 4 := by
  have h : (BitVec.ofInt 64 k &&& BitVec.ofInt 64 3).toNat = (k % 4).toNat := by
    rw [BitVec.toNat_and]
    have e1 : (BitVec.ofInt 64 3).toNat = 2 ^ 2 - 1 := by decide
    rw [e1, Nat.and_two_pow_sub_one_eq_mod, BitVec.toNat_ofInt]
    omega
  have h2 : bits .and .i64 k 3 = IntKind.i64.wrap ((k % 4).toNat : Int) := by
    rw [← h]; rfl
  rw [h2, IntKind.wrap_i64]
  omega

/-- the bits of i to the power j -/
def tRe (j : Nat) : Nat := match j with | 0 => 4607182418800017408 | 1 => 0 | 2 => 13830554455654793216 | _ => 9223372036854775808
def tIm (j : Nat) : Nat := match j with | 0 => 0 | 1 => 4607182418800017408 | 2 => 0 | _ => 13830554455654793216
def tA (j : Nat) : Int := match j with | 0 => 1 | 2 => -1 | _ => 0
def tB (j : Nat) : Int := match j with | 1 => 1 | 3 => -1 | _ => 0
theorem rep_zero : Rep 0 0 0 := ⟨false, 1074, by decide +kernel, fun h => absurd rfl h⟩
theorem rep_mzero : Rep 0 9223372036854775808 0 := ⟨true, 1074, by decide +kernel, fun h => absurd rfl h⟩
theorem rep_one : Rep 0 4607182418800017408 1 := ⟨false, 52, by decide +kernel, fun _ => rfl⟩
theorem rep_mone : Rep 0 13830554455654793216 (-1) := ⟨true, 52, by decide +kernel, fun _ => rfl⟩
theorem turn_rep : ∀ j : Nat, j < 4 → CRep (tRe j) (tIm j) (tA j) (tB j)
  | 0, _ => ⟨rep_one, rep_zero⟩
  | 1, _ => ⟨rep_zero, rep_one⟩
  | 2, _ => ⟨rep_mone, rep_zero⟩
  | 3, _ => ⟨rep_mzero, rep_mone⟩
theorem turn_01 : cMulBits 4607182418800017408 0 0 4607182418800017408 = some (0, 4607182418800017408) := by decide +kernel
theorem turn_12 : cMulBits 0 4607182418800017408 0 4607182418800017408 = some (13830554455654793216, 0) := by decide +kernel
theorem turn_23 : cMulBits 13830554455654793216 0 0 4607182418800017408 = some (9223372036854775808, 13830554455654793216) := by decide +kernel

/-- a scope with a label that is jumped back to: what holds at the label is kept by a pass from the label on -/
theorem wp_pass_scope {P : Program} {a : Act} {w : World} {Q : Exit → Act → World → Prop} {c X : Code} (l : Nat) (J : Act → World → Prop) (μ : Act → World → Nat) (hf : findLabel c l = some (Code.skip.seq X))
    (pass : ∀ a w, J a w → X.wp P (Exit.jump l (fun a' w' => J a' w' ∧ μ a' w' < μ a w) Q) a w)
    (first : (∀ a w, J a w → X.wp P (Exit.jump l J Q) a w) → c.wp P (Exit.jump l J Q) a w) : (Code.scope c).wp P Q a w := by
  refine wp_scope_jumps l J μ hf (first fun a w hJ => Code.wp_mono ?_ (pass a w hJ)) fun a w hJ => wp_seq (wp_skip (show Exit.then _ _ .normal a w from pass a w hJ))
  intro e a' w' h
  cases e <;> simp only [Exit.jump] at h ⊢ <;> first | exact h | exact ⟨h.1, h.2.1⟩

theorem turn_step : ∀ m : Nat, m < 3 → cMulBits (tRe m) (tIm m) 0 4607182418800017408 = some (tRe (m + 1), tIm (m + 1))
  | 0, _ => turn_01
  | 1, _ => turn_12
  | 2, _ => turn_23

set_option maxRecDepth 100000 in
set_option maxHeartbeats 1000000 in
theorem season_turn (k : Int) (w : World) (j : Nat) (hj : j < 4) (h : k % 4 = j) :
    Calls Try.prog 13 #[.int .i64 k] w fun e w' => e = .returned (.complex .f64 (tRe j) (tIm j)) ∧ w = w' := by
  have hb : bits .and .i64 k 3 = (j : Int) := by rw [and3, h]
  clear h
  go_enter Try.func13, Try.ntmps13
  go_wp2
  refine wp_pass_scope 0 (fun a' w' => w = w' ∧ ∃ (m n : Nat) (y7 y8 y9 y10 y11 y12 y13 : Value), a' = { tmps := #[.int .i64 k, undef, .complex .f64 0 0, .complex .f64 (tRe m) (tIm m), .int .i64 (n : Int), .int .i64 k, .int .i64 (j : Int), y7, y8, y9, y10, y11, y12, y13], defers := [] } ∧ m + n = j) (fun a' _ => (intOf (a'.tmps.getD 4 undef)).toNat) rfl ?_ ?_
  · rintro a' wr ⟨rfl, m, n, y7, y8, y9, y10, y11, y12, y13, rfl, hmn⟩
    by_cases hn : 0 < n
    · have hmul := fun w => run_complex_mul (P := Try.prog) w 24 _ _ _ _ _ _ (turn_step m (by omega))
      obtain ⟨n', rfl⟩ : ∃ n', n = n' + 1 := ⟨n - 1, by omega⟩
      go_wp2
      go_step3
      exact ⟨rfl, ⟨rfl, m + 1, n', _, _, _, _, _, _, _, rfl, by omega⟩, by simp [intOf]⟩
    · obtain rfl : n = 0 := by omega
      obtain rfl : m = j := by omega
      go_wp2
      simp only [Exit.jump]
      go_ret
      exact ⟨rfl, rfl⟩
  · intro hp
    go_wp2
    go_step3
    rename_i hK
    refine hK _ _ (hp _ _ ?_)
    exact ⟨rfl, 0, j, _, _, _, _, _, _, _, rfl, by omega⟩
end Go.Proofs.Ytepikibbghemhaa
