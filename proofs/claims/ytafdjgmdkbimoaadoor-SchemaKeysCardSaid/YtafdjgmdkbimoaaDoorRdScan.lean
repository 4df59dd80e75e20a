/-
  The reader's scan by contract.
-/
import Derived.Test.YtafdjgmdkbimoaaDoorRd
namespace Go.Proofs.YtafdjgmdkbimoaaDoor
open Go.RowKit
set_option linter.unusedVariables false
set_option linter.unusedSimpArgs false

theorem rest_none (r : RS) (i : Nat) (h : r.s.size ≤ r.at_ + i) : r.rest.drop i = [] := by
  unfold RS.rest; rw [List.drop_drop]; apply List.drop_of_length_le; rw [Array.length_toList]; exact h
theorem rest_some (r : RS) (i : Nat) (h : r.at_ + i < r.s.size) : r.rest.drop i = r.s[r.at_ + i] :: r.rest.drop (i + 1) := by
  have hl : r.at_ + i < r.s.data.toList.length := by rw [Array.length_toList]; exact h
  unfold RS.rest; rw [List.drop_drop, List.drop_drop, List.drop_eq_getElem_cons hl]; rfl

theorem or64' (k : Nat) (x y : Int) (hx0 : 0 ≤ x) (hx : x % 2 ^ k = 0) (hx1 : x < 18446744073709551616) (hy0 : 0 ≤ y) (hy : y < 2 ^ k) (hy1 : y < 18446744073709551616) : Go.bits .or .u64 y x = x + y := by
  have h0 : ∀ a b : Int, Go.bits .or .u64 a b = Go.IntKind.u64.wrap ((BitVec.ofInt 64 a ||| BitVec.ofInt 64 b : BitVec 64).toNat : Int) := fun _ _ => rfl
  have h : Go.bits .or .u64 y x = Go.bits .or .u64 x y := by rw [h0, h0, BitVec.or_comm]
  rw [h]
  exact bits_join .u64 64 (by decide) (fun n h0 h1 => by rw [wrap_u64]; omega) k x y hx0 hx (by simpa using hx1) hy0 hy (by simpa using hy1)

theorem pow128 (i : Nat) : ((2 : Int) ^ (7 * i)) = ((128 ^ i : Nat) : Int) := by
  rw [show (128 : Nat) = 2 ^ 7 from rfl, ← Nat.pow_mul]; simp

/-- what a byte adds -/
theorem scan_words (N m i : Nat) (hN : N < 128 ^ i) (hm : m < 128) (hi : i ≤ 9) (h9 : i = 9 → m ≤ 1) :
    ∃ M N' : Nat, IntKind.u64.wrap ((m : Int) * (2 : Int) ^ (7 * i)) = (M : Int) ∧ Go.bits .or .u64 (N : Int) (M : Int) = (N' : Int) ∧ N' = N + m * 128 ^ i ∧ N' < 128 ^ (i + 1) := by
  have hb : m * 128 ^ i < 18446744073709551616 ∧ 128 ^ i ≤ 9223372036854775808 := by
    rcases Nat.lt_or_ge i 9 with h | h
    · have h1 : 128 ^ i ≤ 128 ^ 8 := Nat.pow_le_pow_right (by omega) (by omega)
      have e : (128 : Nat) ^ 8 = 72057594037927936 := by decide
      have h2 : m * 128 ^ i ≤ 127 * 128 ^ 8 := Nat.mul_le_mul (by omega) h1
      omega
    · obtain rfl : i = 9 := by omega
      have e : (128 : Nat) ^ 9 = 9223372036854775808 := by decide
      have h2 : m * 128 ^ 9 ≤ 1 * 128 ^ 9 := Nat.mul_le_mul_right _ (h9 rfl)
      omega
  refine ⟨m * 128 ^ i, N + m * 128 ^ i, ?_, ?_, rfl, ?_⟩
  · rw [pow128, wrap_u64, ← Int.natCast_mul]; omega
  · rw [or64' (7 * i) _ _ (by omega) (by rw [pow128, ← Int.natCast_emod, Nat.mul_mod_left]; rfl) (by omega) (by omega) (by rw [pow128]; omega) (by omega)]
    omega
  · have h3 : m * 128 ^ i ≤ 127 * 128 ^ i := Nat.mul_le_mul_right _ (by omega)
    rw [Nat.pow_succ]; omega

end Go.Proofs.YtafdjgmdkbimoaaDoor
