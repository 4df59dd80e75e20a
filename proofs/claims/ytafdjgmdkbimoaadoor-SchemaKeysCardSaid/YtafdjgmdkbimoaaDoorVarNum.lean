/-
  varint.Num by contract.
-/
import Derived.Test.YtafdjgmdkbimoaaDoorVarMath
namespace Go.Proofs.YtafdjgmdkbimoaaDoor
open Go.RowKit
set_option linter.unusedVariables false
set_option linter.unusedSimpArgs false

theorem info_u8 : (Tryd.prog.info? 5).map (fun i => (i.zero, i.size, i.bytes)) = some (some (.int .u8 0), 1, 1) := by kernel_rfl

theorem or128 (n : Int) (h0 : 0 ≤ n) : Go.bits .or .u8 (n % 256) 128 = (((UInt8.ofNat (128 + n.toNat % 128)).toNat : Nat) : Int) := by
  have h1 : Go.bits .or .u8 (n % 256) 128 = Go.bits .or .u8 ((n % 256) / 128 * 128 + n % 128) 128 := by
    congr 1; omega
  have h2 : (n % 256) / 128 = 0 ∨ (n % 256) / 128 = 1 := by omega
  have e : (((UInt8.ofNat (128 + n.toNat % 128)).toNat : Nat) : Int) = 128 + n % 128 := by
    rw [UInt8.toNat_ofNat']; omega
  rw [h1, e]
  have hw : ∀ m : Int, 0 ≤ m → m < 2 ^ 8 → IntKind.u8.wrap m = m := wraps_u8
  have hz : 0 ≤ n % 128 ∧ n % 128 < 128 := by omega
  obtain ⟨a, ha⟩ : ∃ a : Nat, n % 128 = (a : Int) := ⟨(n % 128).toNat, by omega⟩
  rw [ha]
  have ha2 : a < 128 := by omega
  rcases h2 with h2 | h2 <;> rw [h2]
  · have h3 := (bits_nat .u8 8 (by decide) hw a 128 (by omega) (by decide)).2
    rw [show (0 : Int) * 128 + (a : Int) = (a : Int) from by omega]
    rw [show ((128 : Nat) : Int) = 128 from rfl] at h3
    rw [h3]
    have : a ||| 128 = 128 + a := by
      rw [Nat.or_comm]; have := Nat.two_pow_add_eq_or_of_lt (i := 7) (b := a) (by simpa using ha2) 1; simpa using this.symm
    rw [this]; omega
  · have h3 := (bits_nat .u8 8 (by decide) hw (128 + a) 128 (by omega) (by decide)).2
    rw [show (1 : Int) * 128 + (a : Int) = ((128 + a : Nat) : Int) from by omega]
    rw [show ((128 : Nat) : Int) = 128 from rfl] at h3
    rw [h3]
    have e1 : 128 + a = 128 ||| a := by have := Nat.two_pow_add_eq_or_of_lt (i := 7) (b := a) (by simpa using ha2) 1; simpa using this
    have : (128 + a) ||| 128 = 128 + a := by
      rw [e1, Nat.or_comm, ← Nat.or_assoc, Nat.or_self]
    rw [this]; omega

theorem snoc_ne (l : List UInt8) (b : UInt8) : l ++ [b] ≠ [] := by simp

end Go.Proofs.YtafdjgmdkbimoaaDoor
