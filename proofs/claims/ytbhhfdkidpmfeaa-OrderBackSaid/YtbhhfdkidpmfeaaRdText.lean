/-
  The reader's signed numbers, texts and numbers of so many bytes by contract.
-/
import Derived.Test.YtbhhfdkidpmfeaaRdNum
namespace Go.Proofs.Ytbhhfdkidpmfeaa
open Go.RowKit
set_option linter.unusedVariables false
set_option linter.unusedSimpArgs false

theorem and1_64 (n : Nat) (h : n < 18446744073709551616) : Go.bits .and .u64 (n : Int) 1 = ((n % 2 : Nat) : Int) := by
  have := bits_mask .u64 64 (by decide) (fun m h0 h1 => by rw [wrap_u64]; omega) 1 (by decide) (n : Int) (by omega) (by simp; omega)
  rw [show ((2 : Int) ^ 1 - 1) = 1 from by decide] at this
  rw [this]; simp
theorem xor_i64 (x : Int) (h0 : 0 ≤ x) (h1 : x ≤ 9223372036854775807) : Go.bits .xor .i64 x 0 = x ∧ Go.bits .xor .i64 x (-1) = -x - 1 := by
  have hd : ∀ y : Int, Go.bits .xor .i64 x y = Go.IntKind.i64.wrap ((BitVec.ofInt 64 x ^^^ BitVec.ofInt 64 y : BitVec 64).toNat : Int) := fun _ => rfl
  have hx : (((BitVec.ofInt 64 x).toNat : Nat) : Int) = x := by rw [BitVec.toNat_ofInt]; omega
  constructor
  · rw [hd, show BitVec.ofInt 64 0 = 0#64 from by decide, BitVec.xor_zero, hx, IntKind.wrap_i64]; omega
  · rw [hd, show BitVec.ofInt 64 (-1) = BitVec.allOnes 64 from by decide, BitVec.xor_allOnes, BitVec.toNat_not, IntKind.wrap_i64]
    have := (BitVec.ofInt 64 x).isLt
    omega

set_option maxHeartbeats 1000000 in
theorem rd_signed (b : Nat) (r : RS) (w : World) (h : RdAt TR w b r) (hk : r.ok) (hs : r.s.size ≤ 140737488351232) :
    Calls Try.prog 22 #[.pointer (some ⟨b, 0, none⟩)] w fun e w' => e = .returned (.int .i64 r.signed.1) ∧ RdAt TR w' b r.signed.2 ∧ Chg b w w' := by
  have H := Lib.hid h
  have HK := Lib.hid hk
  obtain ⟨n, hn⟩ : ∃ n, n = r.num.1 := ⟨_, rfl⟩
  have hlt : n < 18446744073709551616 := by rw [hn]; exact r.num_lt
  have X := Lib.hid (xor_i64 ((n : Int) / 2) (by omega) (by omega))
  have HN := Lib.hid hn
  rcases Nat.mod_two_eq_zero_or_one n with hp | hp
  · have e1 : Go.bits .and .u64 (n : Int) 1 = 0 := by rw [and1_64 n hlt, hp]; rfl
    have e2 := X.out.1
    have E : Hid (r.signed.1 = (n : Int) / 2) := Lib.hid (by unfold RS.signed unzz; rw [← hn, if_neg (by omega)]; simp)
    clear h hk hn hp
    go_enter Try.func22, Try.ntmps22
    go_wp2_with (go_at_call 20; refine (rd_num b r _ H.out HK.out hs).mono ?_; rw [← HN.out]; rintro e w1 ⟨rfl, hR, hC⟩)
    go_ret
    exact ⟨by rw [E.out]; rfl, hR, hC⟩
  · have e1 : Go.bits .and .u64 (n : Int) 1 = 1 := by rw [and1_64 n hlt, hp]; rfl
    have e2 := X.out.2
    have E : Hid (r.signed.1 = -((n : Int) / 2) - 1) := Lib.hid (by unfold RS.signed unzz; rw [← hn, if_pos hp]; simp)
    clear h hk hn hp
    go_enter Try.func22, Try.ntmps22
    go_wp2_with (go_at_call 20; refine (rd_num b r _ H.out HK.out hs).mono ?_; rw [← HN.out]; rintro e w1 ⟨rfl, hR, hC⟩)
    go_ret
    exact ⟨by rw [E.out]; rfl, hR, hC⟩

theorem leN_append (a : List UInt8) (c : UInt8) : leN (a ++ [c]) = leN a + c.toNat * 256 ^ a.length := by
  induction a with
  | nil => simp [leN]
  | cons x a ih =>
    rw [List.cons_append, leN, leN, ih, List.length_cons, Nat.pow_succ, Nat.mul_add, Nat.add_assoc]
    congr 1
    rw [Nat.mul_comm 256 (_ * _), Nat.mul_assoc]
theorem leN_lt (a : List UInt8) : leN a < 256 ^ a.length := by
  induction a with
  | nil => simp [leN]
  | cons x a ih =>
    have := x.toNat_lt
    rw [leN, List.length_cons, Nat.pow_succ]; omega
theorem pow256 (i : Nat) : ((2 : Int) ^ (8 * i)) = ((256 ^ i : Nat) : Int) := by
  rw [show (256 : Nat) = 2 ^ 8 from rfl, ← Nat.pow_mul]; simp
theorem big_words (N c i : Nat) (hN : N < 256 ^ i) (hc : c < 256) (hi : i < 8) :
    ∃ M N' : Nat, IntKind.u64.wrap ((c : Int) * (2 : Int) ^ (8 * i)) = (M : Int) ∧ Go.bits .or .u64 (N : Int) (M : Int) = (N' : Int) ∧ N' = N + c * 256 ^ i := by
  have hb : c * 256 ^ i < 18446744073709551616 ∧ 256 ^ i ≤ 72057594037927936 := by
    have h1 : 256 ^ i ≤ 256 ^ 7 := Nat.pow_le_pow_right (by omega) (by omega)
    have e : (256 : Nat) ^ 7 = 72057594037927936 := by decide
    have h2 : c * 256 ^ i ≤ 255 * 256 ^ 7 := Nat.mul_le_mul (by omega) h1
    omega
  refine ⟨c * 256 ^ i, N + c * 256 ^ i, ?_, ?_, rfl⟩
  · rw [pow256, wrap_u64, ← Int.natCast_mul]; omega
  · rw [or64' (8 * i) _ _ (by omega) (by rw [pow256, ← Int.natCast_emod, Nat.mul_mod_left]; rfl) (by omega) (by omega) (by rw [pow256]; omega) (by omega)]
    omega

theorem RS.take_size (r : RS) (n : Int) : ((r.take n).1.size : Int) ≤ max n 0 := by
  unfold RS.take
  split
  · rw [str_size]; simp; omega
  · split
    · rw [str_size]; simp; omega
    · simp only [ByteArray.size_extract]; omega

end Go.Proofs.Ytbhhfdkidpmfeaa
