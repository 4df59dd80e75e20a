/-
  The reader's signed numbers, texts and numbers of so many bytes by contract.
-/
import Derived.Test.YthhgijjdddcchaaRdNum
namespace Go.Proofs.Ythhgijjdddcchaa
open Go.RowKit
set_option linter.unusedVariables false
set_option linter.unusedSimpArgs false

theorem and1_64 (n : Nat) (h : n < 18446744073709551616) : Go.bits .and .u64 (n : Int) 1 = ((n % 2 : Nat) : Int) := by
  have := bits_mask .u64 64 (by decide) (fun m h0 h1 => by rw [wrap_u64]; omega) 1 (by decide) (n : Int) (by omega) (by simp; omega)
  rw [show ((2 : Int) ^ 1 - 1) = 1 from by decide] at this
  rw [this]; simp
theorem xor_i64 (x : Int) (h0 : 0 ≤ x) (h1 : x ≤ 9223372036854775807) : Go.bits .xor .i64 x 0 = x ∧ Go.bits .xor .i64 x (-1) = -x - 1 := by
  have hd : ∀ y : Int, Go.bits .xor .i64 x y = Go.IntKind.i64.wrap ((BitVec.ofInt 64 x ^^^ BitVec.ofInt 64 y : BitVec 64).toNat : Int) := fun _ => rfl
  have hx : (((BitVec.ofInt 64 x).toNat : Nat) : Int) = x := by rw [BitVec.toNat_ofInt]; omega
  constructor
  · rw [hd, show BitVec.ofInt 64 0 = 0#64 from by decide, BitVec.xor_zero, hx, IntKind.wrap_i64]; omega
  · rw [hd, show BitVec.ofInt 64 (-1) = BitVec.allOnes 64 from by decide, BitVec.xor_allOnes, BitVec.toNat_not, IntKind.wrap_i64]
    have := (BitVec.ofInt 64 x).isLt
    omega

set_option maxHeartbeats 1000000 in
theorem rd_text (b : Nat) (r : RS) (most : Int) (w : World) (h : RdAt TR w b r) (hk : r.ok) (hs : r.s.size ≤ 140737488351232) (m0 : -9223372036854775808 ≤ most) (m1 : most ≤ 9223372036854775807) :
    Calls Try.prog 31 #[.pointer (some ⟨b, 0, none⟩), .int .i64 most] w fun e w' => e = .returned (.string (r.text most).1) ∧ RdAt TR w' b (r.text most).2 ∧ Chg b w w' := by
  have H := Lib.hid h
  have HK := Lib.hid hk
  obtain ⟨n, hn⟩ : ∃ n, n = r.num.1 := ⟨_, rfl⟩
  have hlt : n < 18446744073709551616 := by rw [hn]; exact r.num_lt
  have HN := Lib.hid hn
  obtain ⟨q, hq⟩ : ∃ q, q = r.num.2 := ⟨_, rfl⟩
  have HQ := Lib.hid hq
  have QK : Hid q.ok := Lib.hid (by rw [hq]; exact r.num_ok hk)
  have QS : Hid (q.s.size ≤ 140737488351232) := Lib.hid (by rw [hq, r.num_s]; exact hs)
  by_cases hm : most < 0
  · by_cases hn0 : 0 < (n : Int)
    · have E : Hid (r.text most = (str [], q.fail 5)) := Lib.hid (by unfold RS.text; rw [← hn, ← hq, if_pos (by omega)])
      clear h hk hn hq
      go_enter Try.func31, Try.ntmps31
      go_wp2_with (first | (go_at_call 18; refine (rd_num b r _ H.out HK.out hs).mono ?_; rw [← HN.out, ← HQ.out]; rintro e w1 ⟨rfl, hR, hC⟩) | (go_at_call 19; refine (rd_fail b q 5 _ hR).mono ?_; rintro e w2 ⟨rfl, hR2, hC2⟩))
      go_ret
      exact ⟨by rw [E.out]; rfl, by rw [E.out]; exact hR2, hC.trans hC2⟩
    · have E : Hid (r.text most = q.take (n : Int)) := Lib.hid (by unfold RS.text; rw [← hn, ← hq, if_neg (by omega)])
      clear h hk hn hq
      go_enter Try.func31, Try.ntmps31
      go_wp2_with (first | (go_at_call 18; refine (rd_num b r _ H.out HK.out hs).mono ?_; rw [← HN.out, ← HQ.out]; rintro e w1 ⟨rfl, hR, hC⟩) | (go_at_call 28; refine (rd_take b q (n : Int) _ hR QK.out QS.out).mono ?_; rintro e w2 ⟨rfl, hR2, hC2⟩))
      go_ret
      exact ⟨by rw [E.out]; rfl, by rw [E.out]; exact hR2, hC.trans hC2⟩
  · by_cases hn0 : most < (n : Int)
    · have E : Hid (r.text most = (str [], q.fail 5)) := Lib.hid (by unfold RS.text; rw [← hn, ← hq, if_pos (by omega)])
      clear h hk hn hq
      go_enter Try.func31, Try.ntmps31
      go_wp2_with (first | (go_at_call 18; refine (rd_num b r _ H.out HK.out hs).mono ?_; rw [← HN.out, ← HQ.out]; rintro e w1 ⟨rfl, hR, hC⟩) | (go_at_call 19; refine (rd_fail b q 5 _ hR).mono ?_; rintro e w2 ⟨rfl, hR2, hC2⟩))
      go_ret
      exact ⟨by rw [E.out]; rfl, by rw [E.out]; exact hR2, hC.trans hC2⟩
    · have E : Hid (r.text most = q.take (n : Int)) := Lib.hid (by unfold RS.text; rw [← hn, ← hq, if_neg (by omega)])
      clear h hk hn hq
      go_enter Try.func31, Try.ntmps31
      go_wp2_with (first | (go_at_call 18; refine (rd_num b r _ H.out HK.out hs).mono ?_; rw [← HN.out, ← HQ.out]; rintro e w1 ⟨rfl, hR, hC⟩) | (go_at_call 28; refine (rd_take b q (n : Int) _ hR QK.out QS.out).mono ?_; rintro e w2 ⟨rfl, hR2, hC2⟩))
      go_ret
      exact ⟨by rw [E.out]; rfl, by rw [E.out]; exact hR2, hC.trans hC2⟩

theorem leN_append (a : List UInt8) (c : UInt8) : leN (a ++ [c]) = leN a + c.toNat * 256 ^ a.length := by
  induction a with
  | nil => simp [leN]
  | cons x a ih =>
    rw [List.cons_append, leN, leN, ih, List.length_cons, Nat.pow_succ, Nat.mul_add, Nat.add_assoc]
    congr 1
    rw [Nat.mul_comm 256 (_ * _), Nat.mul_assoc]
theorem leN_lt (a : List UInt8) : leN a < 256 ^ a.length := by
  induction a with
  | nil => simp [leN]
  | cons x a ih =>
    have := x.toNat_lt
    rw [leN, List.length_cons, Nat.pow_succ]; omega
theorem pow256 (i : Nat) : ((2 : Int) ^ (8 * i)) = ((256 ^ i : Nat) : Int) := by
  rw [show (256 : Nat) = 2 ^ 8 from rfl, ← Nat.pow_mul]; simp
theorem big_words (N c i : Nat) (hN : N < 256 ^ i) (hc : c < 256) (hi : i < 8) :
    ∃ M N' : Nat, IntKind.u64.wrap ((c : Int) * (2 : Int) ^ (8 * i)) = (M : Int) ∧ Go.bits .or .u64 (N : Int) (M : Int) = (N' : Int) ∧ N' = N + c * 256 ^ i := by
  have hb : c * 256 ^ i < 18446744073709551616 ∧ 256 ^ i ≤ 72057594037927936 := by
    have h1 : 256 ^ i ≤ 256 ^ 7 := Nat.pow_le_pow_right (by omega) (by omega)
    have e : (256 : Nat) ^ 7 = 72057594037927936 := by decide
    have h2 : c * 256 ^ i ≤ 255 * 256 ^ 7 := Nat.mul_le_mul (by omega) h1
    omega
  refine ⟨c * 256 ^ i, N + c * 256 ^ i, ?_, ?_, rfl⟩
  · rw [pow256, wrap_u64, ← Int.natCast_mul]; omega
  · rw [or64' (8 * i) _ _ (by omega) (by rw [pow256, ← Int.natCast_emod, Nat.mul_mod_left]; rfl) (by omega) (by omega) (by rw [pow256]; omega) (by omega)]
    omega

set_option maxHeartbeats 1000000 in
theorem rd_big (s : ByteArray) (w : World) (hs : s.size ≤ 8) :
    Calls Try.prog 27 #[.string s] w fun e w' => e = .returned (.int .u64 (leN s.data.toList : Int)) ∧ Drew w w' := by
  obtain ⟨t, ht⟩ : ∃ t, t = leN s.data.toList := ⟨_, rfl⟩
  rw [← ht]
  have HT := Lib.hid ht
  clear ht
  go_enter Try.func27, Try.ntmps27
  go_wp2
  go_loopw [3, 7] (fun v3 v7 wr => ∃ (i N : Nat), i ≤ s.size ∧ v7 = .int .i64 i ∧ v3 = .int .u64 (N : Int) ∧ Hid (N = leN (s.data.toList.take i)) ∧ Drew w wr) (fun _ v _ => s.size - (intOf v).toNat)
  case atStart => exact ⟨0, 0, Nat.zero_le _, rfl, rfl, Lib.hid rfl, Drew.refl _⟩
  case round =>
    obtain ⟨i, N, hi, rfl, rfl, HN, ⟨⟨d, rfl⟩⟩⟩ := hrel
    by_cases hlt : i < s.size
    · have hl : i < s.data.toList.length := by rw [Array.length_toList]; exact hlt
      obtain ⟨c, hc⟩ : ∃ c, s[i] = c := ⟨_, rfl⟩
      have htk : Hid (s.data.toList.take (i + 1) = s.data.toList.take i ++ [c]) := Lib.hid (by rw [List.take_succ_eq_append_getElem hl, ← hc]; rfl)
      have hN : N < 256 ^ i := by
        have h := leN_lt (s.data.toList.take i)
        rw [← HN.out, List.length_take, Nat.min_eq_left (by omega)] at h
        exact h
      obtain ⟨M, N', e1, e2, e3⟩ := big_words N c.toNat i hN c.toNat_lt (by omega)
      have E3 : Hid (N' = leN (s.data.toList.take (i + 1))) := Lib.hid (by
        rw [htk.out, leN_append, ← HN.out, e3, List.length_take, Nat.min_eq_left (by omega)])
      have hc1 := c.toNat_lt
      have hc2 : 0 ≤ ((c.toNat : Nat) : Int) := by omega
      clear e3 hN
      go_wp2
      go_roundw
      case rel => exact ⟨i + 1, N', by omega, by go_num, rfl, E3, by repeat (first | exact Drew.refl _ | apply Drew.step)⟩
      case measure => simp [intOf]; omega
    · have E : Hid (N = t) := Lib.hid (by rw [HN.out, HT.out, List.take_of_length_le (by rw [Array.length_toList]; exact Nat.le_of_not_lt hlt)])
      go_wp2
      go_ret
      exact ⟨by rw [← E.out]; rfl, by repeat (first | exact Drew.refl _ | apply Drew.step)⟩

theorem RS.take_size (r : RS) (n : Int) : ((r.take n).1.size : Int) ≤ max n 0 := by
  unfold RS.take
  split
  · rw [str_size]; simp; omega
  · split
    · rw [str_size]; simp; omega
    · simp only [ByteArray.size_extract]; omega

set_option maxHeartbeats 1000000 in
theorem rd_wide (b : Nat) (r : RS) (w : World) (h : RdAt TR w b r) (hk : r.ok) (hs : r.s.size ≤ 140737488351232) :
    Calls Try.prog 17 #[.pointer (some ⟨b, 0, none⟩)] w fun e w' => e = .returned (.int .u64 ((r.little 8).1 : Int)) ∧ RdAt TR w' b (r.little 8).2 ∧ Chg b w w' := by
  have T := Lib.hid (rd_take b r 8 w h hk hs)
  obtain ⟨x, hx⟩ : ∃ x, x = (r.take 8).1 := ⟨_, rfl⟩
  have hz : x.size ≤ 8 := by have := r.take_size 8; rw [← hx] at this; omega
  rw [← hx] at T
  have E : Hid ((r.little 8).1 = leN x.data.toList) := Lib.hid (by rw [hx]; rfl)
  clear hx h hk
  go_enter Try.func17, Try.ntmps17
  go_wp2_with (first | (go_at_call 28; refine T.out.mono ?_; rintro e w1 ⟨rfl, hR, hC⟩) | (go_at_call 27; refine (rd_big x _ hz).mono ?_; rintro e w' ⟨rfl, ⟨d, rfl⟩⟩))
  go_ret
  exact ⟨by rw [E.out]; rfl, hR.drewN _, hC.drewN _⟩

end Go.Proofs.Ythhgijjdddcchaa
