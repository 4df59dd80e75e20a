/-
  The document's writers by contract.
-/
import Derived.Test.YtomhjbbggegfdaaVarFun
namespace Go.Proofs.Ytomhjbbggegfdaa
open Go.RowKit
set_option linter.unusedVariables false
set_option linter.unusedSimpArgs false

/-- 'string([]byte{b})': the new one-cell row read as a string -/
theorem conv_one (wr : World) (x : Int) (b : UInt8) (hx : x = ((b.toNat : Nat) : Int)) :
    (convert 53 9 (.slice (some ⟨wr.heap.size, 0, none⟩) 1 1)).run Try.prog (wr.alloc (.cells #[.int .u8 x] 5)) = .ok (.string (str [b])) (wr.alloc (.cells #[.int .u8 x] 5)) := by
  have h := run_convert_bytes_arg (P := Try.prog) (wr.alloc (.cells #[.int .u8 x] 5)) 53 5 Try.underlying53 Try.underlying5 wr.heap.size 0 1 1 [x] rfl (fun i hi => by
    obtain rfl : i = 0 := by omega
    rw [cell_of_row _ _ _ _ _ _ (heap_alloc_new _ _)]; rfl) 9 Try.underlying9
  rw [h]
  have e : strOfNums [x] = str [b] := by rw [hx]; exact strOf_u8 [b]
  rw [e]

set_option maxHeartbeats 1000000 in
theorem ref_num (n : Int) (w : World) (h0 : 0 ≤ n) (h1 : n < 18446744073709551616) :
    Calls Try.prog 12 #[.int .u64 n] w fun e w' => e = .returned (.string (str (numL n.toNat))) ∧ Below w.heap.size w w' := by
  have HL := Lib.hid (numL_len64 n.toNat (by omega))
  obtain ⟨t, ht⟩ : ∃ t, t = numL n.toNat := ⟨_, rfl⟩
  rw [← ht] at HL ⊢
  have HT := Lib.hid ht
  clear ht
  go_enter Try.func12, Try.ntmps12
  go_wp2
  go_loopw [0, 3] (fun v0 v3 wr => ∃ (m : Int) (pre : List UInt8), v0 = .int .u64 m ∧ v3 = .string (str pre) ∧ 0 ≤ m ∧ m < 18446744073709551616 ∧ Hid (pre ++ numL m.toNat = t) ∧ Below w.heap.size w wr) (fun v _ _ => (intOf v).toNat)
  case atStart => exact ⟨n, [], rfl, rfl, h0, h1, Lib.hid HT.out.symm, Below.refl _ _⟩
  case round =>
    obtain ⟨m, pre, rfl, rfl, m0, m1, hT, hB⟩ := hrel
    have hlen : (str pre).size + 1 ≤ 10 := by
      have h := congrArg List.length hT.out
      rw [List.length_append] at h
      have h2 := HL.out
      have h3 : 0 < (numL m.toNat).length := List.length_pos_iff.mpr (numL_ne _)
      rw [str_size]
      omega
    by_cases hlow : m < 128
    · obtain ⟨b, hb⟩ : ∃ b, b = UInt8.ofNat m.toNat := ⟨_, rfl⟩
      have hv : m = ((b.toNat : Nat) : Int) := by rw [hb, UInt8.toNat_ofNat']; omega
      have hT2 : Hid (str pre ++ str [b] = str t) := Lib.hid (by have h := hT.out; rw [numL_low (by omega), ← hb] at h; rw [str_append, h])
      have hc := conv_one wr m b hv
      have hl1 : (str [b]).size = 1 := str_size _
      clear hb
      clear hv
      go_wp2
      go_ret
      exact ⟨rets hT2.out, hB.alloc hB.size _⟩
    · obtain ⟨b, hb⟩ : ∃ b, b = UInt8.ofNat (128 + m.toNat % 128) := ⟨_, rfl⟩
      have hv : 128 + m % 128 = ((b.toNat : Nat) : Int) := by rw [hb, UInt8.toNat_ofNat']; omega
      have hT2 : Hid ((pre ++ [b]) ++ numL (m / 128).toNat = t) := Lib.hid (by
        have h := hT.out
        rw [numL_high (by omega), ← hb] at h
        rw [show (m / 128).toNat = m.toNat / 128 from by omega, List.append_assoc]
        exact h)
      have hc := conv_one wr (128 + m % 128) b hv
      have hl1 : (str [b]).size = 1 := str_size _
      clear hb
      clear hv
      go_wp2
      go_roundw
      case rel => exact ⟨m / 128, _, rfl, by rw [← str_append], by omega, by omega, hT2, hB.alloc hB.size _⟩
      case measure => simp [intOf]; omega

set_option maxHeartbeats 1000000 in
theorem ref_little (n : Int) (k : Nat) (w : World) (h0 : 0 ≤ n) (h1 : n < 18446744073709551616) (hk : k ≤ 8) :
    Calls Try.prog 17 #[.int .u64 n, .int .i64 (k : Int)] w fun e w' => e = .returned (.string (str (leL k n.toNat))) ∧ Below w.heap.size w w' := by
  obtain ⟨t, ht⟩ : ∃ t, t = leL k n.toNat := ⟨_, rfl⟩
  rw [← ht]
  have HT := Lib.hid ht
  clear ht
  go_enter Try.func17, Try.ntmps17
  go_wp2
  go_loopw [0, 5, 6] (fun v0 v5 v6 wr => ∃ (m : Int) (pre : List UInt8) (i : Nat), i ≤ k ∧ v0 = .int .u64 m ∧ v5 = .string (str pre) ∧ v6 = .int .i64 i ∧ 0 ≤ m ∧ m < 18446744073709551616 ∧ Hid (pre ++ leL (k - i) m.toNat = t) ∧ Below w.heap.size w wr) (fun _ _ v _ => k - (intOf v).toNat)
  case atStart => exact ⟨n, [], 0, Nat.zero_le _, rfl, rfl, rfl, h0, h1, Lib.hid HT.out.symm, Below.refl _ _⟩
  case round =>
    obtain ⟨m, pre, i, hik, rfl, rfl, rfl, m0, m1, hT, hB⟩ := hrel
    have hlen : (str pre).size ≤ 8 := by
      have h := congrArg List.length hT.out
      rw [List.length_append, HT.out, leL_length, leL_length] at h
      rw [str_size]
      omega
    by_cases hlt : i < k
    · obtain ⟨b, hb⟩ : ∃ b, b = UInt8.ofNat (m.toNat % 256) := ⟨_, rfl⟩
      have hv : m % 256 = ((b.toNat : Nat) : Int) := by rw [hb, UInt8.toNat_ofNat']; omega
      have hT2 : Hid ((pre ++ [b]) ++ leL (k - (i + 1)) (m / 256).toNat = t) := Lib.hid (by
        have h := hT.out
        rw [show k - i = (k - (i + 1)) + 1 from by omega, leL, ← hb] at h
        rw [show (m / 256).toNat = m.toNat / 256 from by omega, List.append_assoc]
        exact h)
      have hc := conv_one wr (m % 256) b hv
      have hl1 : (str [b]).size = 1 := str_size _
      clear hb hv
      go_wp2
      go_roundw
      case rel => exact ⟨m / 256, _, i + 1, by omega, rfl, by rw [← str_append], by go_num, by omega, by omega, hT2, hB.alloc hB.size _⟩
      case measure => simp [intOf]; omega
    · have hT2 : Hid (pre = t) := Lib.hid (by
        have h := hT.out
        rw [show k - i = 0 from by omega, leL, List.append_nil] at h
        exact h)
      go_wp2
      go_ret
      exact ⟨rets (by rw [hT2.out]), hB⟩

set_option maxHeartbeats 1000000 in
theorem ref_signed (n : Int) (w : World) (h0 : -9223372036854775808 ≤ n) (h1 : n ≤ 9223372036854775807) :
    Calls Try.prog 13 #[.int .i64 n] w fun e w' => e = .returned (.string (str (numL (zz n).toNat))) ∧ Below w.heap.size w w' := by
  have hb := Lib.hid (zz_bd n h0 h1)
  by_cases hn : n < 0
  · have e : 2 * -(n + 1) + 1 = zz n := by unfold zz; rw [if_pos hn]; omega
    have L : Hid (∀ w, Calls Try.prog 12 #[.int .u64 (2 * -(n + 1) + 1)] w fun e w' => e = .returned (.string (str (numL (zz n).toNat))) ∧ Below w.heap.size w w') := Lib.hid fun w => by
      rw [e]; exact ref_num (zz n) w hb.out.1 hb.out.2
    clear e
    go_enter Try.func13, Try.ntmps13
    go_wp2_with (go_at_call 12; refine (L.out _).mono ?_; rintro e w1 ⟨rfl, hB⟩)
    go_ret
    exact ⟨rfl, hB⟩
  · have e : 2 * n = zz n := by unfold zz; rw [if_neg hn]
    go_enter Try.func13, Try.ntmps13
    go_wp2_with (go_at_call 12; refine (ref_num (zz n) _ hb.out.1 hb.out.2).mono ?_; rintro e w1 ⟨rfl, hB⟩)
    go_ret
    exact ⟨rfl, hB⟩

set_option maxHeartbeats 1000000 in
theorem ref_text (s : ByteArray) (w : World) (hs : s.size ≤ 140737488351232) :
    Calls Try.prog 15 #[.string s] w fun e w' => e = .returned (.string (str (numL s.size) ++ s)) ∧ Below w.heap.size w w' := by
  have hz : (str (numL s.size)).size ≤ 10 := by rw [str_size]; exact numL_len64 _ (by omega)
  go_enter Try.func15, Try.ntmps15
  go_wp2_with (go_at_call 12; refine (ref_num ((s.size : Nat) : Int) _ (by omega) (by omega)).mono ?_; rintro e w1 ⟨rfl, hB⟩)
  go_ret
  exact ⟨rfl, hB⟩

end Go.Proofs.Ytomhjbbggegfdaa
