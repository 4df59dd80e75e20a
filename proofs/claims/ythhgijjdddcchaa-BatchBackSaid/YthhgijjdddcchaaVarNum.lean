/-
  varint.Num by contract.
-/
import Derived.Test.YthhgijjdddcchaaVarMath
namespace Go.Proofs.Ythhgijjdddcchaa
open Go.RowKit
set_option linter.unusedVariables false
set_option linter.unusedSimpArgs false

theorem info_u8 : (Try.prog.info? 5).map (fun i => (i.zero, i.size, i.bytes)) = some (some (.int .u8 0), 1, 1) := by kernel_rfl

theorem or128 (n : Int) (h0 : 0 ≤ n) : Go.bits .or .u8 (n % 256) 128 = (((UInt8.ofNat (128 + n.toNat % 128)).toNat : Nat) : Int) := by
  have h1 : Go.bits .or .u8 (n % 256) 128 = Go.bits .or .u8 ((n % 256) / 128 * 128 + n % 128) 128 := by
    congr 1; omega
  have h2 : (n % 256) / 128 = 0 ∨ (n % 256) / 128 = 1 := by omega
  have e : (((UInt8.ofNat (128 + n.toNat % 128)).toNat : Nat) : Int) = 128 + n % 128 := by
    rw [UInt8.toNat_ofNat']; omega
  rw [h1, e]
  have hw : ∀ m : Int, 0 ≤ m → m < 2 ^ 8 → IntKind.u8.wrap m = m := wraps_u8
  have hz : 0 ≤ n % 128 ∧ n % 128 < 128 := by omega
  obtain ⟨a, ha⟩ : ∃ a : Nat, n % 128 = (a : Int) := ⟨(n % 128).toNat, by omega⟩
  rw [ha]
  have ha2 : a < 128 := by omega
  rcases h2 with h2 | h2 <;> rw [h2]
  · have h3 := (bits_nat .u8 8 (by decide) hw a 128 (by omega) (by decide)).2
    rw [show (0 : Int) * 128 + (a : Int) = (a : Int) from by omega]
    rw [show ((128 : Nat) : Int) = 128 from rfl] at h3
    rw [h3]
    have : a ||| 128 = 128 + a := by
      rw [Nat.or_comm]; have := Nat.two_pow_add_eq_or_of_lt (i := 7) (b := a) (by simpa using ha2) 1; simpa using this.symm
    rw [this]; omega
  · have h3 := (bits_nat .u8 8 (by decide) hw (128 + a) 128 (by omega) (by decide)).2
    rw [show (1 : Int) * 128 + (a : Int) = ((128 + a : Nat) : Int) from by omega]
    rw [show ((128 : Nat) : Int) = 128 from rfl] at h3
    rw [h3]
    have e1 : 128 + a = 128 ||| a := by have := Nat.two_pow_add_eq_or_of_lt (i := 7) (b := a) (by simpa using ha2) 1; simpa using this
    have : (128 + a) ||| 128 = 128 + a := by
      rw [e1, Nat.or_comm, ← Nat.or_assoc, Nat.or_self]
    rw [this]; omega

theorem snoc_ne (l : List UInt8) (b : UInt8) : l ++ [b] ≠ [] := by simp

set_option maxRecDepth 100000 in
set_option maxHeartbeats 1000000 in
theorem varint_num (n : Int) (w : World) (h0 : 0 ≤ n) (h1 : n < 18446744073709551616) :
    Calls Try.prog 13 #[.int .u64 n] w fun e w' => e = .returned (.string (str (numL n.toNat))) ∧ Below w.heap.size w w' := by
  have HL := Lib.hid (numL_len64 n.toNat (by omega))
  obtain ⟨t, ht⟩ : ∃ t, t = numL n.toNat := ⟨_, rfl⟩
  rw [← ht] at HL ⊢
  have HT := Lib.hid ht
  clear ht
  obtain ⟨i0, hi, hz0, hz1, hz2⟩ := info_parts info_u8
  go_enter Try.func13, Try.ntmps13
  go_wp2
  refine wp_scope_jumps 0 (fun a' w' => ∃ (m : Int) (v : Value) (pre : List UInt8) (y4 y5 y6 y7 y8 y9 y10 y11 y12 y13 y14 y15 y16 y17 y18 y19 : Value), a' = { tmps := #[.int .u64 m, undef, .string { data := #[] }, v, y4, y5, y6, y7, y8, y9, y10, y11, y12, y13, y14, y15, y16, y17, y18, y19], defers := [] } ∧ Below w.heap.size w w' ∧ Hid (w'.ownsRow w.heap.size 5 1 v pre.length (u8s pre)) ∧ 0 ≤ m ∧ m < 18446744073709551616 ∧ Hid (pre ++ numL m.toNat = t)) (fun a' _ => (intOf (a'.tmps.getD 0 undef)).toNat) rfl ?_ ?_
  · go_wp2
    go_step3
    have hB := Below.refl w.heap.size w
    have hown0 : Hid (w.ownsRow w.heap.size 5 1 (.slice none 0 0) ([] : List UInt8).length (u8s [])) := Lib.hid (World.ownsRow_nil w w.heap.size 5 1)
    by_cases hlow : n < 128
    · have hv2 : Hid (n = (((UInt8.ofNat n.toNat).toNat : Nat) : Int)) := Lib.hid (by rw [UInt8.toNat_ofNat']; omega)
      have hT2 : Hid ([] ++ [UInt8.ofNat n.toNat] = t) := Lib.hid (by rw [HT.out, numL_low (by omega)]; rfl)
      go_wp2_with (at_builtin; refine wp_append_byte rfl (.tmp 14) (.tmp 17) 40 rfl w.heap.size 5 Try.underlying40 info_u8 w (.slice none 0 0) [] rfl hown0.out n (UInt8.ofNat n.toNat) hv2.out rfl (by simp) hB.size ?_; intro v' w1 hown1 hB1; have hcb := own_bytes (P := Try.prog) (dst := 9) hown1 (snoc_ne _ _) Try.underlying40 Try.underlying5 Try.underlying9; rw [hT2.out] at hcb; have HO1 := Lib.hid hown1; clear hown1)
      simp only [Exit.jump]
      go_ret
      exact ⟨rfl, hB.trans hB1⟩
    · have hv : Hid (Go.bits .or .u8 (n % 256) 128 = (((UInt8.ofNat (128 + n.toNat % 128)).toNat : Nat) : Int)) := Lib.hid (or128 n h0)
      have hT2 : Hid (([] ++ [UInt8.ofNat (128 + n.toNat % 128)]) ++ numL (n / 128).toNat = t) := Lib.hid (by
        rw [HT.out, numL_high (n := n.toNat) (by omega), show (n / 128).toNat = n.toNat / 128 from by omega]; rfl)
      go_wp2_with (at_builtin; refine wp_append_byte rfl (.tmp 6) (.tmp 10) 40 rfl w.heap.size 5 Try.underlying40 info_u8 w (.slice none 0 0) [] rfl hown0.out _ (UInt8.ofNat (128 + n.toNat % 128)) hv.out rfl (by simp) hB.size ?_; intro v' w1 hown1 hB1; have HO1 := Lib.hid hown1; clear hown1)
      go_step3
      exact ⟨rfl, ⟨n / 128, v', _, _, _, _, _, _, _, _, _, _, _, _, _, _, _, _, _, rfl, hB.trans hB1, HO1, by omega, by omega, hT2⟩⟩
  · rintro a' wr ⟨m, v, pre, y4, y5, y6, y7, y8, y9, y10, y11, y12, y13, y14, y15, y16, y17, y18, y19, rfl, hB, hown, m0, m1, hT⟩
    have hlen : pre.length + 1 ≤ 10 := by
      have h := congrArg List.length hT.out
      rw [List.length_append] at h
      have h2 := HL.out
      have h3 : 0 < (numL m.toNat).length := List.length_pos_iff.mpr (numL_ne _)
      omega
    by_cases hlow : m < 128
    · have hT2 : Hid (pre ++ [UInt8.ofNat m.toNat] = t) := Lib.hid (by have h := hT.out; rw [numL_low (by omega)] at h; exact h)
      have hv : m % 256 = (((UInt8.ofNat m.toNat).toNat : Nat) : Int) := by rw [UInt8.toNat_ofNat']; omega
      have hv2 : Hid (m = (((UInt8.ofNat m.toNat).toNat : Nat) : Int)) := Lib.hid (by rw [UInt8.toNat_ofNat']; omega)
      clear hv
      go_wp2_with (at_builtin; refine wp_append_byte rfl (.tmp 14) (.tmp 17) 40 rfl w.heap.size 5 Try.underlying40 info_u8 wr v pre rfl hown.out m (UInt8.ofNat m.toNat) hv2.out rfl (by omega) hB.size ?_; intro v' w1 hown1 hB1; have hcb := own_bytes (P := Try.prog) (dst := 9) hown1 (snoc_ne _ _) Try.underlying40 Try.underlying5 Try.underlying9; rw [hT2.out] at hcb; have HO1 := Lib.hid hown1; clear hown1)
      simp only [Exit.jump]
      go_ret
      exact ⟨rfl, hB.trans hB1⟩
    · have hv : Hid (Go.bits .or .u8 (m % 256) 128 = (((UInt8.ofNat (128 + m.toNat % 128)).toNat : Nat) : Int)) := Lib.hid (or128 m m0)
      have hT2 : Hid ((pre ++ [UInt8.ofNat (128 + m.toNat % 128)]) ++ numL (m / 128).toNat = t) := Lib.hid (by
        have h := hT.out
        rw [numL_high (by omega)] at h
        rw [show (m / 128).toNat = m.toNat / 128 from by omega, List.append_assoc]
        exact h)
      go_wp2_with (at_builtin; refine wp_append_byte rfl (.tmp 6) (.tmp 10) 40 rfl w.heap.size 5 Try.underlying40 info_u8 wr v pre rfl hown.out _ (UInt8.ofNat (128 + m.toNat % 128)) hv.out rfl (by omega) hB.size ?_; intro v' w1 hown1 hB1; have HO1 := Lib.hid hown1; clear hown1)
      go_step3
      exact ⟨rfl, ⟨m / 128, v', _, _, _, _, _, _, _, _, _, _, _, _, _, _, _, _, _, rfl, hB.trans hB1, HO1, by omega, by omega, hT2⟩, by simp [intOf]; omega⟩

end Go.Proofs.Ythhgijjdddcchaa
