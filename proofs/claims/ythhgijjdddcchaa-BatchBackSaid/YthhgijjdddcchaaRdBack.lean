/-
  What is written is read as it was; what is read would be written so: plain mathematics.
-/
import Derived.Test.YthhgijjdddcchaaVarAwake
namespace Go.Proofs.Ythhgijjdddcchaa
open Go.RowKit
set_option linter.unusedVariables false

theorem scan_num : ∀ (n i acc : Nat) (t : List UInt8), i ≤ 9 → n * 128 ^ i < 18446744073709551616 → (0 < i → 0 < n) →
    scanL (numL n ++ t) i acc = (acc + n * 128 ^ i, i + (numL n).length, 0) := by
  intro n
  induction n using Nat.strongRecOn with
  | _ n ih =>
    intro i acc t hi hb hp
    by_cases hlow : n < 128
    · rw [numL_low hlow]
      have hc : (UInt8.ofNat n).toNat = n := by rw [UInt8.toNat_ofNat']; omega
      rw [List.cons_append, List.nil_append, scanL, hc]
      rw [if_neg (by
        rintro ⟨h9, h1⟩
        subst h9
        have e : (128 : Nat) ^ 9 = 9223372036854775808 := by decide
        rw [e] at hb
        omega), if_neg (by omega), if_neg (by omega), Nat.mod_eq_of_lt hlow]
      rfl
    · rw [numL_high hlow]
      have hc : (UInt8.ofNat (128 + n % 128)).toNat = 128 + n % 128 := by rw [UInt8.toNat_ofNat']; omega
      have h9 : i < 9 := by
        rcases Nat.lt_or_ge i 9 with h | h
        · exact h
        · obtain rfl : i = 9 := by omega
          have e : (128 : Nat) ^ 9 = 9223372036854775808 := by decide
          rw [e] at hb
          omega
      have hm : n / 128 * 128 ^ (i + 1) + n % 128 * 128 ^ i = n * 128 ^ i := by
        rw [Nat.pow_succ, Nat.mul_comm (128 ^ i) 128, ← Nat.mul_assoc, ← Nat.add_mul]
        congr 1; omega
      rw [List.cons_append, scanL, hc, if_neg (by omega), if_pos (by omega), ih (n / 128) (by omega) (i + 1) _ t (by omega) (by omega) (by omega)]
      rw [show (128 + n % 128) % 128 = n % 128 from by omega, List.length_cons]
      congr 1
      · omega
      · congr 1; omega

theorem scan_back : ∀ (l : List UInt8) (i acc N k : Nat), scanL l i acc = (N, k, 0) → i ≤ 9 →
    ∃ n, N = acc + n * 128 ^ i ∧ i ≤ k ∧ numL n = l.take (k - i) ∧ (0 < i → 0 < n)
  | [], i, acc, N, k, h, hi => by simp [scanL] at h
  | c :: r, i, acc, N, k, h, hi => by
    rw [scanL] at h
    by_cases h91 : i = 9 ∧ 1 < c.toNat
    · rw [if_pos h91] at h; simp at h
    · rw [if_neg h91] at h
      by_cases h128 : 128 ≤ c.toNat
      · rw [if_pos h128] at h
        have h9 : i < 9 := by
          rcases Nat.lt_or_ge i 9 with h2 | h2
          · exact h2
          · exact absurd ⟨by omega, by omega⟩ h91
        obtain ⟨n, e1, e2, e3, e4⟩ := scan_back r (i + 1) _ N k h (by omega)
        have hn := e4 (by omega)
        have hc := c.toNat_lt
        refine ⟨c.toNat % 128 + 128 * n, ?_, by omega, ?_, fun _ => by omega⟩
        · rw [e1, Nat.pow_succ, Nat.add_mul, Nat.mul_comm (128 ^ i) 128, ← Nat.mul_assoc, Nat.mul_comm n 128, Nat.add_assoc]
        · rw [numL_high (by omega), show (c.toNat % 128 + 128 * n) / 128 = n from by omega, e3, show k - i = (k - (i + 1)) + 1 from by omega, List.take_succ_cons]
          congr 1
          apply UInt8.toNat_inj.mp
          rw [UInt8.toNat_ofNat']; omega
      · rw [if_neg h128] at h
        by_cases hz : c.toNat = 0 ∧ 0 < i
        · rw [if_pos hz] at h; simp at h
        · rw [if_neg hz] at h
          simp only [Prod.mk.injEq] at h
          obtain ⟨h1, h2, _⟩ := h
          refine ⟨c.toNat % 128, h1.symm, by omega, ?_, fun hi0 => ?_⟩
          · rw [numL_low (by omega), ← h2, Nat.add_sub_cancel_left]
            simp only [List.take_succ_cons, List.take_zero, List.cons.injEq, and_true]
            apply UInt8.toNat_inj.mp
            rw [UInt8.toNat_ofNat']; omega
          · have : ¬ c.toNat = 0 := fun h => hz ⟨h, hi0⟩
            omega

/-- a reader over a row of bytes, so many taken, without an error -/
def rdL (L : List UInt8) (k : Nat) : RS := ⟨str L, k, 0⟩
theorem rdL_rest (L : List UInt8) (k : Nat) : (rdL L k).rest = L.drop k := by simp [rdL, RS.rest, str]
theorem rdL_num (A t : List UInt8) (n k : Nat) (L : List UInt8) (hL : L = A ++ (numL n ++ t)) (hk : k = A.length) (hn : n < 18446744073709551616) :
    (rdL L k).num = (n, rdL L (k + (numL n).length)) := by
  have h : scanL (rdL L k).rest 0 0 = (n, (numL n).length, 0) := by
    rw [rdL_rest, hL, hk, List.drop_left, scan_num n 0 0 t (by omega) (by simpa using hn) (by omega)]
    simp
  unfold RS.num
  rw [if_neg (by simp [rdL]), h]
  rfl
theorem str_ext (L : List UInt8) (a b : Nat) : (str L).extract a b = str ((L.take b).drop a) := by
  apply ByteArray.ext
  simp [str, List.extract_eq_take_drop, List.drop_take]
theorem rdL_take (A x t : List UInt8) (k : Nat) (L : List UInt8) (hL : L = A ++ (x ++ t)) (hk : k = A.length) :
    (rdL L k).take (x.length : Int) = (str x, rdL L (k + x.length)) := by
  unfold RS.take
  rw [if_neg (by simp [rdL]), if_neg (by
    have : (str L).size = A.length + (x.length + t.length) := by rw [str_size, hL]; simp
    simp only [rdL]
    omega)]
  have e : (str L).extract k (k + x.length) = str x := by
    rw [str_ext, List.drop_take, hL, hk, List.drop_left, Nat.add_sub_cancel_left, List.take_left]
  simp only [rdL, Int.toNat_natCast, e]
theorem rdL_text (A x t : List UInt8) (k : Nat) (L : List UInt8) (most : Int) (hL : L = A ++ (numL x.length ++ (x ++ t))) (hk : k = A.length) (hx : x.length < 18446744073709551616) (hm : (x.length : Int) ≤ most) :
    (rdL L k).text most = (str x, rdL L (k + (numL x.length).length + x.length)) := by
  have hn := rdL_num A (x ++ t) x.length k L hL hk hx
  unfold RS.text
  rw [hn]
  simp only
  rw [if_neg (by omega)]
  exact rdL_take (A ++ numL x.length) x t (k + (numL x.length).length) L (by rw [hL]; simp) (by rw [hk]; simp)
theorem unzz_zz (n : Int) : unzz (zz n).toNat = n := by
  unfold unzz zz
  split <;> split <;> omega
theorem leN_leL : ∀ (k n : Nat), n < 256 ^ k → leN (leL k n) = n
  | 0, n, h => by simp at h; subst h; rfl
  | k + 1, n, h => by
    have hd : n / 256 < 256 ^ k := by rw [Nat.div_lt_iff_lt_mul (by omega)]; rw [Nat.pow_succ] at h; exact h
    rw [leL, leN, leN_leL k (n / 256) hd, UInt8.toNat_ofNat']
    omega
theorem rdL_little (A t : List UInt8) (j n k : Nat) (L : List UInt8) (hL : L = A ++ (leL j n ++ t)) (hk : k = A.length) (hn : n < 256 ^ j) :
    (rdL L k).little j = (n, rdL L (k + j)) := by
  have h := rdL_take A (leL j n) t k L hL hk
  rw [leL_length] at h
  unfold RS.little
  rw [h]
  simp only
  rw [str_data, leN_leL j n hn]

/-- a number that was read without an error: its bytes are those that were taken -/
theorem num_back (s : ByteArray) : let r : RS := ⟨s, 0, 0⟩
    (¬ r.num.2.e = 0 → r.num.1 = 0 ∧ r.num.2.at_ = 0) ∧ (r.num.2.e = 0 → str (numL r.num.1) = s.extract 0 r.num.2.at_) := by
  intro r
  obtain ⟨⟨n, k, e⟩, ht⟩ : ∃ t, t = scanL r.rest 0 0 := ⟨_, rfl⟩
  unfold RS.num
  rw [if_neg (by simp [r]), ← ht]
  by_cases he : e = 0
  · subst he
    simp only [if_true]
    refine ⟨fun h => absurd trivial h, fun _ => ?_⟩
    obtain ⟨m, e1, _, e3, _⟩ := scan_back _ 0 0 n k ht.symm (by omega)
    have hm : n = m := by simpa using e1
    rw [hm, e3]
    have hr : r.rest = s.data.toList := by simp [r, RS.rest]
    rw [hr, Nat.sub_zero]
    conv => rhs; rw [← str_of s, str_ext, List.drop_zero]
    show _ = str (s.data.toList.take (0 + k))
    rw [Nat.zero_add]
  · simp only [he, if_false]
    exact ⟨fun _ => ⟨trivial, rfl⟩, fun h => h.elim⟩

end Go.Proofs.Ythhgijjdddcchaa
