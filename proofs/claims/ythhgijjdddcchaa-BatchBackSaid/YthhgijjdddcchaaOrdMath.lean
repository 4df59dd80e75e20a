/-
  What is written is read as it was: the plain law, a reader's rest at a time.
-/
import Derived.Test.YthhgijjdddcchaaRdBack
namespace Go.Proofs.Ythhgijjdddcchaa
open Go.RowKit
set_option linter.unusedVariables false
set_option linter.unusedSimpArgs false

theorem rest_drop (s : ByteArray) (a k : Nat) (e e' : Int) : RS.rest ⟨s, a + k, e⟩ = (RS.rest ⟨s, a, e'⟩).drop k := by
  simp only [RS.rest, List.drop_drop]

theorem num_fwd (r : RS) (n : Nat) (t : List UInt8) (he : r.e = 0) (hr : r.rest = numL n ++ t) (hn : n < 18446744073709551616) :
    r.num.1 = n ∧ r.num.2.e = 0 ∧ r.num.2.rest = t := by
  have h : scanL r.rest 0 0 = (n, (numL n).length, 0) := by
    rw [hr, scan_num n 0 0 t (by omega) (by simpa using hn) (by omega)]; simp
  unfold RS.num
  rw [if_neg (by simp [he]), h]
  refine ⟨rfl, rfl, ?_⟩
  show RS.rest ⟨r.s, r.at_ + (numL n).length, 0⟩ = t
  rw [rest_drop r.s r.at_ (numL n).length 0 r.e]
  show r.rest.drop (numL n).length = t
  rw [hr, List.drop_left]
theorem num_bwd (r : RS) (he : r.num.2.e = 0) : r.e = 0 ∧ r.rest = numL r.num.1 ++ r.num.2.rest := by
  by_cases h0 : r.e = 0
  · refine ⟨h0, ?_⟩
    obtain ⟨⟨n, k, e⟩, ht⟩ : ∃ t, t = scanL r.rest 0 0 := ⟨_, rfl⟩
    have hu : r.num = if e = 0 then (n, ⟨r.s, r.at_ + k, 0⟩) else (0, ⟨r.s, r.at_, e⟩) := by
      unfold RS.num; rw [if_neg (by simp [h0]), ← ht]
    rw [hu] at he ⊢
    by_cases h1 : e = 0
    · rw [if_pos h1]
      subst h1
      obtain ⟨m, e1, e2, e3, _⟩ := scan_back r.rest 0 0 n k ht.symm (by omega)
      simp only [Nat.pow_zero, Nat.mul_one, Nat.zero_add, Nat.sub_zero] at e1 e3
      subst e1
      show r.rest = numL n ++ RS.rest ⟨r.s, r.at_ + k, 0⟩
      rw [e3, rest_drop r.s r.at_ k 0 r.e]
      exact (List.take_append_drop k r.rest).symm
    · rw [if_neg h1] at he; exact absurd he h1
  · unfold RS.num at he
    rw [if_pos h0] at he
    exact absurd he h0
theorem num_err (r : RS) (h : ¬ r.e = 0) : ¬ r.num.2.e = 0 := by unfold RS.num; rw [if_pos h]; exact h

/-- a number that fits an int -/
def RS.small (r : RS) : Int × RS := if 2147483647 < r.num.1 then (0, r.num.2.fail 4) else ((r.num.1 : Int), r.num.2)
theorem small_fwd (r : RS) (n : Nat) (t : List UInt8) (he : r.e = 0) (hr : r.rest = numL n ++ t) (hn : n ≤ 2147483647) :
    r.small.1 = (n : Int) ∧ r.small.2.e = 0 ∧ r.small.2.rest = t := by
  obtain ⟨h1, h2, h3⟩ := num_fwd r n t he hr (by omega)
  unfold RS.small
  rw [if_neg (by omega)]
  exact ⟨by rw [h1], h2, h3⟩
theorem small_bwd (r : RS) (he : r.small.2.e = 0) : r.e = 0 ∧ r.rest = numL r.small.1.toNat ++ r.small.2.rest ∧ 0 ≤ r.small.1 ∧ r.small.1 ≤ 2147483647 := by
  unfold RS.small at *
  split at he
  · rename_i h
    exfalso
    unfold RS.fail at he
    split at he
    · simp at he
    · rename_i h2; exact h2 he
  · rename_i h
    rw [if_neg h]
    obtain ⟨h1, h2⟩ := num_bwd r he
    exact ⟨h1, by simpa using h2, by simp only; omega, by simp only; omega⟩
theorem small_s (r : RS) : r.small.2.s = r.s := by
  unfold RS.small; split
  · rw [RS.fail_s, RS.num_s]
  · exact RS.num_s r
theorem small_ok (r : RS) (h : r.ok) : r.small.2.ok := by
  unfold RS.small; split
  · exact RS.fail_ok _ _ (RS.num_ok _ h)
  · exact RS.num_ok _ h
theorem small_bd (r : RS) : 0 ≤ r.small.1 ∧ r.small.1 ≤ 2147483647 := by
  unfold RS.small; split <;> (simp only; omega)

theorem zz_unzz (n : Nat) (h : n < 18446744073709551616) : (zz (unzz n)).toNat = n := by
  unfold unzz zz
  split <;> split <;> omega
theorem unzz_bd (n : Nat) (h : n < 18446744073709551616) : -9223372036854775808 ≤ unzz n ∧ unzz n ≤ 9223372036854775807 := by
  unfold unzz; split <;> omega
theorem signed_fwd (r : RS) (x : Int) (t : List UInt8) (he : r.e = 0) (hr : r.rest = numL (zz x).toNat ++ t) (h0 : -9223372036854775808 ≤ x) (h1 : x ≤ 9223372036854775807) :
    r.signed.1 = x ∧ r.signed.2.e = 0 ∧ r.signed.2.rest = t := by
  have hb := zz_bd x h0 h1
  obtain ⟨h1, h2, h3⟩ := num_fwd r (zz x).toNat t he hr (by omega)
  exact ⟨by unfold RS.signed; rw [h1, unzz_zz], h2, h3⟩
theorem signed_bwd (r : RS) (he : r.signed.2.e = 0) : r.e = 0 ∧ r.rest = numL (zz r.signed.1).toNat ++ r.signed.2.rest := by
  obtain ⟨h1, h2⟩ := num_bwd r he
  refine ⟨h1, ?_⟩
  unfold RS.signed
  simp only
  rw [zz_unzz _ r.num_lt]
  exact h2
theorem end_fwd (r : RS) (he : r.e = 0) (hk : r.ok) (hr : r.rest = []) : r.end_ = 0 := by
  unfold RS.end_
  have h : r.s.data.toList.length ≤ r.at_ := List.drop_eq_nil_iff.mp hr
  rw [Array.length_toList] at h
  rw [if_neg (by simp [he])]
  exact if_neg (Nat.not_lt.mpr h)
theorem end_bwd (r : RS) (h : r.end_ = 0) : r.e = 0 ∧ r.rest = [] := by
  unfold RS.end_ at h
  split at h
  · rename_i h2; exact absurd h h2
  · split at h
    · exact absurd h (by decide)
    · rename_i h1 h2
      refine ⟨by simpa using h1, ?_⟩
      exact List.drop_eq_nil_iff.mpr (by rw [Array.length_toList]; exact Nat.le_of_not_lt h2)
theorem str_rest (s : ByteArray) (L : List UInt8) (h : RS.rest ⟨s, 0, 0⟩ = L) : s = str L := by
  rw [← h]; exact (str_of s).symm
theorem rest_str (L : List UInt8) : RS.rest ⟨str L, 0, 0⟩ = L := by simp [RS.rest, str]

end Go.Proofs.Ythhgijjdddcchaa
