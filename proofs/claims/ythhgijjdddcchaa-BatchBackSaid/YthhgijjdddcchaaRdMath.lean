/-
  A reader's steps: what the document says, as plain functions.
-/
import Derived.Test.YthhgijjdddcchaaVarFun
namespace Go.Proofs.Ythhgijjdddcchaa
open Go.RowKit
set_option linter.unusedVariables false

/-- a reader: its text, how much was taken, its error -/
structure RS where
  s : ByteArray
  at_ : Nat
  e : Int

/-- so many bytes -/
def RS.take (r : RS) (n : Int) : ByteArray × RS :=
  if ¬ r.e = 0 then (str [], r)
  else if n < 0 ∨ (r.s.size : Int) - r.at_ < n then (str [], ⟨r.s, r.at_, 3⟩)
  else (r.s.extract r.at_ (r.at_ + n.toNat), ⟨r.s, r.at_ + n.toNat, 0⟩)

def RS.fail (r : RS) (e : Int) : RS := if r.e = 0 then ⟨r.s, r.at_, e⟩ else r

/-- the number that begins a row of bytes: it, how many bytes it has, the error -/
def scanL : List UInt8 → Nat → Nat → Nat × Nat × Int
  | [], _, _ => (0, 0, 3)
  | c :: r, i, n =>
    if i = 9 ∧ 1 < c.toNat then (0, 0, 8)
    else if 128 ≤ c.toNat then scanL r (i + 1) (n + c.toNat % 128 * 128 ^ i)
    else if c.toNat = 0 ∧ 0 < i then (0, 0, 4)
    else (n + c.toNat % 128 * 128 ^ i, i + 1, 0)

def RS.rest (r : RS) : List UInt8 := r.s.data.toList.drop r.at_
def RS.num (r : RS) : Nat × RS :=
  if ¬ r.e = 0 then (0, r)
  else if (scanL r.rest 0 0).2.2 = 0 then ((scanL r.rest 0 0).1, ⟨r.s, r.at_ + (scanL r.rest 0 0).2.1, 0⟩)
  else (0, ⟨r.s, r.at_, (scanL r.rest 0 0).2.2⟩)

def unzz (n : Nat) : Int := if n % 2 = 1 then -((n / 2 : Nat) : Int) - 1 else ((n / 2 : Nat) : Int)
def RS.signed (r : RS) : Int × RS := (unzz r.num.1, r.num.2)
def RS.text (r : RS) (most : Int) : ByteArray × RS :=
  if max most 0 < (r.num.1 : Int) then (str [], r.num.2.fail 5) else r.num.2.take (r.num.1 : Int)

/-- a number of bytes, the lowest first -/
def leN : List UInt8 → Nat
  | [] => 0
  | c :: r => c.toNat + 256 * leN r
def RS.little (r : RS) (k : Nat) : Nat × RS := (leN (r.take k).1.data.toList, (r.take k).2)
def RS.end_ (r : RS) : Int := if ¬ r.e = 0 then r.e else if r.at_ < r.s.size then 4 else 0
def RS.ok (r : RS) : Prop := r.at_ ≤ r.s.size

theorem scanL_len : ∀ (l : List UInt8) (i n : Nat), (scanL l i n).2.1 ≤ i + l.length
  | [], i, n => by simp [scanL]
  | c :: r, i, n => by
    rw [scanL]
    have h := scanL_len r (i + 1) (n + c.toNat % 128 * 128 ^ i)
    split
    · simp
    · split
      · simp; omega
      · split
        · simp
        · simp only [List.length_cons]; omega
theorem scanL_bound : ∀ (l : List UInt8) (i n : Nat), i ≤ 9 → n < 128 ^ i → (scanL l i n).1 < 18446744073709551616
  | [], i, n, _, _ => by simp [scanL]
  | c :: r, i, n, hi, hn => by
    rw [scanL]
    by_cases h1 : i = 9 ∧ 1 < c.toNat
    · rw [if_pos h1]; simp
    · rw [if_neg h1]
      by_cases h2 : 128 ≤ c.toNat
      · rw [if_pos h2]
        have h9 : i < 9 := by
          rcases Nat.lt_or_ge i 9 with h | h
          · exact h
          · exact absurd ⟨by omega, by omega⟩ h1
        refine scanL_bound r (i + 1) _ (by omega) ?_
        have h3 : c.toNat % 128 * 128 ^ i ≤ 127 * 128 ^ i := Nat.mul_le_mul_right _ (by omega)
        rw [Nat.pow_succ]; omega
      · rw [if_neg h2]
        by_cases h4 : c.toNat = 0 ∧ 0 < i
        · rw [if_pos h4]; simp
        · rw [if_neg h4]
          show n + c.toNat % 128 * 128 ^ i < 18446744073709551616
          by_cases h9 : i = 9
          · subst h9
            have : c.toNat ≤ 1 := by
              rcases Nat.lt_or_ge 1 c.toNat with h | h
              · exact absurd ⟨rfl, h⟩ h1
              · exact h
            have h3 : c.toNat % 128 * 128 ^ 9 ≤ 1 * 128 ^ 9 := Nat.mul_le_mul_right _ (by omega)
            have e : (128 : Nat) ^ 9 = 9223372036854775808 := by decide
            omega
          · have h3 : c.toNat % 128 * 128 ^ i ≤ 127 * 128 ^ i := Nat.mul_le_mul_right _ (by omega)
            have h5 : 128 ^ (i + 1) ≤ 128 ^ 9 := Nat.pow_le_pow_right (by omega) (by omega)
            rw [Nat.pow_succ] at h5
            have e : (128 : Nat) ^ 9 = 9223372036854775808 := by decide
            omega
theorem RS.num_lt (r : RS) : r.num.1 < 18446744073709551616 := by
  unfold RS.num
  split
  · simp
  · split
    · exact scanL_bound _ 0 0 (by omega) (by decide)
    · simp
theorem RS.num_ok (r : RS) (h : r.ok) : r.num.2.ok := by
  unfold RS.num RS.ok at *
  split
  · exact h
  · split
    · have := scanL_len r.rest 0 0
      simp only [RS.rest, List.length_drop, Array.length_toList] at this
      have e : r.s.data.size = r.s.size := rfl
      simp only [RS.rest]
      omega
    · exact h
theorem RS.take_ok (r : RS) (n : Int) (h : r.ok) : (r.take n).2.ok := by
  unfold RS.take RS.ok at *
  split
  · exact h
  · split
    · exact h
    · simp only; omega
theorem RS.fail_ok (r : RS) (e : Int) (h : r.ok) : (r.fail e).ok := by
  unfold RS.fail RS.ok at *; split <;> exact h
theorem RS.text_ok (r : RS) (m : Int) (h : r.ok) : (r.text m).2.ok := by
  unfold RS.text; split
  · exact RS.fail_ok _ _ (RS.num_ok _ h)
  · exact RS.take_ok _ _ (RS.num_ok _ h)
theorem RS.num_s (r : RS) : r.num.2.s = r.s := by
  unfold RS.num; split
  · rfl
  · split <;> rfl
theorem RS.take_s (r : RS) (n : Int) : (r.take n).2.s = r.s := by
  unfold RS.take; split
  · rfl
  · split <;> rfl
theorem RS.fail_s (r : RS) (e : Int) : (r.fail e).s = r.s := by unfold RS.fail; split <;> rfl
theorem RS.text_s (r : RS) (m : Int) : (r.text m).2.s = r.s := by
  unfold RS.text; split
  · rw [RS.fail_s, RS.num_s]
  · rw [RS.take_s, RS.num_s]

end Go.Proofs.Ythhgijjdddcchaa
