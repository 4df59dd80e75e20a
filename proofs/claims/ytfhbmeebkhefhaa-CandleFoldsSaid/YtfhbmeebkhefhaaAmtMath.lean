/-
  Sums, differences and products of numbers of 64 bits: plain arithmetic, no program.
-/
import Derived.Test.YtfhbmeebkhefhaaBase
namespace Go.Proofs.Ytfhbmeebkhefhaa
open Go.RowKit

def in64 (n : Int) : Bool := decide (-9223372036854775808 ≤ n) && decide (n ≤ 9223372036854775807)
theorem in64_iff (n : Int) : in64 n = true ↔ (-9223372036854775808 ≤ n ∧ n ≤ 9223372036854775807) := by simp [in64]
theorem in64_not (n : Int) : in64 n = false ↔ ¬ (-9223372036854775808 ≤ n ∧ n ≤ 9223372036854775807) := by rw [← in64_iff]; simp
theorem in64_wf {n : Int} (h : (Lit.int .i64 n).wf = true) : in64 n = true := by
  simp only [Lit.wf, Bool.and_eq_true, decide_eq_true_eq] at h
  rw [in64_iff]
  exact h
theorem wf_in64 {n : Int} (h : in64 n = true) : (Lit.int .i64 n).wf = true := by
  rw [in64_iff] at h
  exact WalkArith.wf_i64 h

def absI (n : Int) : Int := if n < 0 then -n else n
theorem absI_neg {n : Int} (h : n < 0) : absI n = -n := if_pos h
theorem absI_pos {n : Int} (h : ¬ n < 0) : absI n = n := if_neg h
def hi64 (x y : Int) : Int := x * y / 18446744073709551616
def lo64 (x y : Int) : Int := x * y % 18446744073709551616

/-- what does not fit is refused -/
def fits64 (n : Int) : Int := if in64 n then n else 0
def over64 (n : Int) : Int := if in64 n then 0 else 24

theorem and32 (x : Int) (h0 : 0 ≤ x) (h1 : x < 18446744073709551616) : bits .and .u64 x 4294967295 = x % 4294967296 := by
  have := bits_mask .u64 64 (by decide) (fun n h0 h1 => by simp [IntKind.wrap, IntKind.bits, IntKind.signed]; omega) 32 (by decide) x h0 (by simpa using h1)
  simpa using this

theorem u64_in (n : Int) (h0 : 0 ≤ n) (h1 : n < 18446744073709551616) : IntKind.u64.wrap n = n := by
  simp [IntKind.wrap, IntKind.bits, IntKind.signed]; omega

theorem mul_bound {a b : Int} (ha0 : 0 ≤ a) (ha : a ≤ 4294967295) (hb0 : 0 ≤ b) (hb : b ≤ 4294967295) : 0 ≤ a * b ∧ a * b ≤ 18446744065119617025 := by
  constructor
  · exact Int.mul_nonneg ha0 hb0
  · calc a * b ≤ 4294967295 * b := Int.mul_le_mul_of_nonneg_right ha hb0
      _ ≤ 4294967295 * 4294967295 := Int.mul_le_mul_of_nonneg_left hb (by decide)
      _ = 18446744065119617025 := by decide

theorem mul64_hi (a b : Int) (ha0 : 0 ≤ a) (ha : a < 18446744073709551616) (hb0 : 0 ≤ b) (hb : b < 18446744073709551616) :
    IntKind.u64.wrap ((IntKind.u64.wrap ((IntKind.u64.wrap ((a / 4294967296) * (b / 4294967296))) + ((IntKind.u64.wrap ((IntKind.u64.wrap ((a / 4294967296) * (Go.bits .and .u64 b 4294967295))) + ((IntKind.u64.wrap ((Go.bits .and .u64 a 4294967295) * (Go.bits .and .u64 b 4294967295))) / 4294967296))) / 4294967296))) + ((IntKind.u64.wrap ((Go.bits .and .u64 (IntKind.u64.wrap ((IntKind.u64.wrap ((a / 4294967296) * (Go.bits .and .u64 b 4294967295))) + ((IntKind.u64.wrap ((Go.bits .and .u64 a 4294967295) * (Go.bits .and .u64 b 4294967295))) / 4294967296))) 4294967295) + (IntKind.u64.wrap ((Go.bits .and .u64 a 4294967295) * (b / 4294967296))))) / 4294967296)) = hi64 a b := by
  rw [and32 a ha0 ha, and32 b hb0 hb]
  unfold hi64
  have h1 := mul_bound (a := a / 4294967296) (b := b / 4294967296) (by omega) (by omega) (by omega) (by omega)
  have h2 := mul_bound (a := a / 4294967296) (b := b % 4294967296) (by omega) (by omega) (by omega) (by omega)
  have h3 := mul_bound (a := a % 4294967296) (b := b / 4294967296) (by omega) (by omega) (by omega) (by omega)
  have h4 := mul_bound (a := a % 4294967296) (b := b % 4294967296) (by omega) (by omega) (by omega) (by omega)
  have e : a * b = (a / 4294967296) * (b / 4294967296) * 18446744073709551616 + ((a / 4294967296) * (b % 4294967296) + (a % 4294967296) * (b / 4294967296)) * 4294967296 + (a % 4294967296) * (b % 4294967296) := by
    have ea : a = (a / 4294967296) * 4294967296 + a % 4294967296 := by omega
    have eb : b = (b / 4294967296) * 4294967296 + b % 4294967296 := by omega
    generalize a / 4294967296 = p at *
    generalize a % 4294967296 = q at *
    generalize b / 4294967296 = r at *
    generalize b % 4294967296 = s at *
    subst ea; subst eb
    grind
  rw [e]
  generalize (a / 4294967296) * (b / 4294967296) = p at *
  generalize (a / 4294967296) * (b % 4294967296) = q at *
  generalize (a % 4294967296) * (b / 4294967296) = r at *
  generalize (a % 4294967296) * (b % 4294967296) = s at *
  rw [u64_in p (by omega) (by omega), u64_in q (by omega) (by omega), u64_in r (by omega) (by omega), u64_in s (by omega) (by omega)]
  rw [u64_in (q + s / 4294967296) (by omega) (by omega)]
  rw [and32 _ (by omega) (by omega)]
  rw [u64_in ((q + s / 4294967296) % 4294967296 + r) (by omega) (by omega)]
  rw [u64_in (p + (q + s / 4294967296) / 4294967296) (by omega) (by omega)]
  rw [u64_in _ (by omega) (by omega)]
  omega

theorem mul64_lo (a b : Int) : IntKind.u64.wrap (a * b) = lo64 a b := by
  simp [IntKind.wrap, IntKind.bits, IntKind.signed, lo64]

theorem absI_bd (a : Int) (h : in64 a = true) : 0 ≤ absI a ∧ absI a ≤ 9223372036854775808 := by
  rw [in64_iff] at h; unfold absI; split <;> omega

/-- sizes multiplied -/
theorem absI_mul (a b : Int) : absI a * absI b = absI (a * b) := by
  unfold absI
  by_cases ha : a < 0 <;> by_cases hb : b < 0
  · rw [if_pos ha, if_pos hb, if_neg (by have := Int.mul_pos_of_neg_of_neg ha hb; omega)]; grind
  · rw [if_pos ha, if_neg hb]
    by_cases h0 : b = 0
    · subst h0; simp
    · have : a * b < 0 := Int.mul_neg_of_neg_of_pos ha (by omega)
      rw [if_pos this]; grind
  · rw [if_neg ha, if_pos hb]
    by_cases h0 : a = 0
    · subst h0; simp
    · have : a * b < 0 := Int.mul_neg_of_pos_of_neg (by omega) hb
      rw [if_pos this]; grind
  · rw [if_neg ha, if_neg hb, if_neg (by have := Int.mul_nonneg (a := a) (b := b) (by omega) (by omega); omega)]

theorem hi_lo (a b : Int) : absI (a * b) = hi64 (absI a) (absI b) * 18446744073709551616 + lo64 (absI a) (absI b) ∧ 0 ≤ lo64 (absI a) (absI b) ∧ lo64 (absI a) (absI b) < 18446744073709551616 := by
  rw [← absI_mul]; unfold hi64 lo64; omega

theorem below_neg (a b : Int) (h : (a < 0) ↔ ¬ (b < 0)) : a * b ≤ 0 := by
  by_cases ha : a < 0
  · have := Int.mul_nonpos_of_nonpos_of_nonneg (a := a) (b := b) (by omega) (by have := h.mp ha; omega); exact this
  · have hb : b < 0 := by apply Classical.byContradiction; intro hb; exact ha (h.mpr hb)
    exact Int.mul_nonpos_of_nonneg_of_nonpos (by omega) (by omega)
theorem below_pos (a b : Int) (h : (a < 0) ↔ (b < 0)) : 0 ≤ a * b := by
  by_cases ha : a < 0
  · exact Int.mul_nonneg_of_nonpos_of_nonpos (by omega) (by have := h.mp ha; omega)
  · have hb : ¬ b < 0 := fun hb => ha (h.mpr hb)
    exact Int.mul_nonneg (by omega) (by omega)

/-- what Mul tells, out of the sizes' product -/
theorem mul_over (a b m : Int) (hm : m = if (a < 0) ↔ (b < 0) then 9223372036854775807 else 9223372036854775808)
    (h : ¬ hi64 (absI a) (absI b) = 0 ∨ m < lo64 (absI a) (absI b)) (ha : in64 a = true) (hb : in64 b = true) : in64 (a * b) = false := by
  obtain ⟨e, h0, h1⟩ := hi_lo a b
  have hh : 0 ≤ hi64 (absI a) (absI b) := by
    unfold hi64; exact Int.ediv_nonneg (Int.mul_nonneg (absI_bd a ha).1 (absI_bd b hb).1) (by omega)
  rw [in64_not]
  by_cases c : (a < 0) ↔ (b < 0)
  · rw [if_pos c] at hm
    have := below_pos a b c
    rw [absI_pos (by omega)] at e
    omega
  · rw [if_neg c] at hm
    have hle : a * b ≤ 0 := below_neg a b (by constructor <;> intro h <;> (apply Classical.byContradiction; intro h2; apply c; constructor <;> intro h3 <;> simp_all))
    by_cases hz : a * b < 0
    · rw [absI_neg hz] at e; omega
    · rw [absI_pos hz] at e; omega

theorem mul_fits (a b m : Int) (hm : m = if (a < 0) ↔ (b < 0) then 9223372036854775807 else 9223372036854775808)
    (h : hi64 (absI a) (absI b) = 0) (h2 : ¬ m < lo64 (absI a) (absI b)) :
    in64 (a * b) = true ∧ (((a < 0) ↔ (b < 0)) → lo64 (absI a) (absI b) = a * b) ∧ (¬ ((a < 0) ↔ (b < 0)) → lo64 (absI a) (absI b) = - (a * b)) := by
  obtain ⟨e, h0, h1⟩ := hi_lo a b
  rw [in64_iff]
  by_cases c : (a < 0) ↔ (b < 0)
  · rw [if_pos c] at hm
    have := below_pos a b c
    rw [absI_pos (by omega)] at e
    exact ⟨by omega, fun _ => by omega, fun h => absurd c h⟩
  · rw [if_neg c] at hm
    have hle : a * b ≤ 0 := below_neg a b (by constructor <;> intro h <;> (apply Classical.byContradiction; intro h2; apply c; constructor <;> intro h3 <;> simp_all))
    by_cases hz : a * b < 0
    · rw [absI_neg hz] at e; exact ⟨by omega, fun h => absurd h c, fun _ => by omega⟩
    · rw [absI_pos hz] at e; exact ⟨by omega, fun h => absurd h c, fun _ => by omega⟩

end Go.Proofs.Ytfhbmeebkhefhaa
