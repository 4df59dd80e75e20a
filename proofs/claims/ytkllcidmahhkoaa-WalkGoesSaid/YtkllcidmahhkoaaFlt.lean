/-
  Floats that stand for whole numbers: what sums, differences, products, comparisons and conversions of such give.
-/
import Derived.Laws.ComplexArith
namespace Go.Proofs.Ytkllcidmahhkoaa
open Ieee

abbrev D : Format := Ieee.double
theorem D_sw : D.signWeight = 9223372036854775808 := by decide +kernel
theorem D_bin : D.binade = 4503599627370496 := by decide +kernel
theorem D_inf : D.infRung = 9218868437227405312 := by decide +kernel
theorem D_least : D.leastPlace = -1074 := by decide +kernel
theorem D_frac : D.fractionBits = 52 := rfl

/-- the word x stands for the number n / 2^q -/
def Rep (q x : Nat) (n : Int) : Prop := ∃ (s : Bool) (e : Nat), D.read x = .number s (n.natAbs * 2 ^ e) (-((e + q : Nat) : Int)) ∧ (n ≠ 0 → s = decide (n < 0))

theorem read_word (s : Bool) (r : Nat) (h : r < D.infRung) (h1 : D.binade ≤ r) : D.read (D.word s r) = .number s (D.binade + r % D.binade) (D.leastPlace + ((r / D.binade - 1 : Nat) : Int)) := by
  have hr : r < 9223372036854775808 := by rw [D_inf] at h; omega
  unfold Format.read Format.word
  simp only [D_sw, D_inf, D_bin, D_least] at *
  cases s
  · have e1 : r / 9223372036854775808 = 0 := by omega
    have e2 : r % 9223372036854775808 = r := by omega
    simp [e1, e2, Nat.not_lt.2 h1, h]
  · have e1 : (9223372036854775808 + r) / 9223372036854775808 = 1 := by omega
    have e2 : (9223372036854775808 + r) % 9223372036854775808 = r := by omega
    simp [e1, e2, Nat.not_lt.2 h1, h]

theorem read_zero (s : Bool) : D.read (D.word s 0) = .number s 0 D.leastPlace := by cases s <;> decide +kernel

theorem log2_mul_pow (n e : Nat) (h : n ≠ 0) : (n * 2 ^ e).log2 = n.log2 + e := by
  have h1 := (Nat.log2_eq_iff (n := n) (k := n.log2) h).1 rfl
  rw [Nat.log2_eq_iff (by have := Nat.two_pow_pos e; exact Nat.mul_ne_zero h (by omega))]
  constructor
  · rw [Nat.pow_add]; exact Nat.mul_le_mul_right _ h1.1
  · have : n.log2 + e + 1 = (n.log2 + 1) + e := by omega
    rw [this, Nat.pow_add]; exact Nat.mul_lt_mul_of_pos_right h1.2 (Nat.two_pow_pos e)

theorem cut_exact (way : Toward) (s : Bool) (n d : Nat) : way.cut s (n * 2 ^ d) d = n := by
  unfold Toward.cut
  rcases Nat.eq_zero_or_pos n with rfl | hn
  · cases way <;> simp <;> omega
  · have hl := log2_mul_pow n d (by omega)
    have hm : min d ((n * 2 ^ d).log2 + 2) = d := by rw [hl]; omega
    simp only [hm, Nat.one_shiftLeft, Nat.mul_mod_left, Nat.mul_div_cancel _ (Nat.two_pow_pos d)]
    have : 2 ^ d ≠ 0 := by have := Nat.two_pow_pos d; omega
    cases way <;> simp

theorem rung_lt (j M : Nat) (h : M < 9007199254740992) : (1074 - j) * 4503599627370496 + M < 9218868437227405312 := by
  rcases Nat.le_total j 1074 with h1 | h1
  · obtain ⟨i, hi⟩ : ∃ i, i = 1074 - j := ⟨_, rfl⟩
    rw [← hi]; omega
  · have : 1074 - j = 0 := by omega
    rw [this]; omega

/-- the exact number, written and read -/
theorem write_read (s : Bool) (q N e : Nat) (hN : N < 9007199254740992) (hq : q ≤ 900) : ∃ e' : Nat, D.read (D.nearest s (N * 2 ^ e) (-((e + q : Nat) : Int))) = .number s (N * 2 ^ e') (-((e' + q : Nat) : Int)) := by
  rcases Nat.eq_zero_or_pos N with rfl | hp
  · refine ⟨1074 - q, ?_⟩
    simp only [Nat.zero_mul]
    have : D.nearest s 0 (-((e + q : Nat) : Int)) = D.word s 0 := by simp [Format.nearest]
    have h1 : 1074 - q + q = 1074 := by omega
    rw [this, read_zero, h1]; rfl
  · have hne : N * 2 ^ e ≠ 0 := Nat.mul_ne_zero (by omega) (by have := Nat.two_pow_pos e; omega)
    have hl := log2_mul_pow N e (by omega)
    have hk : N.log2 ≤ 52 := by
      have : N.log2 < 53 := (Nat.log2_lt (by omega)).2 hN
      omega
    have hb := (Nat.log2_eq_iff (n := N) (k := N.log2) (by omega)).1 rfl
    obtain ⟨k, hkk⟩ : ∃ k, k = N.log2 := ⟨_, rfl⟩
    rw [← hkk] at hl hk hb
    have hlast : max (-((e + q : Nat) : Int) + ((N * 2 ^ e).log2 : Nat) - (52 : Nat)) D.leastPlace = -((52 - k + q : Nat) : Int) := by
      rw [hl, D_least]; omega
    have hkle : N * 2 ^ (52 - k) < 2 ^ 53 := by
      have : 2 ^ 53 = 2 ^ (k + 1) * 2 ^ (52 - k) := by rw [← Nat.pow_add]; congr 1; omega
      rw [this]; exact Nat.mul_lt_mul_of_pos_right hb.2 (Nat.two_pow_pos _)
    have hk1 : 2 ^ 52 ≤ N * 2 ^ (52 - k) := by
      have : 2 ^ 52 = 2 ^ k * 2 ^ (52 - k) := by rw [← Nat.pow_add]; congr 1; omega
      rw [this]; exact Nat.mul_le_mul_right _ hb.1
    have key : D.nearest s (N * 2 ^ e) (-((e + q : Nat) : Int)) = D.word s ((1074 - (52 - k + q)) * D.binade + N * 2 ^ (52 - k)) := by
      unfold Format.nearest
      rw [if_neg hne]
      simp only [D_frac] at hlast ⊢
      rw [hlast]
      have hkept : Toward.even.cut s ((N * 2 ^ e) <<< (-((e + q : Nat) : Int) - -((52 - k + q : Nat) : Int)).toNat) (-((52 - k + q : Nat) : Int) - -((e + q : Nat) : Int)).toNat = N * 2 ^ (52 - k) := by
        rcases Nat.le_total e (52 - k) with h | h
        · have e1 : (-((e + q : Nat) : Int) - -((52 - k + q : Nat) : Int)).toNat = (52 - k) - e := by omega
          have e2 : (-((52 - k + q : Nat) : Int) - -((e + q : Nat) : Int)).toNat = 0 := by omega
          have : (N * 2 ^ e) <<< (52 - k - e) = N * 2 ^ (52 - k) * 2 ^ 0 := by
            rw [Nat.shiftLeft_eq, Nat.mul_assoc, ← Nat.pow_add, Nat.pow_zero, Nat.mul_one]
            congr 2; omega
          rw [e1, e2, this, cut_exact]
        · have e1 : (-((e + q : Nat) : Int) - -((52 - k + q : Nat) : Int)).toNat = 0 := by omega
          have e2 : (-((52 - k + q : Nat) : Int) - -((e + q : Nat) : Int)).toNat = e - (52 - k) := by omega
          rw [e1, e2, Nat.shiftLeft_zero]
          have : N * 2 ^ e = N * 2 ^ (52 - k) * 2 ^ (e - (52 - k)) := by
            rw [Nat.mul_assoc, ← Nat.pow_add]; congr 2; omega
          rw [this, cut_exact]
      rw [hkept]
      have e3 : (-((52 - k + q : Nat) : Int) - D.leastPlace).toNat = 1074 - (52 - k + q) := by rw [D_least]; omega
      rw [e3, Nat.min_eq_left]
      rw [D_bin, D_inf]
      exact Nat.le_of_lt (rung_lt _ _ hkle)
    refine ⟨52 - k, ?_⟩
    obtain ⟨M, hM⟩ : ∃ M, M = N * 2 ^ (52 - k) := ⟨_, rfl⟩
    rw [← hM] at key hk1 hkle ⊢
    obtain ⟨j, hj⟩ : ∃ j, j = 52 - k + q := ⟨_, rfl⟩
    have hj2 : j ≤ 1000 := by omega
    rw [← hj] at key ⊢
    rw [key, read_word]
    · rw [D_bin, D_least]
      have e1 : ((1074 - j) * 4503599627370496 + M) % 4503599627370496 = M - 4503599627370496 := by
        rw [Nat.mul_add_mod_self_right]; omega
      have e2 : ((1074 - j) * 4503599627370496 + M) / 4503599627370496 = (1074 - j) + 1 := by
        rw [Nat.add_comm, Nat.add_mul_div_right _ _ (by decide)]; omega
      have a1 : 4503599627370496 + (M - 4503599627370496) = M := Nat.add_sub_cancel' hk1
      have a2 : (-1074 : Int) + ((1074 - j + 1 - 1 : Nat) : Int) = -(j : Int) := by omega
      rw [e1, e2, a1, a2]
    · rw [D_bin, D_inf]
      exact rung_lt _ _ hkle
    · rw [D_bin]; exact Nat.le_trans hk1 (Nat.le_add_left _ _)

theorem signed_rep (s : Bool) (n : Int) (e k : Nat) (h : n ≠ 0 → s = decide (n < 0)) : signed s (n.natAbs * 2 ^ e) k = n * ((2 ^ (e + k) : Nat) : Int) := by
  unfold signed
  rw [Nat.shiftLeft_eq, Nat.mul_assoc, ← Nat.pow_add]
  by_cases hn : n = 0
  · subst hn; simp
  · have hs := h hn
    by_cases h0 : n < 0
    · rw [hs, if_pos (by simpa using h0)]
      have : n = -(n.natAbs : Int) := by omega
      rw [Int.natCast_mul]
      generalize ((2 ^ (e + k) : Nat) : Int) = q
      conv => rhs; rw [this]
      rw [Int.neg_mul]
    · rw [hs, if_neg (by simpa using h0)]
      have : n = (n.natAbs : Int) := by omega
      rw [Int.natCast_mul]
      generalize ((2 ^ (e + k) : Nat) : Int) = q
      conv => rhs; rw [this]

theorem write_rep {q : Nat} {n : Int} (hn : n.natAbs < 9007199254740992) (hq : q ≤ 900) (s : Bool) (e : Nat) (h : n ≠ 0 → s = decide (n < 0)) : Rep q (D.write (.number s (n.natAbs * 2 ^ e) (-((e + q : Nat) : Int)))) n := by
  obtain ⟨e', he⟩ := write_read s q n.natAbs e hn hq
  exact ⟨s, e', he, h⟩

theorem rep_of (n : Int) (hn : n.natAbs < 9007199254740992) : Rep 0 (floatOfInt .f64 n) n := by
  have := write_rep (q := 0) hn (by decide) (decide (n < 0)) 0 (fun _ => rfl)
  simpa [floatOfInt, FloatKind.nearest, FloatKind.encode, FloatKind.format] using this

theorem neg_sign {t : Bool} {b : Int} (ht : b ≠ 0 → t = decide (b < 0)) : -b ≠ 0 → (!t) = decide (-b < 0) := by
  intro h
  have h1 : b ≠ 0 := by omega
  rw [ht h1]
  rcases Int.lt_or_le b 0 with h0 | h0
  · have : ¬ (-b < 0) := by omega
    rw [decide_eq_true h0, decide_eq_false this]; rfl
  · have h2 : ¬ b < 0 := by omega
    have : -b < 0 := by omega
    rw [decide_eq_false h2, decide_eq_true this]; rfl

theorem mul_pos_sign {a q : Int} (hp : 0 < q) : decide (a * q < 0) = decide (a < 0) := by
  congr 1
  rw [eq_iff_iff]
  constructor
  · intro h
    rcases Int.lt_or_le a 0 with h0 | h0
    · exact h0
    · have := Int.mul_nonneg h0 (Int.le_of_lt hp); omega
  · intro h; exact Int.mul_neg_of_neg_of_pos h hp

theorem sum_rep {s t : Bool} {a b : Int} {q e f : Nat} (hq : q ≤ 900) (hs : a ≠ 0 → s = decide (a < 0)) (ht : b ≠ 0 → t = decide (b < 0)) (hab : (a + b).natAbs < 9007199254740992) :
    ∃ d, Datum.sum (.number s (a.natAbs * 2 ^ e) (-((e + q : Nat) : Int))) (.number t (b.natAbs * 2 ^ f) (-((f + q : Nat) : Int))) = some d ∧ Rep q (D.write d) (a + b) := by
  unfold Datum.sum
  refine ⟨_, rfl, ?_⟩
  have hbase : min (-((e + q : Nat) : Int)) (-((f + q : Nat) : Int)) = -((max e f + q : Nat) : Int) := by omega
  simp only [hbase]
  have e1 : (-((e + q : Nat) : Int) - -((max e f + q : Nat) : Int)).toNat = max e f - e := by omega
  have e2 : (-((f + q : Nat) : Int) - -((max e f + q : Nat) : Int)).toNat = max e f - f := by omega
  rw [e1, e2, signed_rep s a e _ hs, signed_rep t b f _ ht]
  have e3 : e + (max e f - e) = max e f := by omega
  have e4 : f + (max e f - f) = max e f := by omega
  rw [e3, e4, ← Int.add_mul]
  have hp : (0 : Int) < ((2 ^ max e f : Nat) : Int) := by exact_mod_cast Nat.two_pow_pos _
  rw [Int.natAbs_mul, Int.natAbs_natCast]
  refine write_rep hab hq _ _ fun hne => ?_
  have : ¬ (a + b) * ((2 ^ max e f : Nat) : Int) = 0 := by
    intro h; rcases Int.mul_eq_zero.1 h with h | h
    · exact hne h
    · omega
  rw [if_neg this, mul_pos_sign hp]

theorem rep_add {q x y : Nat} {a b : Int} (hx : Rep q x a) (hy : Rep q y b) (hab : (a + b).natAbs < 9007199254740992) (hq : q ≤ 900 := by decide) : ∃ z, floatBits .add .f64 x y = some z ∧ Rep q z (a + b) := by
  obtain ⟨s, e, rx, hs⟩ := hx
  obtain ⟨t, f, ry, ht⟩ := hy
  obtain ⟨d, h1, h2⟩ := sum_rep (e := e) (f := f) hq hs ht hab
  exact ⟨_, by simp only [floatBits, FloatKind.format, Format.add]; rw [show Ieee.double.read x = _ from rx, show Ieee.double.read y = _ from ry, h1]; rfl, h2⟩

theorem rep_sub {q x y : Nat} {a b : Int} (hx : Rep q x a) (hy : Rep q y b) (hab : (a - b).natAbs < 9007199254740992) (hq : q ≤ 900 := by decide) : ∃ z, floatBits .sub .f64 x y = some z ∧ Rep q z (a - b) := by
  obtain ⟨s, e, rx, hs⟩ := hx
  obtain ⟨t, f, ry, ht⟩ := hy
  obtain ⟨d, h1, h2⟩ := sum_rep (e := e) (f := f) hq hs (neg_sign ht) (by rwa [← Int.sub_eq_add_neg])
  rw [Int.natAbs_neg] at h1
  rw [← Int.sub_eq_add_neg] at h2
  exact ⟨_, by simp only [floatBits, FloatKind.format, Format.sub]; rw [show Ieee.double.read x = _ from rx, show Ieee.double.read y = _ from ry]; simp only [Datum.opposite]; rw [h1]; rfl, h2⟩

theorem sign_mul {a b : Int} (ha : a ≠ 0) (hb : b ≠ 0) : (decide (a < 0) ^^ decide (b < 0)) = decide (a * b < 0) := by
  rcases Int.lt_or_le a 0 with h0 | h0 <;> rcases Int.lt_or_le b 0 with h1 | h1
  · have : ¬ a * b < 0 := by have := Int.mul_pos_of_neg_of_neg h0 h1; omega
    simp [h0, h1, this]
  · have : a * b < 0 := Int.mul_neg_of_neg_of_pos h0 (by omega)
    have h2 : ¬ b < 0 := by omega
    simp [h0, h2, this]
  · have : a * b < 0 := Int.mul_neg_of_pos_of_neg (by omega) h1
    have h2 : ¬ a < 0 := by omega
    simp [h1, h2, this]
  · have : ¬ a * b < 0 := by have := Int.mul_nonneg h0 h1; omega
    have h2 : ¬ a < 0 := by omega
    have h3 : ¬ b < 0 := by omega
    simp [h2, h3, this]

theorem rep_mul {x y : Nat} {a b : Int} (hx : Rep 0 x a) (hy : Rep 0 y b) (hab : (a * b).natAbs < 9007199254740992) : ∃ z, floatBits .mul .f64 x y = some z ∧ Rep 0 z (a * b) := by
  obtain ⟨s, e, rx, hs⟩ := hx
  obtain ⟨t, f, ry, ht⟩ := hy
  refine ⟨_, by simp only [floatBits, FloatKind.format, Format.mul]; rw [show Ieee.double.read x = _ from rx, show Ieee.double.read y = _ from ry]; rfl, ?_⟩
  have e1 : a.natAbs * 2 ^ e * (b.natAbs * 2 ^ f) = (a * b).natAbs * 2 ^ (e + f) := by
    rw [Int.natAbs_mul, Nat.pow_add, Nat.mul_mul_mul_comm]
  have e2 : -((e + 0 : Nat) : Int) + -((f + 0 : Nat) : Int) = -((e + f + 0 : Nat) : Int) := by omega
  rw [e1, e2]
  refine write_rep hab (by decide) _ _ fun hne => ?_
  have ha : a ≠ 0 := by rintro rfl; simp at hne
  have hb : b ≠ 0 := by rintro rfl; simp at hne
  rw [hs ha, ht hb]
  exact sign_mul ha hb

theorem compare_mul {a b q : Int} (hp : 0 < q) : compare (a * q) (b * q) = compare a b := by
  simp only [compare, compareOfLessAndEq]
  have h1 : (a * q < b * q) = (a < b) := by rw [eq_iff_iff]; exact Int.mul_lt_mul_right hp
  have h2 : (a * q = b * q) = (a = b) := by rw [eq_iff_iff]; exact Int.mul_eq_mul_right_iff (by omega)
  simp only [h1, h2]

/-- a quarter against a whole number, and two of one kind -/
theorem rep_order {q x y : Nat} {a b : Int} (hx : Rep q x a) (hy : Rep 0 y b) : FloatKind.f64.format.order x y = some (compare a (b * ((2 ^ q : Nat) : Int))) := by
  obtain ⟨s, e, rx, hs⟩ := hx
  obtain ⟨t, f, ry, ht⟩ := hy
  simp only [FloatKind.format, Format.order]
  rw [show Ieee.double.read x = _ from rx, show Ieee.double.read y = _ from ry]
  unfold Datum.order
  obtain ⟨M, hM⟩ : ∃ M, M = max (e + q) f := ⟨_, rfl⟩
  have hbase : min (-((e + q : Nat) : Int)) (-((f + 0 : Nat) : Int)) = -(M : Int) := by omega
  simp only [hbase]
  have e1 : (-((e + q : Nat) : Int) - -(M : Int)).toNat = M - q - e := by omega
  have e2 : (-((f + 0 : Nat) : Int) - -(M : Int)).toNat = M - f := by omega
  rw [e1, e2, signed_rep s a e _ hs, signed_rep t b f _ ht]
  have e3 : e + (M - q - e) = M - q := by omega
  have e4 : 2 ^ (f + (M - f)) = 2 ^ q * 2 ^ (M - q) := by rw [← Nat.pow_add]; congr 1; omega
  rw [e3, e4, Int.natCast_mul, ← Int.mul_assoc]
  have hp : (0 : Int) < ((2 ^ (M - q) : Nat) : Int) := by exact_mod_cast Nat.two_pow_pos _
  rw [compare_mul hp]

theorem compare_eq_iff (a b : Int) : (some (compare a b) == some Ordering.eq) = decide (a = b) := by
  by_cases h : a = b
  · subst h; simp [compare, compareOfLessAndEq]
  · have : compare a b ≠ .eq := by
      simp only [compare, compareOfLessAndEq]; split
      · simp
      · simp
    simp [h, this]
theorem compare_lt_iff (a b : Int) : (some (compare a b) == some Ordering.lt) = decide (a < b) := by
  simp only [compare, compareOfLessAndEq]
  by_cases h : a < b
  · simp [h]
  · by_cases h2 : a = b <;> simp [h, h2]
theorem compare_gt_iff (a b : Int) : (some (compare a b) == some Ordering.gt) = decide (b < a) := by
  simp only [compare, compareOfLessAndEq]
  by_cases h : a < b
  · have : ¬ b < a := by omega
    simp [h, this]
  · by_cases h2 : a = b
    · subst h2; simp
    · have : b < a := by omega
      simp [h, h2, this]

theorem rep_eq {x y : Nat} {a b : Int} (hx : Rep 0 x a) (hy : Rep 0 y b) : (FloatKind.f64.format.order x y == some .eq) = decide (a = b) := by
  rw [rep_order hx hy, compare_eq_iff]; simp
theorem rep_eqq {q x y : Nat} {a b : Int} (hx : Rep q x a) (hy : Rep 0 y b) : (FloatKind.f64.format.order x y == some .eq) = decide (a = b * ((2 ^ q : Nat) : Int)) := by
  rw [rep_order hx hy, compare_eq_iff]

theorem rep_toInt {x : Nat} {a : Int} (hx : Rep 0 x a) (h0 : -9223372036854775808 ≤ a) (h1 : a ≤ 9223372036854775807) : floatToIntVal .f64 x .i64 = some a := by
  obtain ⟨s, e, rx, hs⟩ := hx
  unfold floatToIntVal
  simp only [FloatKind.decode, FloatKind.format]
  rw [show Ieee.double.read x = _ from rx]
  have : Datum.toInt .zero (.number s (a.natAbs * 2 ^ e) (-((e + 0 : Nat) : Int))) = some a := by
    simp only [Datum.toInt, Datum.integral]
    have e1 : (-((e + 0 : Nat) : Int)).toNat = 0 := by omega
    have e2 : (-(-((e + 0 : Nat) : Int))).toNat = e := by omega
    rw [e1, e2, Nat.shiftLeft_zero, cut_exact]
    have := signed_rep s a 0 0 hs
    simpa using this
  rw [this]
  exact if_pos ⟨h0, h1⟩

/-- a pair of words stands for a whole complex number -/
def CRep (x y : Nat) (a b : Int) : Prop := Rep 0 x a ∧ Rep 0 y b

theorem crep_mul {x y u v : Nat} {a b c d : Int} (h : CRep x y a b) (k : CRep u v c d) (h1 : (a * c).natAbs < 9007199254740992) (h2 : (b * d).natAbs < 9007199254740992) (h3 : (a * d).natAbs < 9007199254740992) (h4 : (b * c).natAbs < 9007199254740992) (h5 : (a * c - b * d).natAbs < 9007199254740992) (h6 : (a * d + b * c).natAbs < 9007199254740992) :
    ∃ p q, cMulBits x y u v = some (p, q) ∧ CRep p q (a * c - b * d) (a * d + b * c) := by
  obtain ⟨p1, e1, r1⟩ := rep_mul h.1 k.1 h1
  obtain ⟨p2, e2, r2⟩ := rep_mul h.2 k.2 h2
  obtain ⟨p3, e3, r3⟩ := rep_mul h.1 k.2 h3
  obtain ⟨p4, e4, r4⟩ := rep_mul h.2 k.1 h4
  obtain ⟨p, e5, r5⟩ := rep_sub r1 r2 h5
  obtain ⟨q, e6, r6⟩ := rep_add r3 r4 h6
  exact ⟨p, q, by simp [cMulBits, e1, e2, e3, e4, e5, e6], r5, r6⟩

theorem crep_add {x y u v : Nat} {a b c d : Int} (h : CRep x y a b) (k : CRep u v c d) (h1 : (a + c).natAbs < 9007199254740992) (h2 : (b + d).natAbs < 9007199254740992) :
    ∃ p q, cSumBits .add .f64 x y u v = some (p, q) ∧ CRep p q (a + c) (b + d) := by
  obtain ⟨p, e1, r1⟩ := rep_add h.1 k.1 h1
  obtain ⟨q, e2, r2⟩ := rep_add h.2 k.2 h2
  exact ⟨p, q, by simp [cSumBits, e1, e2], r1, r2⟩

theorem crep_sub {x y u v : Nat} {a b c d : Int} (h : CRep x y a b) (k : CRep u v c d) (h1 : (a - c).natAbs < 9007199254740992) (h2 : (b - d).natAbs < 9007199254740992) :
    ∃ p q, cSumBits .sub .f64 x y u v = some (p, q) ∧ CRep p q (a - c) (b - d) := by
  obtain ⟨p, e1, r1⟩ := rep_sub h.1 k.1 h1
  obtain ⟨q, e2, r2⟩ := rep_sub h.2 k.2 h2
  exact ⟨p, q, by simp [cSumBits, e1, e2], r1, r2⟩

theorem crep_eq {x y u v : Nat} {a b c d : Int} (h : CRep x y a b) (k : CRep u v c d) : ((FloatKind.f64.format.order x u == some .eq) && (FloatKind.f64.format.order y v == some .eq)) = decide (a = c ∧ b = d) := by
  rw [rep_eq h.1 k.1, rep_eq h.2 k.2, Bool.decide_and]

theorem read_mag {x : Nat} {s : Bool} {m : Nat} {p : Int} (h : D.read x = .number s m p) : m < 9007199254740992 := by
  unfold Format.read at h
  simp only [D_sw, D_inf, D_bin, D_least] at h
  split at h
  · cases h; omega
  · split at h
    · cases h
      have := Nat.mod_lt (x % 9223372036854775808) (show 0 < 4503599627370496 by decide)
      omega
    · split at h <;> cases h

theorem cut_zero (s : Bool) (n d : Nat) : Toward.zero.cut s n d = n / 2 ^ d := by
  unfold Toward.cut
  simp only [Nat.one_shiftLeft, Bool.toNat_false, Nat.add_zero]
  rcases Nat.le_total d (n.log2 + 2) with h | h
  · rw [Nat.min_eq_left h]
  · rw [Nat.min_eq_right h]
    have h1 : n < 2 ^ (n.log2 + 1) := by
      rcases Nat.eq_zero_or_pos n with rfl | hp
      · simp
      · exact ((Nat.log2_eq_iff (n := n) (k := n.log2) (by omega)).1 rfl).2
    have h2 : n < 2 ^ (n.log2 + 2) := Nat.lt_of_lt_of_le h1 (Nat.pow_le_pow_right (by decide) (by omega))
    have h3 : n < 2 ^ d := Nat.lt_of_lt_of_le h2 (Nat.pow_le_pow_right (by decide) h)
    rw [Nat.div_eq_of_lt h2, Nat.div_eq_of_lt h3]

theorem read_four : D.read 4616189618054758400 = .number false 4503599627370496 (-50) := by decide +kernel

/-- a quarter -/
theorem rep_quo4 {x : Nat} {a : Int} (hx : Rep 0 x a) : ∃ z, floatBits .quo .f64 x 4616189618054758400 = some z ∧ Rep 2 z a := by
  obtain ⟨s, e, rx, hs⟩ := hx
  have hm := read_mag rx
  obtain ⟨m, hme⟩ : ∃ m, m = a.natAbs * 2 ^ e := ⟨_, rfl⟩
  rw [← hme] at hm
  have hl : m.log2 ≤ 52 := by
    rcases Nat.eq_zero_or_pos m with h | h
    · rw [h]; decide
    · have : m.log2 < 53 := (Nat.log2_lt (by omega)).2 hm
      omega
  obtain ⟨j, hj⟩ : ∃ j, j + 52 = 54 + 52 - m.log2 := ⟨54 - m.log2, by omega⟩
  have ha : a.natAbs < 9007199254740992 := by
    have : a.natAbs * 1 ≤ a.natAbs * 2 ^ e := Nat.mul_le_mul_left _ (Nat.two_pow_pos e)
    omega
  have hd : Datum.quotient 54 (.number s m (-((e + 0 : Nat) : Int))) (.number false 4503599627370496 (-50)) = some (.number s (a.natAbs * 2 ^ (e + j + 1)) (-((e + j + 1 + 2 : Nat) : Int))) := by
    unfold Datum.quotient
    have hlog : (4503599627370496 : Nat).log2 = 52 := by decide +kernel
    simp only [show ¬ ((4503599627370496 : Nat) = 0) by decide, if_false, hlog, ← hj]
    have e1 : m <<< (j + 52) = (m * 2 ^ j) * 4503599627370496 := by
      rw [Nat.shiftLeft_eq, Nat.pow_add, Nat.mul_assoc]
    rw [e1, Nat.mul_mod_left, Nat.mul_div_cancel _ (by decide)]
    have e2 : 2 * (m * 2 ^ j) + ((0 : Nat) != 0).toNat = a.natAbs * 2 ^ (e + j + 1) := by
      rw [hme, Nat.pow_succ, Nat.pow_add]
      show 2 * (a.natAbs * 2 ^ e * 2 ^ j) + 0 = _
      rw [Nat.add_zero, Nat.mul_comm 2, Nat.mul_assoc, Nat.mul_assoc, Nat.mul_assoc]
    rw [e2]
    have e3 : -((e + 0 : Nat) : Int) - -50 - ((j + 52 : Nat) : Int) - 1 = -((e + j + 1 + 2 : Nat) : Int) := by omega
    rw [e3, Bool.xor_false]
  refine ⟨_, by simp only [floatBits, FloatKind.format, Format.div]; rw [show Ieee.double.read x = _ from rx, show Ieee.double.read _ = _ from read_four, ← hme, show (Ieee.double.fractionBits + 2) = 54 from rfl, hd]; rfl, ?_⟩
  exact write_rep ha (by decide) s _ hs

/-- cut towards zero -/
theorem rep_trunc {z : Nat} {a : Int} (hz : Rep 2 z a) : ∃ s m p r, FloatKind.f64.decode z = .number s m p ∧ r = FloatKind.f64.encode ((Datum.number s m p).integral .zero) ∧ Rep 0 r (a.tdiv 4) := by
  obtain ⟨s, e, rz, hs⟩ := hz
  refine ⟨_, _, _, _, rz, rfl, ?_⟩
  have hm := read_mag rz
  have ha : a.natAbs < 9007199254740992 := by
    have : a.natAbs * 1 ≤ a.natAbs * 2 ^ e := Nat.mul_le_mul_left _ (Nat.two_pow_pos e)
    omega
  simp only [Datum.integral, cut_zero]
  have e1 : (-((e + 2 : Nat) : Int)).toNat = 0 := by omega
  have e2 : (-(-((e + 2 : Nat) : Int))).toNat = e + 2 := by omega
  have e3 : a.natAbs * 2 ^ e / 2 ^ (e + 2) = a.natAbs / 4 := by
    rw [Nat.pow_add, Nat.mul_comm a.natAbs, Nat.mul_div_mul_left _ _ (Nat.two_pow_pos e)]
  rw [e1, e2, Nat.shiftLeft_zero, e3]
  have e4 : (a.tdiv 4).natAbs = a.natAbs / 4 := by rw [Int.natAbs_tdiv]; rfl
  have := write_rep (q := 0) (n := a.tdiv 4) (by rw [e4]; omega) (by decide) s 0 (fun h => by
    have h0 : a ≠ 0 := by rintro rfl; simp at h
    rw [hs h0]
    congr 1
    rw [eq_iff_iff]
    rcases Int.lt_or_le a 0 with h1 | h1
    · obtain ⟨b, rfl⟩ : ∃ b, a = -b := ⟨-a, by omega⟩
      rw [Int.neg_tdiv] at h ⊢
      have : 0 ≤ b.tdiv 4 := Int.tdiv_nonneg (by omega) (by decide)
      omega
    · have : 0 ≤ a.tdiv 4 := Int.tdiv_nonneg h1 (by decide)
      omega)
  rw [e4] at this
  simpa [FloatKind.encode, FloatKind.format] using this

/-- the sign taken off -/
theorem read_abs {x : Nat} {s : Bool} {m : Nat} {p : Int} (h : D.read x = .number s m p) : D.read (x % 9223372036854775808) = .number false m p := by
  unfold Format.read at h ⊢
  simp only [D_sw, D_inf, D_bin, D_least] at h ⊢
  have h1 : x % 9223372036854775808 / 9223372036854775808 % 2 = 0 := by omega
  have h2 : x % 9223372036854775808 % 9223372036854775808 = x % 9223372036854775808 := by omega
  rw [h1, h2]
  split at h
  · rename_i h0; cases h; rw [if_pos h0]; rfl
  · rename_i h0
    split at h
    · rename_i h3; cases h; rw [if_neg h0, if_pos h3]; rfl
    · split at h <;> cases h
theorem rep_abs {q x : Nat} {a : Int} (h : Rep q x a) : Rep q (x % 9223372036854775808) (a.natAbs : Int) := by
  obtain ⟨s, e, rx, hs⟩ := h
  exact ⟨false, e, by rw [read_abs rx]; rfl, fun _ => by simp⟩

/-- against a great number -/
theorem rep_order_pos {q x y M k : Nat} {a : Int} (hx : Rep q x a) (hy : D.read y = .number false M (k : Int)) : FloatKind.f64.format.order x y = some (compare a ((M * 2 ^ (k + q) : Nat) : Int)) := by
  obtain ⟨s, e, rx, hs⟩ := hx
  simp only [FloatKind.format, Format.order]
  rw [show Ieee.double.read x = _ from rx, show Ieee.double.read y = _ from hy]
  unfold Datum.order
  have hbase : min (-((e + q : Nat) : Int)) (k : Int) = -((e + q : Nat) : Int) := by omega
  simp only [hbase]
  have e1 : (-((e + q : Nat) : Int) - -((e + q : Nat) : Int)).toNat = 0 := by omega
  have e2 : ((k : Int) - -((e + q : Nat) : Int)).toNat = k + q + e := by omega
  rw [e1, e2, signed_rep s a e _ hs]
  have e4 : signed false M (k + q + e) = ((M * 2 ^ (k + q) : Nat) : Int) * ((2 ^ e : Nat) : Int) := by
    unfold signed
    rw [if_neg (by decide), Nat.shiftLeft_eq, Nat.pow_add 2 (k + q), ← Nat.mul_assoc, Int.natCast_mul (M * _)]
  rw [e4, Nat.add_zero]
  have hp : (0 : Int) < ((2 ^ e : Nat) : Int) := by exact_mod_cast Nat.two_pow_pos _
  rw [compare_mul hp]

theorem read_exact : D.read 4845873199050653696 = .number false 4503599627370496 ((1 : Nat) : Int) := by decide +kernel
theorem read_62 : D.read 4886405595696988160 = .number false 4503599627370496 ((10 : Nat) : Int) := by decide +kernel

/-- a number, or an infinity, that is not negative -/
def NN (x : Nat) : Prop := (∃ m p, D.read x = .number false m p) ∨ D.read x = .infinity false

theorem nearest_nn (m : Nat) (p : Int) : NN (D.nearest false m p) := by
  unfold Format.nearest
  split
  · left; exact ⟨0, D.leastPlace, read_zero false⟩
  · simp only []
    generalize hr : min _ D.infRung = r
    have h1 : r ≤ D.infRung := by rw [← hr]; exact Nat.min_le_right _ _
    rcases Nat.lt_or_ge r D.infRung with h | h
    · left
      rcases Nat.lt_or_ge r D.binade with h2 | h2
      · unfold Format.read Format.word
        simp only [D_sw, D_inf, D_bin, D_least] at *
        have e1 : r / 9223372036854775808 = 0 := by omega
        have e2 : r % 9223372036854775808 = r := by omega
        simp [e1, e2, h2]
      · exact ⟨_, _, read_word false r h h2⟩
    · right
      have : r = D.infRung := by omega
      rw [this]; decide +kernel

theorem square_nn {x : Nat} {a : Int} (h : Rep 0 x a) : ∃ z, floatBits .mul .f64 x x = some z ∧ NN z := by
  obtain ⟨s, e, rx, hs⟩ := h
  refine ⟨_, by simp only [floatBits, FloatKind.format, Format.mul]; rw [show Ieee.double.read x = _ from rx]; rfl, ?_⟩
  rw [Bool.xor_self]
  exact nearest_nn _ _

theorem add_nn {x y : Nat} (hx : NN x) (hy : NN y) : ∃ z, floatBits .add .f64 x y = some z ∧ NN z := by
  have hinf : NN (D.write (.infinity false)) := .inr (by decide +kernel)
  rcases hx with ⟨m, p, hx⟩ | hx <;> rcases hy with ⟨n, q, hy⟩ | hy
  · refine ⟨_, by simp only [floatBits, FloatKind.format, Format.add]; rw [show Ieee.double.read x = _ from hx, show Ieee.double.read y = _ from hy]; rfl, ?_⟩
    have hn : ¬ signed false m (p - min p q).toNat + signed false n (q - min p q).toNat < 0 := by
      unfold signed
      simp only [Bool.false_eq_true, if_false]
      have h1 : (0 : Int) ≤ ((m <<< (p - min p q).toNat : Nat) : Int) := Int.natCast_nonneg _
      have h2 : (0 : Int) ≤ ((n <<< (q - min p q).toNat : Nat) : Int) := Int.natCast_nonneg _
      generalize ((m <<< (p - min p q).toNat : Nat) : Int) = u at h1 ⊢
      generalize ((n <<< (q - min p q).toNat : Nat) : Int) = v at h2 ⊢
      omega
    simp only [hn, Bool.and_self, decide_false, ite_self]
    exact nearest_nn _ _
  · exact ⟨_, by simp only [floatBits, FloatKind.format, Format.add]; rw [show Ieee.double.read x = _ from hx, show Ieee.double.read y = _ from hy]; rfl, hinf⟩
  · exact ⟨_, by simp only [floatBits, FloatKind.format, Format.add]; rw [show Ieee.double.read x = _ from hx, show Ieee.double.read y = _ from hy]; rfl, hinf⟩
  · exact ⟨_, by simp only [floatBits, FloatKind.format, Format.add]; rw [show Ieee.double.read x = _ from hx, show Ieee.double.read y = _ from hy]; rfl, hinf⟩

/-- a number below 2^62 as an int64 -/
theorem nn_toInt {z : Nat} (h : NN z) (hlt : (FloatKind.f64.format.order z 4886405595696988160 == some .lt) = true) : ∃ n : Int, floatToIntVal .f64 z .i64 = some n ∧ 0 ≤ n := by
  have hlt' : FloatKind.f64.format.order z 4886405595696988160 = some .lt := by simpa using hlt
  simp only [FloatKind.format, Format.order] at hlt'
  rw [show Ieee.double.read 4886405595696988160 = _ from read_62] at hlt'
  rcases h with ⟨m, p, hz⟩ | hz
  · rw [show Ieee.double.read z = _ from hz] at hlt'
    unfold floatToIntVal
    simp only [FloatKind.decode, FloatKind.format]
    rw [show Ieee.double.read z = _ from hz]
    simp only [Datum.toInt, Datum.integral, cut_zero]
    unfold Datum.order at hlt'
    simp only [Option.some.injEq, compare, compareOfLessAndEq] at hlt'
    have hlt2 : signed false m (p - min p ((10 : Nat) : Int)).toNat < signed false 4503599627370496 (((10 : Nat) : Int) - min p ((10 : Nat) : Int)).toNat := by
      by_cases h : signed false m (p - min p ((10 : Nat) : Int)).toNat < signed false 4503599627370496 (((10 : Nat) : Int) - min p ((10 : Nat) : Int)).toNat
      · exact h
      · rw [if_neg h] at hlt'; split at hlt' <;> cases hlt'
    simp only [signed, Bool.false_eq_true, if_false, Nat.shiftLeft_eq] at hlt2
    have hlt3 : m * 2 ^ (p - min p ((10 : Nat) : Int)).toNat < 4503599627370496 * 2 ^ (((10 : Nat) : Int) - min p ((10 : Nat) : Int)).toNat := by exact_mod_cast hlt2
    have key : m <<< p.toNat / 2 ^ (-p).toNat < 4611686018427387904 := by
      rw [Nat.shiftLeft_eq]
      rw [Nat.div_lt_iff_lt_mul (Nat.two_pow_pos _)]
      rcases Int.lt_or_le p 10 with h10 | h10
      · have e1 : (p - min p ((10 : Nat) : Int)).toNat = 0 := by omega
        have e2 : (((10 : Nat) : Int) - min p ((10 : Nat) : Int)).toNat = (10 - p).toNat := by omega
        rw [e1, e2, Nat.pow_zero, Nat.mul_one] at hlt3
        rcases Int.lt_or_le p 0 with h0 | h0
        · have e3 : p.toNat = 0 := by omega
          have e4 : (10 - p).toNat = 10 + (-p).toNat := by omega
          rw [e4, Nat.pow_add, ← Nat.mul_assoc] at hlt3
          rw [e3, Nat.pow_zero, Nat.mul_one]
          exact hlt3
        · have e3 : (-p).toNat = 0 := by omega
          have e4 : 4611686018427387904 = 4503599627370496 * 2 ^ (10 - p).toNat * 2 ^ p.toNat := by
            rw [Nat.mul_assoc, ← Nat.pow_add]
            have : (10 - p).toNat + p.toNat = 10 := by omega
            rw [this]
          rw [e3, Nat.pow_zero, Nat.mul_one, e4]
          exact Nat.mul_lt_mul_of_pos_right hlt3 (Nat.two_pow_pos _)
      · have e1 : (p - min p ((10 : Nat) : Int)).toNat = p.toNat - 10 := by omega
        have e2 : (((10 : Nat) : Int) - min p ((10 : Nat) : Int)).toNat = 0 := by omega
        have e3 : (-p).toNat = 0 := by omega
        rw [e1, e2, Nat.pow_zero, Nat.mul_one] at hlt3
        have e4 : 2 ^ p.toNat = 2 ^ (p.toNat - 10) * 1024 := by
          rw [show (1024 : Nat) = 2 ^ 10 from rfl, ← Nat.pow_add]; congr 1; omega
        rw [e3, e4, ← Nat.mul_assoc, Nat.pow_zero, Nat.mul_one]
        have := Nat.mul_lt_mul_of_pos_right hlt3 (show 0 < 1024 by decide)
        omega
    obtain ⟨K, hK⟩ : ∃ K, K = m <<< p.toNat / 2 ^ (-p).toNat := ⟨_, rfl⟩
    rw [← hK] at key
    rw [← hK]
    refine ⟨(K : Int), ?_, by omega⟩
    have hs : signed false K 0 = (K : Int) := by simp [signed]
    rw [hs]
    have h1 : IntKind.i64.min ≤ (K : Int) := by have : IntKind.i64.min = -9223372036854775808 := by decide
                                                omega
    have h2 : (K : Int) ≤ IntKind.i64.max := by have : IntKind.i64.max = 9223372036854775807 := by decide
                                                omega
    exact if_pos ⟨h1, h2⟩
  · rw [show Ieee.double.read z = _ from hz] at hlt'
    simp [Datum.order] at hlt'

end Go.Proofs.Ytkllcidmahhkoaa
