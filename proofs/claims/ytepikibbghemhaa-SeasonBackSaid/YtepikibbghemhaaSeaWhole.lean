/-
  A quarter of a number, where it is whole: math.Trunc, math.Abs, season.whole.
-/
import Derived.Test.YtepikibbghemhaaSeaEq
import Derived.Laws.Externs
namespace Go.Proofs.Ytepikibbghemhaa
open Go.RowKit
set_option linter.unusedVariables false
set_option linter.unusedSimpArgs false

theorem run_archTrunc (args : Array Value) (w : World) : (callFunc 20 args).run Try.prog w = ((Extern.MathFloor.toIntegral "math.archTrunc" .zero args).run Try.prog w).andThen fun v w' => .ok (.value v) w' :=
  run_callFunc_extern Try.func20 (by kernel_rfl) (by kernel_rfl) (by kernel_rfl) (by kernel_rfl) args w
theorem run_bits64 (args : Array Value) (w : World) : (callFunc 23 args).run Try.prog w = ((Extern.MathFloatBits.float64bits args).run Try.prog w).andThen fun v w' => .ok (.value v) w' :=
  run_callFunc_extern Try.func23 (by kernel_rfl) (by kernel_rfl) (by kernel_rfl) (by kernel_rfl) args w
theorem run_frombits64 (args : Array Value) (w : World) : (callFunc 22 args).run Try.prog w = ((Extern.MathFloatBits.float64frombits args).run Try.prog w).andThen fun v w' => .ok (.value v) w' :=
  run_callFunc_extern Try.func22 (by kernel_rfl) (by kernel_rfl) (by kernel_rfl) (by kernel_rfl) args w

theorem math_trunc (z r : Nat) (w : World) (s : Bool) (m : Nat) (p : Int) (h1 : FloatKind.f64.decode z = .number s m p) (h2 : r = FloatKind.f64.encode ((Ieee.Datum.number s m p).integral .zero)) :
    Calls Try.prog 18 #[.float .f64 z] w fun e w' => e = .returned (.float .f64 r) ∧ w = w' := by
  have hx : ∀ w, (callFunc 20 #[.float .f64 z]).run Try.prog w = .ok (.value (.float .f64 r)) w := fun w => by
    rw [run_archTrunc]
    have : Extern.MathFloor.toIntegral "math.archTrunc" .zero #[.float .f64 z] = pure (.float .f64 (FloatKind.f64.encode ((Ieee.Datum.number s m p).integral .zero))) := by
      show (match FloatKind.f64.decode z with
        | .nan s t => _
        | d => _) = _
      rw [h1]
    rw [this, h2]; rfl
  clear h1 h2
  go_enter Try.func18, Try.ntmps18
  go_wp2
  go_ret
  exact ⟨rfl, rfl⟩

theorem andnot63 (x : Nat) (h : x < 18446744073709551616) : bits .andNot .u64 (x : Int) 9223372036854775808 = ((x % 9223372036854775808 : Nat) : Int) := by
  have e1 : (BitVec.ofInt 64 (x : Int)) = BitVec.ofNat 64 x := by simp
  have h1 : (BitVec.ofNat 64 x &&& ~~~ (BitVec.ofInt 64 9223372036854775808)) = BitVec.ofNat 64 (x % 9223372036854775808) := by
    apply BitVec.eq_of_toNat_eq
    have e2 : (~~~ (BitVec.ofInt 64 9223372036854775808)).toNat = 2 ^ 63 - 1 := by decide
    rw [BitVec.toNat_and, e2, Nat.and_two_pow_sub_one_eq_mod]
    simp [BitVec.toNat_ofNat]
    omega
  have : bits .andNot .u64 (x : Int) 9223372036854775808 = IntKind.u64.wrap ((BitVec.ofInt 64 (x : Int) &&& ~~~ (BitVec.ofInt 64 9223372036854775808)).toNat : Int) := rfl
  rw [this, e1, h1, BitVec.toNat_ofNat]
  simp [IntKind.wrap, IntKind.bits, IntKind.signed]
  omega

theorem math_abs (z : Nat) (w : World) (h : z < 18446744073709551616) :
    Calls Try.prog 19 #[.float .f64 z] w fun e w' => e = .returned (.float .f64 (z % 9223372036854775808)) ∧ w = w' := by
  have hx : ∀ w, (callFunc 23 #[.float .f64 z]).run Try.prog w = .ok (.value (.int .u64 (z : Int))) w := fun w => by
    rw [run_bits64]; rfl
  have hb := andnot63 z h
  obtain ⟨y, hy⟩ : ∃ y, y = z % 9223372036854775808 := ⟨_, rfl⟩
  rw [← hy] at hb
  have hf : ∀ w, (callFunc 22 #[.int .u64 (y : Int)]).run Try.prog w = .ok (.value (.float .f64 y)) w := fun w => by
    rw [run_frombits64]; rfl
  rw [← hy]
  clear h hy
  go_enter Try.func19, Try.ntmps19
  go_wp2
  go_ret
  exact ⟨rfl, rfl⟩

theorem repq_toInt {z : Nat} {a : Int} (hz : Rep 2 z a) (ha : a.natAbs ≤ 4503599627370496) : floatToIntVal .f64 z .i64 = some (a.tdiv 4) := by
  obtain ⟨s, e, rz, hs⟩ := hz
  unfold floatToIntVal
  simp only [FloatKind.decode, FloatKind.format]
  rw [show Ieee.double.read z = _ from rz]
  have e4 : (a.tdiv 4).natAbs = a.natAbs / 4 := by rw [Int.natAbs_tdiv]; rfl
  have : Ieee.Datum.toInt .zero (.number s (a.natAbs * 2 ^ e) (-((e + 2 : Nat) : Int))) = some (a.tdiv 4) := by
    simp only [Ieee.Datum.toInt, Ieee.Datum.integral, cut_zero]
    have e1 : (-((e + 2 : Nat) : Int)).toNat = 0 := by omega
    have e2 : (-(-((e + 2 : Nat) : Int))).toNat = e + 2 := by omega
    have e3 : a.natAbs * 2 ^ e / 2 ^ (e + 2) = a.natAbs / 4 := by
      rw [Nat.pow_add, Nat.mul_comm a.natAbs, Nat.mul_div_mul_left _ _ (Nat.two_pow_pos e)]
    rw [e1, e2, Nat.shiftLeft_zero, e3]
    have h0 := signed_rep s (a.tdiv 4) 0 0 (fun h => by
      have h0 : a ≠ 0 := by rintro rfl; simp at h
      rw [hs h0]
      congr 1
      rw [eq_iff_iff]
      rcases Int.lt_or_le a 0 with h1 | h1
      · obtain ⟨b, rfl⟩ : ∃ b, a = -b := ⟨-a, by omega⟩
        rw [Int.neg_tdiv] at h ⊢
        have : 0 ≤ b.tdiv 4 := Int.tdiv_nonneg (by omega) (by decide)
        omega
      · have : 0 ≤ a.tdiv 4 := Int.tdiv_nonneg h1 (by decide)
        omega)
    rw [e4] at h0
    simpa using h0
  rw [this]
  have h1 : IntKind.i64.min ≤ a.tdiv 4 := by
    have : IntKind.i64.min = -9223372036854775808 := by decide
    omega
  have h2 : a.tdiv 4 ≤ IntKind.i64.max := by
    have : IntKind.i64.max = 9223372036854775807 := by decide
    omega
  exact if_pos ⟨h1, h2⟩

set_option maxHeartbeats 1000000 in
theorem season_whole (x y : Nat) (a b : Int) (w : World) (h : CRep x y a b) (ha : a.natAbs ≤ 4503599627370496) :
    Calls Try.prog 17 #[.complex .f64 x y] w fun e w' => w = w' ∧
      ((b = 0 ∧ a % 4 = 0 ∧ e = .returned (.tuple #[.int .i64 (a.tdiv 4), .bool true])) ∨ (¬ (b = 0 ∧ a % 4 = 0) ∧ e = .returned (.tuple #[.int .i64 0, .bool false]))) := by
  obtain ⟨z, e1, rz⟩ := rep_quo4 h.1
  have hz64 : z < 18446744073709551616 := by
    have := floatBits_wf e1
    simpa [Lit.wf, FloatKind.has] using this
  obtain ⟨s, m, p, r, d1, d2, rr⟩ := rep_trunc rz
  have hq := fun w => run_float_arith (P := Try.prog) w .quo 33 .f64 _ _ _ e1
  have TR : Hid (∀ wx, Calls Try.prog 18 #[.float .f64 z] wx fun e w' => e = .returned (.float .f64 r) ∧ wx = w') := Lib.hid fun wx => math_trunc z r wx s m p d1 d2
  obtain ⟨v, hv⟩ : ∃ v, v = z % 9223372036854775808 := ⟨_, rfl⟩
  have AB : Hid (∀ wx, Calls Try.prog 19 #[.float .f64 z] wx fun e w' => e = .returned (.float .f64 v) ∧ wx = w') := Lib.hid fun wx => by rw [hv]; exact math_abs z wx hz64
  have o1 : (FloatKind.f64.format.order y 0 == some .eq) = decide (b = 0) := rep_eq h.2 rep_zero
  have o2 : (FloatKind.f64.format.order z r == some .eq) = decide (a = a.tdiv 4 * 4) := rep_eqq rz rr
  have o3 : (FloatKind.f64.format.order v 4845873199050653696 == some .gt) = false := by
    rw [hv, rep_order_pos (rep_abs rz) read_exact, compare_gt_iff]
    simp; omega
  have hcv := fun w => run_convert_float_int (P := Try.prog) w 33 2 .f64 .i64 z _ (by kernel_rfl) (by kernel_rfl) (repq_toInt rz ha)
  have hdiv : (a = a.tdiv 4 * 4) ↔ a % 4 = 0 := by
    rw [← Int.dvd_iff_emod_eq_zero]
    constructor
    · intro h; exact ⟨a.tdiv 4, by omega⟩
    · rintro ⟨k, rfl⟩; rw [Int.mul_tdiv_cancel_left _ (by decide)]; omega
  have O3 : ¬ FloatKind.f64.format.order v 4845873199050653696 = some .gt := by simpa using o3
  obtain ⟨t, ht⟩ : ∃ t, t = a.tdiv 4 := ⟨_, rfl⟩
  rw [← ht] at hcv
  clear e1 rz d1 d2 rr hv hz64
  by_cases hb : b = 0
  · have O1 : FloatKind.f64.format.order y 0 = some .eq := by simpa [hb] using o1
    by_cases h4 : a % 4 = 0
    · have O2 : FloatKind.f64.format.order z r = some .eq := by rw [decide_eq_true (hdiv.2 h4)] at o2; simpa using o2
      have H1 := Lib.hid hb
      have H2 := Lib.hid h4
      have H3 := Lib.hid ht
      clear o1 o2 hdiv hb h4 ht h ha
      go_enter Try.func17, Try.ntmps17
      go_wp2_with (first | (go_at_call 18; (with_reducible refine (TR.out _).mono ?_); rintro e w1 ⟨rfl, rfl⟩) | (go_at_call 19; (with_reducible refine (AB.out _).mono ?_); rintro e w1 ⟨rfl, rfl⟩))
      go_ret2
      exact ⟨rfl, .inl ⟨H1.out, H2.out, by rw [← H3.out]; rfl⟩⟩
    · have O2 : ¬ FloatKind.f64.format.order z r = some .eq := by
        have : ¬ a = a.tdiv 4 * 4 := fun h => h4 (hdiv.1 h)
        rw [decide_eq_false this] at o2; simpa using o2
      have H2 := Lib.hid h4
      clear o1 o2 hdiv hb h4 ht h ha
      go_enter Try.func17, Try.ntmps17
      go_wp2_with (first | (go_at_call 18; (with_reducible refine (TR.out _).mono ?_); rintro e w1 ⟨rfl, rfl⟩) | (go_at_call 19; (with_reducible refine (AB.out _).mono ?_); rintro e w1 ⟨rfl, rfl⟩))
      go_ret2
      exact ⟨rfl, .inr ⟨fun h => H2.out h.2, rfl⟩⟩
  · have O1 : ¬ FloatKind.f64.format.order y 0 = some .eq := by simpa [hb] using o1
    have H1 := Lib.hid hb
    clear o1 o2 hdiv hb ht h ha
    go_enter Try.func17, Try.ntmps17
    go_wp2_with (first | (go_at_call 18; (with_reducible refine (TR.out _).mono ?_); rintro e w1 ⟨rfl, rfl⟩) | (go_at_call 19; (with_reducible refine (AB.out _).mono ?_); rintro e w1 ⟨rfl, rfl⟩))
    go_ret2
    exact ⟨rfl, .inr ⟨fun h => H1.out h.1, rfl⟩⟩

end Go.Proofs.Ytepikibbghemhaa
