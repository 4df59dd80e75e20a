/-
  The walk of VarintWrites: any numbers and texts as bytes.
-/
import Derived.Test.YtomhjbbggegfdaaVarAwake
import Derived.Test.YtomhjbbggegfdaaVarRef
namespace Go.Proofs.Ytomhjbbggegfdaa
open Go.RowKit
set_option linter.unusedVariables false
set_option linter.unusedSimpArgs false

theorem wf_u64 {n : Int} (h : (Lit.int .u64 n).wf = true) : 0 ≤ n ∧ n < 18446744073709551616 := by
  simp only [Lit.wf, Bool.and_eq_true, decide_eq_true_eq] at h
  have e : IntKind.u64.max = 18446744073709551615 := by decide
  have e2 : IntKind.u64.min = 0 := by decide
  omega
theorem wf_i64' {n : Int} (h : (Lit.int .i64 n).wf = true) : -9223372036854775808 ≤ n ∧ n ≤ 9223372036854775807 := by
  simp only [Lit.wf, Bool.and_eq_true, decide_eq_true_eq] at h
  exact h

set_option maxHeartbeats 2000000 in
theorem VarintWrites_walk (n : Int) (s : ByteArray) (w : World) (wn : (Lit.int .u64 n).wf = true) (ws : s.size ≤ 140737488351232) :
    Calls Try.prog 4 #[.int .u64 n, .string s] w fun e w' => e = .returned (.bool true) ∧ Below w.heap.size w w' := by
  obtain ⟨n0, n1⟩ := wf_u64 wn
  clear wn
  by_cases hlong : 3000 < s.size
  · go_enter Try.func4, Try.ntmps4
    go_wp2_with (go_at_call 8; refine (awake03 _).mono ?_; rintro e w1 ⟨rfl, hB⟩)
    go_ret
    exact ⟨rfl, hB⟩
  · obtain ⟨m, hm⟩ : ∃ m, wrap64 n = m := ⟨_, rfl⟩
    have hm0 : -9223372036854775808 ≤ m ∧ m ≤ 9223372036854775807 := by rw [← hm]; unfold wrap64; omega
    obtain ⟨m0, m1⟩ := hm0
    have N : Hid (∀ wx, Below w.heap.size w wx → Calls Try.prog 9 #[.int .u64 n] wx fun e w' => e = .returned (.string (str (numL n.toNat))) ∧ Below w.heap.size w w') := Lib.hid fun wx hB => (varint_num n wx n0 n1).mono fun _ _ ⟨h1, h2⟩ => ⟨h1, below_at hB h2⟩
    have RN : Hid (∀ wx, Below w.heap.size w wx → Calls Try.prog 12 #[.int .u64 n] wx fun e w' => e = .returned (.string (str (numL n.toNat))) ∧ Below w.heap.size w w') := Lib.hid fun wx hB => (ref_num n wx n0 n1).mono fun _ _ ⟨h1, h2⟩ => ⟨h1, below_at hB h2⟩
    have S : Hid (∀ wx, Below w.heap.size w wx → Calls Try.prog 11 #[.int .i64 m] wx fun e w' => e = .returned (.string (str (numL (zz m).toNat))) ∧ Below w.heap.size w w') := Lib.hid fun wx hB => (varint_signed m wx m0 m1).mono fun _ _ ⟨h1, h2⟩ => ⟨h1, below_at hB h2⟩
    have RS_ : Hid (∀ wx, Below w.heap.size w wx → Calls Try.prog 13 #[.int .i64 m] wx fun e w' => e = .returned (.string (str (numL (zz m).toNat))) ∧ Below w.heap.size w w') := Lib.hid fun wx hB => (ref_signed m wx m0 m1).mono fun _ _ ⟨h1, h2⟩ => ⟨h1, below_at hB h2⟩
    have T : Hid (∀ wx, Below w.heap.size w wx → Calls Try.prog 14 #[.string s] wx fun e w' => e = .returned (.string (str (numL s.size) ++ s)) ∧ Below w.heap.size w w') := Lib.hid fun wx hB => (varint_text s wx ws).mono fun _ _ ⟨h1, h2⟩ => ⟨h1, below_at hB h2⟩
    have RT : Hid (∀ wx, Below w.heap.size w wx → Calls Try.prog 15 #[.string s] wx fun e w' => e = .returned (.string (str (numL s.size) ++ s)) ∧ Below w.heap.size w w') := Lib.hid fun wx hB => (ref_text s wx ws).mono fun _ _ ⟨h1, h2⟩ => ⟨h1, below_at hB h2⟩
    have F : Hid (∀ wx, Below w.heap.size w wx → Calls Try.prog 16 #[.int .u32 (n % 4294967296)] wx fun e w' => e = .returned (.string (str (leL 4 (n % 4294967296).toNat))) ∧ Below w.heap.size w w') := Lib.hid fun wx hB => (varint_fixed (n % 4294967296) wx (by omega) (by omega)).mono fun _ _ ⟨h1, h2⟩ => ⟨h1, below_at hB h2⟩
    have RF : Hid (∀ wx, Below w.heap.size w wx → Calls Try.prog 17 #[.int .u64 (n % 4294967296), .int .i64 4] wx fun e w' => e = .returned (.string (str (leL 4 (n % 4294967296).toNat))) ∧ Below w.heap.size w w') := Lib.hid fun wx hB => (ref_little (n % 4294967296) 4 wx (by omega) (by omega) (by omega)).mono fun _ _ ⟨h1, h2⟩ => ⟨h1, below_at hB h2⟩
    have W : Hid (∀ wx, Below w.heap.size w wx → Calls Try.prog 18 #[.int .u64 n] wx fun e w' => e = .returned (.string (str (leL 8 n.toNat))) ∧ Below w.heap.size w w') := Lib.hid fun wx hB => (varint_wide n wx n0 n1).mono fun _ _ ⟨h1, h2⟩ => ⟨h1, below_at hB h2⟩
    have RW : Hid (∀ wx, Below w.heap.size w wx → Calls Try.prog 17 #[.int .u64 n, .int .i64 8] wx fun e w' => e = .returned (.string (str (leL 8 n.toNat))) ∧ Below w.heap.size w w') := Lib.hid fun wx hB => (ref_little n 8 wx n0 n1 (by omega)).mono fun _ _ ⟨h1, h2⟩ => ⟨h1, below_at hB h2⟩
    have L : Hid (∀ wx, Below w.heap.size w wx → Calls Try.prog 10 #[.int .u64 n] wx fun e w' => e = .returned (.int .i64 ((numL n.toNat).length : Int)) ∧ Below w.heap.size w w') := Lib.hid fun wx hB => (varint_len n wx n0 n1).mono fun _ _ ⟨h1, h2⟩ => ⟨h1, below_at hB h2⟩
    have hl : ((str (numL n.toNat)).size : Int) = ((numL n.toNat).length : Int) := by rw [str_size]
    go_enter Try.func4, Try.ntmps4
    go_wp2_with (first | (go_at_call 8; refine (awake03 _).mono ?_; rintro e w1 ⟨rfl, hB1⟩) | (go_at_call 9; (with_reducible refine (N.out _ (by assumption)).mono ?_); rintro e w2 ⟨rfl, hBx⟩) | (go_at_call 12; (with_reducible refine (RN.out _ (by assumption)).mono ?_); rintro e w2 ⟨rfl, hBx⟩) | (go_at_call 11; (with_reducible refine (S.out _ (by assumption)).mono ?_); rintro e w2 ⟨rfl, hBx⟩) | (go_at_call 13; (with_reducible refine (RS_.out _ (by assumption)).mono ?_); rintro e w2 ⟨rfl, hBx⟩) | (go_at_call 14; (with_reducible refine (T.out _ (by assumption)).mono ?_); rintro e w2 ⟨rfl, hBx⟩) | (go_at_call 15; (with_reducible refine (RT.out _ (by assumption)).mono ?_); rintro e w2 ⟨rfl, hBx⟩) | (go_at_call 16; (with_reducible refine (F.out _ (by assumption)).mono ?_); rintro e w2 ⟨rfl, hBx⟩) | (go_at_call 17; (with_reducible refine (RF.out _ (by assumption)).mono ?_); rintro e w2 ⟨rfl, hBx⟩) | (go_at_call 18; (with_reducible refine (W.out _ (by assumption)).mono ?_); rintro e w2 ⟨rfl, hBx⟩) | (go_at_call 17; (with_reducible refine (RW.out _ (by assumption)).mono ?_); rintro e w2 ⟨rfl, hBx⟩) | (go_at_call 10; (with_reducible refine (L.out _ (by assumption)).mono ?_); rintro e w2 ⟨rfl, hBx⟩))
    go_ret
    exact ⟨rfl, by assumption⟩

end Go.Proofs.Ytomhjbbggegfdaa
