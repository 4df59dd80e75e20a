/-
  Mask, Unmask, Whole by contract.
-/
import Derived.Test.YtligilfbhigdcaaCrcRef
namespace Go.Proofs.Ytligilfbhigdcaa
open Go.RowKit
set_option linter.unusedVariables false
set_option linter.unusedSimpArgs false

theorem ret1' {k : IntKind} {a b : Int} (h : a = b) : Ending.returned (.int k a) = .returned (.int k b) := by rw [h]

def maskI (n : Int) : Int := (n / 32768 + n % 32768 * 131072 + 2726488792) % 4294967296
def unmaskI (m : Int) : Int := (m - 2726488792) % 4294967296 / 131072 + (m - 2726488792) % 4294967296 % 131072 * 32768
theorem maskI_bd (n : Int) : 0 ≤ maskI n ∧ maskI n < 4294967296 := by unfold maskI; omega
theorem unmaskI_bd (n : Int) : 0 ≤ unmaskI n ∧ unmaskI n < 4294967296 := by unfold unmaskI; omega
theorem unmask_mask (n : Int) (h0 : 0 ≤ n) (h1 : n < 4294967296) : unmaskI (maskI n) = n := by
  obtain ⟨p, hp⟩ : ∃ p, p = n / 32768 := ⟨_, rfl⟩
  obtain ⟨q, hq⟩ : ∃ q, q = n % 32768 := ⟨_, rfl⟩
  have hn : n = p * 32768 + q := by omega
  have hp0 : 0 ≤ p ∧ p < 131072 := by omega
  have hq0 : 0 ≤ q ∧ q < 32768 := by omega
  have e : (maskI n - 2726488792) % 4294967296 = p + q * 131072 := by unfold maskI; rw [← hp, ← hq]; omega
  unfold unmaskI
  rw [e]
  have e1 : (p + q * 131072) / 131072 = q := by omega
  have e2 : (p + q * 131072) % 131072 = p := by omega
  rw [e1, e2, hn]; omega
theorem mask_unmask (n : Int) (h0 : 0 ≤ n) (h1 : n < 4294967296) : maskI (unmaskI n) = n := by
  obtain ⟨k, hk⟩ : ∃ k, k = (n - 2726488792) % 4294967296 := ⟨_, rfl⟩
  obtain ⟨p, hp⟩ : ∃ p, p = k / 131072 := ⟨_, rfl⟩
  obtain ⟨q, hq⟩ : ∃ q, q = k % 131072 := ⟨_, rfl⟩
  have hp0 : 0 ≤ p ∧ p < 32768 := by omega
  have hq0 : 0 ≤ q ∧ q < 131072 := by omega
  unfold unmaskI
  rw [← hk, ← hp, ← hq]
  unfold maskI
  have e1 : (p + q * 32768) / 32768 = q := by omega
  have e2 : (p + q * 32768) % 32768 = p := by omega
  rw [e1, e2]; omega

theorem or32 (i : Nat) (x y : Int) (hx0 : 0 ≤ x) (hx : x % 2 ^ i = 0) (hx1 : x < 4294967296) (hy0 : 0 ≤ y) (hy : y < 2 ^ i) (hy1 : y < 4294967296) : Go.bits .or .u32 x y = x + y :=
  bits_join .u32 32 (by decide) (fun n h0 h1 => by rw [IntKind.wrap_u32]; omega) i x y hx0 hx (by simpa using hx1) hy0 hy (by simpa using hy1)
theorem or32' (i : Nat) (x y : Int) (hx0 : 0 ≤ x) (hx : x % 2 ^ i = 0) (hx1 : x < 4294967296) (hy0 : 0 ≤ y) (hy : y < 2 ^ i) (hy1 : y < 4294967296) : Go.bits .or .u32 y x = x + y := by
  have h : Go.bits .or .u32 y x = Go.bits .or .u32 x y := by
    have h0 : ∀ a b : Int, Go.bits .or .u32 a b = Go.IntKind.u32.wrap ((BitVec.ofInt 32 a ||| BitVec.ofInt 32 b : BitVec 32).toNat : Int) := fun _ _ => rfl
    rw [h0, h0, BitVec.or_comm]
  rw [h, or32 i x y hx0 hx hx1 hy0 hy hy1]

set_option maxHeartbeats 1000000 in
theorem crc_mask (n : Int) (w : World) (h0 : 0 ≤ n) (h1 : n < 4294967296) :
    Calls Try.prog 15 #[.int .u32 n] w fun e w' => e = .returned (.int .u32 (maskI n)) ∧ Drew w w' := by
  go_enter Try.func15, Try.ntmps15
  go_wp2
  go_ret
  refine ⟨ret1' ?_, by repeat (first | exact Drew.refl _ | apply Drew.step)⟩
  have e : n * 131072 % 4294967296 = n % 32768 * 131072 := by omega
  rw [e, or32' 17 (n % 32768 * 131072) (n / 32768) (by omega) (by first | (simp; done) | (simp; omega)) (by omega) (by omega) (by simp; omega) (by omega)]
  unfold maskI; rw [Int.add_comm (n % 32768 * 131072)]

set_option maxHeartbeats 1000000 in
theorem crc_unmask (n : Int) (w : World) (h0 : 0 ≤ n) (h1 : n < 4294967296) :
    Calls Try.prog 16 #[.int .u32 n] w fun e w' => e = .returned (.int .u32 (unmaskI n)) ∧ Drew w w' := by
  go_enter Try.func16, Try.ntmps16
  go_wp2
  go_ret
  refine ⟨ret1' ?_, by repeat (first | exact Drew.refl _ | apply Drew.step)⟩
  unfold unmaskI
  have hk0 : 0 ≤ (n - 2726488792) % 4294967296 := by omega
  have hk1 : (n - 2726488792) % 4294967296 < 4294967296 := by omega
  generalize (n - 2726488792) % 4294967296 = k at *
  have e : k * 32768 % 4294967296 = k % 131072 * 32768 := by omega
  rw [e, or32' 15 (k % 131072 * 32768) (k / 131072) (by omega) (by first | (simp; done) | (simp; omega)) (by omega) (by omega) (by simp; omega) (by omega), Int.add_comm]

set_option maxHeartbeats 1000000 in
theorem ref_mask (n : Int) (w : World) (h0 : 0 ≤ n) (h1 : n < 4294967296) :
    Calls Try.prog 14 #[.int .u32 n] w fun e w' => e = .returned (.int .u32 (maskI n)) ∧ Drew w w' := by
  go_enter Try.func14, Try.ntmps14
  go_wp2
  go_ret
  refine ⟨ret1' ?_, by repeat (first | exact Drew.refl _ | apply Drew.step)⟩
  rfl

set_option maxHeartbeats 1000000 in
theorem crc_whole (s : ByteArray) (m : Int) (w : World) (hs : s.size ≤ 140737488351232) (h0 : 0 ≤ m) (h1 : m < 4294967296) :
    Calls Try.prog 17 #[.string s, .int .u32 m] w fun e w' => e = .returned (.bool (maskI ((crcFrom 0#32 (bytesOf s)).toNat : Int) == m)) ∧ Below w.heap.size w w' := by
  obtain ⟨t, ht⟩ : ∃ t, t = (((crcFrom 0#32 (bytesOf s)).toNat : Nat) : Int) := ⟨_, rfl⟩
  have hb : 0 ≤ t ∧ t < 4294967296 := by have := (crcFrom 0#32 (bytesOf s)).isLt; omega
  rw [← ht]
  have HT := Lib.hid ht
  have HB := Lib.hid hb
  clear ht hb
  go_enter Try.func17, Try.ntmps17
  go_wp2_with (first | (go_at_call 12; refine (crc_of _ _ hs).mono ?_; rw [← HT.out]; rintro e w' ⟨rfl, hB⟩) | (go_at_call 15; refine (crc_mask t _ HB.out.1 HB.out.2).mono ?_; rintro e w' ⟨rfl, ⟨nd, rfl⟩⟩))
  go_ret
  exact ⟨rfl, hB.trans (by exact ((Drew.refl _).step _).below.mono hB.size)⟩

theorem wf_u32 {n : Int} (h : (Lit.int .u32 n).wf = true) : 0 ≤ n ∧ n < 4294967296 := by
  simp only [Lit.wf, Bool.and_eq_true, decide_eq_true_eq] at h
  have e : IntKind.u32.max = 4294967295 := by decide
  have e2 : IntKind.u32.min = 0 := by decide
  omega

end Go.Proofs.Ytligilfbhigdcaa
