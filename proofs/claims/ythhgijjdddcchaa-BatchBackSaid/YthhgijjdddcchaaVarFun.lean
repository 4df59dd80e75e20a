/-
  varint's writers by contract.
-/
import Derived.Test.YthhgijjdddcchaaVarNum
namespace Go.Proofs.Ythhgijjdddcchaa
open Go.RowKit
set_option linter.unusedVariables false
set_option linter.unusedSimpArgs false

def zz (n : Int) : Int := if n < 0 then -2 * n - 1 else 2 * n
theorem str_append (a b : List UInt8) : str a ++ str b = str (a ++ b) := by
  apply ByteArray.ext
  simp [str]

theorem ret1' {k : IntKind} {a b : Int} (h : a = b) : Ending.returned (.int k a) = .returned (.int k b) := by rw [h]
theorem rets {a b : ByteArray} (h : a = b) : Ending.returned (.string a) = .returned (.string b) := by rw [h]
theorem wrap_u64 (n : Int) : IntKind.u64.wrap n = n % 18446744073709551616 := by simp [IntKind.wrap, IntKind.bits, IntKind.signed]

theorem bits_xor64 (a b : BitVec 64) : Go.bits .xor .u64 (a.toNat : Int) (b.toNat : Int) = ((a ^^^ b).toNat : Int) := by
  have h0 : Go.bits .xor .u64 (a.toNat : Int) (b.toNat : Int) = Go.IntKind.u64.wrap (((BitVec.ofInt 64 (a.toNat : Int)) ^^^ (BitVec.ofInt 64 (b.toNat : Int)) : BitVec 64).toNat : Int) := rfl
  have h1 : BitVec.ofInt 64 (a.toNat : Int) = a := by simp
  have h2 : BitVec.ofInt 64 (b.toNat : Int) = b := by simp
  have h3 : (a ^^^ b).toNat < 18446744073709551616 := (a ^^^ b).isLt
  rw [h0, h1, h2, wrap_u64]
  omega
theorem u64_bv (x : Int) (h0 : 0 ≤ x) (h1 : x < 18446744073709551616) : x = (((BitVec.ofNat 64 x.toNat).toNat : Nat) : Int) := by
  rw [BitVec.toNat_ofNat]; omega
theorem xor64_zero (x : Int) (h0 : 0 ≤ x) (h1 : x < 18446744073709551616) : Go.bits .xor .u64 x 0 = x := by
  rw [u64_bv x h0 h1]
  have h := bits_xor64 (BitVec.ofNat 64 x.toNat) 0#64
  simp only [BitVec.xor_zero] at h
  exact h
theorem xor64_ones (x : Int) (h0 : 0 ≤ x) (h1 : x < 18446744073709551616) : Go.bits .xor .u64 x 18446744073709551615 = 18446744073709551615 - x := by
  rw [u64_bv x h0 h1]
  have h := bits_xor64 (BitVec.ofNat 64 x.toNat) (18446744073709551615#64)
  have e : (18446744073709551615#64) = BitVec.allOnes 64 := by decide
  rw [e, BitVec.xor_allOnes, BitVec.toNat_not] at h
  have e2 : (((BitVec.allOnes 64).toNat : Nat) : Int) = 18446744073709551615 := by decide
  rw [e2] at h
  rw [h]
  have := (BitVec.ofNat 64 x.toNat).isLt
  omega

theorem zz_words (n : Int) (h0 : -9223372036854775808 ≤ n) (h1 : n ≤ 9223372036854775807) :
    Go.bits .xor .u64 (IntKind.u64.wrap (IntKind.u64.wrap n * 2)) (IntKind.u64.wrap (n / 9223372036854775808)) = zz n := by
  unfold zz
  by_cases h : n < 0
  · have e1 : n / 9223372036854775808 = -1 := by omega
    have e2 : IntKind.u64.wrap (-1) = 18446744073709551615 := by decide
    have e3 : IntKind.u64.wrap (IntKind.u64.wrap n * 2) = 2 * n + 18446744073709551616 := by rw [wrap_u64, wrap_u64]; omega
    rw [e1, e2, e3, xor64_ones _ (by omega) (by omega), if_pos h]; omega
  · have e1 : n / 9223372036854775808 = 0 := by omega
    have e2 : IntKind.u64.wrap 0 = 0 := by decide
    have e3 : IntKind.u64.wrap (IntKind.u64.wrap n * 2) = 2 * n := by rw [wrap_u64, wrap_u64]; omega
    rw [e1, e2, e3, xor64_zero _ (by omega) (by omega), if_neg h]
theorem zz_bd (n : Int) (h0 : -9223372036854775808 ≤ n) (h1 : n ≤ 9223372036854775807) : 0 ≤ zz n ∧ zz n < 18446744073709551616 := by unfold zz; split <;> omega

set_option maxHeartbeats 1000000 in
theorem varint_text (s : ByteArray) (w : World) (hs : s.size ≤ 140737488351232) :
    Calls Try.prog 14 #[.string s] w fun e w' => e = .returned (.string (str (numL s.size) ++ s)) ∧ Below w.heap.size w w' := by
  have hz : (str (numL s.size)).size ≤ 10 := by rw [str_size]; exact numL_len64 _ (by omega)
  go_enter Try.func14, Try.ntmps14
  go_wp2_with (go_at_call 13; refine (varint_num ((s.size : Nat) : Int) _ (by omega) (by omega)).mono ?_; rintro e w1 ⟨rfl, hB⟩)
  go_ret
  exact ⟨rfl, hB⟩

/-- so many bytes of a number, the lowest first -/
def leL : Nat → Nat → List UInt8
  | 0, _ => []
  | k + 1, n => UInt8.ofNat (n % 256) :: leL k (n / 256)
theorem leL_length : ∀ (k n : Nat), (leL k n).length = k
  | 0, _ => rfl
  | k + 1, n => by simp [leL, leL_length k]
theorem leL_get : ∀ (k n i : Nat), i < k → (leL k n).getD i 0 = UInt8.ofNat (n / 256 ^ i % 256)
  | k + 1, n, 0, _ => by simp [leL]
  | k + 1, n, i + 1, h => by
    have h2 := leL_get k (n / 256) i (by omega)
    rw [Nat.div_div_eq_div_mul, ← Nat.pow_succ'] at h2
    simpa [leL] using h2

/-- what stands in the row behind so many rounds -/
def leDone (k n i : Nat) : List UInt8 := (leL k n).take i ++ List.replicate (k - i) 0
theorem leDone_zero (k n : Nat) : leDone k n 0 = List.replicate k 0 := by simp [leDone]
theorem leDone_all (k n : Nat) : leDone k n k = leL k n := by simp [leDone, List.take_of_length_le (Nat.le_of_eq (leL_length k n))]
theorem leDone_length (k n i : Nat) (h : i ≤ k) : (leDone k n i).length = k := by simp [leDone, leL_length]; omega
theorem leDone_set (k n i : Nat) (h : i < k) : (leDone k n i).set i (UInt8.ofNat (n / 256 ^ i % 256)) = leDone k n (i + 1) := by
  have hl : ((leL k n).take i).length = i := by simp [leL_length]; omega
  have hi : i < (leL k n).length := by rw [leL_length]; exact h
  unfold leDone
  rw [List.set_append_right _ _ (by omega), hl, Nat.sub_self, List.take_succ_eq_append_getElem hi, show k - i = (k - (i + 1)) + 1 from by omega, List.replicate_succ, List.set_cons_zero, List.append_assoc]
  have hg := leL_get k n i h
  rw [List.getD_eq_getElem?_getD, List.getElem?_eq_getElem hi] at hg
  simp only [Option.getD_some] at hg
  rw [hg]; rfl

theorem u8s_set (l : List UInt8) (i : Nat) (b : UInt8) (x : Int) (hx : x = ((b.toNat : Nat) : Int)) : (u8s l).set i (.int .u8 x) = u8s (l.set i b) := by
  rw [hx]; simp [u8s, List.map_set]

theorem shr_byte (n : Int) (i : Nat) (h0 : 0 ≤ n) : (n / (2 : Int) ^ (8 * i)) % (256 : Int) = (((UInt8.ofNat (n.toNat / 256 ^ i % 256)).toNat : Nat) : Int) := by
  obtain ⟨m, rfl⟩ := Int.eq_ofNat_of_zero_le h0
  have e : ((2 : Int) ^ (8 * i)) = (((256 ^ i : Nat) : Nat) : Int) := by
    rw [show (256 : Nat) = 2 ^ 8 from rfl, ← Nat.pow_mul]; simp
  rw [e, UInt8.toNat_ofNat', Int.toNat_natCast, ← Int.natCast_ediv]
  omega

set_option maxHeartbeats 2000000 in
theorem varint_little (n : Int) (k : Nat) (w : World) (h0 : 0 ≤ n) (h1 : n < 18446744073709551616) (hk : k ≤ 8) (hk1 : 1 ≤ k) :
    Calls Try.prog 26 #[.int .u64 n, .int .i64 (k : Int)] w fun e w' => e = .returned (.string (str (leL k n.toNat))) ∧ Below w.heap.size w w' := by
  obtain ⟨i0, hi, hz0, hz1, hz2⟩ := info_parts info_u8
  obtain ⟨t, ht⟩ : ∃ t, t = leL k n.toNat := ⟨_, rfl⟩
  rw [← ht]
  have HT := Lib.hid ht
  clear ht
  go_enter Try.func26, Try.ntmps26
  go_wp2_with (with_reducible refine wpList_make_full _ rfl (.tmp 7) (.tmp 7) 40 rfl w.heap.size 5 i0 (.int .u8 0) 1 Try.underlying40 hi hz0 hz1 .i64 .i64 (k : Int) (k : Int) k rfl rfl rfl rfl (by rw [hz2]; omega) (by unfold maxLen; omega) (Nat.le_refl _) ?_; intro w1 hown hg; have HO := Lib.hid hown; have HG := Lib.hid hg; clear hown hg)
  have hB1 := (Below.refl w.heap.size w).grown HG.out (Nat.le_refl _) (fun k h => by cases h)
  have HO1 : Hid (w1.ownsRow w.heap.size 5 1 (.slice (some ⟨w.heap.size, 0, none⟩) k k) k (u8s (leDone k n.toNat 0))) := Lib.hid (by
    have h := HO.out
    rw [show (Value.int IntKind.u8 0).cells = #[.int .u8 0] from rfl, toList_madeCells_one, Nat.mul_one] at h
    rw [leDone_zero]
    simpa [u8s] using h)
  clear HO HG hi hz0 hz1 hz2
  go_loopw [11] (fun v11 wr => ∃ i : Nat, i ≤ k ∧ v11 = .int .i64 i ∧ Below w.heap.size w wr ∧ Hid (wr.ownsRow w.heap.size 5 1 (.slice (some ⟨w.heap.size, 0, none⟩) k k) k (u8s (leDone k n.toNat i)))) (fun v _ => k - (intOf v).toNat)
  case atStart => exact ⟨0, Nat.zero_le _, rfl, hB1, HO1⟩
  case round =>
    obtain ⟨i, hik, rfl, hB, HO⟩ := hrel
    by_cases hlt : i < k
    · have hcell : wr.cell? ⟨w.heap.size, i, none⟩ = some (.int .u8 (((((leDone k n.toNat i).getD i 0).toNat : Nat) : Nat) : Int)) := by
        rw [HO.out.cellAt i (by omega)]
        have hl : i < (leDone k n.toNat i).length := by rw [leDone_length k n.toNat i hik]; exact hlt
        simp [u8s, List.getD_eq_getElem?_getD, List.getElem?_eq_getElem hl]
      have hfz := HO.out.frozenAt i
      have hval := Lib.hid (shr_byte n i h0)
      go_wp2
      go_roundw
      case rel =>
        refine ⟨i + 1, by omega, by go_num, hB.setCell (by simp) _, Lib.hid ?_⟩
        rw [hval.out, ← leDone_set k n.toNat i hlt, ← u8s_set _ _ _ _ rfl]
        exact (HO.out.stored i _).1
      case measure => simp [intOf]; omega
    · have hge : k ≤ i := by omega
      have hcb := own_bytes (P := Try.prog) (dst := 9) (l := t) (own_len HO.out (by rw [HT.out, leL_length]) (by rw [HT.out, show i = k from by omega, leDone_all])) (by intro h; have := congrArg List.length h; rw [HT.out, leL_length] at this; simp at this; omega) Try.underlying40 Try.underlying5 Try.underlying9
      go_wp2
      go_ret
      exact ⟨rfl, hB⟩

set_option maxHeartbeats 1000000 in
theorem varint_wide (n : Int) (w : World) (h0 : 0 ≤ n) (h1 : n < 18446744073709551616) :
    Calls Try.prog 12 #[.int .u64 n] w fun e w' => e = .returned (.string (str (leL 8 n.toNat))) ∧ Below w.heap.size w w' := by
  have L := Lib.hid fun w => varint_little n 8 w h0 h1 (by omega) (by omega)
  go_enter Try.func12, Try.ntmps12
  go_wp2_with (go_at_call 26; refine (L.out _).mono ?_; rintro e w1 ⟨rfl, hB⟩)
  go_ret
  exact ⟨rfl, hB⟩

end Go.Proofs.Ythhgijjdddcchaa
