/-
  The walk of CrcParts: in which parts a text is summed makes no difference.
-/
import Derived.Test.YtligilfbhigdcaaCrcMask
import Derived.Deep.RegionWith
namespace Go.Proofs.Ytligilfbhigdcaa
open Go.RowKit
set_option linter.unusedVariables false
set_option linter.unusedSimpArgs false

theorem bytesOf_extract (s : ByteArray) (a b : Nat) : bytesOf (s.extract a b) = ((bytesOf s).take b).drop a := by
  unfold bytesOf
  rw [ByteArray.data_extract, Array.toList_extract, List.extract_eq_take_drop, List.drop_take]
  simp [List.map_take, List.map_drop]

theorem wrap_u64' (n : Int) : IntKind.u64.wrap n = n % 18446744073709551616 := by simp [IntKind.wrap, IntKind.bits, IntKind.signed]

theorem crcFrom_append (c : BitVec 32) (x y : List (BitVec 8)) : crcFrom c (x ++ y) = crcFrom (crcFrom c x) y := by
  unfold crcFrom; rw [CrcM.run_append]; simp

set_option maxRecDepth 100000 in
set_option maxHeartbeats 4000000 in
theorem CrcParts_walk (s : ByteArray) (at0 to0 : Int) (w : World) (ws : s.size ≤ 140737488351232) (wa : (Lit.int .i64 at0).wf = true) (wt : (Lit.int .i64 to0).wf = true) :
    Calls Try.prog 4 #[.string s, .int .i64 at0, .int .i64 to0] w fun e w' => e = .returned (.bool true) ∧ Below w.heap.size w w' := by
  by_cases hlong : 5000 < s.size
  · go_enter Try.func4, Try.ntmps4
    go_wp2_with (go_at_call 7; refine (awake01 _).mono ?_; rintro e w1 ⟨rfl, hB⟩)
    go_ret
    exact ⟨rfl, hB⟩
  · obtain ⟨u, hu⟩ : ∃ u, IntKind.u64.wrap at0 = u := ⟨_, rfl⟩
    obtain ⟨v, hv⟩ : ∃ v, IntKind.u64.wrap to0 = v := ⟨_, rfl⟩
    have hu0 : 0 ≤ u := by rw [← hu, wrap_u64']; omega
    have hv0 : 0 ≤ v := by rw [← hv, wrap_u64']; omega
    obtain ⟨a, ha⟩ : ∃ a : Nat, u % ((s.size : Int) + 1) = (a : Int) := ⟨(u % ((s.size : Int) + 1)).toNat, by have := Int.emod_nonneg u (b := (s.size : Int) + 1) (by omega); omega⟩
    have ha1 : a ≤ s.size := by have := Int.emod_lt_of_pos u (b := (s.size : Int) + 1) (by omega); omega
    obtain ⟨d, hd⟩ : ∃ d : Nat, v % ((s.size : Int) - (a : Int) + 1) = (d : Int) := ⟨(v % ((s.size : Int) - (a : Int) + 1)).toNat, by have := Int.emod_nonneg v (b := (s.size : Int) - (a : Int) + 1) (by omega); omega⟩
    have hd1 : a + d ≤ s.size := by have := Int.emod_lt_of_pos v (b := (s.size : Int) - (a : Int) + 1) (by omega); omega
    obtain ⟨c1, hc1'⟩ : ∃ c1, c1 = crcFrom 0#32 (bytesOf (s.extract 0 a)) := ⟨_, rfl⟩
    obtain ⟨c2, hc2'⟩ : ∃ c2, c2 = crcFrom c1 (bytesOf (s.extract a (a + d))) := ⟨_, rfl⟩
    obtain ⟨c3, hc3'⟩ : ∃ c3, c3 = crcFrom c2 (bytesOf (s.extract (a + d) s.size)) := ⟨_, rfl⟩
    have he : c3 = crcFrom 0#32 (bytesOf s) := by
      rw [hc3', hc2', hc1', ← crcFrom_append, ← crcFrom_append, bytesOf_extract, bytesOf_extract, bytesOf_extract]
      congr 1
      have hl : (bytesOf s).length = s.size := by simp [bytesOf]
      have e1 : (bytesOf s).take s.size = bytesOf s := List.take_of_length_le (by omega)
      rw [List.drop_zero, e1, List.drop_take, Nat.add_sub_cancel_left, ← List.drop_drop, List.take_append_drop, List.take_append_drop]
    obtain ⟨p1, hp1'⟩ : ∃ p1, p1 = ((c1.toNat : Nat) : Int) := ⟨_, rfl⟩
    obtain ⟨p2, hp2'⟩ : ∃ p2, p2 = ((c2.toNat : Nat) : Int) := ⟨_, rfl⟩
    obtain ⟨p3, hp3'⟩ : ∃ p3, p3 = ((c3.toNat : Nat) : Int) := ⟨_, rfl⟩
    have hc1 := Lib.hid hc1'
    have hc2 := Lib.hid hc2'
    have hp1 : Hid (p1 = (((crcFrom 0#32 (bytesOf (s.extract 0 a))).toNat : Nat) : Int)) := Lib.hid (by rw [hp1', hc1'])
    have hp2 : Hid (p2 = (((crcFrom c1 (bytesOf (s.extract a (a + d)))).toNat : Nat) : Int)) := Lib.hid (by rw [hp2', hc2'])
    have hp3 : Hid (p3 = (((crcFrom c2 (bytesOf (s.extract (a + d) s.size))).toNat : Nat) : Int)) := Lib.hid (by rw [hp3', hc3'])
    have hp4 : Hid (p3 = (((crcFrom 0#32 (bytesOf s)).toNat : Nat) : Int)) := Lib.hid (by rw [hp3', he])
    clear he hc1' hc2' hc3' hp1' hp2' hp3'
    go_enter Try.func4, Try.ntmps4
    go_wp2_with (first | (go_at_call 7; refine (awake01 _).mono ?_; rintro e w1 ⟨rfl, hB1⟩))
    have X1 : Hid (∀ wx, Below w.heap.size w wx → Calls Try.prog 12 #[.string (s.extract 0 a)] wx fun e w' => e = .returned (.int .u32 p1) ∧ Below w.heap.size w w') := Lib.hid fun wx hB => by
      have hz : (s.extract 0 a).size ≤ 140737488351232 := by simp; omega
      have h := crc_of (s.extract 0 a) wx hz
      rw [← hp1.out] at h
      exact h.mono fun _ _ ⟨h1, h2⟩ => ⟨h1, below_at hB h2⟩
    have X2 : Hid (∀ wx, Below w.heap.size w wx → Calls Try.prog 10 #[.int .u32 p1, .string (s.extract a (a + d))] wx fun e w' => e = .returned (.int .u32 p2) ∧ Below w.heap.size w w') := Lib.hid fun wx hB => by
      have hz : (s.extract a (a + d)).size ≤ 140737488351232 := by simp; omega
      have h := crc_add c1 (s.extract a (a + d)) wx hz
      rw [← hp2.out] at h
      rw [hp1.out, ← hc1.out]
      exact h.mono fun _ _ ⟨h1, h2⟩ => ⟨h1, below_at hB h2⟩
    have X3 : Hid (∀ wx, Below w.heap.size w wx → Calls Try.prog 10 #[.int .u32 p2, .string (s.extract (a + d) s.size)] wx fun e w' => e = .returned (.int .u32 p3) ∧ Below w.heap.size w w') := Lib.hid fun wx hB => by
      have hz : (s.extract (a + d) s.size).size ≤ 140737488351232 := by simp; omega
      have h := crc_add c2 (s.extract (a + d) s.size) wx hz
      rw [← hp3.out] at h
      rw [hp2.out, ← hc2.out]
      exact h.mono fun _ _ ⟨h1, h2⟩ => ⟨h1, below_at hB h2⟩
    have X4 : Hid (∀ wx, Below w.heap.size w wx → Calls Try.prog 12 #[.string s] wx fun e w' => e = .returned (.int .u32 p3) ∧ Below w.heap.size w w') := Lib.hid fun wx hB => by
      have h := crc_of s wx ws
      rw [← hp4.out] at h
      exact h.mono fun _ _ ⟨h1, h2⟩ => ⟨h1, below_at hB h2⟩
    clear hp1 hp2 hp3 hp4 hc1 hc2
    have hsum : ((a : Int) + (d : Int)).toNat = a + d := by omega
    go_region_with (first | (go_at_call 12; (first | (with_reducible refine (X1.out _ (by first | assumption | (apply Below.drew; assumption))).mono ?_) | (with_reducible refine (X4.out _ (by first | assumption | (apply Below.drew; assumption))).mono ?_)); rintro e w' ⟨rfl, hBx⟩) | (go_at_call 10; (first | (with_reducible refine (X2.out _ (by first | assumption | (apply Below.drew; assumption))).mono ?_) | (with_reducible refine (X3.out _ (by first | assumption | (apply Below.drew; assumption))).mono ?_)); rintro e w' ⟨rfl, hBx⟩))
    all_goals
      go_wp2
      go_ret
      exact ⟨rfl, by first | assumption | (apply Below.drew; assumption)⟩

end Go.Proofs.Ytligilfbhigdcaa
