/-
  The walk of CrcSums: the table, and the sum of any text that goes on from any sum.
-/
import Derived.Test.YtligilfbhigdcaaCrcMask
namespace Go.Proofs.Ytligilfbhigdcaa
open Go.RowKit
set_option linter.unusedVariables false
set_option linter.unusedSimpArgs false

theorem info_u32 : (Try.prog.info? 22).map (·.size) = some 1 := by kernel_rfl
theorem run_index_tab (j : Nat) (h : j < 256) (w : World) : (Instr.index 24 (.agg (tabRow 256)) (.int .i64 j)).run Try.prog w = .ok (.int .u32 (((CrcM.tab j).toNat : Nat) : Int)) w := by
  have hb : 0 ≤ (j : Int) ∧ (j : Int) < ((256 : Nat) : Int) := by omega
  have hc := tabRow_at 256 j h
  rw [if_pos h] at hc
  cases hq : Try.prog.info? 22 with
  | none => have := info_u32; simp [hq] at this
  | some i =>
    have hs : i.size = 1 := by have := info_u32; simpa [hq] using this
    have hagg : (isAgg 22).run Try.prog w = .ok false w := by
      unfold isAgg
      rw [Sem.run_bind, run_underlying Try.underlying22 w]
      rfl
    simp [Instr.index, run_underlying Try.underlying24, asIntOf, hb, part, Sem.run_bind, sizeOf, typeInfo, hq, hs, hagg, hc, go_sem]
    intro h2; omega

theorem tab_nat (j : Nat) (h : j < 256) : ((j : Nat) : Int) = (((BitVec.ofNat 32 j).toNat : Nat) : Int) := by
  rw [BitVec.toNat_ofNat]; omega

set_option maxRecDepth 100000 in
theorem CrcSums_walk (n : Int) (s : ByteArray) (w : World) (wn : (Lit.int .u32 n).wf = true) (ws : s.size ≤ 140737488351232) :
    Calls Try.prog 3 #[.int .u32 n, .string s] w fun e w' => e = .returned (.bool true) ∧ Below w.heap.size w w' := by
  obtain ⟨n0, n1⟩ := wf_u32 wn
  clear wn
  obtain ⟨c, rfl⟩ : ∃ c : BitVec 32, n = (c.toNat : Int) := ⟨BitVec.ofNat 32 n.toNat, by rw [BitVec.toNat_ofNat]; omega⟩
  clear n0 n1
  by_cases hlong : 20000 < s.size
  · go_enter Try.func3, Try.ntmps3
    go_wp2_with (go_at_call 7; refine (awake01 _).mono ?_; rintro e w1 ⟨rfl, hB⟩)
    go_ret
    exact ⟨rfl, hB⟩
  · obtain ⟨t, ht⟩ : ∃ t, t = (((crcFrom c (bytesOf s)).toNat : Nat) : Int) := ⟨_, rfl⟩
    obtain ⟨o, ho⟩ : ∃ o, o = (((crcFrom 0#32 (bytesOf s)).toNat : Nat) : Int) := ⟨_, rfl⟩
    have HT := Lib.hid ht
    have HO := Lib.hid ho
    clear ht ho
    go_enter Try.func3, Try.ntmps3
    go_wp2_with (first | (go_at_call 7; refine (awake01 _).mono ?_; rintro e w1 ⟨rfl, hB1⟩) | (go_at_call 8; refine (crc_table _).mono ?_; rintro e w2 ⟨rfl, hB2, hS2⟩; have HS2 := Lib.hid hS2; clear hS2))
    have hBB := below_next hB1 (Drew.refl _) hB2 hB1.size
    clear hB1 hB2 HS2
    go_loopw [13] (fun v13 wr => ∃ k : Nat, k ≤ 256 ∧ v13 = .int .i64 k ∧ Drew w2 wr) (fun v _ => 256 - (intOf v).toNat)
    case atStart => exact ⟨0, by omega, rfl, Drew.refl _⟩
    case round =>
      obtain ⟨k, hk, rfl, ⟨⟨d, rfl⟩⟩⟩ := hrel
      by_cases hlt : k < 256
      · have hidx := fun w => run_index_tab k hlt w
        have BC : Hid (∀ w, Calls Try.prog 9 #[.int .u32 (k : Int)] w fun e w' => e = .returned (.int .u32 (((CrcM.tab k).toNat : Nat) : Int)) ∧ Drew w w') := Lib.hid fun w => by
          have h := ref_byte (BitVec.ofNat 32 k) w
          rw [← tab_nat k hlt] at h
          exact h
        go_wp2_with (go_at_call 9; refine (BC.out _).mono ?_; rintro e w' ⟨rfl, ⟨nd, rfl⟩⟩)
        go_roundw
        case rel => exact ⟨k + 1, by omega, by go_num, by repeat (first | exact Drew.refl _ | apply Drew.step)⟩
        case measure => simp [intOf]; omega
      · have hge : 256 ≤ k := by omega
        go_wp2_with (first | (go_at_call 10; refine (crc_add _ _ _ ws).mono ?_; rw [← HT.out]; rintro e w3 ⟨rfl, hB3⟩) | (go_at_call 11; refine (ref_crc_add _ _ _ ws).mono ?_; rw [← HT.out]; rintro e w' ⟨rfl, ⟨nd, rfl⟩⟩) | (go_at_call 12; refine (crc_of _ _ ws).mono ?_; rw [← HO.out]; rintro e w4 ⟨rfl, hB4⟩) | (go_at_call 13; refine (ref_of _ _ ws).mono ?_; rw [← HO.out]; rintro e w' ⟨rfl, ⟨nd, rfl⟩⟩))
        go_ret
        have hBc := below_next hBB (by first | exact Drew.refl _ | exact (Drew.refl _).step _) hB3 (hBB.size)
        exact ⟨rfl, below_draws (below_next hBc (by first | exact Drew.refl _ | exact (Drew.refl _).step _) hB4 hBc.size) (by first | exact Drew.refl _ | exact (Drew.refl _).step _)⟩

end Go.Proofs.Ytligilfbhigdcaa
