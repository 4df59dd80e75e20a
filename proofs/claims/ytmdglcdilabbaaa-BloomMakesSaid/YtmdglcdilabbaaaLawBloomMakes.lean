/-
  The walk of BloomMakes: the filter of any keys, any key's places in any filter.
-/
import Derived.Test.YtmdglcdilabbaaaBloomAwake
namespace Go.Proofs.Ytmdglcdilabbaaa
open Go.RowKit
set_option linter.unusedVariables false
set_option linter.unusedSimpArgs false

set_option maxRecDepth 100000 in
set_option maxHeartbeats 8000000 in
theorem BloomMakes_walk (A : Option Addr) (keys : List ByteArray) (c : Nat) (key : ByteArray) (n bits : Int) (w : World) (hr : RowsAt w A 1 strRow keys) (hk : ∀ k ∈ keys, k.size ≤ maxLen) (hc : keys.length ≤ c) (hm : c ≤ maxLen)
    (wk : key.size ≤ 140737488351232) (wn : (Lit.int .i64 n).wf = true) (wb : (Lit.int .i64 bits).wf = true) :
    Calls Try.prog 3 #[.slice A keys.length c, .string key, .int .i64 n, .int .i64 bits] w fun e w' => e = .returned (.bool true) ∧ Below w.heap.size w w' := by
  have hlen : keys.length ≤ 9223372036854775807 := Nat.le_trans hc hm
  obtain ⟨wn0, wn1⟩ := wfI64 wn
  obtain ⟨wb0, wb1⟩ := wfI64 wb
  clear wn wb
  have W0 : Below w.heap.size w w := Below.refl _ _
  have AW : Hid (∀ wx, Below w.heap.size w wx → Calls Try.prog 6 #[] wx fun e w' => e = .returned (.bool true) ∧ Below w.heap.size w w') := Lib.hid fun wx h => (awake09 wx).mono fun _ _ ⟨h1, h2⟩ => ⟨h1, below_at h h2⟩
  have LI : Hid (∀ wx, Below w.heap.size w wx → Calls Try.prog 7 #[.slice A keys.length c] wx fun e w' => e = .returned (.bool (lightB keys)) ∧ Below w.heap.size w w') := Lib.hid fun wx h => (light09 keys A c wx (hr.moved h) hlen hk).mono fun _ _ ⟨h1, h2⟩ => ⟨h1, below_at h h2.below⟩
  have HR := Lib.hid hr
  cases hl : lightB keys
  · rw [hl] at LI
    clear hk hr hl
    go_enter Try.func3, Try.ntmps3
    go_wp2_with (first | (go_at_call 6; (with_reducible refine (AW.out _ (by assumption)).mono ?_); rintro e w1 ⟨rfl, hB1⟩) | (go_at_call 7; (with_reducible refine (LI.out _ (by assumption)).mono ?_); rintro e w2 ⟨rfl, hB2⟩))
    go_ret
    exact ⟨rfl, hB2⟩
  · rw [hl] at LI
    obtain ⟨l1, l2⟩ := light_yes hl
    clear hl
    by_cases hbad : 300 < key.size ∨ 1048576 < n ∨ 1048576 < bits
    · clear hk hr l2
      have hcase : 300 < key.size ∨ (¬ 300 < key.size ∧ 1048576 < n) ∨ (¬ 300 < key.size ∧ ¬ 1048576 < n ∧ 1048576 < bits) := by omega
      clear hbad
      rcases hcase with h | ⟨h, h2⟩ | ⟨h, h2, h3⟩ <;>
      · go_enter Try.func3, Try.ntmps3
        go_wp2_with (first | (go_at_call 6; (with_reducible refine (AW.out _ (by assumption)).mono ?_); rintro e w1 ⟨rfl, hB1⟩) | (go_at_call 7; (with_reducible refine (LI.out _ (by assumption)).mono ?_); rintro e w2 ⟨rfl, hB2⟩))
        go_ret
        exact ⟨rfl, hB2⟩
    · have hk3 : ¬ 300 < key.size := fun h => hbad (.inl h)
      have hn3 : ¬ 1048576 < n := fun h => hbad (.inr (.inl h))
      have hb3 : ¬ 1048576 < bits := fun h => hbad (.inr (.inr h))
      clear hbad
      obtain ⟨nb, hnb⟩ : ∃ nb, nb = bitsS keys.length / 8 := ⟨_, rfl⟩
      have n8 : bitsS keys.length = nb * 8 := by rw [hnb]; unfold bitsS; omega
      have n0 : 8 ≤ nb ∧ nb ≤ 200 := by rw [hnb]; unfold bitsS; omega
      obtain ⟨F, hF⟩ : ∃ F : ByteArray, F = str (makeB keys nb) := ⟨_, rfl⟩
      have FS : F.size = nb := by rw [hF, str_size, makeB_length]
      obtain ⟨T, hT⟩ : ∃ T, T = makeT keys (nb * 8) := ⟨_, rfl⟩
      have HT : Hid (T.length = nb * 8) := Lib.hid (by rw [hT, makeT_length])
      have MK : Hid (∀ wx, Below w.heap.size w wx → Calls Try.prog 9 #[.slice A keys.length c] wx fun e w' => e = .returned (.string F) ∧ Below w.heap.size w w') := Lib.hid fun wx h => by
        rw [hF, hnb]; exact (bloom_make keys A c wx (hr.moved h) (by omega) (fun k hk => by have := l2 k hk; omega)).mono fun _ _ ⟨h1, h2⟩ => ⟨h1, below_at h h2⟩
      have TR : Hid (∀ wx, Below w.heap.size w wx → Calls Try.prog 8 #[.string F] wx fun e w' => ∃ a c, e = .returned (.slice a (nb * 8) c) ∧ Below w.heap.size w w' ∧ RowsAt w' a 1 boolRow T) := Lib.hid fun wx h => by
        have h2 := ref_truths F wx (by omega)
        rw [FS] at h2
        rw [hF, str_data, truths_make keys nb (by omega), ← hT, ← hF] at h2
        exact h2.mono fun _ _ ⟨a, c, h1, h2, h3⟩ => ⟨a, c, h1, below_at h h3, h2⟩
      have RM : Hid (∀ wx, Below w.heap.size w wx → Calls Try.prog 10 #[.slice A keys.length c] wx fun e w' => ∃ a c, e = .returned (.slice a (nb * 8) c) ∧ Below w.heap.size w w' ∧ RowsAt w' a 1 boolRow T ∧ Below wx.heap.size wx w') := Lib.hid fun wx h => by
        have h2 := ref_make keys A c wx (hr.moved h) (by omega) (fun k hk => by have := l2 k hk; omega)
        rw [n8, ← hT] at h2
        exact h2.mono fun _ _ ⟨a, c, h1, h2, h3⟩ => ⟨a, c, h1, below_at h h3, h2, h3⟩
      have B1 : Hid (∀ wx, Calls Try.prog 11 #[.int .i64 n] wx fun e w' => e = .returned (.int .i64 (bitsS n.toNat : Int)) ∧ Drew wx w') := Lib.hid fun wx => bloom_bits n wx (by omega) (by omega)
      have B2 : Hid (∀ wx, Calls Try.prog 12 #[.int .i64 n] wx fun e w' => e = .returned (.int .i64 (bitsS n.toNat : Int)) ∧ Drew wx w') := Lib.hid fun wx => ref_bits n wx (by omega) (by omega)
      obtain ⟨bn, hbn⟩ : ∃ b : Int, b = (bitsS n.toNat : Int) := ⟨_, rfl⟩
      rw [← hbn] at B1 B2
      obtain ⟨g, hg⟩ : ∃ g, g = plAt key bits := ⟨_, rfl⟩
      have P1 : Hid (∀ wx, Below w.heap.size w wx → Calls Try.prog 13 #[.string key, .int .i64 bits] wx fun e w' => e = .returned (.agg (plRow g 6)) ∧ Below w.heap.size w w') := Lib.hid fun wx h => by
        rw [hg]; exact (bloom_places key bits wx (by omega) (by omega)).mono fun _ _ ⟨h1, h2⟩ => ⟨h1, below_at h h2⟩
      have P2 : Hid (∀ wx, Below w.heap.size w wx → Calls Try.prog 14 #[.string key, .int .i64 bits] wx fun e w' => ∃ q, e = .returned (.slice (some ⟨q, 0, none⟩) 6 6) ∧ Below w.heap.size w w' ∧ w'.heap[q]? = some (.cells (plRow g 6) 3 (0, 0))) := Lib.hid fun wx h => by
        rw [hg]; exact (ref_places key bits wx (by omega) (by omega)).mono fun _ _ ⟨q, h1, h2, h3, h4⟩ => ⟨q, h1, below_at h h4, h2⟩
      obtain ⟨N, hN⟩ : ∃ N, N = nb * 8 := ⟨_, rfl⟩
      have hN1 : N ≤ 1600 := by omega
      rw [← hN] at TR RM HT
      clear hk hr l2 hF hnb n8 n0 FS hT hbn hg hN
      go_enter Try.func3, Try.ntmps3
      go_wp2_with (first | (go_at_call 6; (with_reducible refine (AW.out _ (by assumption)).mono ?_); rintro e w1 ⟨rfl, hB1⟩) | (go_at_call 7; (with_reducible refine (LI.out _ (by assumption)).mono ?_); rintro e w2 ⟨rfl, hB2⟩) | (go_at_call 9; (with_reducible refine (MK.out _ (by assumption)).mono ?_); rintro e w3 ⟨rfl, hB3⟩) | (go_at_call 8; (with_reducible refine (TR.out _ (by assumption)).mono ?_); rintro e w4 ⟨a1, c1, rfl, hB4, R1⟩) | (go_at_call 10; (with_reducible refine (RM.out _ (by assumption)).mono ?_); rintro e w5 ⟨a2, c2, rfl, hB5, R2, hC5⟩; have R3 := R1.moved hC5; clear hC5 R1) | (go_at_call 11; (with_reducible refine (B1.out _).mono ?_); rintro e w6 ⟨rfl, ⟨n1, rfl⟩⟩) | (go_at_call 12; (with_reducible refine (B2.out _).mono ?_); rintro e w7 ⟨rfl, ⟨n2, rfl⟩⟩))
      have HB5 := Lib.hid hB5
      clear W0 hB1 hB2 hB3 hB4 hB5
      go_loopw [51] (fun v51 wr => ∃ j : Nat, j ≤ N ∧ v51 = .int .i64 j ∧ Drew w5 wr) (fun v _ => N - (intOf v).toNat)
      case atStart => exact ⟨0, Nat.zero_le _, rfl, by repeat (first | exact Drew.refl _ | apply Drew.step)⟩
      case round =>
        obtain ⟨j, hj, rfl, ⟨⟨d, rfl⟩⟩⟩ := hrel
        by_cases hlt : j < N
        · obtain ⟨b1, o1, rfl, hc1⟩ := bools_at R3 j (by rw [HT.out]; exact hlt)
          obtain ⟨b2, o2, rfl, hc2⟩ := bools_at R2 j (by rw [HT.out]; exact hlt)
          obtain ⟨x, hx⟩ : ∃ x, x = T[j]'(by rw [HT.out]; exact hlt) := ⟨_, rfl⟩
          rw [← hx] at hc1 hc2
          clear hx
          have i0 : (0 : Int) ≤ (j : Int) := by omega
          have i1 : (j : Int) < (N : Int) := by omega
          cases x <;>
          · go_wp2
            go_quiet (fail)
            go_wp2
            go_roundw
            case rel => exact ⟨j + 1, by omega, by go_num, by repeat (first | exact Drew.refl _ | apply Drew.step)⟩
            case measure => simp [intOf]; omega
        · have hBd : Below w.heap.size w (w5.drewN d) := below_drewN HB5.out _
          go_wp2_with (go_at_call 13; (with_reducible refine (P1.out _ (by assumption)).mono ?_); rintro e w8 ⟨rfl, hB8⟩)
          clear hBd
          go_loopw [67] (fun v67 wr => ∃ k : Nat, k ≤ 6 ∧ v67 = .int .i64 k ∧ Below w.heap.size w wr) (fun v _ => 6 - (intOf v).toNat)
          case atStart => exact ⟨0, by omega, rfl, hB8⟩
          case round =>
            clear hB8
            obtain ⟨k, hk6, rfl, hB⟩ := hrel
            by_cases hlk : k < 6
            · have hidx := fun w => run_index_pl g k hlk w
              have HC := Lib.hid (plRow_at g 6 k hlk)
              rw [if_pos hlk] at HC
              go_wp2_with (go_at_call 14; (with_reducible refine (P2.out _ (by assumption)).mono ?_); rintro e w9 ⟨q, rfl, hB9, hQ⟩; have hcq : w9.cell? ⟨q, k, none⟩ = some (.int .i64 (g k : Int)) := (by rw [cell_of_row _ _ _ _ _ _ hQ, HC.out]); clear hQ)
              go_roundw
              case rel => exact ⟨k + 1, by omega, by go_num, hB9⟩
              case measure => simp [intOf]; omega
            · go_wp2
              go_ret
              exact ⟨rfl, hB⟩

end Go.Proofs.Ytmdglcdilabbaaa
