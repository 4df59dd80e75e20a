/-
  The walk of BloomMay: whether any key may be there by any filter's bytes; each key that one was made of may.
-/
import Derived.Test.YtmdglcdilabbaaaBloomAwake
namespace Go.Proofs.Ytmdglcdilabbaaa
open Go.RowKit
set_option linter.unusedVariables false
set_option linter.unusedSimpArgs false

theorem bitsS_bd (n : Nat) (h : n ≤ 100) : 8 ≤ bitsS n / 8 ∧ bitsS n / 8 ≤ 200 := by unfold bitsS; omega

set_option maxRecDepth 100000 in
set_option maxHeartbeats 4000000 in
theorem BloomMay_walk (A : Option Addr) (keys : List ByteArray) (c : Nat) (f key : ByteArray) (w : World) (hr : RowsAt w A 1 strRow keys) (hk : ∀ k ∈ keys, k.size ≤ maxLen) (hc : keys.length ≤ c) (hm : c ≤ maxLen)
    (wf : f.size ≤ 140737488351232) (wk : key.size ≤ 140737488351232) :
    Calls Try.prog 4 #[.slice A keys.length c, .string f, .string key] w fun e w' => e = .returned (.bool true) ∧ Below w.heap.size w w' := by
  have hlen : keys.length ≤ 9223372036854775807 := Nat.le_trans hc hm
  have W0 : Below w.heap.size w w := Below.refl _ _
  have AW : Hid (∀ wx, Below w.heap.size w wx → Calls Try.prog 6 #[] wx fun e w' => e = .returned (.bool true) ∧ Below w.heap.size w w') := Lib.hid fun wx h => (awake09 wx).mono fun _ _ ⟨h1, h2⟩ => ⟨h1, below_at h h2⟩
  have LI : Hid (∀ wx, Below w.heap.size w wx → Calls Try.prog 7 #[.slice A keys.length c] wx fun e w' => e = .returned (.bool (lightB keys)) ∧ Below w.heap.size w w') := Lib.hid fun wx h => (light09 keys A c wx (hr.moved h) hlen hk).mono fun _ _ ⟨h1, h2⟩ => ⟨h1, below_at h h2.below⟩
  have HR := Lib.hid hr
  cases hl : lightB keys
  · rw [hl] at LI
    clear hk hr hl
    go_enter Try.func4, Try.ntmps4
    go_wp2_with (first | (go_at_call 6; (with_reducible refine (AW.out _ (by assumption)).mono ?_); rintro e w1 ⟨rfl, hB1⟩) | (go_at_call 7; (with_reducible refine (LI.out _ (by assumption)).mono ?_); rintro e w2 ⟨rfl, hB2⟩))
    go_ret
    exact ⟨rfl, hB2⟩
  · rw [hl] at LI
    obtain ⟨l1, l2⟩ := light_yes hl
    clear hl
    by_cases hf : 1000 < f.size
    · clear hk hr l2
      go_enter Try.func4, Try.ntmps4
      go_wp2_with (first | (go_at_call 6; (with_reducible refine (AW.out _ (by assumption)).mono ?_); rintro e w1 ⟨rfl, hB1⟩) | (go_at_call 7; (with_reducible refine (LI.out _ (by assumption)).mono ?_); rintro e w2 ⟨rfl, hB2⟩))
      go_ret
      exact ⟨rfl, hB2⟩
    · by_cases hk3 : 300 < key.size
      · clear hk hr l2
        go_enter Try.func4, Try.ntmps4
        go_wp2_with (first | (go_at_call 6; (with_reducible refine (AW.out _ (by assumption)).mono ?_); rintro e w1 ⟨rfl, hB1⟩) | (go_at_call 7; (with_reducible refine (LI.out _ (by assumption)).mono ?_); rintro e w2 ⟨rfl, hB2⟩))
        go_ret
        exact ⟨rfl, hB2⟩
      · obtain ⟨n0, n1⟩ := bitsS_bd keys.length l1
        obtain ⟨F, hF⟩ : ∃ F : ByteArray, F = str (makeB keys (bitsS keys.length / 8)) := ⟨_, rfl⟩
        have FS : F.size ≤ 1000000 := by rw [hF, str_size, makeB_length]; omega
        have HL2 := Lib.hid l2
        have MK : Hid (∀ wx, Below w.heap.size w wx → Calls Try.prog 9 #[.slice A keys.length c] wx fun e w' => e = .returned (.string F) ∧ Below w.heap.size w w') := Lib.hid fun wx h => by
          rw [hF]; exact (bloom_make keys A c wx (hr.moved h) (by omega) (fun k hk => by have := l2 k hk; omega)).mono fun _ _ ⟨h1, h2⟩ => ⟨h1, below_at h h2⟩
        have MY : Hid (∀ (k : ByteArray) wx, k ∈ keys ∧ Below w.heap.size w wx → Calls Try.prog 15 #[.string F, .string k] wx fun e w' => e = .returned (.bool true) ∧ Below w.heap.size w w') := Lib.hid fun k wx ⟨hin, h⟩ => by
          have h2 := bloom_may F k wx FS (by have := l2 k hin; omega)
          rw [hF, str_data, may_in keys _ (by omega) k hin, ← hF] at h2
          exact h2.mono fun _ _ ⟨h1, h2⟩ => ⟨h1, below_at h h2⟩
        have M1 : Hid (∀ wx, Below w.heap.size w wx → Calls Try.prog 15 #[.string f, .string key] wx fun e w' => e = .returned (.bool (mayL f.data.toList key)) ∧ Below w.heap.size w w') := Lib.hid fun wx h => (bloom_may f key wx (by omega) (by omega)).mono fun _ _ ⟨h1, h2⟩ => ⟨h1, below_at h h2⟩
        have R1 : Hid (∀ wx, Below w.heap.size w wx → Calls Try.prog 16 #[.string f, .string key] wx fun e w' => e = .returned (.bool (mayL f.data.toList key)) ∧ Below w.heap.size w w') := Lib.hid fun wx h => (ref_may f key wx (by omega) (by omega)).mono fun _ _ ⟨h1, h2⟩ => ⟨h1, below_at h h2⟩
        have M2 : Hid (∀ wx, Below w.heap.size w wx → Calls Try.prog 15 #[.string F, .string key] wx fun e w' => e = .returned (.bool (mayL F.data.toList key)) ∧ Below w.heap.size w w') := Lib.hid fun wx h => (bloom_may F key wx FS (by omega)).mono fun _ _ ⟨h1, h2⟩ => ⟨h1, below_at h h2⟩
        have R2 : Hid (∀ wx, Below w.heap.size w wx → Calls Try.prog 16 #[.string F, .string key] wx fun e w' => e = .returned (.bool (mayL F.data.toList key)) ∧ Below w.heap.size w w') := Lib.hid fun wx h => (ref_may F key wx FS (by omega)).mono fun _ _ ⟨h1, h2⟩ => ⟨h1, below_at h h2⟩
        have M0 : Hid (∀ wx, Below w.heap.size w wx → Calls Try.prog 15 #[.string ⟨#[]⟩, .string key] wx fun e w' => e = .returned (.bool true) ∧ Below w.heap.size w w') := Lib.hid fun wx h => (bloom_may ⟨#[]⟩ key wx (by decide) (by omega)).mono fun _ _ ⟨h1, h2⟩ => ⟨h1, below_at h h2⟩
        obtain ⟨t1, ht1⟩ : ∃ t, t = mayL f.data.toList key := ⟨_, rfl⟩
        obtain ⟨t2, ht2⟩ : ∃ t, t = mayL F.data.toList key := ⟨_, rfl⟩
        rw [← ht1] at M1 R1
        rw [← ht2] at M2 R2
        clear hk hr l2 ht1 ht2 hF
        go_enter Try.func4, Try.ntmps4
        go_wp2_with (first | (go_at_call 6; (with_reducible refine (AW.out _ (by assumption)).mono ?_); rintro e w1 ⟨rfl, hB1⟩) | (go_at_call 7; (with_reducible refine (LI.out _ (by assumption)).mono ?_); rintro e w2 ⟨rfl, hB2⟩) | (go_at_call 9; (with_reducible refine (MK.out _ (by assumption)).mono ?_); rintro e w3 ⟨rfl, hB3⟩))
        clear hB1 hB2 W0
        go_loopw [29] (fun v29 wr => ∃ j : Nat, j ≤ keys.length ∧ v29 = .int .i64 j ∧ Below w.heap.size w wr) (fun v _ => keys.length - (intOf v).toNat)
        case atStart => exact ⟨0, Nat.zero_le _, rfl, hB3⟩
        case round =>
          clear hB3
          obtain ⟨j, hj, rfl, hB⟩ := hrel
          by_cases hlt : j < keys.length
          · obtain ⟨b, o, rfl, hcell⟩ := strs_at (HR.out.moved hB) j hlt
            obtain ⟨k, hk⟩ : ∃ k, k = keys[j] := ⟨_, rfl⟩
            rw [← hk] at hcell
            have HIN : Hid (k ∈ keys) := Lib.hid (by rw [hk]; exact List.getElem_mem hlt)
            clear hk
            go_wp2_with (go_at_call 15; (with_reducible refine (MY.out k _ ⟨HIN.out, by assumption⟩).mono ?_); rintro e w4 ⟨rfl, hB4⟩)
            go_roundw
            case rel => exact ⟨j + 1, by omega, by go_num, hB4⟩
            case measure => simp [intOf]; omega
          · cases t1 <;> cases t2 <;>
            · go_wp2_with (first | (go_at_call 15; (with_reducible refine (M1.out _ (by assumption)).mono ?_); rintro e w4 ⟨rfl, hB4⟩) | (go_at_call 16; (with_reducible refine (R1.out _ (by assumption)).mono ?_); rintro e w5 ⟨rfl, hB5⟩) | (go_at_call 15; (with_reducible refine (M2.out _ (by assumption)).mono ?_); rintro e w6 ⟨rfl, hB6⟩) | (go_at_call 16; (with_reducible refine (R2.out _ (by assumption)).mono ?_); rintro e w7 ⟨rfl, hB7⟩) | (go_at_call 15; (with_reducible refine (M0.out _ (by assumption)).mono ?_); rintro e w8 ⟨rfl, hB8⟩))
              go_ret
              exact ⟨rfl, hB8⟩

end Go.Proofs.Ytmdglcdilabbaaa
