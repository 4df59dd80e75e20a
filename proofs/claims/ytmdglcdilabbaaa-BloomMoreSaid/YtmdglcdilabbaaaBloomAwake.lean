/-
  The chapter's example, and which keys are gone through.
-/
import Derived.Test.YtmdglcdilabbaaaBloomLaw
namespace Go.Proofs.Ytmdglcdilabbaaa
open Go.RowKit
set_option linter.unusedVariables false
set_option linter.unusedSimpArgs false

theorem rowsAt_one {ρ : Type} {w : World} {b : Nat} {t : TypeId} {v : Value} (enc : ρ → List Value) (x : ρ) (he : enc x = [v]) (h : w.heap[b]? = some (.cells #[v] t (0, 0))) : RowsAt w (some ⟨b, 0, none⟩) 1 enc [x] := by
  refine ⟨.inr ⟨b, 0, rfl, fun i r hi j u hu => ?_⟩⟩
  have hi0 : i = 0 := by
    have := (List.getElem?_eq_some_iff.1 hi).1
    simpa using this
  subst hi0
  simp at hi
  subst hi
  rw [he] at hu
  have hj0 : j = 0 := by
    have := (List.getElem?_eq_some_iff.1 hu).1
    simpa using this
  subst hj0
  simp at hu
  subst hu
  rw [cell_of_row _ _ _ _ _ _ h]; rfl

set_option maxRecDepth 100000 in
set_option maxHeartbeats 2000000 in
theorem awake09 (w : World) :
    Calls Try.prog 6 #[] w fun e w' => e = .returned (.bool true) ∧ Below w.heap.size w w' := by
  have B1 : Hid (∀ wx, Calls Try.prog 11 #[.int .i64 1] wx fun e w' => e = .returned (.int .i64 64) ∧ Drew wx w') := Lib.hid fun wx => bloom_bits 1 wx (by omega) (by omega)
  have B7 : Hid (∀ wx, Calls Try.prog 11 #[.int .i64 7] wx fun e w' => e = .returned (.int .i64 72) ∧ Drew wx w') := Lib.hid fun wx => bloom_bits 7 wx (by omega) (by omega)
  obtain ⟨A, hA⟩ : ∃ A : ByteArray, A = ⟨#[97]⟩ := ⟨_, rfl⟩
  have aS : A.size = 1 := by rw [hA]; rfl
  obtain ⟨F, hF⟩ : ∃ F : ByteArray, F = str (makeB [A] (bitsS 1 / 8)) := ⟨_, rfl⟩
  have MK : Hid (∀ wx b, wx.heap[b]? = some (.cells #[.string ⟨#[97]⟩] 9 (0, 0)) → Calls Try.prog 9 #[.slice (some ⟨b, 0, none⟩) 1 1] wx fun e w' => e = .returned (.string F) ∧ Below wx.heap.size wx w') := Lib.hid fun wx b h => by
    rw [hF]
    rw [← hA] at h
    exact bloom_make [A] (some ⟨b, 0, none⟩) 1 wx (rowsAt_one strRow A rfl h) (by simp) (by intro k hk; simp at hk; subst hk; omega)
  have FS : F.size = 8 := by rw [hF, str_size, makeB_length]; rfl
  have MY : Hid (∀ wx, Calls Try.prog 15 #[.string F, .string ⟨#[97]⟩] wx fun e w' => e = .returned (.bool true) ∧ Below wx.heap.size wx w') := Lib.hid fun wx => by
    have h := bloom_may F A wx (by omega) (by omega)
    rw [hF, str_data, may_in [A] _ (by decide) A (by simp), ← hF] at h
    rw [← hA]; exact h
  have MN : Hid (∀ wx, Calls Try.prog 15 #[.string ⟨#[0]⟩, .string ⟨#[97]⟩] wx fun e w' => e = .returned (.bool false) ∧ Below wx.heap.size wx w') := Lib.hid fun wx => by
    have h := bloom_may (str [0]) A wx (by rw [str_size]; decide) (by omega)
    rw [str_data, may_zero] at h
    rw [← hA]; exact h
  clear hA hF aS FS
  go_enter Try.func6, Try.ntmps6
  go_wp2_with (first | (go_at_call 11; (with_reducible refine (B1.out _).mono ?_); rintro e w1 ⟨rfl, ⟨n1, rfl⟩⟩) | (go_at_call 11; (with_reducible refine (B7.out _).mono ?_); rintro e w1 ⟨rfl, ⟨n2, rfl⟩⟩) | (go_at_call 9; (refine (MK.out _ _ (heap_alloc_new _ _)).mono ?_); rintro e w2 ⟨rfl, hB2⟩) | (go_at_call 15; (with_reducible refine (MY.out _).mono ?_); rintro e w3 ⟨rfl, hB3⟩) | (go_at_call 15; (with_reducible refine (MN.out _).mono ?_); rintro e w4 ⟨rfl, hB4⟩))
  go_ret
  refine ⟨rfl, ?_⟩
  refine below_at (below_at (below_at ?_ hB2) hB3) hB4
  (repeat (first | exact Below.refl _ _ | assumption | apply below_drewN | (refine Below.alloc ?_ (by simp; try omega) _)))

def lightB (l : List ByteArray) : Bool := l.all fun k => decide (l.length ≤ 100) && decide (k.size ≤ 300)
theorem light_yes {l : List ByteArray} (h : lightB l = true) : l.length ≤ 100 ∧ ∀ k ∈ l, k.size ≤ 300 := by
  unfold lightB at h
  rw [List.all_eq_true] at h
  constructor
  · rcases l with _ | ⟨k, l⟩
    · simp
    · have := h k (by simp); simp only [Bool.and_eq_true, decide_eq_true_eq] at this; exact this.1
  · intro k hk
    have := h k hk; simp only [Bool.and_eq_true, decide_eq_true_eq] at this; exact this.2

set_option maxRecDepth 100000 in
set_option maxHeartbeats 2000000 in
theorem light09 (keys : List ByteArray) (A : Option Addr) (c : Nat) (w : World) (hr : RowsAt w A 1 strRow keys) (hl : keys.length ≤ 9223372036854775807) (hk : ∀ k ∈ keys, k.size ≤ 9223372036854775807) :
    Calls Try.prog 7 #[.slice A keys.length c] w fun e w' => e = .returned (.bool (lightB keys)) ∧ Drew w w' := by
  have HR := Lib.hid hr
  have HK := Lib.hid hk
  obtain ⟨t, ht⟩ : ∃ t, t = lightB keys := ⟨_, rfl⟩
  rw [← ht]
  have HT := Lib.hid ht
  clear hr hk ht
  go_enter Try.func7, Try.ntmps7
  go_wp2
  go_loopw [7] (fun v7 wr => ∃ j : Nat, j ≤ keys.length ∧ v7 = .int .i64 j ∧ Hid (∀ i (h : i < keys.length), i < j → keys.length ≤ 100 ∧ keys[i].size ≤ 300) ∧ Drew w wr) (fun v _ => keys.length - (intOf v).toNat)
  case atStart => exact ⟨0, Nat.zero_le _, rfl, Lib.hid fun i _ h => absurd h (Nat.not_lt_zero _), Drew.refl _⟩
  case round =>
    obtain ⟨j, hj, rfl, HJ, ⟨⟨d, rfl⟩⟩⟩ := hrel
    by_cases hlt : j < keys.length
    · obtain ⟨b, o, rfl, hcell⟩ := strs_at (HR.out.moved ((Drew.refl w).step d).below) j hlt
      obtain ⟨k, hk⟩ : ∃ k, k = keys[j] := ⟨_, rfl⟩
      rw [← hk] at hcell
      have hks : k.size ≤ 9223372036854775807 := by rw [hk]; exact HK.out _ (List.getElem_mem hlt)
      by_cases h1 : 100 < keys.length
      · have HE : Hid (t = false) := Lib.hid (by
          rw [HT.out]; unfold lightB; rw [List.all_eq_false]
          exact ⟨keys[j], List.getElem_mem hlt, by simp; omega⟩)
        clear hk
        go_wp2
        go_ret
        exact ⟨by rw [HE.out]; rfl, by repeat (first | exact Drew.refl _ | apply Drew.step)⟩
      · by_cases h2 : 300 < k.size
        · have HE : Hid (t = false) := Lib.hid (by
            rw [HT.out]; unfold lightB; rw [List.all_eq_false]
            exact ⟨keys[j], List.getElem_mem hlt, by rw [← hk]; simp; omega⟩)
          clear hk
          go_wp2
          go_ret
          exact ⟨by rw [HE.out]; rfl, by repeat (first | exact Drew.refl _ | apply Drew.step)⟩
        · have HJ2 : Hid (∀ i (h : i < keys.length), i < j + 1 → keys.length ≤ 100 ∧ keys[i].size ≤ 300) := Lib.hid fun i hi h => by
            by_cases e : i = j
            · subst e; rw [← hk]; omega
            · exact HJ.out i hi (by omega)
          clear hk
          go_wp2
          go_roundw
          case rel => exact ⟨j + 1, by omega, by go_num, HJ2, by repeat (first | exact Drew.refl _ | apply Drew.step)⟩
          case measure => simp [intOf]; omega
    · have HE : Hid (t = true) := Lib.hid (by
        rw [HT.out]; unfold lightB; rw [List.all_eq_true]
        intro k hk
        obtain ⟨i, hi, rfl⟩ := List.mem_iff_getElem.mp hk
        have := HJ.out i hi (by omega)
        simp; exact this)
      go_wp2
      go_ret
      exact ⟨by rw [HE.out]; rfl, by repeat (first | exact Drew.refl _ | apply Drew.step)⟩

end Go.Proofs.Ytmdglcdilabbaaa
