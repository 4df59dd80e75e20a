/-
  Whether the numbers of a row are small, all together.
-/
import Derived.Test.YtepikibbghemhaaSeaPl
namespace Go.Proofs.Ytepikibbghemhaa
open Go.RowKit
set_option linter.unusedVariables false
set_option linter.unusedSimpArgs false

theorem small_no {l : List Int} (h : 1125899906842624 < total l) : smallB l = false := by
  unfold smallB room; simp; omega
theorem small_yes {l : List Int} (h : total l ≤ 1125899906842624) : smallB l = true := by
  unfold smallB room; simp; omega

set_option maxRecDepth 100000 in
set_option maxHeartbeats 1000000 in
theorem season_small (l : List Int) (A : Option Addr) (c : Nat) (w : World) (hr : RowsAt w A 1 intRow l) (hb : ∀ n ∈ l, I64 n) (hlen : l.length ≤ 9223372036854775807) :
    Calls Try.prog 16 #[.slice A l.length c] w fun e w' => e = .returned (.bool (smallB l)) ∧ w = w' := by
  have HR := Lib.hid hr
  have HB := Lib.hid hb
  clear hr hb
  go_enter Try.func16, Try.ntmps16
  go_wp2
  go_loop [3, 9] (fun v3 v9 => ∃ (k : Nat) (S : Nat), k ≤ l.length ∧ v9 = .int .i64 (k : Int) ∧ v3 = .int .u64 (S : Int) ∧ Hid (S = total (l.take k)) ∧ S ≤ 1125899906842624) (fun _ v9 => l.length - (intOf v9).toNat)
  case atStart => exact ⟨0, 0, by omega, rfl, rfl, Lib.hid (by simp [total]), by omega⟩
  case round =>
    obtain ⟨k, S, hk, rfl, rfl, HS, hS⟩ := hrel
    by_cases hlt : k < l.length
    · obtain ⟨b, o, rfl, hc⟩ := ints_at HR.out k hlt
      have HT := Lib.hid (total_take_succ l k hlt)
      have HL := Lib.hid (total_take_le l (k + 1))
      obtain ⟨hx0, hx1⟩ := HB.out l[k] (List.getElem_mem hlt)
      obtain ⟨x, hx⟩ : ∃ x, x = l[k] := ⟨_, rfl⟩
      rw [← hx] at hc hx0 hx1 HT
      clear hx
      by_cases hneg : x < 0
      · have e1 : IntKind.u64.wrap x = x + 18446744073709551616 := by simp [IntKind.wrap, IntKind.bits, IntKind.signed]; omega
        have e2 : IntKind.u64.wrap (-(x + 18446744073709551616)) = -x := by simp [IntKind.wrap, IntKind.bits, IntKind.signed]; omega
        have e3 : IntKind.u64.wrap ((S : Int) + -x) = ((S + x.natAbs : Nat) : Int) := by simp [IntKind.wrap, IntKind.bits, IntKind.signed]; omega
        go_wp2
        all_goals first
          | (go_ret; exact ⟨by have h1 := HT.out; have h2 := HS.out; have h3 := HL.out; rw [small_no (l := l) (by omega)]; rfl, rfl⟩)
          | (go_round
             case rel => exact ⟨k + 1, S + x.natAbs, by omega, by go_num, by rw [Int.natCast_add], Lib.hid (by rw [HT.out, HS.out]), by omega⟩
             case measure => simp [intOf]; omega)
      · have e1 : IntKind.u64.wrap x = x := by simp [IntKind.wrap, IntKind.bits, IntKind.signed]; omega
        have e3 : IntKind.u64.wrap ((S : Int) + x) = ((S + x.natAbs : Nat) : Int) := by simp [IntKind.wrap, IntKind.bits, IntKind.signed]; omega
        go_wp2
        all_goals first
          | (go_ret; exact ⟨by have h1 := HT.out; have h2 := HS.out; have h3 := HL.out; rw [small_no (l := l) (by omega)]; rfl, rfl⟩)
          | (go_round
             case rel => exact ⟨k + 1, S + x.natAbs, by omega, by go_num, by rw [Int.natCast_add], Lib.hid (by rw [HT.out, HS.out]), by omega⟩
             case measure => simp [intOf]; omega)
    · go_wp2
      go_ret
      have e : l.take k = l := List.take_of_length_le (by omega)
      have h := HS.out
      rw [e] at h
      exact ⟨by rw [small_yes (l := l) (by omega)]; rfl, rfl⟩
end Go.Proofs.Ytepikibbghemhaa
