/-
  Which batches are gone through (Light), the number behind (Next), the chapter's example.
-/
import Derived.Test.YthhgijjdddcchaaBatIn
namespace Go.Proofs.Ythhgijjdddcchaa
open Go.RowKit
set_option linter.unusedVariables false
set_option linter.unusedSimpArgs false

def LightB (l : List ChangeR) : Prop := ∀ c ∈ l, l.length ≤ 60 ∧ c.key.size ≤ 300 ∧ c.value.size ≤ 4200

set_option maxRecDepth 100000 in
set_option maxHeartbeats 4000000 in
theorem batch_light (l : List ChangeR) (A : Option Addr) (cap : Nat) (w : World) (hr : RowsAt w A 3 ChangeR.row l) (hlen : l.length ≤ 9223372036854775807) :
    Calls Try.prog 5 #[.slice A l.length cap] w fun e w' => ∃ b, e = .returned (.bool b) ∧ (b = true ↔ LightB l) ∧ Below w.heap.size w w' := by
  have HR := Lib.hid hr
  clear hr
  go_enter Try.func5, Try.ntmps5
  go_wp2
  go_loopw [7] (fun v7 wr => ∃ k : Nat, k ≤ l.length ∧ v7 = .int .i64 (k : Int) ∧ Hid (∀ c ∈ l.take k, l.length ≤ 60 ∧ c.key.size ≤ 300 ∧ c.value.size ≤ 4200) ∧ Below w.heap.size w wr) (fun v _ => l.length - (intOf v).toNat)
  case atStart => exact ⟨0, by omega, rfl, Lib.hid (by simp), Below.refl _ _⟩
  case round =>
    obtain ⟨k, hk, rfl, HD, hB⟩ := hrel
    by_cases hlt : k < l.length
    · obtain ⟨b, o, rfl, c0, c1, c2⟩ := change_cells (HR.out.moved hB) k hlt
      have HT2 : Hid (l.take (k + 1) = l.take k ++ [l[k]]) := Lib.hid (List.take_succ_eq_append_getElem hlt)
      have HM : Hid (l[k] ∈ l) := Lib.hid (List.getElem_mem hlt)
      obtain ⟨x, hx⟩ : ∃ x, x = l[k] := ⟨_, rfl⟩
      rw [← hx] at c0 c1 c2 HT2 HM
      clear hx
      obtain ⟨x0, x1, x2⟩ := x
      simp only at c0 c1 c2
      by_cases h1 : 60 < l.length
      · have E : Hid (¬ LightB l) := Lib.hid (fun h => by have := (h _ HM.out).1; omega)
        clear HD
        go_wp2
        go_ret
        first | exact .inl ⟨rfl, E.out, hB.alloc hB.size _⟩ | exact ⟨false, rfl, ⟨fun h => by (cases h), fun h => absurd h E.out⟩, hB.alloc hB.size _⟩
      by_cases h2 : 300 < x1.size
      · have E : Hid (¬ LightB l) := Lib.hid (fun h => by have := (h _ HM.out).2.1; simp only at this; omega)
        clear HD
        go_wp2
        go_ret
        first | exact .inl ⟨rfl, E.out, hB.alloc hB.size _⟩ | exact ⟨false, rfl, ⟨fun h => by (cases h), fun h => absurd h E.out⟩, hB.alloc hB.size _⟩
      by_cases h3 : 4200 < x2.size
      · have E : Hid (¬ LightB l) := Lib.hid (fun h => by have := (h _ HM.out).2.2; simp only at this; omega)
        clear HD
        go_wp2
        go_ret
        first | exact .inl ⟨rfl, E.out, hB.alloc hB.size _⟩ | exact ⟨false, rfl, ⟨fun h => by (cases h), fun h => absurd h E.out⟩, hB.alloc hB.size _⟩
      · have HD2 : Hid (∀ c ∈ l.take (k + 1), l.length ≤ 60 ∧ c.key.size ≤ 300 ∧ c.value.size ≤ 4200) := Lib.hid (by
          intro c hc
          rw [HT2.out] at hc
          rcases List.mem_append.1 hc with hc | hc
          · exact HD.out c hc
          · simp only [List.mem_singleton] at hc
            subst hc
            exact ⟨by omega, by simp only; omega, by simp only; omega⟩)
        clear HD HT2 HM
        go_wp2
        go_roundw
        case rel => exact ⟨k + 1, by omega, by go_num, HD2, hB.alloc hB.size _⟩
        case measure => simp [intOf]; omega
    · obtain rfl : k = l.length := by omega
      go_wp2
      go_ret
      first | exact .inr ⟨rfl, by (have h := HD.out; rw [List.take_length] at h; exact h), hB⟩ | exact ⟨true, rfl, ⟨fun _ => by (have h := HD.out; rw [List.take_length] at h; exact h), fun _ => rfl⟩, hB⟩

set_option maxHeartbeats 1000000 in
theorem batch_next0 (q : Int) (w : World) (h0 : 0 ≤ q) (h1 : q < 18446744073709551616) :
    Calls Try.prog 9 #[.agg #[.int .u64 q, .slice none 0 0]] w fun e w' => e = .returned (.int .u64 q) ∧ Below w.heap.size w w' := by
  have hw : IntKind.u64.wrap q = q := by rw [wrap_u64]; exact Int.emod_eq_of_lt h0 h1
  go_enter Try.func9, Try.ntmps9
  go_wp2
  go_ret
  exact ⟨by first | rfl | (simp; omega), by (repeat (first | exact Below.refl _ _ | assumption | apply below_drewN | (refine Below.alloc ?_ (by first | assumption | omega | (simp; try omega)) _)))⟩
end Go.Proofs.Ythhgijjdddcchaa
