/-
  The walk of AmountSums: sums of any numbers, one behind the other.
-/
import Derived.Test.YtjhndklfjkahoaaAmtRef
namespace Go.Proofs.Ytjhndklfjkahoaa
open Go.RowKit
set_option linter.unusedVariables false
set_option linter.unusedSimpArgs false

theorem ReadsI.ofRow {k : IntKind} {w : World} {a : Option Addr} {len cap : Nat} {zs : List Int} (h : (a = none ∧ len = 0 ∧ cap = 0 ∧ zs = []) ∨ ∃ x, a = some x ∧ len ≤ cap ∧ cap ≤ maxLen ∧ zs.length = cap ∧ (∀ i, i < zs.length → w.cell? (x.add i) = some (.int k (zs.getD i 0))) ∧ ∀ n ∈ zs, (Lit.int k n).wf = true) :
    ∃ l : List Int, len = l.length ∧ ReadsI k w a l.length l ∧ (∀ x ∈ l, (Lit.int k x).wf = true) ∧ l.length ≤ cap := by
  rcases h with ⟨rfl, rfl, rfl, rfl⟩ | ⟨x, rfl, hl, hm, hz, hc, hw⟩
  · exact ⟨[], rfl, ⟨rfl, Nat.zero_le _, fun h => absurd h (by simp)⟩, fun x hx => by simp at hx, Nat.le_refl _⟩
  · have e : (zs.take len).length = len := by simp; omega
    refine ⟨zs.take len, e.symm, ⟨rfl, by rw [e]; omega, fun _ => ⟨x, rfl, fun j hj => ?_⟩⟩, fun y hy => hw y (List.mem_of_mem_take hy), by omega⟩
    rw [e] at hj
    rw [hc j (by omega)]
    simp [List.getD_eq_getElem?_getD, hj]

set_option maxHeartbeats 1000000 in
theorem ref_sum (A : Option Addr) (c : Nat) (l : List Int) (w : World) (hl : ∀ x ∈ l, in64 x = true) (hr : ReadsI .i64 w A l.length l) :
    Calls Try.prog 14 #[.slice A l.length c] w fun e w' => e = .returned (.tuple #[.int .i64 (sumS 0 l).1, .int .i64 (sumS 0 l).2]) ∧ Drew w w' := by
  have HR := Lib.hid hr
  have HL := Lib.hid hl
  have hm : l.length ≤ 9223372036854775807 := hr.2.1
  clear hr hl
  obtain ⟨t, ht⟩ : ∃ t, t = sumS 0 l := ⟨_, rfl⟩
  rw [← ht]
  have HT := Lib.hid ht
  clear ht
  go_enter Try.func14, Try.ntmps14
  go_wp2
  go_loopw [4, 11] (fun v4 v10 wr => ∃ (k : Nat) (n : Int), k ≤ l.length ∧ v10 = .int .i64 k ∧ v4 = .int .i64 n ∧ Hid (sumS n (l.drop k) = t) ∧ Hid (in64 n = true) ∧ Drew w wr) (fun _ v _ => l.length - (intOf v).toNat)
  case atStart => exact ⟨0, 0, Nat.zero_le _, rfl, rfl, Lib.hid HT.out.symm, Lib.hid (by decide), Drew.refl _⟩
  case round =>
    obtain ⟨k, n, hk, rfl, rfl, HS, HN, ⟨⟨m, rfl⟩⟩⟩ := hrel
    by_cases hlt : k < l.length
    · obtain ⟨ad, e, hcell⟩ := HR.out.at_ k hlt
      subst e
      obtain ⟨x, hx⟩ : ∃ x, x = l.getD k 0 := ⟨_, rfl⟩
      rw [← hx] at hcell
      have HX := Lib.hid hx
      have HI : Hid (in64 x = true) := Lib.hid (HL.out _ (by rw [hx, List.getD_eq_getElem?_getD, List.getElem?_eq_getElem hlt]; exact List.getElem_mem hlt))
      have HS2 : Hid (t = if in64 (n + x) then sumS (n + x) (l.drop (k + 1)) else (0, 24)) := Lib.hid (by rw [← HS.out, drop_at l k hlt, ← hx]; rfl)
      clear hx HS
      cases hi : in64 (n + x)
      · have A1 := Lib.hid (fits_no hi)
        have HE : Hid (t = (0, 24)) := Lib.hid (by rw [HS2.out, hi]; rfl)
        clear hi HS2
        go_wp2_with (go_at_call 15; refine (ref_add _ _ _ HN.out HI.out).mono ?_; rw [A1.out.1, A1.out.2]; rintro e w' ⟨rfl, ⟨nd, rfl⟩⟩)
        go_ret2
        exact ⟨by rw [HE.out]; rfl, by repeat (first | exact Drew.refl _ | apply Drew.step)⟩
      · have A1 := Lib.hid (fits_yes hi)
        have HE : Hid (sumS (n + x) (l.drop (k + 1)) = t) := Lib.hid (by rw [HS2.out, hi]; rfl)
        have HI2 := Lib.hid hi
        clear hi HS2
        obtain ⟨y, hy⟩ : ∃ y, y = n + x := ⟨_, rfl⟩
        rw [← hy] at HE HI2 A1
        have HY := Lib.hid hy
        clear hy
        go_wp2_with (go_at_call 15; refine (ref_add _ _ _ HN.out HI.out).mono ?_; rw [← HY.out, A1.out.1, A1.out.2]; rintro e w' ⟨rfl, ⟨nd, rfl⟩⟩)
        go_roundw
        case rel => exact ⟨k + 1, y, by omega, by go_num, rfl, HE, HI2, by repeat (first | exact Drew.refl _ | apply Drew.step)⟩
        case measure => simp [intOf]; omega
    · have HE : Hid (t = (n, 0)) := Lib.hid (by rw [← HS.out, List.drop_of_length_le (by omega)]; rfl)
      go_wp2
      go_ret2
      exact ⟨by rw [HE.out]; rfl, by repeat (first | exact Drew.refl _ | apply Drew.step)⟩


set_option maxHeartbeats 1000000 in
theorem AmountSums_walk (a0 : Option Addr) (len0 cap0 : Nat) (z0 : List Int) (w : World)
    (w0 : (a0 = none ∧ len0 = 0 ∧ cap0 = 0 ∧ z0 = []) ∨ ∃ x, a0 = some x ∧ len0 ≤ cap0 ∧ cap0 ≤ maxLen ∧ z0.length = cap0 ∧ (∀ i, i < z0.length → w.cell? (x.add i) = some (.int .i64 (z0.getD i 0))) ∧ ∀ n ∈ z0, (Lit.int .i64 n).wf = true) :
    Calls Try.prog 5 #[.slice a0 len0 cap0] w fun e w' => e = .returned (.bool true) ∧ Below w.heap.size w w' := by
  suffices h : Calls Try.prog 5 #[.slice a0 len0 cap0] w fun e w' => e = .returned (.bool true) ∧ Drew w w' from h.mono fun _ _ h => ⟨h.1, h.2.below⟩
  obtain ⟨l, rfl, hr, hw, hc⟩ := ReadsI.ofRow w0
  have HR := Lib.hid hr
  have HL : Hid (∀ x ∈ l, in64 x = true) := Lib.hid fun x hx => in64_wf (hw x hx)
  have hm : l.length ≤ 9223372036854775807 := hr.2.1
  clear hr hw w0 hc
  obtain ⟨t, ht⟩ : ∃ t, t = (sumS 0 l).1 := ⟨_, rfl⟩
  obtain ⟨o, ho⟩ : ∃ o, o = (sumS 0 l).2 := ⟨_, rfl⟩
  have HT := Lib.hid ht
  have HO := Lib.hid ho
  clear ht ho
  by_cases h100 : 100 < l.length
  · go_enter Try.func5, Try.ntmps5
    go_wp2_with (go_at_call 7; refine (awake19 _).mono ?_; rintro e w' ⟨rfl, ⟨nd, rfl⟩⟩)
    go_ret
    exact ⟨rfl, by repeat (first | exact Drew.refl _ | apply Drew.step)⟩
  · go_enter Try.func5, Try.ntmps5
    go_wp2_with (first | (go_at_call 7; refine (awake19 _).mono ?_; rintro e w' ⟨rfl, ⟨nd, rfl⟩⟩) | (go_at_call 13; refine (amount_sum _ _ _ _ HL.out (by exact HR.out.drew ⟨⟨_, rfl⟩⟩)).mono ?_; rw [← HT.out, ← HO.out]; rintro e w' ⟨rfl, ⟨nd, rfl⟩⟩) | (go_at_call 14; refine (ref_sum _ _ _ _ HL.out (by exact HR.out.drew ⟨⟨_, rfl⟩⟩)).mono ?_; rw [← HT.out, ← HO.out]; rintro e w' ⟨rfl, ⟨nd, rfl⟩⟩))
    go_ret
    exact ⟨rfl, by repeat (first | exact Drew.refl _ | apply Drew.step)⟩

end Go.Proofs.Ytjhndklfjkahoaa
