/-
  Sum, by contract: a row of numbers that came in, one behind the other.
-/
import Derived.Test.YtjhndklfjkahoaaAmtAwake
namespace Go.Proofs.Ytjhndklfjkahoaa
open Go.RowKit
set_option linter.unusedVariables false
set_option linter.unusedSimpArgs false

/-- A slice of whole numbers that reads as a list. -/
def ReadsI (k : IntKind) (w : World) (A : Option Addr) (n : Nat) (xs : List Int) : Prop :=
  xs.length = n ∧ n ≤ maxLen ∧ (0 < n → ∃ ad, A = some ad ∧ ∀ j, j < n → w.cell? (ad.add j) = some (.int k (xs.getD j 0)))
theorem ReadsI.at_ {k : IntKind} {w : World} {A : Option Addr} {n : Nat} {xs : List Int} (h : ReadsI k w A n xs) (j : Nat) (hj : j < n) :
    ∃ ad, A = some ad ∧ w.cell? (ad.add j) = some (.int k (xs.getD j 0)) := by
  obtain ⟨ad, e, hc⟩ := h.2.2 (by omega)
  exact ⟨ad, e, hc _ hj⟩
theorem ReadsI.drew {k : IntKind} {w w' : World} {A : Option Addr} {n : Nat} {xs : List Int} (h : ReadsI k w A n xs) (d : Drew w w') : ReadsI k w' A n xs := by
  obtain ⟨⟨m, rfl⟩⟩ := d
  exact h

/-- one number behind the other; what doesn't fit ends it -/
def sumS : Int → List Int → Int × Int
  | n, [] => (n, 0)
  | n, x :: r => if in64 (n + x) then sumS (n + x) r else (0, 24)

theorem drop_at (l : List Int) (i : Nat) (h : i < l.length) : l.drop i = l.getD i 0 :: l.drop (i + 1) := by
  rw [List.drop_eq_getElem_cons h]; simp [List.getD_eq_getElem?_getD, h]

set_option maxHeartbeats 1000000 in
theorem amount_sum (A : Option Addr) (c : Nat) (l : List Int) (w : World) (hl : ∀ x ∈ l, in64 x = true) (hr : ReadsI .i64 w A l.length l) :
    Calls Try.prog 13 #[.slice A l.length c] w fun e w' => e = .returned (.tuple #[.int .i64 (sumS 0 l).1, .int .i64 (sumS 0 l).2]) ∧ Drew w w' := by
  have HR := Lib.hid hr
  have HL := Lib.hid hl
  have hm : l.length ≤ 9223372036854775807 := hr.2.1
  clear hr hl
  obtain ⟨t, ht⟩ : ∃ t, t = sumS 0 l := ⟨_, rfl⟩
  rw [← ht]
  have HT := Lib.hid ht
  clear ht
  go_enter Try.func13, Try.ntmps13
  go_wp2
  go_loopw [4, 10] (fun v4 v10 wr => ∃ (k : Nat) (n : Int), k ≤ l.length ∧ v10 = .int .i64 k ∧ v4 = .int .i64 n ∧ Hid (sumS n (l.drop k) = t) ∧ Hid (in64 n = true) ∧ Drew w wr) (fun _ v _ => l.length - (intOf v).toNat)
  case atStart => exact ⟨0, 0, Nat.zero_le _, rfl, rfl, Lib.hid HT.out.symm, Lib.hid (by decide), Drew.refl _⟩
  case round =>
    obtain ⟨k, n, hk, rfl, rfl, HS, HN, ⟨⟨m, rfl⟩⟩⟩ := hrel
    by_cases hlt : k < l.length
    · obtain ⟨ad, e, hcell⟩ := HR.out.at_ k hlt
      subst e
      obtain ⟨x, hx⟩ : ∃ x, x = l.getD k 0 := ⟨_, rfl⟩
      rw [← hx] at hcell
      have HX := Lib.hid hx
      have HI : Hid (in64 x = true) := Lib.hid (HL.out _ (by rw [hx, List.getD_eq_getElem?_getD, List.getElem?_eq_getElem hlt]; exact List.getElem_mem hlt))
      have HS2 : Hid (t = if in64 (n + x) then sumS (n + x) (l.drop (k + 1)) else (0, 24)) := Lib.hid (by rw [← HS.out, drop_at l k hlt, ← hx]; rfl)
      clear hx HS
      cases hi : in64 (n + x)
      · have A1 := Lib.hid (fits_no hi)
        have HE : Hid (t = (0, 24)) := Lib.hid (by rw [HS2.out, hi]; rfl)
        clear hi HS2
        go_wp2_with (go_at_call 10; refine (amount_add _ _ _ HN.out HI.out).mono ?_; rw [A1.out.1, A1.out.2]; rintro e w' ⟨rfl, ⟨nd, rfl⟩⟩)
        go_ret2
        exact ⟨by rw [HE.out]; rfl, by repeat (first | exact Drew.refl _ | apply Drew.step)⟩
      · have A1 := Lib.hid (fits_yes hi)
        have HE : Hid (sumS (n + x) (l.drop (k + 1)) = t) := Lib.hid (by rw [HS2.out, hi]; rfl)
        have HI2 := Lib.hid hi
        clear hi HS2
        obtain ⟨y, hy⟩ : ∃ y, y = n + x := ⟨_, rfl⟩
        rw [← hy] at HE HI2 A1
        have HY := Lib.hid hy
        clear hy
        go_wp2_with (go_at_call 10; refine (amount_add _ _ _ HN.out HI.out).mono ?_; rw [← HY.out, A1.out.1, A1.out.2]; rintro e w' ⟨rfl, ⟨nd, rfl⟩⟩)
        go_roundw
        case rel => exact ⟨k + 1, y, by omega, by go_num, rfl, HE, HI2, by repeat (first | exact Drew.refl _ | apply Drew.step)⟩
        case measure => simp [intOf]; omega
    · have HE : Hid (t = (n, 0)) := Lib.hid (by rw [← HS.out, List.drop_of_length_le (by omega)]; rfl)
      go_wp2
      go_ret2
      exact ⟨by rw [HE.out]; rfl, by repeat (first | exact Drew.refl _ | apply Drew.step)⟩

end Go.Proofs.Ytjhndklfjkahoaa
