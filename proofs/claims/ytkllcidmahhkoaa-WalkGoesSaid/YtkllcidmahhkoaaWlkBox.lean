/-
  A walk's box, a whole place, the ends of numbers: by contract.
-/
import Derived.Test.YtkllcidmahhkoaaWlkOf
namespace Go.Proofs.Ytkllcidmahhkoaa
open Go.RowKit
set_option linter.unusedVariables false
set_option linter.unusedSimpArgs false

def intRow (n : Int) : List Value := [.int .i64 n]
theorem int_cell {w : World} {a : Option Addr} {l : List Int} (h : RowsAt w a 1 intRow l) (i : Nat) (hi : i < l.length) : ∃ b o, a = some ⟨b, o, none⟩ ∧ w.cell? ⟨b, o + i, none⟩ = some (.int .i64 l[i]) :=
  h.one (fun _ => rfl) i hi

set_option maxRecDepth 100000 in
set_option maxHeartbeats 2000000 in
theorem walk_box (p : PathW) (z : PathZ) (hp : PRep p z) (hf : z.fine 1000) (w : World) :
    Calls Try.prog 12 #[.agg p.arr] w fun e w' => e = .returned (.tuple #[.int .i64 (z.ux - z.lx), .int .i64 (z.uy - z.ly)]) ∧ Below w.heap.size w w' := by
  have := hf.lx; have := hf.ly; have := hf.ux; have := hf.uy; have := hf.n0; have := hf.nK
  obtain ⟨u, v, hs, hc⟩ := crep_sub hp.u hp.l (by omega) (by omega)
  have i1 := rep_toInt hc.1 (by omega) (by omega)
  have i2 := rep_toInt hc.2 (by omega) (by omega)
  obtain ⟨c, hcd⟩ : ∃ c, c = z.ux - z.lx := ⟨_, rfl⟩
  obtain ⟨d, hdd⟩ : ∃ c, c = z.uy - z.ly := ⟨_, rfl⟩
  rw [← hcd] at i1 ⊢
  rw [← hdd] at i2 ⊢
  clear hc hf hp hcd hdd
  obtain ⟨a1, a2, a3, a4, a5, a6, a7, a8, a9⟩ := p
  simp only at hs
  have hsub : ∀ w, (binOp .sub 27 (.complex .f64 a8 a9) (.complex .f64 a6 a7)).run Try.prog w = .ok (.complex .f64 u v) w := fun w => run_complex_sum w .sub (.inr rfl) _ .f64 _ _ _ _ _ _ hs
  have hc1 := fun w => run_convert_float_int (P := Try.prog) w 32 3 .f64 .i64 _ _ (by kernel_rfl) (by kernel_rfl) i1
  have hc2 := fun w => run_convert_float_int (P := Try.prog) w 32 3 .f64 .i64 _ _ (by kernel_rfl) (by kernel_rfl) i2
  clear hs i1 i2
  go_enter Try.func12, Try.ntmps12
  go_wp2
  go_ret2
  exact ⟨rfl, by (repeat (first | exact Below.refl _ _ | assumption | apply below_drewN | (refine Below.setCell ?_ (by first | assumption | omega | (simp; try omega)) _) | (refine Below.alloc ?_ (by first | assumption | omega | (simp; try omega)) _)))⟩

set_option maxRecDepth 100000 in
set_option maxHeartbeats 2000000 in
theorem law_place (x y : Int) (hx : x.natAbs < 9007199254740992) (hy : y.natAbs < 9007199254740992) : ∃ u v, CRep u v x y ∧ ∀ w, Calls Try.prog 13 #[.int .i64 x, .int .i64 y] w fun e w' => e = .returned (.complex .f64 u v) ∧ w' = w := by
  have h1 := rep_of x hx
  have h2 := rep_of y hy
  refine ⟨_, _, ⟨h1, h2⟩, fun w => ?_⟩
  obtain ⟨u, hu⟩ : ∃ u, u = floatOfInt .f64 x := ⟨_, rfl⟩
  obtain ⟨v, hv⟩ : ∃ u, u = floatOfInt .f64 y := ⟨_, rfl⟩
  clear h1 h2 hx hy
  go_enter Try.func13, Try.ntmps13
  go_wp2
  go_ret
  exact ⟨by first | rfl | rw [hu, hv], rfl⟩

/-- the least and the greatest of numbers, and of 0 -/
def lowL (l : List Int) : Int := l.foldl min 0
def highL (l : List Int) : Int := l.foldl max 0
theorem lowL_take (l : List Int) (k : Nat) (h : k < l.length) : lowL (l.take (k + 1)) = min (lowL (l.take k)) l[k] := by
  unfold lowL; rw [List.take_succ_eq_append_getElem h, List.foldl_append]; rfl
theorem highL_take (l : List Int) (k : Nat) (h : k < l.length) : highL (l.take (k + 1)) = max (highL (l.take k)) l[k] := by
  unfold highL; rw [List.take_succ_eq_append_getElem h, List.foldl_append]; rfl
set_option maxRecDepth 100000 in
set_option maxHeartbeats 2000000 in
theorem ref34_ends (l : List Int) (A : Option Addr) (c : Nat) (w : World) (hr : RowsAt w A 1 intRow l) (hl : l.length ≤ 1000000000) :
    Calls Try.prog 11 #[.slice A l.length c] w fun e w' => e = .returned (.tuple #[.int .i64 (lowL l), .int .i64 (highL l)]) ∧ Below w.heap.size w w' := by
  have HR := Lib.hid hr
  clear hr
  go_enter Try.func11, Try.ntmps11
  go_wp2
  go_loopw [4, 5, 10] (fun v4 v5 v10 wr => ∃ k : Nat, k ≤ l.length ∧ v10 = .int .i64 (k : Int) ∧ v4 = .int .i64 (lowL (l.take k)) ∧ v5 = .int .i64 (highL (l.take k)) ∧ Below w.heap.size w wr) (fun _ _ v _ => l.length - (intOf v).toNat)
  case atStart => exact ⟨0, by omega, rfl, by simp [lowL], by simp [highL], Below.refl _ _⟩
  case round =>
    obtain ⟨k, hk, rfl, rfl, rfl, hB⟩ := hrel
    by_cases hlt : k < l.length
    · obtain ⟨b, o, rfl, c0⟩ := int_cell (HR.out.moved hB) k hlt
      have h1 := lowL_take l k hlt
      have h2 := highL_take l k hlt
      have H1 := Lib.hid h1
      have H2 := Lib.hid h2
      clear h1 h2
      obtain ⟨x, hx⟩ : ∃ x, x = l[k] := ⟨_, rfl⟩
      obtain ⟨u, hu⟩ : ∃ x, x = lowL (l.take k) := ⟨_, rfl⟩
      obtain ⟨v, hv⟩ : ∃ x, x = highL (l.take k) := ⟨_, rfl⟩
      rw [← hx] at c0 H1 H2
      rw [← hu] at H1 ⊢
      rw [← hv] at H2 ⊢
      clear hx hu hv
      by_cases h3 : x < u <;> by_cases h4 : v < x
      · have e1 : min u x = x := by omega
        have e2 : max v x = x := by omega
        rw [e1] at H1; rw [e2] at H2
        clear e1 e2
        go_wp2
        go_roundw
        case rel => exact ⟨k + 1, by omega, by go_num, by rw [H1.out], by rw [H2.out], hB⟩
        case measure => simp [intOf]; omega
      · have e1 : min u x = x := by omega
        have e2 : max v x = v := by omega
        rw [e1] at H1; rw [e2] at H2
        clear e1 e2
        go_wp2
        go_roundw
        case rel => exact ⟨k + 1, by omega, by go_num, by rw [H1.out], by rw [H2.out], hB⟩
        case measure => simp [intOf]; omega
      · have e1 : min u x = u := by omega
        have e2 : max v x = x := by omega
        rw [e1] at H1; rw [e2] at H2
        clear e1 e2
        go_wp2
        go_roundw
        case rel => exact ⟨k + 1, by omega, by go_num, by rw [H1.out], by rw [H2.out], hB⟩
        case measure => simp [intOf]; omega
      · have e1 : min u x = u := by omega
        have e2 : max v x = v := by omega
        rw [e1] at H1; rw [e2] at H2
        clear e1 e2
        go_wp2
        go_roundw
        case rel => exact ⟨k + 1, by omega, by go_num, by rw [H1.out], by rw [H2.out], hB⟩
        case measure => simp [intOf]; omega
    · obtain rfl : k = l.length := by omega
      have e1 : l.take l.length = l := List.take_length
      rw [e1]
      clear e1
      go_wp2
      go_ret2
      exact ⟨rfl, hB⟩
end Go.Proofs.Ytkllcidmahhkoaa
