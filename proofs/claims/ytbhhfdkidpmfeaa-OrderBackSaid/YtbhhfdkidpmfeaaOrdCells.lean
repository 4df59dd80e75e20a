/-
  Orders: the chapter's example; an order's cells.
-/
import Derived.Test.YtbhhfdkidpmfeaaOrd
import Derived.Test.YtbhhfdkidpmfeaaKit
namespace Go.Proofs.Ytbhhfdkidpmfeaa
open Go.RowKit
set_option linter.unusedVariables false
set_option linter.unusedSimpArgs false

set_option maxHeartbeats 1000000 in
theorem Awake19 (w : World) : Calls Try.prog 14 #[] w fun e w' => e = .returned (.bool true) ∧ Drew w w' := by
  go_enter Try.func14, Try.ntmps14
  go_wp2_with (go_at_call 27; refine (awake19 _).mono ?_; rintro e w1 ⟨rfl, ⟨n, rfl⟩⟩)
  go_ret
  exact ⟨rfl, by repeat (first | exact Drew.refl _ | apply Drew.step)⟩

set_option maxHeartbeats 1000000 in
theorem awake20 (w : World) : Calls Try.prog 5 #[] w fun e w' => e = .returned (.bool true) ∧ Below w.heap.size w w' := by
  have hm : str (numL (zz 1).toNat ++ numL (zz 2).toNat) = ⟨#[2, 4]⟩ := by kernel_rfl
  have M : Hid (∀ wx, Calls Try.prog 11 #[.agg #[.int .i64 1, .int .i64 2]] wx fun e w' => e = .returned (.string ⟨#[2, 4]⟩) ∧ Below wx.heap.size wx w') := Lib.hid fun wx => by
    rw [← hm]; exact order_money 1 2 wx (by decide) (by decide)
  have O : Hid (∀ wx, Calls Try.prog 13 #[.int .i64 1] wx fun e w' => e = .returned (.int .i64 2) ∧ Drew wx w') := Lib.hid fun wx => order_other 1 wx
  clear hm
  go_enter Try.func5, Try.ntmps5
  go_wp2_with (first | (go_at_call 11; refine (M.out _).mono ?_; rintro e w1 ⟨rfl, hB⟩) | (go_at_call 13; refine (O.out _).mono ?_; rintro e w1 ⟨rfl, ⟨n1, rfl⟩⟩) | (go_at_call 14; refine (Awake19 _).mono ?_; rintro e w1 ⟨rfl, ⟨n2, rfl⟩⟩))
  go_ret
  exact ⟨rfl, by (repeat (first | exact Below.refl _ _ | assumption | apply below_drewN | (refine Below.alloc ?_ (by simp; try omega) _)))⟩

/-- the law's own order lies in block b -/
abbrev cells9 (id ac sd pr sz lf rk ex st : Int) : Obj := .cells #[.int .u64 id, .int .u64 ac, .int .i64 sd, .int .i64 pr, .int .i64 sz, .int .i64 lf, .int .u64 rk, .int .u64 ex, .int .i64 st] 24 (0, 0)

theorem cells9_of {w : World} {B : Nat} {id ac sd pr sz lf rk ex st : Int} (h : w.heap[B]? = some (cells9 id ac sd pr sz lf rk ex st)) :
    w.cell? ⟨B, 0, none⟩ = some (.int .u64 id) ∧ w.cell? ⟨B, 1, none⟩ = some (.int .u64 ac) ∧ w.cell? ⟨B, 2, none⟩ = some (.int .i64 sd) ∧ w.cell? ⟨B, 3, none⟩ = some (.int .i64 pr) ∧ w.cell? ⟨B, 4, none⟩ = some (.int .i64 sz) ∧ w.cell? ⟨B, 5, none⟩ = some (.int .i64 lf) ∧ w.cell? ⟨B, 6, none⟩ = some (.int .u64 rk) ∧ w.cell? ⟨B, 7, none⟩ = some (.int .u64 ex) ∧ w.cell? ⟨B, 8, none⟩ = some (.int .i64 st) := by
  refine ⟨?_, ?_, ?_, ?_, ?_, ?_, ?_, ?_, ?_⟩ <;> (rw [cell_of_row _ _ _ _ _ _ h]; rfl)

end Go.Proofs.Ytbhhfdkidpmfeaa
