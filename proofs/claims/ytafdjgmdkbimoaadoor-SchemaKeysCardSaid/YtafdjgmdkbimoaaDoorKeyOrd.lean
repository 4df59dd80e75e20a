/-
  key's makers of parts, its order, and key.Less by contract.
-/
import Derived.Test.YtafdjgmdkbimoaaDoorKeyMake
namespace Go.Proofs.YtafdjgmdkbimoaaDoor
open Go.RowKit
set_option linter.unusedVariables false
set_option linter.unusedSimpArgs false

theorem info_part : (Tryd.prog.info? 51).map (·.size) = some 4 := by kernel_rfl
theorem info_cells4 (a n u : Int) (s : ByteArray) : (Tryd.prog.info? 51).map (·.size) = some (cells4 a n u s).size := info_part

set_option maxHeartbeats 1000000 in
theorem key_up (n : Int) (w : World) :
    Calls Tryd.prog 27 #[.int .i64 n] w fun e w' => e = .returned (.agg (cells4 105 n 0 ByteArray.empty)) ∧ Below w.heap.size w w' := by
  have hz := zero_part
  go_enter Tryd.func27, Tryd.ntmps27
  go_wp2
  refine bodyPost_ret (results_cell_row Tryd.results27 _ _ w.heap.size 51 (cells4 105 n 0 ByteArray.empty) (0, 0) _ rfl (heap_alloc_new _ _) Tryd.underlying51 rfl (info_cells4 _ _ _ _)) rfl ?_
  exact ⟨rfl, by (repeat (first | exact Below.refl _ _ | assumption | apply below_drewN | (refine Below.alloc ?_ (by first | assumption | omega | (simp; try omega)) _)))⟩

set_option maxHeartbeats 1000000 in
theorem key_down (n : Int) (w : World) :
    Calls Tryd.prog 38 #[.int .i64 n] w fun e w' => e = .returned (.agg (cells4 100 n 0 ByteArray.empty)) ∧ Below w.heap.size w w' := by
  have hz := zero_part
  go_enter Tryd.func38, Tryd.ntmps38
  go_wp2
  refine bodyPost_ret (results_cell_row Tryd.results38 _ _ w.heap.size 51 (cells4 100 n 0 ByteArray.empty) (0, 0) _ rfl (heap_alloc_new _ _) Tryd.underlying51 rfl (info_cells4 _ _ _ _)) rfl ?_
  exact ⟨rfl, by (repeat (first | exact Below.refl _ _ | assumption | apply below_drewN | (refine Below.alloc ?_ (by first | assumption | omega | (simp; try omega)) _)))⟩

set_option maxHeartbeats 1000000 in
theorem key_count (n : Int) (w : World) :
    Calls Tryd.prog 28 #[.int .u64 n] w fun e w' => e = .returned (.agg (cells4 117 0 n ByteArray.empty)) ∧ Below w.heap.size w w' := by
  have hz := zero_part
  go_enter Tryd.func28, Tryd.ntmps28
  go_wp2
  refine bodyPost_ret (results_cell_row Tryd.results28 _ _ w.heap.size 51 (cells4 117 0 n ByteArray.empty) (0, 0) _ rfl (heap_alloc_new _ _) Tryd.underlying51 rfl (info_cells4 _ _ _ _)) rfl ?_
  exact ⟨rfl, by (repeat (first | exact Below.refl _ _ | assumption | apply below_drewN | (refine Below.alloc ?_ (by first | assumption | omega | (simp; try omega)) _)))⟩

set_option maxHeartbeats 1000000 in
theorem key_text (s : ByteArray) (w : World) :
    Calls Tryd.prog 31 #[.string s] w fun e w' => e = .returned (.agg (cells4 116 0 0 s)) ∧ Below w.heap.size w w' := by
  have hz := zero_part
  go_enter Tryd.func31, Tryd.ntmps31
  go_wp2
  refine bodyPost_ret (results_cell_row Tryd.results31 _ _ w.heap.size 51 (cells4 116 0 0 s) (0, 0) _ rfl (heap_alloc_new _ _) Tryd.underlying51 rfl (info_cells4 _ _ _ _)) rfl ?_
  exact ⟨rfl, by (repeat (first | exact Below.refl _ _ | assumption | apply below_drewN | (refine Below.alloc ?_ (by first | assumption | omega | (simp; try omega)) _)))⟩

def cmpS (a b : ByteArray) : Int := if Op.bytesLess a.toList b.toList = true then -1 else if a = b then 0 else 1

def cmpI (a b : Int) : Int := if a < b then -1 else if b < a then 1 else 0
/-- which of two parts stands ahead -/
def cmpP (a b : PartR) : Int :=
  if ¬ a.sort = b.sort then cmpI a.sort b.sort
  else if a.sort = 105 then cmpI a.n b.n
  else if a.sort = 100 then cmpI b.n a.n
  else if a.sort = 117 then cmpI a.u b.u
  else if a.sort = 116 then cmpS a.s b.s
  else 0

/-- which of two rows stands ahead -/
def cmpL : List PartR → List PartR → Int
  | [], [] => 0
  | [], _ :: _ => -1
  | _ :: _, [] => 1
  | a :: l, b :: m => if cmpP a b = 0 then cmpL l m else cmpP a b

end Go.Proofs.YtafdjgmdkbimoaaDoor
