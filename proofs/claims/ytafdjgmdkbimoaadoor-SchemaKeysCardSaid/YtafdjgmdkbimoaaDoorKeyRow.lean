/-
  The law's small functions on rows of parts: light, plain, same, To.
-/
import Derived.Test.YtafdjgmdkbimoaaDoorKeyLess
import Derived.Test.YtafdjgmdkbimoaaDoorRow
import Derived.BigQuiet
namespace Go.Proofs.YtafdjgmdkbimoaaDoor
open Go.RowKit
set_option linter.unusedVariables false
set_option linter.unusedSimpArgs false

theorem PartR.len (p : PartR) : p.row.length = 4 := rfl
theorem info_part3 : (Tryd.prog.info? 51).map (fun i => (i.zero, i.size, i.bytes)) = some (some (.agg (cells4 0 0 0 ByteArray.empty)), 4, 40) := by kernel_rfl
theorem info_rpart3 : (Tryd.prog.info? 48).map (fun i => (i.zero, i.size, i.bytes)) = some (some (.agg (cells4 0 0 0 ByteArray.empty)), 4, 40) := by kernel_rfl

/-- is a row gone through? -/
def lightB (l : List PartR) : Bool := decide (l.length ≤ 30) && l.all fun p => decide (p.s.size ≤ 300)
theorem lightB_drop (l : List PartR) (j : Nat) (hj : j < l.length) : ((l.drop j).all fun p => decide (p.s.size ≤ 300)) = (decide (l[j].s.size ≤ 300) && ((l.drop (j + 1)).all fun p => decide (p.s.size ≤ 300))) := by
  rw [List.drop_eq_getElem_cons hj]; rfl

/-- a part with what counts alone -/
def plainP (p : PartR) : PartR := ⟨p.sort, if p.sort = 105 ∨ p.sort = 100 then p.n else 0, if p.sort = 117 then p.u else 0, if p.sort = 116 then p.s else ByteArray.empty⟩

/-- two parts, two rows alike -/
def partEq (p q : PartR) : Bool := decide (p.sort = q.sort) && (decide (p.n = q.n) && (decide (p.u = q.u) && decide (p.s = q.s)))
def sameL : List PartR → List PartR → Bool
  | [], [] => true
  | p :: l, q :: m => partEq p q && sameL l m
  | _, _ => false
theorem sameL_len : ∀ (l m : List PartR), l.length ≠ m.length → sameL l m = false
  | [], [], h => absurd rfl h
  | [], _ :: _, _ => rfl
  | _ :: _, [], _ => rfl
  | p :: l, q :: m, h => by
    rw [sameL, sameL_len l m (by simpa using h), Bool.and_false]
theorem sameL_drop (l m : List PartR) (j : Nat) (h1 : j < l.length) (h2 : j < m.length) : sameL (l.drop j) (m.drop j) = (partEq l[j] m[j] && sameL (l.drop (j + 1)) (m.drop (j + 1))) := by
  rw [List.drop_eq_getElem_cons h1, List.drop_eq_getElem_cons h2]; rfl

end Go.Proofs.YtafdjgmdkbimoaaDoor
