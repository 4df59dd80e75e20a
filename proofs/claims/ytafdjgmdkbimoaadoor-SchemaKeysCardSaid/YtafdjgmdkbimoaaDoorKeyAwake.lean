/-
  key: the chapter's example.
-/
import Derived.Test.YtafdjgmdkbimoaaDoorKeyLess
namespace Go.Proofs.YtafdjgmdkbimoaaDoor
open Go.RowKit
set_option linter.unusedVariables false
set_option linter.unusedSimpArgs false

theorem rowsAt_part {w : World} {b : Nat} {t : TypeId} (p : PartR) (h : w.heap[b]? = some (.cells (cells4 p.sort p.n p.u p.s) t (0, 0))) : RowsAt w (some ⟨b, 0, none⟩) 4 PartR.row [p] := by
  refine ⟨.inr ⟨b, 0, rfl, fun i r hi j u hu => ?_⟩⟩
  have hi0 : i = 0 := by
    have := (List.getElem?_eq_some_iff.1 hi).1
    simpa using this
  subst hi0
  simp at hi
  subst hi
  rw [cell_of_row _ _ _ _ _ _ h]
  have e : (cells4 p.sort p.n p.u p.s)[0 + (0 * 4 + j)]? = (PartR.row p)[j]? := by
    rw [show 0 + (0 * 4 + j) = j from by omega]
    simp [PartR.row]
  rw [e, hu]
theorem rowsAt_nil {ρ : Type} {w : World} {m : Nat} {enc : ρ → List Value} : RowsAt w none m enc ([] : List ρ) := ⟨.inl rfl⟩

theorem up_row : partB ⟨105, -1, 0, ByteArray.empty⟩ = some [105, 127, 255, 255, 255, 255, 255, 255, 255] := by
  unfold partB
  rw [if_pos rfl]
  congr 1

end Go.Proofs.YtafdjgmdkbimoaaDoor
