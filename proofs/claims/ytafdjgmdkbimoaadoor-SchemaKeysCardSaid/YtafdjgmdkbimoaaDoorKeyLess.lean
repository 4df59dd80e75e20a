/-
  key.Less by contract; the chapter's example.
-/
import Derived.Test.YtafdjgmdkbimoaaDoorKeyOrd
import Derived.Test.YtafdjgmdkbimoaaDoorKeyAfter
namespace Go.Proofs.YtafdjgmdkbimoaaDoor
open Go.RowKit
set_option linter.unusedVariables false
set_option linter.unusedSimpArgs false

theorem cmpL_take (l m : List PartR) (j : Nat) (h1 : j < l.length) (h2 : j < m.length) : cmpL (l.drop j) (m.drop j) = if cmpP l[j] m[j] = 0 then cmpL (l.drop (j + 1)) (m.drop (j + 1)) else cmpP l[j] m[j] := by
  rw [List.drop_eq_getElem_cons h1, List.drop_eq_getElem_cons h2]; rfl

end Go.Proofs.YtafdjgmdkbimoaaDoor
