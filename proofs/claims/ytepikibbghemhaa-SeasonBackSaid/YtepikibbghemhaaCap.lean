/-
  A slice that is none has no room.
-/
import Derived.Test.YtepikibbghemhaaArgs
namespace Go.Proofs.Ytepikibbghemhaa
open Go.ChangeShapes Go.WideShapes Go.Deep Go.RowKit
section
variable {H : Type} {enc : TypeId × Value → H} {P : Program} {w : World} {base : Nat} {spare : Nat → Bool} {held : Bool}
theorem rows_cap {t e : TypeId} {a : Option Addr} {len cap : Nat} {d : DataW H} {p : List MemPlace}
    (ht : P.underlying t = some (.slice e)) (h : DataW.Trod enc P w base spare held t (.slice a len cap) d p) : a = none → cap = 0 := by
  obtain ⟨fuel, hf⟩ := h
  simp only [Value.cells] at hf
  rcases open_slice ht hf with ⟨hcs, _⟩ | ⟨x, len', cap', m, n, D, Pl, hcs, _⟩
  · simp at hcs
    obtain ⟨rfl, rfl, rfl⟩ := hcs
    exact fun _ => rfl
  · simp at hcs
    obtain ⟨rfl, rfl, rfl⟩ := hcs
    intro h; cases h
end
end Go.Proofs.Ytepikibbghemhaa
