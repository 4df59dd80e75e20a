/-
  Results that lie in memory as rows: a row and a slot.
-/
import Derived.Test.YtacgpflheokkaaaRow
import Derived.Laws.Tables
namespace Go.Proofs.Ytacgpflheokkaaa
open Go.RowKit
theorem res_row_tmp {P : Program} {fn : Func} {p u : Tmp} {ty : TypeId} (h : fn.results = #[.cell p ty, .tmp u]) (tmps : Array Value) (w : World) (g : Nat) (t : TypeId) (cs : Array Value) (fr : Nat × Nat) (d : TypeDesc)
    (hp : tmps.getD p undef = .pointer (some ⟨g, 0, none⟩)) (hg : w.heap[g]? = some (.cells cs t fr))
    (hu : P.underlying ty = some d) (hd : (match d with | .struct _ | .array _ _ => true | _ => false) = true) (hi : (P.info? ty).map (·.size) = some cs.size) :
    (results fn tmps).run P w = .ok (.tuple #[.agg cs, tmps.getD u undef]) w := by
  rw [results_cell_tmp h, hp]
  simp [asAddr, Result.andThen, run_loadVar_row w g t ty cs fr d hg hu hd hi]
theorem below_setRow {B : Nat} {w v : World} (h : Below B w v) (g : Nat) (cs : Array Value) (hg : B ≤ g) : Below B w (v.setRow g cs) :=
  h.trans ⟨rfl, rfl, rfl, by simp, fun j hj => setRow_other _ _ _ _ (by omega)⟩
theorem heap_of_drewN (w : World) (n k : Nat) : (w.drewN n).heap[k]? = w.heap[k]? := rfl
end Go.Proofs.Ytacgpflheokkaaa
