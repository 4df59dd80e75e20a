/-
  The walk of SchemaOrders: places stand by side, price, rank, number; expiries by their times.
-/
import Derived.Test.YtafdjgmdkbimoaaDoorSchOrdW0
import Derived.Test.YtafdjgmdkbimoaaDoorSchOrdW1
import Derived.Test.YtafdjgmdkbimoaaDoorSchOrdW2
import Derived.Test.YtafdjgmdkbimoaaDoorSchOrdW3
namespace Go.Proofs.YtafdjgmdkbimoaaDoor
open Go.RowKit

theorem SchemaOrders_walk (r r' : OrderR) (m : Int) (w : World) (gr : r.good) (gr' : r'.good) (hm : w.cell? ⟨0, 0, none⟩ = some (.int .i64 m)) :
    Calls Tryd.prog 3 #[.agg r.row.toArray, .agg r'.row.toArray] w fun e w' => e = .returned (.bool true) ∧ Below w.heap.size w w' := by
  have h : r.rank < r'.rank ∨ r'.rank < r.rank ∨ (r.rank = r'.rank ∧ r.id < r'.id) ∨ (r.rank = r'.rank ∧ ¬ r.id < r'.id) := by omega
  rcases h with h | h | h | h
  · exact SchemaOrders_walk0 r r' m w gr gr' hm (Lib.hid h)
  · exact SchemaOrders_walk1 r r' m w gr gr' hm (Lib.hid h)
  · exact SchemaOrders_walk2 r r' m w gr gr' hm (Lib.hid h)
  · exact SchemaOrders_walk3 r r' m w gr gr' hm (Lib.hid h)

end Go.Proofs.YtafdjgmdkbimoaaDoor
