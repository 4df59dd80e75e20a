/-
  A part's bytes, and key.Make, by contract for any parts of at most 300 bytes.
-/
import Derived.Test.YtafdjgmdkbimoaaDoorKeyEsc
namespace Go.Proofs.YtafdjgmdkbimoaaDoor
open Go.RowKit
set_option linter.unusedVariables false
set_option linter.unusedSimpArgs false

theorem partS_size (p : PartR) (hs : p.s.size ≤ 300) : (partS p).size ≤ 1000 := by
  unfold partS
  rw [str_size]
  unfold partB
  have h1 := escL_size p.s.data.toList
  have h2 : p.s.data.toList.length = p.s.size := by simp
  split
  · simp [beL_length]
  split
  · simp [beL_length]
  split
  · simp [beL_length]
  split
  · simp; omega
  · simp

theorem part_bytes (p : PartR) (w : World) (m : Int) (hg : p.good) (hs : p.s.size ≤ 300) (hm : w.cell? ⟨0, 0, none⟩ = some (.int .i64 m)) :
    Calls Tryd.prog 42 #[.agg (cells4 p.sort p.n p.u p.s)] w fun e w' => e = .returned (.tuple #[.string (partS p), .bool (partOk p)]) ∧ Below w.heap.size w w' := by
  obtain ⟨h1, h2, h3, h4⟩ := hg
  obtain ⟨a, n, u, s⟩ := p
  simp only at h1 h2 h3 h4 hs ⊢
  unfold partS partOk partB
  simp only
  by_cases c1 : a = 105
  · subst c1
    exact part_up n u s w h2
  by_cases c2 : a = 100
  · subst c2
    exact part_down n u s w h2
  by_cases c3 : a = 117
  · subst c3
    exact part_count n u s w h3
  by_cases c4 : a = 116
  · subst c4
    exact part_text n u m s w (by omega) hm
  · rw [if_neg c1, if_neg c2, if_neg c3, if_neg c4]
    exact part_none a n u s w h1 c1 c2 c3 c4

theorem key_make_any (l : List PartR) (A : Option Addr) (c : Nat) (w : World) (m : Int) (hr : RowsAt w A 4 PartR.row l) (hl : l.length ≤ 9223372036854775807) (hg : ∀ p ∈ l, p.good) (hs : ∀ p ∈ l, p.s.size ≤ 300) (hm : w.cell? ⟨0, 0, none⟩ = some (.int .i64 m)) :
    Calls Tryd.prog 30 #[.slice A l.length c] w fun e w' => e = .returned (.tuple #[.string (str (makeGo l []).1), .int .i64 (makeGo l []).2]) ∧ Below w.heap.size w w' := by
  refine key_make l A c w hr hl (fun p hp wx hB => part_bytes p wx m (hg p hp) (hs p hp) ?_) (fun p hp => partS_size p (hs p hp))
  have h0 : 0 < w.heap.size := cell_lt hm
  rw [hB.cell (p := ⟨0, 0, none⟩) h0]; exact hm

end Go.Proofs.YtafdjgmdkbimoaaDoor
