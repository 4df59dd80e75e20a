/-
  The document's keys of things, and things of keys: bourseref21.Key and Parse by contract.
-/
import Derived.Test.YtafdjgmdkbimoaaDoorSchRow
import Derived.Test.YtafdjgmdkbimoaaDoorKeyRefPs
namespace Go.Proofs.YtafdjgmdkbimoaaDoor
open Go.RowKit
set_option linter.unusedVariables false
set_option linter.unusedSimpArgs false

theorem zero_thing21 (w : World) : (zeroValue 35).run Tryd.prog w = .ok (.agg zeroT) w := by kernel_rfl
theorem info_T21 (s : ByteArray) (ac id kd pr rk t : Int) (nm : ByteArray) : (Tryd.prog.info? 35).map (·.size) = some (cellsT s ac id kd pr rk t nm).size := show (Tryd.prog.info? 35).map (·.size) = some 8 by kernel_rfl

set_option maxRecDepth 100000 in
set_option maxHeartbeats 8000000 in
theorem row_none (ac id kd pr rk tm : Int) (s nm : ByteArray) (w : World) (h1 : ¬ s = ⟨#[97]⟩) (h2 : ¬ s = ⟨#[111]⟩) (h3 : ¬ s = ⟨#[98]⟩) (h4 : ¬ s = ⟨#[101]⟩) (h5 : ¬ s = ⟨#[110]⟩) :
    Calls Tryd.prog 29 #[.agg (cellsT s ac id kd pr rk tm nm)] w fun e w' => ∃ A c, e = .returned (.slice A (rowR ⟨s, ac, id, kd, pr, rk, tm, nm⟩).length c) ∧ RowsAt w' A 4 PartR.row (rowR ⟨s, ac, id, kd, pr, rk, tm, nm⟩) ∧ Below w.heap.size w w' := by
  have hrow : rowR ⟨s, ac, id, kd, pr, rk, tm, nm⟩ = [⟨116, 0, 0, s⟩] := by simp [rowR, h1, h2, h3, h4, h5]
  have HT : Hid (∀ s wx, Calls Tryd.prog 17 #[.string s] wx fun e w' => e = .returned (.agg (cells4 116 0 0 s)) ∧ Below wx.heap.size wx w') := Lib.hid ref_text
  have hk0 := heap_alloc_new w (.cells (cellsT s ac id kd pr rk tm nm) 35)
  obtain ⟨j0, j1, j2, j3, j4, j5, j6, j7⟩ := cellsT_of hk0
  have HK0 := Lib.hid hk0
  clear hk0
  obtain ⟨x97, y97⟩ := nlit_bb (l := [97]) h1
  obtain ⟨x111, y111⟩ := nlit_bb (l := [111]) h2
  obtain ⟨x98, y98⟩ := nlit_bb (l := [98]) h3
  obtain ⟨x101, y101⟩ := nlit_bb (l := [101]) h4
  obtain ⟨x110, y110⟩ := nlit_bb (l := [110]) h5
  clear h1 h2 h3 h4 h5
  go_enter Tryd.func29, Tryd.ntmps29
  go_wp2_with (go_at_call 17; (with_reducible refine (HT.out _ _).mono ?_); rintro e w2 ⟨rfl, hB2⟩; have HK2 := Lib.hid ((hB2.block _ (heap_lt HK0.out)).trans HK0.out); have hk9 := (Below.heap_alloc w2 (.cells #[.int .u8 116, .int .i64 0, .int .u64 0, .string s] 48) _ (heap_lt HK2.out)).trans HK2.out; have m0 := (cellsT_of hk9).1; clear hk9; have HBB := Lib.hid (below_at ((Below.refl w.heap.size w).alloc (Nat.le_refl _) _) hB2))
  go_ret
  exact ⟨some ⟨w2.heap.size, 0, none⟩, 1, by rw [hrow]; rfl, by rw [hrow]; exact rows_block (fun _ => rfl) (heap_alloc_new _ _) rfl, HBB.out.alloc HBB.out.size _⟩

theorem ref_row21 (t : ThingR) (w : World) :
    Calls Tryd.prog 29 #[.agg (cellsT t.sort t.account t.id t.kind t.price t.rank t.at_ t.name)] w fun e w' => ∃ A c, e = .returned (.slice A (rowR t).length c) ∧ RowsAt w' A 4 PartR.row (rowR t) ∧ Below w.heap.size w w' := by
  obtain ⟨s, ac, id, kd, pr, rk, tm, nm⟩ := t
  by_cases h1 : s = ⟨#[97]⟩
  · exact row_a ac id kd pr rk tm s nm w h1
  by_cases h2 : s = ⟨#[111]⟩
  · exact row_o ac id kd pr rk tm s nm w h2
  by_cases h3 : s = ⟨#[98]⟩
  · by_cases h6 : kd = 1
    · exact row_b1 ac id kd pr rk tm s nm w h3 h6
    · exact row_b0 ac id kd pr rk tm s nm w h3 h6
  by_cases h4 : s = ⟨#[101]⟩
  · exact row_e ac id kd pr rk tm s nm w h4
  by_cases h5 : s = ⟨#[110]⟩
  · exact row_n ac id kd pr rk tm s nm w h5
  exact row_none ac id kd pr rk tm s nm w h1 h2 h3 h4 h5

set_option maxRecDepth 100000 in
set_option maxHeartbeats 4000000 in
theorem ref_key21 (t : ThingR) (w : World) (hg : ∀ p ∈ rowR t, p.good) (hs : ∀ p ∈ rowR t, p.s.size ≤ 300) :
    Calls Tryd.prog 12 #[.agg (cellsT t.sort t.account t.id t.kind t.price t.rank t.at_ t.name)] w fun e w' => e = .returned (.tuple #[.string (str (makeGo (rowR t) []).1), .int .i64 (makeGo (rowR t) []).2]) ∧ Below w.heap.size w w' := by
  have hlen : (rowR t).length ≤ 1000000 := by
    unfold rowR
    simp only [List.length_cons]
    repeat' split
    all_goals simp [placeL]
  have RW : Hid (∀ wx, Below w.heap.size w wx → Calls Tryd.prog 29 #[.agg (cellsT t.sort t.account t.id t.kind t.price t.rank t.at_ t.name)] wx fun e w' => ∃ A c, e = .returned (.slice A (rowR t).length c) ∧ Hid (RowsAt w' A 4 PartR.row (rowR t)) ∧ Below w.heap.size w w') := Lib.hid fun wx h => (ref_row21 t wx).mono fun _ _ ⟨A, c, h1, h2, h3⟩ => ⟨A, c, h1, Lib.hid h2, below_at h h3⟩
  have MK : Hid (∀ wx A c, RowsAt wx A 4 PartR.row (rowR t) → Below w.heap.size w wx → Calls Tryd.prog 19 #[.slice A (rowR t).length c] wx fun e w' => e = .returned (.tuple #[.string (str (makeGo (rowR t) []).1), .int .i64 (makeGo (rowR t) []).2]) ∧ Below w.heap.size w w') := Lib.hid fun wx A c hr h => (ref_make (rowR t) A c wx hr hlen hg hs).mono fun _ _ ⟨h1, h2⟩ => ⟨h1, below_at h h2⟩
  obtain ⟨j0, j1, j2, j3, j4, j5, j6, j7⟩ := cellsT_of (heap_alloc_new w (.cells (cellsT t.sort t.account t.id t.kind t.price t.rank t.at_ t.name) 35))
  have hW1 : Below w.heap.size w (w.alloc (.cells (cellsT t.sort t.account t.id t.kind t.price t.rank t.at_ t.name) 35)) := (Below.refl _ _).alloc (Nat.le_refl _) _
  generalize makeGo (rowR t) [] = M at *
  generalize hN : (rowR t).length = N at RW MK
  clear hN hlen hg hs
  go_enter Tryd.func12, Tryd.ntmps12
  go_wp2_with (first | (go_at_call 29; (with_reducible refine (RW.out _ hW1).mono ?_); rintro e w2 ⟨A, c, rfl, HR2, hB2⟩) | (go_at_call 19; (with_reducible refine (MK.out _ _ _ HR2.out hB2).mono ?_); rintro e w3 ⟨rfl, hB3⟩))
  go_ret2
  exact ⟨rfl, hB3⟩
end Go.Proofs.YtafdjgmdkbimoaaDoor
