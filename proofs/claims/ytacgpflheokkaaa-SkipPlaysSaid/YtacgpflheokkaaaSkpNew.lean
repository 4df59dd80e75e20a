/-
  A new skip list, by contract; a list that is none.
-/
import Derived.Test.YtacgpflheokkaaaSkpMem2
namespace Go.Proofs.Ytacgpflheokkaaa
open Go.RowKit
set_option linter.unusedVariables false
set_option linter.unusedSimpArgs false

theorem own_full {w : World} {base : Nat} {e : TypeId} {g n : Nat} {xs : List Value} (h : w.ownsRow base e 1 (.slice (some ⟨g, 0, none⟩) n n) n xs) : w.heap[g]? = some (.cells xs.toArray e (0, 0)) := by
  obtain ⟨hl, ⟨h1, _⟩ | ⟨g', c, cur, h1, _, h2, _, _, h3, h4⟩⟩ := h
  · cases h1
  · cases h1
    rw [List.take_of_length_le (by rw [Array.length_toList, h3]; exact Nat.le_refl _)] at h4
    rw [h2, ← h4]
theorem info_int7 : (Try.prog.info? 3).map (fun i => (i.zero, i.size, i.bytes)) = some (some (.int .i64 0), 1, 8) := by kernel_rfl
def half (k : Nat) : List Int := List.replicate k (-1) ++ List.replicate (12 - k) 0
theorem half_set : ∀ k, k < 12 → (half k).set k (-1) = half (k + 1) := by decide
theorem half_len (k : Nat) (h : k ≤ 12) : (half k).length = 12 := by simp [half]; omega
def headT (nb : Nat) : TowM := ⟨ByteArray.empty, ByteArray.empty, nb, List.replicate 12 (-1)⟩
theorem lay_new (nb : Nat) : Lay [headT nb] [] := by
  refine ⟨rfl, by simp, List.nodup_nil, List.Pairwise.nil, rfl, by simp, fun pre suf e j hj => ?_⟩
  obtain ⟨rfl, rfl⟩ := List.nil_eq_append_iff.1 e
  have hj' : j < 12 := hj
  show nxAt [headT nb] 0 j = -1
  have h1 : nxAt [headT nb] 0 j = (List.replicate 12 (-1 : Int)).getD j 0 := rfl
  rw [h1, List.getD_eq_getElem?_getD, List.getElem?_eq_getElem (by simpa using hj')]
  show (List.replicate 12 (-1 : Int))[j]'_ = -1
  exact List.getElem_replicate _

set_option maxRecDepth 100000 in
set_option maxHeartbeats 8000000 in
theorem skip_new (w : World) :
    Calls Try.prog 8 #[] w fun e w' => ∃ b g nb, e = .returned (.pointer (some ⟨b, 0, none⟩)) ∧ SkM w' b (some ⟨g, 0, none⟩) 1 [headT nb] 0 0 ∧ Below w.heap.size w w' ∧ w.heap.size ≤ b ∧ w.heap.size ≤ g ∧ w.heap.size ≤ nb := by
  obtain ⟨i0, hi, hz0, hz1, hz2⟩ := info_parts info_int7
  go_enter Try.func8, Try.ntmps8
  go_upto_region 2 with (first | (refine wpList_make_full _ rfl (.const (.int .i64 12)) (.const (.int .i64 12)) 36 rfl w.heap.size 3 i0 (.int .i64 0) 1 Try.underlying36 hi hz0 hz1 .i64 .i64 12 12 12 rfl rfl rfl rfl (by rw [hz2]; omega) (by unfold maxLen; omega) (Nat.le_refl _) ?_; intro w1 hown hg; have HO := Lib.hid hown; have HG := Lib.hid hg; clear hown hg))
  have h0 : w1.heap[w.heap.size]? = some (.cells (intsO (half 0)) 3 (0, 0)) := by
    have h := own_full HO.out
    rw [show (Value.int .i64 0).cells = #[Value.int .i64 0] from rfl, toList_madeCells_one] at h
    exact h
  have hB0 : Below w.heap.size w w1 := (Below.refl _ _).grown HG.out (Nat.le_refl _) (fun k h => by cases h)
  clear HO HG hi hz0 hz1 hz2
  go_wp2
  go_loopw [6] (fun v6 wr => ∃ k : Nat, k ≤ 12 ∧ v6 = .int .i64 (k : Int) ∧ Hid (Below w.heap.size w wr) ∧ Hid (wr.heap[w.heap.size]? = some (.cells (intsO (half k)) 3 (0, 0)))) (fun v _ => 12 - (intOf v).toNat)
  case atStart => exact ⟨0, by omega, rfl, Lib.hid hB0, Lib.hid h0⟩
  case round =>
    obtain ⟨k, hk, rfl, HB, HH⟩ := hrel
    clear h0 hB0
    by_cases hlt : k < 12
    · obtain ⟨x, c0⟩ : ∃ x, wr.cell? ⟨w.heap.size, k, none⟩ = some (.int .i64 x) := ⟨_, by
        rw [cell_of_row _ _ _ _ _ _ HH.out, intsO_get, List.getElem?_eq_getElem (by rw [half_len k hk]; exact hlt)]; rfl⟩
      have f0 := frozen_of_row _ _ k _ _ HH.out
      have hk12 : (k : Int) < 12 := by omega
      go_wp2
      go_roundw
      case rel =>
        refine ⟨k + 1, by omega, by go_num, Lib.hid (HB.out.setCell (Nat.le_refl _) _), Lib.hid ?_⟩
        rw [heap_setCell_same _ _ k _ _ _ HH.out, ← half_set k hlt]
        simp [intsO]
      case measure => simp [intOf]; omega
    · obtain rfl : k = 12 := by omega
      go_wp2
      go_ret
      have hs := HB.out.size
      have hlt2 : w.heap.size < wr.heap.size := heap_lt HH.out
      refine ⟨wr.heap.size + 1, wr.heap.size, w.heap.size, rfl, ⟨heap_new (by simp), ?_, ?_, by simp, by simp⟩, ?_, by omega, by omega, Nat.le_refl _⟩
      · have h := (World.ownsRow_lit (base := 0) (e := 57) (size := 3) wr #[.string ByteArray.empty, .string ByteArray.empty, .slice (some ⟨w.heap.size, 0, none⟩) 12 12] 1 (Nat.zero_le _) (by decide) rfl)
        exact h.alloc _
      · intro r hr
        simp only [List.mem_singleton] at hr
        subst hr
        exact (Below.heap_alloc _ _ w.heap.size (by simp; omega)).trans ((Below.heap_alloc _ _ _ hlt2).trans HH.out)
      · exact (HB.out.alloc hs _).alloc (by simp; omega) _
end Go.Proofs.Ytacgpflheokkaaa
