/-
  The chapter's example of walks holds.
-/
import Derived.Test.YtkllcidmahhkoaaWlkCor
namespace Go.Proofs.Ytkllcidmahhkoaa
open Go.RowKit
set_option linter.unusedVariables false
set_option linter.unusedSimpArgs false

theorem path_putw {w : World} (w0 : World) (p : PathW) (t : TypeId) (h : Below w0.heap.size w0 w) :
    Below w0.heap.size w0 ((w.alloc (.cells zeroP.arr t)).setRow w.heap.size p.arr) ∧ ((w.alloc (.cells zeroP.arr t)).setRow w.heap.size p.arr).heap[w.heap.size]? = some (.cells p.arr t (0, 0)) ∧
    Below w.heap.size w ((w.alloc (.cells zeroP.arr t)).setRow w.heap.size p.arr) := by
  have hb : Below w.heap.size w ((w.alloc (.cells zeroP.arr t)).setRow w.heap.size p.arr) := below_setRow ((Below.refl _ _).alloc (Nat.le_refl _) _) _ _ (Nat.le_refl _)
  exact ⟨below_at h hb, setRow_heap _ _ _ _ _ _ (heap_alloc_new _ _), hb⟩
theorem rep_2w : Rep 0 4611686018427387904 2 := by have h := rep_of 2 (by decide); rwa [show floatOfInt .f64 2 = 4611686018427387904 by decide +kernel] at h

set_option maxRecDepth 100000 in
set_option maxHeartbeats 4000000 in
theorem awake34w (w : World) : Calls Try.prog 6 #[] w fun e w' => e = .returned (.bool true) ∧ Below w.heap.size w w' := by
  have HO : Hid (Calls Try.prog 7 #[.slice (some ⟨w.heap.size, 0, none⟩) 2 2] (w.alloc (.cells #[.int .u64 0, .int .u64 0, .int .i64 5, .int .i64 2, .int .u64 0, .int .u64 0, .int .i64 6, .int .i64 1] 25)) fun e w' => ∃ p : PathW, e = .returned (.agg p.arr) ∧ Hid (PRep p (afterZ [⟨0, 0, 5, 2⟩, ⟨0, 0, 6, 1⟩] 2)) ∧ Below w.heap.size w w') := Lib.hid (by
    have hrow : RowsAt (w.alloc (.cells #[.int .u64 0, .int .u64 0, .int .i64 5, .int .i64 2, .int .u64 0, .int .u64 0, .int .i64 6, .int .i64 1] 25)) (some ⟨w.heap.size, 0, none⟩) 4 TradeR.row [⟨0, 0, 5, 2⟩, ⟨0, 0, 6, 1⟩] := by
      refine ⟨.inr ⟨_, _, rfl, fun i r hi j v hv => ?_⟩⟩
      have hc := fun k => cell_of_row (w.alloc (.cells #[.int .u64 0, .int .u64 0, .int .i64 5, .int .i64 2, .int .u64 0, .int .u64 0, .int .i64 6, .int .i64 1] 25)) w.heap.size k #[.int .u64 0, .int .u64 0, .int .i64 5, .int .i64 2, .int .u64 0, .int .u64 0, .int .i64 6, .int .i64 1] 25 (0, 0) (heap_alloc_new _ _)
      rw [hc]
      match i, hi with
      | 0, hi | 1, hi =>
        cases hi
        match j, hv with
        | 0, hv | 1, hv | 2, hv | 3, hv => cases hv; rfl
        | j + 4, hv => simp [TradeR.row] at hv
      | i + 2, hi => simp at hi
    refine (walk_of [⟨0, 0, 5, 2⟩, ⟨0, 0, 6, 1⟩] (some ⟨w.heap.size, 0, none⟩) 2 _ (by decide) (by
      intro r hr
      simp only [List.mem_cons, List.mem_nil_iff, or_false] at hr
      rcases hr with rfl | rfl <;> exact ⟨by decide, by decide, by decide, by decide⟩) hrow).mono ?_
    rintro e w' ⟨p, rfl, hp, hB⟩
    exact ⟨p, rfl, Lib.hid hp, below_at ((Below.refl _ _).alloc (Nat.le_refl _) _) hB⟩)
  go_enter Try.func6, Try.ntmps6
  go_upto_region 2 with (first | (go_at_call 7; (with_reducible refine HO.out.mono ?_); rintro e w1 ⟨p, rfl, HP, hB⟩) | (with_reducible refine wpList_store_row rfl 29 (.tmp 1) (.tmp 5) rfl w1.heap.size p.arr rfl rfl 29 zeroP.arr (heap_alloc_new _ _) (p5_info _) (p5_size _ _) (p5_one _) ?_))
  obtain ⟨B1, H1, -⟩ := path_putw w p 29 hB
  generalize (w1.alloc (.cells zeroP.arr 29)).setRow w1.heap.size p.arr = w2 at B1 H1 ⊢
  obtain ⟨c0, c1, c2, c3, c4⟩ := heap_cells_p H1
  have hp := HP.out
  have hn : p.n = 2 := hp.n
  have E1 := fun w => run_eql_cc (a := 2) (b := 1) (c := 2) (d := 1) hp.at_ ⟨rep_2w, rep_1⟩ w
  have E2 := fun w => run_eql_cc (a := 0) (b := 1) (c := 0) (d := 1) hp.h ⟨rep_0, rep_1⟩ w
  simp only [and_self, decide_true] at E1 E2
  rw [hn] at c2
  clear HO hB H1 HP hp
  go_wp2
  go_ret
  exact ⟨rfl, B1⟩

end Go.Proofs.Ytkllcidmahhkoaa
