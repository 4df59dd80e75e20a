/-
  The document's waves; a wave's power; the chapter's example.
-/
import Derived.Test.YtepikibbghemhaaSeaRef
namespace Go.Proofs.Ytepikibbghemhaa
open Go.RowKit
set_option linter.unusedVariables false
set_option linter.unusedSimpArgs false

def reRow (s : S4) : Array Value := #[.int .i64 (s.re 0), .int .i64 (s.re 1), .int .i64 (s.re 2), .int .i64 (s.re 3)]
def imRow (s : S4) : Array Value := #[.int .i64 (s.im 0), .int .i64 (s.im 1), .int .i64 (s.im 2), .int .i64 (s.im 3)]
theorem reRow_at (s : S4) (i : Nat) (h : i < 4) : (reRow s)[i]? = some (.int .i64 (s.re i)) := by
  match i, h with
  | 0, _ | 1, _ | 2, _ | 3, _ => rfl
theorem imRow_at (s : S4) (i : Nat) (h : i < 4) : (imRow s)[i]? = some (.int .i64 (s.im i)) := by
  match i, h with
  | 0, _ | 1, _ | 2, _ | 3, _ => rfl

set_option maxRecDepth 100000 in
set_option maxHeartbeats 4000000 in
theorem ref_waves (s : S4) (q : Nat) (w : World) (hq : w.heap[q]? = some (.cells (sRow s) 2 (0, 0))) (hs : s.size ≤ 1125899906842624) :
    Calls Try.prog 9 #[.slice (some ⟨q, 0, none⟩) 4 4] w fun e w' => Below w.heap.size w w' ∧
      ∃ r i, e = .returned (.tuple #[.slice (some ⟨r, 0, none⟩) 4 4, .slice (some ⟨i, 0, none⟩) 4 4]) ∧ w.heap.size ≤ r ∧ w.heap.size ≤ i ∧ w'.heap[r]? = some (.cells (reRow s) 2 (0, 0)) ∧ w'.heap[i]? = some (.cells (imRow s) 2 (0, 0)) := by
  obtain ⟨a, b, c, d⟩ := s
  unfold S4.size at hs
  simp only at hs
  have e0 : IntKind.i64.wrap (a + b) = a + b := IntWalk.i64_in _ (by omega)
  have e1 : IntKind.i64.wrap (a + b + c) = a + b + c := IntWalk.i64_in _ (by omega)
  have e2 : IntKind.i64.wrap (a + b + c + d) = a + b + c + d := IntWalk.i64_in _ (by omega)
  have e3 : IntKind.i64.wrap (a - c) = a - c := IntWalk.i64_in _ (by omega)
  have e4 : IntKind.i64.wrap (a - b) = a - b := IntWalk.i64_in _ (by omega)
  have e5 : IntKind.i64.wrap (a - b + c) = a - b + c := IntWalk.i64_in _ (by omega)
  have e6 : IntKind.i64.wrap (a - b + c - d) = a - b + c - d := IntWalk.i64_in _ (by omega)
  have e7 : IntKind.i64.wrap (d - b) = d - b := IntWalk.i64_in _ (by omega)
  have e8 : IntKind.i64.wrap (b - d) = b - d := IntWalk.i64_in _ (by omega)
  have c0 : w.cell? ⟨q, 0, none⟩ = some (.int .i64 a) := by rw [cell_of_row _ _ _ _ _ _ hq]; rfl
  have c1 : w.cell? ⟨q, 1, none⟩ = some (.int .i64 b) := by rw [cell_of_row _ _ _ _ _ _ hq]; rfl
  have c2 : w.cell? ⟨q, 2, none⟩ = some (.int .i64 c) := by rw [cell_of_row _ _ _ _ _ _ hq]; rfl
  have c3 : w.cell? ⟨q, 3, none⟩ = some (.int .i64 d) := by rw [cell_of_row _ _ _ _ _ _ hq]; rfl
  have hql : q < w.heap.size := heap_lt hq
  clear hs hq
  go_enter Try.func9, Try.ntmps9
  go_wp2
  refine wp_region_still_tail 44 (by kernel_rfl) (by kernel_rfl) ?_
  simp only [List.take_succ_cons, List.take_zero, List.drop_succ_cons, List.drop_zero]
  repeat still_step
  refine wpStill_nil ?_
  change wpList _ _ _ _ _ w.drew
  go_wp2
  generalize hw2 : (World.alloc w _).drew = w2
  have d1 : w2.cell? ⟨q, 1, none⟩ = some (.int .i64 b) := by rw [← hw2]; exact (World.cell?_alloc_lt _ _ _ hql).trans c1
  have d3 : w2.cell? ⟨q, 3, none⟩ = some (.int .i64 d) := by rw [← hw2]; exact (World.cell?_alloc_lt _ _ _ hql).trans c3
  have hs2 : w2.heap.size = w.heap.size + 1 := by rw [← hw2]; simp
  have hr2 : w2.heap[w.heap.size]? = some (.cells #[.int .i64 (a + b + c + d), .int .i64 (a - c), .int .i64 (a - b + c - d), .int .i64 (a - c)] 2 (0, 0)) := by rw [← hw2]; exact heap_alloc_new _ _
  have HB2 : Hid (Below w.heap.size w w2) := Lib.hid (by rw [← hw2]; exact ((Below.refl _ _).alloc (Nat.le_refl _) _).drew)
  have HR2 := Lib.hid hr2
  have HS2 := Lib.hid hs2
  clear hw2 c0 c1 c2 c3 hr2 hs2
  refine wp_region_still_tail 14 (by kernel_rfl) (by kernel_rfl) ?_
  simp only [List.take_succ_cons, List.take_zero, List.drop_succ_cons, List.drop_zero]
  repeat still_step
  refine wpStill_nil ?_
  change wpList _ _ _ _ _ w2.drew
  go_wp2
  go_ret2
  refine ⟨HB2.out.trans ((((Below.refl _ _).alloc (Nat.le_refl _) _).drew).mono (by have := HS2.out; omega)), w.heap.size, w2.heap.size, rfl, Nat.le_refl _, by have := HS2.out; omega, ?_, ?_⟩
  · show (World.alloc w2 _).heap[w.heap.size]? = _
    rw [Below.heap_alloc _ _ _ (by have := HS2.out; omega)]
    exact HR2.out
  · exact heap_alloc_new _ _

end Go.Proofs.Ytepikibbghemhaa
