/-
  The walk of SchemaOrders: places stand by side, price, rank, number; expiries by their times.
-/
import Derived.Test.YtafdjgmdkbimoaaDoorSchOrd
import Derived.Laws.Bits128
namespace Go.Proofs.YtafdjgmdkbimoaaDoor
open Go.RowKit
set_option linter.unusedVariables false
set_option linter.unusedSimpArgs false

theorem i64_and1 (n : Int) : bits .and .i64 n 1 = n % 2 := by
  have h1 : (BitVec.ofInt 64 1).toNat = 2 ^ 1 - 1 := by decide
  have key : (BitVec.ofInt 64 n &&& BitVec.ofInt 64 1).toNat = (n % ((2 ^ 64 : Nat) : Int)).toNat % 2 ^ 1 := by
    rw [BitVec.toNat_and, BitVec.toNat_ofInt, h1, Nat.and_two_pow_sub_one_eq_mod]
  show IntKind.i64.wrap ((BitVec.ofInt 64 n &&& BitVec.ofInt 64 1).toNat : Nat) = n % 2
  rw [key, IntKind.wrap_i64]
  omega

abbrev ro (id ac sd pr sz lf rk ex st : Int) : Array Value := #[.int .u64 id, .int .u64 ac, .int .i64 sd, .int .i64 pr, .int .i64 sz, .int .i64 lf, .int .u64 rk, .int .u64 ex, .int .i64 st]
theorem info_ro (a b c d e f g h i : Int) : (Tryd.prog.info? 24).map (·.size) = some (ro a b c d e f g h i).size := by kernel_rfl
theorem ro_of {w : World} {B : Nat} {a b c d e f g h i : Int} {ty : TypeId} (hh : w.heap[B]? = some (.cells (ro a b c d e f g h i) ty (0, 0))) :
    w.cell? ⟨B, 0, none⟩ = some (.int .u64 a) ∧ w.cell? ⟨B, 2, none⟩ = some (.int .i64 c) ∧ w.cell? ⟨B, 3, none⟩ = some (.int .i64 d) ∧ w.cell? ⟨B, 6, none⟩ = some (.int .u64 g) ∧ w.frozen? ⟨B, 2, none⟩ = false := by
  refine ⟨?_, ?_, ?_, ?_, Lib.frozen_of_heap hh 2⟩ <;> (rw [cell_of_row _ _ _ _ _ _ hh]; rfl)

/-- the two orders in blocks of their own -/
structure SO2 (w : World) (RA RB : Array Value) (wx : World) : Prop where
  below : Below w.heap.size w wx
  a : wx.heap[w.heap.size]? = some (.cells RA 24 (0, 0))
  b : wx.heap[w.heap.size + 1]? = some (.cells RB 24 (0, 0))
theorem SO2.step {w wx w' : World} {RA RB : Array Value} (h : SO2 w RA RB wx) (hB : Below wx.heap.size wx w') : SO2 w RA RB w' :=
  ⟨below_at h.below hB, by rw [hB.block _ (heap_lt h.a)]; exact h.a, by rw [hB.block _ (heap_lt h.b)]; exact h.b⟩
theorem SO2.first (w : World) (RA RB : Array Value) : SO2 w RA RB ((w.alloc (.cells RA 24)).alloc (.cells RB 24)) := by
  have h1 : (w.alloc (.cells RA 24)).heap.size = w.heap.size + 1 := by simp
  refine ⟨((Below.refl _ _).alloc (Nat.le_refl _) _).alloc (by simp) _, ?_, ?_⟩
  · rw [Below.heap_alloc _ _ _ (by omega)]; exact heap_alloc_new _ _
  · have h := heap_alloc_new (w.alloc (.cells RA 24)) (.cells RB 24)
    rw [h1] at h; exact h
/-- the same, with the thing that was read in a block of its own -/
structure SO3 (w : World) (RA RB RT : Array Value) (g : Nat) (wx : World) : Prop extends SO2 w RA RB wx where
  t : wx.heap[g]? = some (.cells RT 28 (0, 0))
theorem SO3.step {w wx w' : World} {RA RB RT : Array Value} {g : Nat} (h : SO3 w RA RB RT g wx) (hB : Below wx.heap.size wx w') : SO3 w RA RB RT g w' :=
  ⟨h.toSO2.step hB, by rw [hB.block _ (heap_lt h.t)]; exact h.t⟩
theorem SO2.made {w wx : World} {RA RB : Array Value} (h : SO2 w RA RB wx) (RT : Array Value) : SO3 w RA RB RT wx.heap.size (wx.alloc (.cells RT 28)) :=
  ⟨h.step ((Below.refl _ _).alloc (Nat.le_refl _) _), heap_alloc_new _ _⟩
theorem SO2.sides {w wx : World} {a b c d e f g h i a' b' c' d' e' f' g' h' i' : Int} (T : SO2 w (ro a b c d e f g h i) (ro a' b' c' d' e' f' g' h' i') wx) (x y : Int) :
    SO2 w (ro a b x d e f g h i) (ro a' b' y d' e' f' g' h' i') (((wx.setCell ⟨w.heap.size, 2, none⟩ (.int .i64 x)).setCell ⟨w.heap.size + 1, 2, none⟩ (.int .i64 y)).drew) :=
  ⟨((T.below.setCell (p := ⟨w.heap.size, 2, none⟩) (Nat.le_refl _) _).setCell (p := ⟨w.heap.size + 1, 2, none⟩) (Nat.le_succ _) _).drew,
   heap_setCell_ne (heap_setCell_at T.a 2 _) (by omega) 2 _, heap_setCell_at (heap_setCell_ne T.b (by omega) 2 _) 2 _⟩

theorem SO3.cells {w wx : World} {id ac sd pr sz lf rk ex st id' ac' sd' pr' sz' lf' rk' ex' st' : Int} {g : Nat} (T : SO3 w (ro id ac sd pr sz lf rk ex st) (ro id' ac' sd' pr' sz' lf' rk' ex' st') (cellsT ⟨#[98]⟩ 0 id sd pr rk 0 ByteArray.empty) g wx) : (wx.cell? ⟨w.heap.size, 0, none⟩ = some (.int .u64 id) ∧ wx.cell? ⟨w.heap.size, 1, none⟩ = some (.int .u64 ac) ∧ wx.cell? ⟨w.heap.size, 2, none⟩ = some (.int .i64 sd) ∧ wx.cell? ⟨w.heap.size, 3, none⟩ = some (.int .i64 pr) ∧ wx.cell? ⟨w.heap.size, 4, none⟩ = some (.int .i64 sz) ∧ wx.cell? ⟨w.heap.size, 5, none⟩ = some (.int .i64 lf) ∧ wx.cell? ⟨w.heap.size, 6, none⟩ = some (.int .u64 rk) ∧ wx.cell? ⟨w.heap.size, 7, none⟩ = some (.int .u64 ex) ∧ wx.cell? ⟨w.heap.size, 8, none⟩ = some (.int .i64 st) ∧ wx.cell? ⟨w.heap.size + 1, 0, none⟩ = some (.int .u64 id') ∧ wx.cell? ⟨w.heap.size + 1, 1, none⟩ = some (.int .u64 ac') ∧ wx.cell? ⟨w.heap.size + 1, 2, none⟩ = some (.int .i64 sd') ∧ wx.cell? ⟨w.heap.size + 1, 3, none⟩ = some (.int .i64 pr') ∧ wx.cell? ⟨w.heap.size + 1, 4, none⟩ = some (.int .i64 sz') ∧ wx.cell? ⟨w.heap.size + 1, 5, none⟩ = some (.int .i64 lf') ∧ wx.cell? ⟨w.heap.size + 1, 6, none⟩ = some (.int .u64 rk') ∧ wx.cell? ⟨w.heap.size + 1, 7, none⟩ = some (.int .u64 ex') ∧ wx.cell? ⟨w.heap.size + 1, 8, none⟩ = some (.int .i64 st') ∧ wx.cell? ⟨g, 2, none⟩ = some (.int .u64 id) ∧ wx.cell? ⟨g, 3, none⟩ = some (.int .i64 sd) ∧ wx.cell? ⟨g, 4, none⟩ = some (.int .i64 pr) ∧ wx.cell? ⟨g, 5, none⟩ = some (.int .u64 rk) ∧ Below w.heap.size w wx) := by
  obtain ⟨⟨h, ha, hb⟩, ht⟩ := T
  refine ⟨?_, ?_, ?_, ?_, ?_, ?_, ?_, ?_, ?_, ?_, ?_, ?_, ?_, ?_, ?_, ?_, ?_, ?_, ?_, ?_, ?_, ?_, h⟩
  all_goals first | (rw [cell_of_row _ _ _ _ _ _ ha]; rfl) | (rw [cell_of_row _ _ _ _ _ _ hb]; rfl) | (rw [cell_of_row _ _ _ _ _ _ ht]; rfl)

theorem SO3.full {w wx : World} {id ac sd pr sz lf rk ex st id' ac' sd' pr' sz' lf' rk' ex' st' : Int} {g : Nat} (T : SO3 w (ro id ac sd pr sz lf rk ex st) (ro id' ac' sd' pr' sz' lf' rk' ex' st') (cellsT ⟨#[98]⟩ 0 id sd pr rk 0 ByteArray.empty) g wx) : (wx.cell? ⟨w.heap.size, 0, none⟩ = some (.int .u64 id) ∧ wx.cell? ⟨w.heap.size, 1, none⟩ = some (.int .u64 ac) ∧ wx.cell? ⟨w.heap.size, 2, none⟩ = some (.int .i64 sd) ∧ wx.cell? ⟨w.heap.size, 3, none⟩ = some (.int .i64 pr) ∧ wx.cell? ⟨w.heap.size, 4, none⟩ = some (.int .i64 sz) ∧ wx.cell? ⟨w.heap.size, 5, none⟩ = some (.int .i64 lf) ∧ wx.cell? ⟨w.heap.size, 6, none⟩ = some (.int .u64 rk) ∧ wx.cell? ⟨w.heap.size, 7, none⟩ = some (.int .u64 ex) ∧ wx.cell? ⟨w.heap.size, 8, none⟩ = some (.int .i64 st) ∧ wx.cell? ⟨w.heap.size + 1, 0, none⟩ = some (.int .u64 id') ∧ wx.cell? ⟨w.heap.size + 1, 1, none⟩ = some (.int .u64 ac') ∧ wx.cell? ⟨w.heap.size + 1, 2, none⟩ = some (.int .i64 sd') ∧ wx.cell? ⟨w.heap.size + 1, 3, none⟩ = some (.int .i64 pr') ∧ wx.cell? ⟨w.heap.size + 1, 4, none⟩ = some (.int .i64 sz') ∧ wx.cell? ⟨w.heap.size + 1, 5, none⟩ = some (.int .i64 lf') ∧ wx.cell? ⟨w.heap.size + 1, 6, none⟩ = some (.int .u64 rk') ∧ wx.cell? ⟨w.heap.size + 1, 7, none⟩ = some (.int .u64 ex') ∧ wx.cell? ⟨w.heap.size + 1, 8, none⟩ = some (.int .i64 st') ∧ wx.cell? ⟨g, 2, none⟩ = some (.int .u64 id) ∧ wx.cell? ⟨g, 3, none⟩ = some (.int .i64 sd) ∧ wx.cell? ⟨g, 4, none⟩ = some (.int .i64 pr) ∧ wx.cell? ⟨g, 5, none⟩ = some (.int .u64 rk) ∧ Below w.heap.size w wx ∧ SO3 w (ro id ac sd pr sz lf rk ex st) (ro id' ac' sd' pr' sz' lf' rk' ex' st') (cellsT ⟨#[98]⟩ 0 id sd pr rk 0 ByteArray.empty) g wx) := by
  obtain ⟨k0, k1, k2, k3, k4, k5, k6, k7, k8, k9, k10, k11, k12, k13, k14, k15, k16, k17, k18, k19, k20, k21, h⟩ := T.cells
  exact ⟨k0, k1, k2, k3, k4, k5, k6, k7, k8, k9, k10, k11, k12, k13, k14, k15, k16, k17, k18, k19, k20, k21, h, T⟩
theorem SO3.of_full {w wx : World} {id ac sd pr sz lf rk ex st id' ac' sd' pr' sz' lf' rk' ex' st' : Int} {g : Nat} (h : (wx.cell? ⟨w.heap.size, 0, none⟩ = some (.int .u64 id) ∧ wx.cell? ⟨w.heap.size, 1, none⟩ = some (.int .u64 ac) ∧ wx.cell? ⟨w.heap.size, 2, none⟩ = some (.int .i64 sd) ∧ wx.cell? ⟨w.heap.size, 3, none⟩ = some (.int .i64 pr) ∧ wx.cell? ⟨w.heap.size, 4, none⟩ = some (.int .i64 sz) ∧ wx.cell? ⟨w.heap.size, 5, none⟩ = some (.int .i64 lf) ∧ wx.cell? ⟨w.heap.size, 6, none⟩ = some (.int .u64 rk) ∧ wx.cell? ⟨w.heap.size, 7, none⟩ = some (.int .u64 ex) ∧ wx.cell? ⟨w.heap.size, 8, none⟩ = some (.int .i64 st) ∧ wx.cell? ⟨w.heap.size + 1, 0, none⟩ = some (.int .u64 id') ∧ wx.cell? ⟨w.heap.size + 1, 1, none⟩ = some (.int .u64 ac') ∧ wx.cell? ⟨w.heap.size + 1, 2, none⟩ = some (.int .i64 sd') ∧ wx.cell? ⟨w.heap.size + 1, 3, none⟩ = some (.int .i64 pr') ∧ wx.cell? ⟨w.heap.size + 1, 4, none⟩ = some (.int .i64 sz') ∧ wx.cell? ⟨w.heap.size + 1, 5, none⟩ = some (.int .i64 lf') ∧ wx.cell? ⟨w.heap.size + 1, 6, none⟩ = some (.int .u64 rk') ∧ wx.cell? ⟨w.heap.size + 1, 7, none⟩ = some (.int .u64 ex') ∧ wx.cell? ⟨w.heap.size + 1, 8, none⟩ = some (.int .i64 st') ∧ wx.cell? ⟨g, 2, none⟩ = some (.int .u64 id) ∧ wx.cell? ⟨g, 3, none⟩ = some (.int .i64 sd) ∧ wx.cell? ⟨g, 4, none⟩ = some (.int .i64 pr) ∧ wx.cell? ⟨g, 5, none⟩ = some (.int .u64 rk) ∧ Below w.heap.size w wx ∧ SO3 w (ro id ac sd pr sz lf rk ex st) (ro id' ac' sd' pr' sz' lf' rk' ex' st') (cellsT ⟨#[98]⟩ 0 id sd pr rk 0 ByteArray.empty) g wx)) : SO3 w (ro id ac sd pr sz lf rk ex st) (ro id' ac' sd' pr' sz' lf' rk' ex' st') (cellsT ⟨#[98]⟩ 0 id sd pr rk 0 ByteArray.empty) g wx := h.2.2.2.2.2.2.2.2.2.2.2.2.2.2.2.2.2.2.2.2.2.2.2

end Go.Proofs.YtafdjgmdkbimoaaDoor
