/-
  A walk's path: what its words stand for; least, most, turn, begun.
-/
import Derived.Test.YtkllcidmahhkoaaRecs
import Derived.Test.YtkllcidmahhkoaaRow
import Derived.Test.YtkllcidmahhkoaaFlt
import Derived.Test.YtkllcidmahhkoaaResRow
import Derived.StillTailTactics
namespace Go.Proofs.Ytkllcidmahhkoaa
open Go.RowKit
set_option linter.unusedVariables false
set_option linter.unusedSimpArgs false

theorem rep_min {x y : Nat} {a b : Int} (hx : Rep 0 x a) (hy : Rep 0 y b) : ∃ z, (∀ (P : Program) ts t w, (Builtin.min_ ts t #[.float .f64 x, .float .f64 y]).run P w = .ok (.float .f64 z) w) ∧ Rep 0 z (min a b) := by
  have ho := rep_order hx hy
  simp only [Nat.pow_zero, Int.natCast_one, Int.mul_one] at ho
  rcases Int.lt_trichotomy a b with h | h | h
  · rw [Int.compare_eq_lt.2 h] at ho
    exact ⟨x, fun P ts t w => by simp [Builtin.min_, Builtin.min2, ho], by rw [Int.min_eq_left (by omega)]; exact hx⟩
  · subst h
    rw [show compare a a = Ordering.eq by simp] at ho
    refine ⟨if (FloatKind.f64.decode x).neg then x else y, fun P ts t w => by simp [Builtin.min_, Builtin.min2, ho], ?_⟩
    rw [Int.min_self]
    split
    · exact hx
    · exact hy
  · rw [Int.compare_eq_gt.2 h] at ho
    exact ⟨y, fun P ts t w => by simp [Builtin.min_, Builtin.min2, ho], by rw [Int.min_eq_right (by omega)]; exact hy⟩
theorem rep_max {x y : Nat} {a b : Int} (hx : Rep 0 x a) (hy : Rep 0 y b) : ∃ z, (∀ (P : Program) ts t w, (Builtin.max_ ts t #[.float .f64 x, .float .f64 y]).run P w = .ok (.float .f64 z) w) ∧ Rep 0 z (max a b) := by
  have ho := rep_order hx hy
  simp only [Nat.pow_zero, Int.natCast_one, Int.mul_one] at ho
  rcases Int.lt_trichotomy a b with h | h | h
  · rw [Int.compare_eq_lt.2 h] at ho
    exact ⟨y, fun P ts t w => by simp [Builtin.max_, Builtin.max2, ho], by rw [Int.max_eq_right (by omega)]; exact hy⟩
  · subst h
    rw [show compare a a = Ordering.eq by simp] at ho
    refine ⟨if (FloatKind.f64.decode x).neg then y else x, fun P ts t w => by simp [Builtin.max_, Builtin.max2, ho], ?_⟩
    rw [Int.max_self]
    split
    · exact hy
    · exact hx
  · rw [Int.compare_eq_gt.2 h] at ho
    exact ⟨x, fun P ts t w => by simp [Builtin.max_, Builtin.max2, ho], by rw [Int.max_eq_left (by omega)]; exact hx⟩

theorem rep_0 : Rep 0 0 0 := by have h := rep_of 0 (by decide); rwa [show floatOfInt .f64 0 = 0 by decide +kernel] at h
theorem rep_1 : Rep 0 4607182418800017408 1 := by have h := rep_of 1 (by decide); rwa [show floatOfInt .f64 1 = 4607182418800017408 by decide +kernel] at h
theorem rep_n1 : Rep 0 13830554455654793216 (-1) := by have h := rep_of (-1) (by decide); rwa [show floatOfInt .f64 (-1) = 13830554455654793216 by decide +kernel] at h

/-- a path's words -/
structure PathW where
  ar : Nat
  ai : Nat
  hr : Nat
  hi : Nat
  n : Int
  lr : Nat
  li : Nat
  ur : Nat
  ui : Nat
abbrev PathW.arr (p : PathW) : Array Value := #[.complex .f64 p.ar p.ai, .complex .f64 p.hr p.hi, .int .i64 p.n, .complex .f64 p.lr p.li, .complex .f64 p.ur p.ui]
abbrev zeroP : PathW := ⟨0, 0, 0, 0, 0, 0, 0, 0, 0⟩
/-- a path in whole numbers -/
structure PathZ where
  x : Int
  y : Int
  hx : Int
  hy : Int
  n : Int
  lx : Int
  ly : Int
  ux : Int
  uy : Int
  deriving DecidableEq
structure PRep (p : PathW) (z : PathZ) : Prop where
  at_ : CRep p.ar p.ai z.x z.y
  h : CRep p.hr p.hi z.hx z.hy
  n : p.n = z.n
  l : CRep p.lr p.li z.lx z.ly
  u : CRep p.ur p.ui z.ux z.uy
def begunZ : PathZ := ⟨0, 0, 1, 0, 0, 0, 0, 0, 0⟩
def begunW : PathW := ⟨0, 0, 4607182418800017408, 0, 0, 0, 0, 0, 0⟩
theorem begun_rep : PRep begunW begunZ := ⟨⟨rep_0, rep_0⟩, ⟨rep_1, rep_0⟩, rfl, ⟨rep_0, rep_0⟩, ⟨rep_0, rep_0⟩⟩
/-- what a price does to a heading -/
def turnZ (n last price : Int) : Int × Int := if n = 0 ∨ price = last then (1, 0) else if last < price then (0, 1) else (0, -1)
def stepsZ (size : Int) : Int := min (max size 0) 1000
def headZ (z : PathZ) (t : Int × Int) : Int × Int := (z.hx * t.1 - z.hy * t.2, z.hx * t.2 + z.hy * t.1)
def stepZ (z : PathZ) (last price size : Int) : PathZ :=
  let h := headZ z (turnZ z.n last price)
  let x := z.x + h.1 * stepsZ size
  let y := z.y + h.2 * stepsZ size
  ⟨x, y, h.1, h.2, z.n + 1, min z.lx x, min z.ly y, max z.ux x, max z.uy y⟩
/-- one of four headings -/
def unit4 (a b : Int) : Prop := (a = 1 ∧ b = 0) ∨ (a = 0 ∧ b = 1) ∨ (a = -1 ∧ b = 0) ∨ (a = 0 ∧ b = -1)
theorem turn_unit (n last price : Int) : unit4 (turnZ n last price).1 (turnZ n last price).2 := by
  unfold turnZ
  split
  · exact .inl ⟨rfl, rfl⟩
  · split
    · exact .inr (.inl ⟨rfl, rfl⟩)
    · exact .inr (.inr (.inr ⟨rfl, rfl⟩))
theorem unit_mul {a b c d : Int} (h : unit4 a b) (k : unit4 c d) : unit4 (a * c - b * d) (a * d + b * c) := by
  rcases h with ⟨rfl, rfl⟩ | ⟨rfl, rfl⟩ | ⟨rfl, rfl⟩ | ⟨rfl, rfl⟩ <;> rcases k with ⟨rfl, rfl⟩ | ⟨rfl, rfl⟩ | ⟨rfl, rfl⟩ | ⟨rfl, rfl⟩ <;> simp [unit4]
structure PathZ.fine (z : PathZ) (K : Int) : Prop where
  h : unit4 z.hx z.hy
  n0 : 0 ≤ z.n
  nK : z.n ≤ K
  x : -1000 * z.n ≤ z.x ∧ z.x ≤ 1000 * z.n
  y : -1000 * z.n ≤ z.y ∧ z.y ≤ 1000 * z.n
  lx : -1000 * z.n ≤ z.lx ∧ z.lx ≤ 0
  ly : -1000 * z.n ≤ z.ly ∧ z.ly ≤ 0
  ux : 0 ≤ z.ux ∧ z.ux ≤ 1000 * z.n
  uy : 0 ≤ z.uy ∧ z.uy ≤ 1000 * z.n
theorem steps_le (s : Int) : 0 ≤ stepsZ s ∧ stepsZ s ≤ 1000 := by unfold stepsZ; omega
theorem begun_fine : begunZ.fine 0 := ⟨.inl ⟨rfl, rfl⟩, by decide, by decide, by decide, by decide, by decide, by decide, by decide, by decide⟩
theorem step_fine {z : PathZ} {K : Int} (h : z.fine K) (last price size : Int) : (stepZ z last price size).fine (K + 1) := by
  have hu := unit_mul h.h (turn_unit z.n last price)
  have hs := steps_le size
  obtain ⟨h0, h1, h2, h3, h4, h5, h6, h7, h8⟩ := h
  have hd : ∀ a b : Int, unit4 a b → (-1000 ≤ a * stepsZ size ∧ a * stepsZ size ≤ 1000) ∧ (-1000 ≤ b * stepsZ size ∧ b * stepsZ size ≤ 1000) := by
    rintro a b (⟨rfl, rfl⟩ | ⟨rfl, rfl⟩ | ⟨rfl, rfl⟩ | ⟨rfl, rfl⟩) <;> omega
  obtain ⟨hx, hy⟩ := hd _ _ hu
  refine ⟨hu, ?_, ?_, ?_, ?_, ?_, ?_, ?_, ?_⟩ <;> simp only [stepZ, headZ] at * <;> omega

set_option maxRecDepth 100000 in
set_option maxHeartbeats 2000000 in
theorem walk_least {x y u v : Nat} {a b c d : Int} (h : CRep x y a b) (k : CRep u v c d) : ∃ p q, CRep p q (min a c) (min b d) ∧ ∀ w, Calls Try.prog 20 #[.complex .f64 x y, .complex .f64 u v] w fun e w' => e = .returned (.complex .f64 p q) ∧ w' = w := by
  obtain ⟨p, hp, rp⟩ := rep_min h.1 k.1
  obtain ⟨q, hq, rq⟩ := rep_min h.2 k.2
  refine ⟨p, q, ⟨rp, rq⟩, fun w => ?_⟩
  have hp2 := hp Try.prog
  have hq2 := hq Try.prog
  clear hp hq rp rq h k
  go_enter Try.func20, Try.ntmps20
  go_wp2
  go_ret
  exact ⟨rfl, rfl⟩
set_option maxRecDepth 100000 in
set_option maxHeartbeats 2000000 in
theorem walk_most {x y u v : Nat} {a b c d : Int} (h : CRep x y a b) (k : CRep u v c d) : ∃ p q, CRep p q (max a c) (max b d) ∧ ∀ w, Calls Try.prog 21 #[.complex .f64 x y, .complex .f64 u v] w fun e w' => e = .returned (.complex .f64 p q) ∧ w' = w := by
  obtain ⟨p, hp, rp⟩ := rep_max h.1 k.1
  obtain ⟨q, hq, rq⟩ := rep_max h.2 k.2
  refine ⟨p, q, ⟨rp, rq⟩, fun w => ?_⟩
  have hp2 := hp Try.prog
  have hq2 := hq Try.prog
  clear hp hq rp rq h k
  go_enter Try.func21, Try.ntmps21
  go_wp2
  go_ret
  exact ⟨rfl, rfl⟩

set_option maxRecDepth 100000 in
set_option maxHeartbeats 2000000 in
theorem walk_turn (p : PathW) (last price : Int) : ∃ u v, CRep u v (turnZ p.n last price).1 (turnZ p.n last price).2 ∧ ∀ w, Calls Try.prog 19 #[.agg p.arr, .int .i64 last, .int .i64 price] w fun e w' => e = .returned (.complex .f64 u v) ∧ Below w.heap.size w w' := by
  by_cases h0 : p.n = 0
  · refine ⟨4607182418800017408, 0, by unfold turnZ; rw [if_pos (.inl h0)]; exact ⟨rep_1, rep_0⟩, fun w => ?_⟩
    go_enter Try.func19, Try.ntmps19
    go_wp2
    go_ret
    exact ⟨rfl, by (repeat (first | exact Below.refl _ _ | assumption | apply below_drewN | (refine Below.setCell ?_ (by first | assumption | omega | (simp; try omega)) _) | (refine Below.alloc ?_ (by first | assumption | omega | (simp; try omega)) _)))⟩
  · by_cases h1 : price = last
    · refine ⟨4607182418800017408, 0, by unfold turnZ; rw [if_pos (.inr h1)]; exact ⟨rep_1, rep_0⟩, fun w => ?_⟩
      subst h1
      go_enter Try.func19, Try.ntmps19
      go_wp2
      go_ret
      exact ⟨rfl, by (repeat (first | exact Below.refl _ _ | assumption | apply below_drewN | (refine Below.setCell ?_ (by first | assumption | omega | (simp; try omega)) _) | (refine Below.alloc ?_ (by first | assumption | omega | (simp; try omega)) _)))⟩
    · obtain ⟨n1, n2⟩ := ne_bb h1
      by_cases h2 : last < price
      · refine ⟨0, 4607182418800017408, by unfold turnZ; rw [if_neg (by omega), if_pos h2]; exact ⟨rep_0, rep_1⟩, fun w => ?_⟩
        go_enter Try.func19, Try.ntmps19
        go_wp2
        go_ret
        exact ⟨rfl, by (repeat (first | exact Below.refl _ _ | assumption | apply below_drewN | (refine Below.setCell ?_ (by first | assumption | omega | (simp; try omega)) _) | (refine Below.alloc ?_ (by first | assumption | omega | (simp; try omega)) _)))⟩
      · refine ⟨0, 13830554455654793216, by unfold turnZ; rw [if_neg (by omega), if_neg h2]; exact ⟨rep_0, rep_n1⟩, fun w => ?_⟩
        go_enter Try.func19, Try.ntmps19
        go_wp2
        go_ret
        exact ⟨rfl, by (repeat (first | exact Below.refl _ _ | assumption | apply below_drewN | (refine Below.setCell ?_ (by first | assumption | omega | (simp; try omega)) _) | (refine Below.alloc ?_ (by first | assumption | omega | (simp; try omega)) _)))⟩

theorem p5_info (r : PathW) : (Try.prog.info? 29).map (·.size) = some r.arr.size := show (Try.prog.info? 29).map (·.size) = some 5 by kernel_rfl
theorem p5_size (r q : PathW) : r.arr.size = q.arr.size := rfl
theorem p5_one (r : PathW) : r.arr.all (·.oneCell') = true := by simp [Value.oneCell']
set_option maxRecDepth 100000 in
set_option maxHeartbeats 2000000 in
theorem walk_begun (w : World) : Calls Try.prog 17 #[] w fun e w' => e = .returned (.agg begunW.arr) ∧ Below w.heap.size w w' ∧ w'.heap.size = w.heap.size + 1 := by
  go_enter Try.func17, Try.ntmps17
  have H0 : Hid ((w.alloc (.cells zeroP.arr 29)).heap[w.heap.size]? = some (.cells zeroP.arr 29 (0, 0))) := Lib.hid (heap_alloc_new _ _)
  go_wp2_with (with_reducible refine wpList_store_row rfl 29 (.tmp 0) (.tmp 1) rfl w.heap.size begunW.arr rfl rfl 29 zeroP.arr H0.out (p5_info _) (p5_size _ _) (p5_one _) ?_)
  refine bodyPost_ret (results_cell_row Try.results17 _ _ w.heap.size 29 begunW.arr (0, 0) _ rfl (setRow_heap _ _ _ _ _ _ H0.out) Try.underlying29 rfl (p5_info _)) rfl ?_
  exact ⟨rfl, below_setRow ((Below.refl _ _).alloc (Nat.le_refl _) _) _ _ (Nat.le_refl _), by simp⟩
end Go.Proofs.Ytkllcidmahhkoaa
