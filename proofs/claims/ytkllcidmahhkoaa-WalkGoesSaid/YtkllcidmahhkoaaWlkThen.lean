/-
  One more trade: Then.
-/
import Derived.Test.YtkllcidmahhkoaaWlk
import Derived.Deep.RegionHeld3
namespace Go.Proofs.Ytkllcidmahhkoaa
open Go.RowKit
set_option linter.unusedVariables false
set_option linter.unusedSimpArgs false

theorem heap_cells_p {w : World} {B : Nat} {p : PathW} {t : TypeId} (h : w.heap[B]? = some (.cells p.arr t (0, 0))) :
    w.cell? ⟨B, 0, none⟩ = some (.complex .f64 p.ar p.ai) ∧ w.cell? ⟨B, 1, none⟩ = some (.complex .f64 p.hr p.hi) ∧ w.cell? ⟨B, 2, none⟩ = some (.int .i64 p.n) ∧ w.cell? ⟨B, 3, none⟩ = some (.complex .f64 p.lr p.li) ∧ w.cell? ⟨B, 4, none⟩ = some (.complex .f64 p.ur p.ui) := by
  simp [World.cell?, h]
theorem heap_cells_t {w : World} {B : Nat} {a b c d : Int} {t : TypeId} (h : w.heap[B]? = some (.cells #[.int .u64 a, .int .u64 b, .int .i64 c, .int .i64 d] t (0, 0))) :
    w.cell? ⟨B, 2, none⟩ = some (.int .i64 c) ∧ w.cell? ⟨B, 3, none⟩ = some (.int .i64 d) := by
  simp [World.cell?, h]
theorem below_drew1 {B : Nat} {a b : World} (h : Below B a b) : Below B a b.drew := h.trans ⟨rfl, rfl, rfl, Nat.le_refl _, fun _ _ => rfl⟩
theorem heap_set4 {w : World} {B : Nat} {cs : Array Value} {t : TypeId} (h : w.heap[B]? = some (.cells cs t (0, 0))) (i : Nat) (v : Value) (ds : Array Value) (e : cs.setIfInBounds i v = ds) : (w.setCell ⟨B, i, none⟩ v).heap[B]? = some (.cells ds t (0, 0)) := by
  rw [← e]; exact heap_setCell_same w B i cs t v h
theorem run_min2 {P : Program} (ts : Array TypeId) (t : TypeId) (a b : Int) (w : World) : (Builtin.min_ ts t #[.int .i64 a, .int .i64 b]).run P w = .ok (.int .i64 (min a b)) w := by
  have : min a b = if b < a then b else a := by by_cases h : b < a <;> simp [h] <;> omega
  rw [this]
  simp [Builtin.min_, Builtin.min2]
theorem run_max2 {P : Program} (ts : Array TypeId) (t : TypeId) (a b : Int) (w : World) : (Builtin.max_ ts t #[.int .i64 a, .int .i64 b]).run P w = .ok (.int .i64 (max a b)) w := by
  have : max a b = if b > a then b else a := by by_cases h : a < b <;> simp [h] <;> omega
  rw [this]
  simp [Builtin.max_, Builtin.max2]
/-- the three variables of Then: the path, the trade, the result -/
structure TW (w : World) (p : PathW) (a b c d : Int) (wx : World) : Prop where
  bel : Below w.heap.size w wx
  p : wx.heap[w.heap.size]? = some (.cells p.arr 29 (0, 0))
  t : wx.heap[w.heap.size + 1]? = some (.cells #[.int .u64 a, .int .u64 b, .int .i64 c, .int .i64 d] 25 (0, 0))
  z : wx.heap[w.heap.size + 1 + 1]? = some (.cells zeroP.arr 29 (0, 0))
theorem TW.step {w : World} {p : PathW} {a b c d : Int} {wx w' : World} (h : TW w p a b c d wx) (hB : Below wx.heap.size wx w') : TW w p a b c d w' :=
  ⟨h.bel.trans (hB.mono h.bel.size), (hB.block _ (heap_lt h.p)).trans h.p, (hB.block _ (heap_lt h.t)).trans h.t, (hB.block _ (heap_lt h.z)).trans h.z⟩
theorem TW.drew {w : World} {p : PathW} {a b c d : Int} {wx : World} (h : TW w p a b c d wx) : TW w p a b c d wx.drew := h.step ⟨rfl, rfl, rfl, Nat.le_refl _, fun _ _ => rfl⟩
theorem TW.set {w : World} {p : PathW} {a b c d : Int} {wx : World} (h : TW w p a b c d wx) (i : Nat) (v : Value) (q : PathW) (e : p.arr.setIfInBounds i v = q.arr) : TW w q a b c d (wx.setCell ⟨w.heap.size, i, none⟩ v) :=
  ⟨h.bel.setCell (Nat.le_refl _) _, heap_set4 h.p i v _ e, (Below.heap_setCell _ _ _ _ (by show w.heap.size + 1 ≠ w.heap.size; omega)).trans h.t, (Below.heap_setCell _ _ _ _ (by show w.heap.size + 1 + 1 ≠ w.heap.size; omega)).trans h.z⟩

set_option maxRecDepth 100000 in
set_option maxHeartbeats 4000000 in
theorem walk_then (p : PathW) (z : PathZ) (hp : PRep p z) (hf : z.fine 1000) (last a b c d : Int) (hd : -9223372036854775808 ≤ d ∧ d ≤ 9223372036854775807) :
    ∃ q, PRep q (stepZ z last c d) ∧ ∀ w, Calls Try.prog 8 #[.agg p.arr, .int .i64 last, .agg #[.int .u64 a, .int .u64 b, .int .i64 c, .int .i64 d]] w fun e w' => e = .returned (.agg q.arr) ∧ Below w.heap.size w w' := by
  obtain ⟨tu, tv, ht, HTU⟩ := walk_turn p last c
  rw [hp.n] at ht
  have hu := unit_mul hf.h (turn_unit z.n last c)
  have hsl := steps_le d
  have hb1 : ∀ {e f g i : Int}, unit4 e f → unit4 g i → (e * g).natAbs < 9007199254740992 ∧ (f * i).natAbs < 9007199254740992 ∧ (e * i).natAbs < 9007199254740992 ∧ (f * g).natAbs < 9007199254740992 ∧ (e * g - f * i).natAbs < 9007199254740992 ∧ (e * i + f * g).natAbs < 9007199254740992 := by
    rintro e f g i (⟨rfl, rfl⟩ | ⟨rfl, rfl⟩ | ⟨rfl, rfl⟩ | ⟨rfl, rfl⟩) (⟨rfl, rfl⟩ | ⟨rfl, rfl⟩ | ⟨rfl, rfl⟩ | ⟨rfl, rfl⟩) <;> decide
  obtain ⟨b1, b2, b3, b4, b5, b6⟩ := hb1 hf.h (turn_unit z.n last c)
  obtain ⟨hr, hi, hmul, rh⟩ := crep_mul hp.h ht b1 b2 b3 b4 b5 b6
  have hst : floatOfInt .f64 (stepsZ d) = floatOfInt .f64 (stepsZ d) := rfl
  have hb2 : ∀ {e f g : Int}, unit4 e f → 0 ≤ g → g ≤ 1000 → (e * g).natAbs < 9007199254740992 ∧ (f * 0).natAbs < 9007199254740992 ∧ (e * 0).natAbs < 9007199254740992 ∧ (f * g).natAbs < 9007199254740992 ∧ (e * g - f * 0).natAbs < 9007199254740992 ∧ (e * 0 + f * g).natAbs < 9007199254740992 := by
    rintro e f g (⟨rfl, rfl⟩ | ⟨rfl, rfl⟩ | ⟨rfl, rfl⟩ | ⟨rfl, rfl⟩) h0 h1 <;> omega
  obtain ⟨c1, c2, c3, c4, c5, c6⟩ := hb2 hu hsl.1 hsl.2
  obtain ⟨mr, mi, hmul2, rm⟩ := crep_mul rh ⟨rep_of (stepsZ d) (by omega), rep_0⟩ c1 c2 c3 c4 c5 c6
  have hfs := step_fine hf last c d
  have hxx : (stepZ z last c d).x = z.x + ((z.hx * (turnZ z.n last c).1 - z.hy * (turnZ z.n last c).2) * stepsZ d - (z.hx * (turnZ z.n last c).2 + z.hy * (turnZ z.n last c).1) * 0) := by simp [stepZ, headZ]
  have hyy : (stepZ z last c d).y = z.y + ((z.hx * (turnZ z.n last c).1 - z.hy * (turnZ z.n last c).2) * 0 + (z.hx * (turnZ z.n last c).2 + z.hy * (turnZ z.n last c).1) * stepsZ d) := by simp [stepZ, headZ]
  have hnK := hfs.nK
  have hn0 := hfs.n0
  obtain ⟨ar, ai, hadd, ra⟩ := crep_add hp.at_ rm (by rw [← hxx]; have := hfs.x; omega) (by rw [← hyy]; have := hfs.y; omega)
  rw [← hxx, ← hyy] at ra
  obtain ⟨lr, li, rl, HLE⟩ := walk_least hp.l ra
  obtain ⟨ur, ui, ru, HMO⟩ := walk_most hp.u ra
  refine ⟨⟨ar, ai, hr, hi, p.n + 1, lr, li, ur, ui⟩, ⟨ra, rh, by rw [hp.n]; rfl, rl, ru⟩, fun w => ?_⟩
  have hnw : IntKind.i64.wrap (p.n + 1) = p.n + 1 := IntWalk.i64_in _ (by rw [hp.n]; have := hf.n0; have := hf.nK; omega)
  have hmx := fun ts t w => run_max2 (P := Try.prog) ts t d 0 w
  have hmn := fun ts t w => run_min2 (P := Try.prog) ts t (max d 0) 1000 w
  rw [show min (max d 0) 1000 = stepsZ d from rfl] at hmn
  obtain ⟨M, hM⟩ : ∃ M, M = max d 0 := ⟨_, rfl⟩
  obtain ⟨S, hS⟩ : ∃ S, S = stepsZ d := ⟨_, rfl⟩
  obtain ⟨F, hF⟩ : ∃ F, F = floatOfInt .f64 (stepsZ d) := ⟨_, rfl⟩
  have hconv2 : floatOfInt .f64 S = F := by rw [hS, hF]
  rw [← hM] at hmx hmn
  rw [← hS] at hmn
  rw [← hF] at hmul2
  clear hM hS hF hst rl ru ra rm rh ht hp hf hu hsl b1 b2 b3 b4 b5 b6 c1 c2 c3 c4 c5 c6 hxx hyy hnK hn0 hfs hb1 hb2 hd
  have TU := Lib.hid HTU
  have LE := Lib.hid HLE
  have MO := Lib.hid HMO
  clear HTU HLE HMO
  have hmulR := fun w => run_complex_mul (P := Try.prog) w 27 _ _ _ _ _ _ hmul
  have hmulR2 := fun w => run_complex_mul (P := Try.prog) w 27 _ _ _ _ _ _ hmul2
  have haddR := fun w => run_complex_sum (P := Try.prog) w .add (.inl rfl) 27 .f64 _ _ _ _ _ _ hadd
  have hconvR := fun w => run_convert_int_float (P := Try.prog) w 2 32 .i64 .f64 S (by kernel_rfl) (by kernel_rfl)
  rw [hconv2] at hconvR
  have hst1 : ∀ (a : Addr) (w : World), (store a (.complex .f64 hr hi)).run Try.prog w = stored Try.prog w a (.complex .f64 hr hi) .plain := fun a w => run_store Try.prog w a _ _ rfl
  have hst2 : ∀ (a : Addr) (w : World), (store a (.complex .f64 ar ai)).run Try.prog w = stored Try.prog w a (.complex .f64 ar ai) .plain := fun a w => run_store Try.prog w a _ _ rfl
  have hst3 : ∀ (a : Addr) (w : World), (store a (.complex .f64 lr li)).run Try.prog w = stored Try.prog w a (.complex .f64 lr li) .plain := fun a w => run_store Try.prog w a _ _ rfl
  have hst4 : ∀ (a : Addr) (w : World), (store a (.complex .f64 ur ui)).run Try.prog w = stored Try.prog w a (.complex .f64 ur ui) .plain := fun a w => run_store Try.prog w a _ _ rfl
  clear hmul hmul2 hadd hconv2
  have hB0 : Below w.heap.size w w := Below.refl _ _
  have T0 : TW w p a b c d (((w.alloc (.cells p.arr 29)).alloc (.cells #[.int .u64 a, .int .u64 b, .int .i64 c, .int .i64 d] 25)).alloc (.cells zeroP.arr 29)) :=
    ⟨by (repeat (first | exact Below.refl _ _ | assumption | apply below_drewN | (refine Below.setCell ?_ (by first | assumption | omega | (simp; try omega)) _) | (refine Below.alloc ?_ (by first | assumption | omega | (simp; try omega)) _))), (Below.heap_alloc _ _ _ (by simp; omega)).trans (heap_alloc2_old _ _ _), (Below.heap_alloc _ _ _ (by simp)).trans (heap_alloc2_new _ _ _), heap_new (by simp)⟩
  have HT0 := Lib.hid T0
  clear T0
  go_enter Try.func8, Try.ntmps8
  go_upto_region 1 with fail
  have T0 := HT0.out
  clear HT0
  generalize ((w.alloc (.cells #[.complex .f64 p.ar p.ai, .complex .f64 p.hr p.hi, .int .i64 p.n, .complex .f64 p.lr p.li, .complex .f64 p.ur p.ui] 29)).alloc (.cells #[.int .u64 a, .int .u64 b, .int .i64 c, .int .i64 d] 25)).alloc (.cells #[.complex .f64 0 0, .complex .f64 0 0, .int .i64 0, .complex .f64 0 0, .complex .f64 0 0] 29) = w3 at T0 ⊢
  have HT0 := Lib.hid T0
  clear T0
  go_cut [14] (fun v14 wc => Hid (TW w ⟨p.ar, p.ai, hr, hi, p.n, p.lr, p.li, p.ur, p.ui⟩ a b c d wc))
  case first =>
    have T := HT0.out.drew
    obtain ⟨k0, k1, k2, k3, k4⟩ := heap_cells_p T.p
    obtain ⟨t2, t3⟩ := heap_cells_t T.t
    have HT := Lib.hid T
    clear T LE MO
    go_region_with (first | (go_at_call 19; (with_reducible refine (TU.out _).mono ?_); rintro e w4 ⟨rfl, hB4⟩; have T4 := HT.out.step hB4; obtain ⟨j0, j1, j2, j3, j4⟩ := heap_cells_p T4.p; have f1 := frozen_of_row _ _ 1 _ _ T4.p; have HT4 := Lib.hid T4; clear T4))
    all_goals (go_wp2_with fail; go_meet)
    all_goals exact Lib.hid (HT4.out.set 1 (.complex .f64 hr hi) ⟨p.ar, p.ai, hr, hi, p.n, p.lr, p.li, p.ur, p.ui⟩ rfl)
  case rest =>
    have T := hcut.out
    clear hcut HT0 TU hmulR hst1
    obtain ⟨k0, k1, k2, k3, k4⟩ := heap_cells_p T.p
    obtain ⟨t2, t3⟩ := heap_cells_t T.t
    have f0 := frozen_of_row _ _ 0 _ _ T.p
    have f2 := frozen_of_row _ _ 2 _ _ T.p
    simp only at k0 k1 k2 k3 k4
    have T2 := (T.set 0 (.complex .f64 ar ai) ⟨ar, ai, hr, hi, p.n, p.lr, p.li, p.ur, p.ui⟩ rfl).set 2 (.int .i64 (p.n + 1)) ⟨ar, ai, hr, hi, p.n + 1, p.lr, p.li, p.ur, p.ui⟩ rfl
    have HT2 := Lib.hid T2
    clear T T2
    go_upto_region 4 with fail
    clear k0 k1 k2 k3 k4 t2 t3 f0 f2 hmx hmn hconvR hmulR2 haddR hst2 hnw
    have T2 := HT2.out
    clear HT2
    generalize (wc.setCell ⟨w.heap.size, 0, none⟩ (.complex .f64 ar ai)).setCell ⟨w.heap.size, 2, none⟩ (.int .i64 (p.n + 1)) = w5 at T2 ⊢
    have HT2 := Lib.hid T2
    clear T2
    go_cut [37] (fun v37 wc => Hid (TW w ⟨ar, ai, hr, hi, p.n + 1, lr, li, ur, ui⟩ a b c d wc))
    case first =>
      have T := HT2.out.drew
      obtain ⟨k0, k1, k2, k3, k4⟩ := heap_cells_p T.p
      have f3 := frozen_of_row _ _ 3 _ _ T.p
      have f4 := frozen_of_row _ _ 4 _ _ T.p
      simp only at k0 k1 k2 k3 k4
      have HT := Lib.hid T
      have Ta := T.set 3 (.complex .f64 lr li) ⟨ar, ai, hr, hi, p.n + 1, lr, li, p.ur, p.ui⟩ rfl
      have Tb := (HT2.out.set 3 (.complex .f64 lr li) ⟨ar, ai, hr, hi, p.n + 1, lr, li, p.ur, p.ui⟩ rfl).drew
      obtain ⟨_, _, _, _, ka⟩ := heap_cells_p Ta.p
      obtain ⟨_, _, _, _, kb⟩ := heap_cells_p Tb.p
      have fa := frozen_of_row _ _ 4 _ _ Ta.p
      have fb := frozen_of_row _ _ 4 _ _ Tb.p
      simp only at ka kb
      clear T Ta Tb
      go_region_with (first | (go_at_call 20; (with_reducible refine (LE.out _).mono ?_); rintro e w6 ⟨rfl, rfl⟩) | (go_at_call 21; (with_reducible refine (MO.out _).mono ?_); rintro e w6 ⟨rfl, rfl⟩))
      all_goals (go_wp2_with fail; go_meet)
      all_goals exact Lib.hid ((HT.out.set 3 (.complex .f64 lr li) ⟨ar, ai, hr, hi, p.n + 1, lr, li, p.ur, p.ui⟩ rfl).set 4 (.complex .f64 ur ui) ⟨ar, ai, hr, hi, p.n + 1, lr, li, ur, ui⟩ rfl)
    case rest =>
      have T := hcut.out
      have HP := Lib.hid T.p
      have HZ := Lib.hid T.z
      have HBB := Lib.hid T.bel
      clear T hcut HT2 LE MO hst3 hst4
      obtain ⟨q, hq⟩ : ∃ q : PathW, q = ⟨ar, ai, hr, hi, p.n + 1, lr, li, ur, ui⟩ := ⟨_, rfl⟩
      rw [← hq] at HP
      go_wp2_with (first | (with_reducible refine wpList_load_row rfl 29 (.tmp 3) rfl w.heap.size rfl 29 q.arr (0, 0) _ HP.out Try.underlying29 rfl (p5_info _) ?_) | (with_reducible refine wpList_store_row rfl 29 (.tmp 6) (.tmp 45) rfl (w.heap.size + 1 + 1) q.arr rfl rfl 29 zeroP.arr HZ.out (p5_info _) (p5_size _ _) (p5_one _) ?_))
      refine bodyPost_ret (results_cell_row Try.results8 _ _ (w.heap.size + 1 + 1) 29 q.arr (0, 0) _ rfl (setRow_heap _ _ _ _ _ _ HZ.out) Try.underlying29 rfl (p5_info _)) rfl ?_
      exact ⟨by rw [hq], below_setRow HBB.out _ _ (by omega)⟩
end Go.Proofs.Ytkllcidmahhkoaa
