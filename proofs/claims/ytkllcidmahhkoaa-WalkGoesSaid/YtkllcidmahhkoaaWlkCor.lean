/-
  walk.Corners: how many trades turned a walk.
-/
import Derived.Test.YtkllcidmahhkoaaWlkOf
namespace Go.Proofs.Ytkllcidmahhkoaa
open Go.RowKit Go.Shelf
set_option linter.unusedVariables false
set_option linter.unusedSimpArgs false
attribute [local go_sem] Oper.semAt_some

/-- corners and heading behind some paths -/
def cornS (s : Int × (Int × Int)) (z : PathZ) : Int × (Int × Int) := (if z.hx = s.2.1 ∧ z.hy = s.2.2 then s.1 else s.1 + 1, (z.hx, z.hy))
def cornL (l : List PathZ) : Int × (Int × Int) := l.foldl cornS (0, (1, 0))
theorem cornL_snoc (l : List PathZ) (z : PathZ) : cornL (l ++ [z]) = cornS (cornL l) z := by simp [cornL]
theorem cornL_bound (l : List PathZ) : 0 ≤ (cornL l).1 ∧ (cornL l).1 ≤ l.length := by
  suffices h : ∀ (l : List PathZ) (s : Int × (Int × Int)), 0 ≤ s.1 → s.1 ≤ (l.foldl cornS s).1 ∧ (l.foldl cornS s).1 ≤ s.1 + l.length by
    have := h l (0, (1, 0)) (by decide)
    unfold cornL; simpa using this
  intro l
  induction l with
  | nil => intro s h; simp
  | cons z l ih =>
    intro s h
    have h1 : s.1 ≤ (cornS s z).1 ∧ (cornS s z).1 ≤ s.1 + 1 := by unfold cornS; split <;> simp <;> omega
    have := ih (cornS s z) (by omega)
    simp only [List.foldl_cons, List.length_cons]
    omega
def cornersZ (l : List TradeR) : Int := (cornL (pathsZ l)).1

theorem run_eql_cc {x y u v : Nat} {a b c d : Int} (h : CRep x y a b) (k : CRep u v c d) (w : World) : (binOp .eql 27 (.complex .f64 x y) (.complex .f64 u v)).run Try.prog w = .ok (.bool (decide (a = c ∧ b = d))) w := by
  rw [← crep_eq h k]
  simp [binOp, Op.complexOp, Op.Complex.cmp, Op.floatCmp, asBool, Op.floatEq]
theorem run_neq_cc {x y u v : Nat} {a b c d : Int} (h : CRep x y a b) (k : CRep u v c d) (w : World) : (binOp .neq 27 (.complex .f64 x y) (.complex .f64 u v)).run Try.prog w = .ok (.bool (!decide (a = c ∧ b = d))) w := by
  rw [← crep_eq h k]
  simp [binOp, Op.complexOp, Op.Complex.cmp, Op.floatCmp, asBool, Op.floatEq]
theorem run_field_h (p : PathW) (w : World) : (Instr.field 29 (.agg p.arr) 1).run Try.prog w = .ok (.complex .f64 p.hr p.hi) w := by kernel_rfl
set_option maxRecDepth 100000 in
set_option maxHeartbeats 4000000 in
theorem walk_corners (l : List TradeR) (sa : Option Addr) (cap : Nat) (w : World) (hlen : l.length ≤ 900) (hg : ∀ r ∈ l, r.good) (hr : RowsAt w sa 4 TradeR.row l) :
    Calls Try.prog 9 #[.slice sa l.length cap] w fun e w' => e = .returned (.int .i64 (cornersZ l)) ∧ Below w.heap.size w w' := by
  have HR := Lib.hid hr
  clear hr
  refine (callsIn_wide (n := 5)).1 ?_
  refine callsIn_of_wp_marks Try.func9 rfl trivial ?_ rfl
  simp only [Try.ntmps9, List.size_toArray, List.length_cons, List.length_nil, Nat.reduceAdd, Nat.reduceSub, Array.replicate_succ, Array.replicate_zero, List.push_toArray, List.append_toArray, List.nil_append, List.cons_append]
  have hfl := run_field_h begunW
  have hst : ∀ (u v : Nat) (a : Addr) (w : World), (store a (.complex .f64 u v)).run Try.prog w = stored Try.prog w a (.complex .f64 u v) .plain := fun u v a w => run_store Try.prog w a _ _ rfl
  gi_wp2_with (first | (refine ⟨trivial, ?_⟩; gi_at_call 17; (with_reducible refine (callsIn_wide.2 (walk_begun _)).mono ?_); rintro e w1 ⟨rfl, hB1, hs1⟩; have HB1 := Lib.hid hB1; clear hs1) | (refine ⟨trivial, ?_⟩; gi_at_call 18; refine (callsIn_wide.2 (paths_make _ _ _ _)).mono ?_; rintro e w' ⟨rfl, rfl⟩))
  have hrep0 : CRep begunW.hr begunW.hi 1 0 := begun_rep.h
  have hB0 := HB1.out
  have hw1 : w.heap.size + 1 ≤ w1.heap.size := by have := hB0.size; simpa using this
  have h1 : Below w.heap.size w w1 := ((Below.refl _ w).alloc (Nat.le_refl _) _).trans (hB0.mono (by simp))
  have hbelow : Below w.heap.size w ((w1.alloc (.cells #[.complex .f64 begunW.hr begunW.hi] 27)).alloc (.cells #[.slice sa l.length cap] 22)) := (h1.alloc h1.size _).alloc (by simp; omega) _
  have hn0 : ((w1.alloc (.cells #[.complex .f64 begunW.hr begunW.hi] 27)).alloc (.cells #[.slice sa l.length cap] 22)).heap[w.heap.size]? = some (.cells #[.int .i64 0] 3 (0, 0)) := by
    have h1 := (hB0.block w.heap.size (by simp)).trans (heap_alloc_new w (.cells #[.int .i64 0] 3))
    exact (Below.heap_alloc _ _ _ (by simp; omega)).trans ((Below.heap_alloc _ _ _ (by omega)).trans h1)
  have hh0 : ((w1.alloc (.cells #[.complex .f64 begunW.hr begunW.hi] 27)).alloc (.cells #[.slice sa l.length cap] 22)).heap[w1.heap.size]? = some (.cells #[.complex .f64 begunW.hr begunW.hi] 27 (0, 0)) :=
    (Below.heap_alloc _ _ _ (by simp)).trans (heap_alloc_new _ _)
  have hbox : ((w1.alloc (.cells #[.complex .f64 begunW.hr begunW.hi] 27)).alloc (.cells #[.slice sa l.length cap] 22)).cell? ⟨w1.heap.size + 1, 0, none⟩ = some (.slice sa l.length cap) := by
    have := heap_new (w := w1.alloc (.cells #[.complex .f64 begunW.hr begunW.hi] 27)) (x := .cells #[.slice sa l.length cap] 22) (B := w1.heap.size + 1) (by simp)
    unfold World.cell?; rw [this]; rfl
  have hsz : ((w1.alloc (.cells #[.complex .f64 begunW.hr begunW.hi] 27)).alloc (.cells #[.slice sa l.length cap] 22)).heap.size = w1.heap.size + 2 := by simp
  generalize begunW.hr = u0 at *
  generalize begunW.hi = v0 at *
  generalize hW0 : ((w1.alloc (.cells #[.complex .f64 u0 v0] 27)).alloc (.cells #[.slice sa l.length cap] 22)) = W0 at hbelow hn0 hh0 hbox hsz ⊢
  clear hW0 HB1 hB0 hB1 h1 hfl
  have hqa : 0 < l.length → ∀ b o, sa = some ⟨b, o, none⟩ → ¬ (b = w.heap.size ∨ b = w1.heap.size) := by
    intro h b o e
    obtain ⟨b', o', e', g0, _⟩ := trade_cells HR.out 0 h
    rw [e] at e'; cases e'
    have : b < w.heap.size := cell_lt g0
    omega
  have hseq := paths_stops 4 l sa cap (w1.heap.size + 1) (fun k => k = w.heap.size ∨ k = w1.heap.size) hlen hg W0 (by omega) (by omega) (by omega) hqa hbox (HR.out.moved hbelow)
  have hOn : OnlyOn (fun k => k = w.heap.size ∨ k = w1.heap.size) (fun (pre : List PathB) W => ∃ u v : Nat, W.heap[w.heap.size]? = some (.cells #[.int .i64 (cornL (pre.map (·.1.2))).1] 3 (0, 0)) ∧ W.heap[w1.heap.size]? = some (.cells #[.complex .f64 u v] 27 (0, 0)) ∧ CRep u v (cornL (pre.map (·.1.2))).2.1 (cornL (pre.map (·.1.2))).2.2) :=
    fun s A B ⟨u, v, h1, h2, h3⟩ e => ⟨u, v, (e _ (.inl rfl)).trans h1, (e _ (.inr rfl)).trans h2, h3⟩
  refine range_law rfl (by decide) (gf := 25) (lb := #[.pointer (some ⟨w1.heap.size + 1, 0, none⟩)]) rfl trivial (enters_of Try.func25 (by kernel_rfl) rfl) hseq (by rintro k rfl; omega) keepsBut_t keepsBut_b (Below.refl _ _) (fun _ => rfl)
    (fun pre W => ChgQ (fun k => k = w.heap.size ∨ k = w1.heap.size) W0 W ∧ ∃ u v : Nat, W.heap[w.heap.size]? = some (.cells #[.int .i64 (cornL (pre.map (·.1.2))).1] 3 (0, 0)) ∧ W.heap[w1.heap.size]? = some (.cells #[.complex .f64 u v] 27 (0, 0)) ∧ CRep u v (cornL (pre.map (·.1.2))).2.1 (cornL (pre.map (·.1.2))).2.2) (fun _ _ _ => False)
    (kept_own (by omega) hOn)
    (fun c s A B r h => h.elim)
    (kept_turns (by omega) hOn (by rintro k rfl; omega))
    (fun c s A B h => h.elim)
    ⟨ChgQ.refl _ _, u0, v0, hn0, hh0, hrep0⟩ ?round ?done ?stop
  case stop => rintro D c pre W hD hp h; exact h.elim
  case round =>
    rintro L pre x W hL ⟨hC, u, v, hpn, hph, hPR⟩ hlt hloop
    have HN : Hid ((W.alloc (.cells zeroP.arr 29)).heap[W.heap.size]? = some (.cells zeroP.arr 29 (0, 0))) := Lib.hid (heap_alloc_new _ _)
    gi_wp2_with (with_reducible refine wpIn_store_row rfl 29 (.tmp 5) (.tmp 10) rfl W.heap.size x.1.1.arr rfl rfl 29 zeroP.arr HN.out (p5_info _) (p5_size _ _) (p5_one _) ?_)
    have hbN : Below W.heap.size W ((W.alloc (.cells zeroP.arr 29)).setRow W.heap.size x.1.1.arr) := below_setRow ((Below.refl _ _).alloc (Nat.le_refl _) _) _ _ (Nat.le_refl _)
    refine ⟨keepsFrom_below hbN, KeepsBut.of_below hbN, fun W2 hbusy => ?_⟩
    have hx2 : W2.heap[W.heap.size]? = some (.cells x.1.1.arr 29 (0, 0)) := hbusy.keeps (setRow_heap _ _ _ _ _ _ HN.out) rfl
    have bn2 : Boxed W2 w.heap.size 3 (.int .i64 (cornL (pre.map (·.1.2))).1) := hbusy.keeps ((hbN.block _ (heap_lt hpn)).trans hpn) rfl
    have bh2 : Boxed W2 w1.heap.size 27 (.complex .f64 u v) := hbusy.keeps ((hbN.block _ (heap_lt hph)).trans hph) rfl
    have hC2 : ChgQ (fun k => k = w.heap.size ∨ k = w1.heap.size) W0 W2 := hbusy.chg hL (hC.trans (ChgQ.of_below hbN))
    have hxr := x.2.1.h
    have hs2 : cornL ((pre ++ [x]).map (·.1.2)) = cornS (cornL (pre.map (·.1.2))) x.1.2 := by rw [List.map_append]; exact cornL_snoc _ _
    have hbd := cornL_bound (pre.map (·.1.2))
    rw [List.length_map] at hbd
    obtain ⟨ur, hur⟩ : ∃ y, y = x.1.1.hr := ⟨_, rfl⟩
    obtain ⟨ui, hui⟩ : ∃ y, y = x.1.1.hi := ⟨_, rfl⟩
    have cx : W2.cell? ⟨W.heap.size, 1, none⟩ = some (.complex .f64 ur ui) := by rw [hur, hui]; exact (heap_cells_p hx2).2.1
    rw [← hur, ← hui] at hxr
    have cn := bn2.cell
    have ch := bh2.cell
    have fn := bn2.frozen
    have fh := bh2.frozen
    have hlW : w.heap.size < W.heap.size := by have := hC.size; omega
    have hlW1 : w1.heap.size < W.heap.size := by have := hC.size; omega
    have hne1 : w.heap.size ≠ w1.heap.size := by omega
    have hnn : IntKind.i64.wrap ((cornL (pre.map (·.1.2))).1 + 1) = (cornL (pre.map (·.1.2))).1 + 1 := IntWalk.i64_in _ (by omega)
    have hne := fun w => run_neq_cc hxr hPR w
    obtain ⟨cn0, hcn0⟩ : ∃ y, y = (cornL (pre.map (·.1.2))).1 := ⟨_, rfl⟩
    by_cases hs : x.1.2.hx = (cornL (pre.map (·.1.2))).2.1 ∧ x.1.2.hy = (cornL (pre.map (·.1.2))).2.2
    · rw [decide_eq_true hs, Bool.not_true] at hne
      rw [cornS, if_pos hs, ← hcn0] at hs2
      rw [← hcn0] at cn hbd hnn bn2
      clear hs hur hui hcn0 hpn hph
      gi_wp2
      have hcB : ChgQ (fun k => k = w.heap.size ∨ k = w1.heap.size) W2 (W2.setCell ⟨w1.heap.size, 0, none⟩ (.complex .f64 ur ui)) := ChgQ.setCell _ _ _ _ (.inr rfl)
      refine ⟨keepsFrom_setCell _ _ _ _ (by omega), keepsBut_setCell _ _ _ _ (.inr rfl), hC2.trans hcB, ?_, ur, ui, bh2.set _, ?_⟩ <;> rw [hs2]
      · exact bn2.other hne1 _
      · exact hxr
    · rw [decide_eq_false hs, Bool.not_false] at hne
      rw [cornS, if_neg hs, ← hcn0] at hs2
      rw [← hcn0] at cn hbd hnn bn2
      clear hs hur hui hcn0 hpn hph
      gi_wp2
      have hcA : ChgQ (fun k => k = w.heap.size ∨ k = w1.heap.size) W2 (W2.setCell ⟨w.heap.size, 0, none⟩ (.int .i64 (cn0 + 1))) := ChgQ.setCell _ _ _ _ (.inl rfl)
      have hcB : ChgQ (fun k => k = w.heap.size ∨ k = w1.heap.size) (W2.setCell ⟨w.heap.size, 0, none⟩ (.int .i64 (cn0 + 1))) ((W2.setCell ⟨w.heap.size, 0, none⟩ (.int .i64 (cn0 + 1))).setCell ⟨w1.heap.size, 0, none⟩ (.complex .f64 ur ui)) := ChgQ.setCell _ _ _ _ (.inr rfl)
      refine ⟨(keepsFrom_setCell _ _ _ _ (by omega)).trans (keepsFrom_setCell _ _ _ _ (by omega)), keepsBut_t (keepsBut_setCell _ _ _ _ (.inl rfl)) (keepsBut_setCell _ _ _ _ (.inr rfl)), (hC2.trans hcA).trans hcB, ?_, ur, ui, (bh2.other (Ne.symm hne1) _).set _, ?_⟩ <;> rw [hs2]
      · exact (bn2.set _).other hne1 _
      · exact hxr
  case done =>
    rintro D ys W hD hys ⟨hC, u, v, hpn, hph, hPR⟩ hK
    rw [hys, show (cornL (pathsZ l)).1 = cornersZ l from rfl] at hpn
    have cn := Boxed.cell hpn
    gi_wp2
    refine ⟨by simp, .inl ⟨_, _, rfl, run_takeDeferred hK, ?_⟩⟩
    refine ⟨_, results_tmp Try.results9 _ _ _, rfl, ?_⟩
    exact (hbelow.trans (hC.below (by omega) (by omega))).trans (belowK_b (w := w) (Nat.le_refl _) _ D _ _ (by omega) hK rfl rfl)
end Go.Proofs.Ytkllcidmahhkoaa
