/-
  The walk of WalkMirrors: a walk whose prices fall where another one's rise is that one mirrored; sizes that are none don't move it; one more trade is Then.
-/
import Derived.Test.YtkllcidmahhkoaaWlkPl
import Derived.Test.YtkllcidmahhkoaaTwoM
import Derived.Test.YtkllcidmahhkoaaAppFull
import Derived.Test.YtkllcidmahhkoaaRegPar
import Derived.Test.YtkllcidmahhkoaaFltNeg
namespace Go.Proofs.Ytkllcidmahhkoaa
open Go.RowKit
set_option linter.unusedVariables false
set_option linter.unusedSimpArgs false

theorem path_put {w : World} (w0 : World) (p : PathW) (t : TypeId) (h : Below w0.heap.size w0 w) :
    Below w0.heap.size w0 ((w.alloc (.cells zeroP.arr t)).setRow w.heap.size p.arr) ∧ ((w.alloc (.cells zeroP.arr t)).setRow w.heap.size p.arr).heap[w.heap.size]? = some (.cells p.arr t (0, 0)) ∧
    Below w.heap.size w ((w.alloc (.cells zeroP.arr t)).setRow w.heap.size p.arr) := by
  have hb : Below w.heap.size w ((w.alloc (.cells zeroP.arr t)).setRow w.heap.size p.arr) := below_setRow ((Below.refl _ _).alloc (Nat.le_refl _) _) _ _ (Nat.le_refl _)
  exact ⟨below_at h hb, setRow_heap _ _ _ _ _ _ (heap_alloc_new _ _), hb⟩
theorem rep_2 : Rep 0 4611686018427387904 2 := by have h := rep_of 2 (by decide); rwa [show floatOfInt .f64 2 = 4611686018427387904 by decide +kernel] at h

set_option maxRecDepth 100000 in
set_option maxHeartbeats 4000000 in
theorem awake34 (w : World) : Calls Try.prog 6 #[] w fun e w' => e = .returned (.bool true) ∧ Below w.heap.size w w' := by
  have HO : Hid (Calls Try.prog 7 #[.slice (some ⟨w.heap.size, 0, none⟩) 2 2] (w.alloc (.cells #[.int .u64 0, .int .u64 0, .int .i64 5, .int .i64 2, .int .u64 0, .int .u64 0, .int .i64 6, .int .i64 1] 25)) fun e w' => ∃ p : PathW, e = .returned (.agg p.arr) ∧ Hid (PRep p (afterZ [⟨0, 0, 5, 2⟩, ⟨0, 0, 6, 1⟩] 2)) ∧ Below w.heap.size w w') := Lib.hid (by
    have hrow : RowsAt (w.alloc (.cells #[.int .u64 0, .int .u64 0, .int .i64 5, .int .i64 2, .int .u64 0, .int .u64 0, .int .i64 6, .int .i64 1] 25)) (some ⟨w.heap.size, 0, none⟩) 4 TradeR.row [⟨0, 0, 5, 2⟩, ⟨0, 0, 6, 1⟩] := by
      refine ⟨.inr ⟨_, _, rfl, fun i r hi j v hv => ?_⟩⟩
      have hc := fun k => cell_of_row (w.alloc (.cells #[.int .u64 0, .int .u64 0, .int .i64 5, .int .i64 2, .int .u64 0, .int .u64 0, .int .i64 6, .int .i64 1] 25)) w.heap.size k #[.int .u64 0, .int .u64 0, .int .i64 5, .int .i64 2, .int .u64 0, .int .u64 0, .int .i64 6, .int .i64 1] 25 (0, 0) (heap_alloc_new _ _)
      rw [hc]
      match i, hi with
      | 0, hi | 1, hi =>
        cases hi
        match j, hv with
        | 0, hv | 1, hv | 2, hv | 3, hv => cases hv; rfl
        | j + 4, hv => simp [TradeR.row] at hv
      | i + 2, hi => simp at hi
    refine (walk_of [⟨0, 0, 5, 2⟩, ⟨0, 0, 6, 1⟩] (some ⟨w.heap.size, 0, none⟩) 2 _ (by decide) (by
      intro r hr
      simp only [List.mem_cons, List.mem_nil_iff, or_false] at hr
      rcases hr with rfl | rfl <;> exact ⟨by decide, by decide, by decide, by decide⟩) hrow).mono ?_
    rintro e w' ⟨p, rfl, hp, hB⟩
    exact ⟨p, rfl, Lib.hid hp, below_at ((Below.refl _ _).alloc (Nat.le_refl _) _) hB⟩)
  go_enter Try.func6, Try.ntmps6
  go_upto_region 2 with (first | (go_at_call 7; (with_reducible refine HO.out.mono ?_); rintro e w1 ⟨p, rfl, HP, hB⟩) | (with_reducible refine wpList_store_row rfl 29 (.tmp 1) (.tmp 5) rfl w1.heap.size p.arr rfl rfl 29 zeroP.arr (heap_alloc_new _ _) (p5_info _) (p5_size _ _) (p5_one _) ?_))
  obtain ⟨B1, H1, -⟩ := path_put w p 29 hB
  generalize (w1.alloc (.cells zeroP.arr 29)).setRow w1.heap.size p.arr = w2 at B1 H1 ⊢
  obtain ⟨c0, c1, c2, c3, c4⟩ := heap_cells_p H1
  have hp := HP.out
  have hn : p.n = 2 := hp.n
  have E1 := fun w => run_eql_cc (a := 2) (b := 1) (c := 2) (d := 1) hp.at_ ⟨rep_2, rep_1⟩ w
  have E2 := fun w => run_eql_cc (a := 0) (b := 1) (c := 0) (d := 1) hp.h ⟨rep_0, rep_1⟩ w
  simp only [and_self, decide_true] at E1 E2
  rw [hn] at c2
  clear HO hB H1 HP hp
  go_wp2
  go_ret
  exact ⟨rfl, B1⟩

theorem trade_cells4 {w : World} {B : Nat} {a b c d : Int} {t : TypeId} (h : w.heap[B]? = some (.cells #[.int .u64 a, .int .u64 b, .int .i64 c, .int .i64 d] t (0, 0))) :
    w.cell? ⟨B, 0, none⟩ = some (.int .u64 a) ∧ w.cell? ⟨B, 1, none⟩ = some (.int .u64 b) ∧ w.cell? ⟨B, 2, none⟩ = some (.int .i64 c) ∧ w.cell? ⟨B, 3, none⟩ = some (.int .i64 d) := by
  simp [World.cell?, h]

/-- two paths stored into blocks just made -/
theorem path_put2 {w : World} (w0 : World) (p q : PathW) (t : TypeId) (h : Below w0.heap.size w0 w) :
    Below w0.heap.size w0 ((((w.alloc (.cells zeroP.arr t)).alloc (.cells zeroP.arr t)).setRow w.heap.size p.arr).setRow (w.heap.size + 1) q.arr) ∧
    ((((w.alloc (.cells zeroP.arr t)).alloc (.cells zeroP.arr t)).setRow w.heap.size p.arr).setRow (w.heap.size + 1) q.arr).heap[w.heap.size]? = some (.cells p.arr t (0, 0)) ∧
    ((((w.alloc (.cells zeroP.arr t)).alloc (.cells zeroP.arr t)).setRow w.heap.size p.arr).setRow (w.heap.size + 1) q.arr).heap[w.heap.size + 1]? = some (.cells q.arr t (0, 0)) := by
  have hs := h.size
  have h1 : ((w.alloc (.cells zeroP.arr t)).alloc (.cells zeroP.arr t)).heap[w.heap.size]? = some (.cells zeroP.arr t (0, 0)) := (Below.heap_alloc _ _ _ (by simp)).trans (heap_alloc_new _ _)
  have h2 : ((w.alloc (.cells zeroP.arr t)).alloc (.cells zeroP.arr t)).heap[w.heap.size + 1]? = some (.cells zeroP.arr t (0, 0)) := heap_new (by simp)
  refine ⟨below_setRow (below_setRow ((h.alloc hs _).alloc (by simp; omega) _) _ _ hs) _ _ (by omega), ?_, ?_⟩
  · exact (setRow_other _ _ _ _ (by omega)).trans (setRow_heap _ _ _ _ _ _ h1)
  · exact setRow_heap _ _ _ _ _ _ ((setRow_other _ _ _ _ (by omega)).trans h2)
theorem info_trade : (Try.prog.info? 25).map (fun i => (i.zero, i.size, i.bytes)) = some (some (.agg #[.int .u64 0, .int .u64 0, .int .i64 0, .int .i64 0]), 4, 32) := by kernel_rfl
theorem flat_take_succ {ρ : Type} (f : ρ → List Value) (l : List ρ) (k : Nat) (h : k < l.length) : (l.take (k + 1)).flatMap f = (l.take k).flatMap f ++ f l[k] := by
  rw [List.take_succ_eq_append_getElem h, List.flatMap_append]; simp

theorem run_eqIn_cm (m : Nat) {x y u v : Nat} (h : FloatKind.f64.format.order x u = some .eq) (k : FloatKind.f64.format.order y v = some .eq) (w : World) : (Op.equalIn (m + 1) 27 (.complex .f64 x y) (.complex .f64 u v)).run Try.prog w = .ok true w := by
  simp [Op.equalIn, Sem.run_bind, run_underlying Try.underlying27, Op.floatEq, h, k]
theorem run_eqIn_cc {x y u v : Nat} (h : FloatKind.f64.format.order x u = some .eq) (k : FloatKind.f64.format.order y v = some .eq) (w : World) : (Op.equalIn 9999 27 (.complex .f64 x y) (.complex .f64 u v)).run Try.prog w = .ok true w := run_eqIn_cm 9998 h k w
theorem run_eql_path {d e : PathW} {z : PathZ} (hd : PRep d z) (he : PRep e z) (w : World) : (binOp .eql 29 (.agg #[.complex .f64 d.ar d.ai, .complex .f64 d.hr d.hi, .int .i64 d.n, .complex .f64 d.lr d.li, .complex .f64 d.ur d.ui]) (.agg #[.complex .f64 e.ar e.ai, .complex .f64 e.hr e.hi, .int .i64 e.n, .complex .f64 e.lr e.li, .complex .f64 e.ur e.ui])).run Try.prog w = .ok (.bool true) w := by
  have o1 := rep_same hd.at_.1 he.at_.1 rfl
  have o2 := rep_same hd.at_.2 he.at_.2 rfl
  have o3 := rep_same hd.h.1 he.h.1 rfl
  have o4 := rep_same hd.h.2 he.h.2 rfl
  have o5 : d.n = e.n := hd.n.trans he.n.symm
  have o6 := rep_same hd.l.1 he.l.1 rfl
  have o7 := rep_same hd.l.2 he.l.2 rfl
  have o8 := rep_same hd.u.1 he.u.1 rfl
  have o9 := rep_same hd.u.2 he.u.2 rfl
  rw [o5]
  clear o5 hd he
  go_simp
  simp [run_eqIn_cc o1 o2, run_eqIn_cc o3 o4, run_eqIn_cc o6 o7, run_eqIn_cc o8 o9, Result.andThen]
theorem len16 (us : List Value) (h : us.length = 16) : ∃ a b c d e f g h' i j k l m n o p : Value, us = [a, b, c, d, e, f, g, h', i, j, k, l, m, n, o, p] := by
  match us, h with
  | [a, b, c, d, e, f, g, h', i, j, k, l, m, n, o, p], _ => exact ⟨a, b, c, d, e, f, g, h', i, j, k, l, m, n, o, p, rfl⟩
/-- what each operation of 'd, e := walk.Of(append(l[:n:n], t)), a.Then(last, t)' leaves -/
def FctWM (a0 : Option Addr) (l : List TradeR) (c0 : Nat) (r : TradeR) (Z : PathZ) (p e2 : PathW) (LV : Int) (h0 : Nat) : Nat → Value → World → Prop
  | 0, v, _ => v = .slice a0 l.length c0
  | 1, v, _ => v = .slice a0 l.length c0
  | 2, v, _ => v = .int .i64 (l.length : Int)
  | 3, v, _ => v = .slice a0 l.length c0
  | 4, v, _ => v = .int .i64 (l.length : Int)
  | 5, v, _ => v = .slice a0 l.length l.length
  | 6, v, _ => v = .agg #[.int .u64 r.maker, .int .u64 r.taker, .int .i64 r.price, .int .i64 r.size]
  | 7, v, w => ∃ B, v = .slice (some ⟨B, 0, none⟩) 1 1 ∧ w.heap[B]? = some (.cells #[.int .u64 r.maker, .int .u64 r.taker, .int .i64 r.price, .int .i64 r.size] 25 (0, 0))
  | 8, v, w => ∃ g cap, v = .slice (some ⟨g, 0, none⟩) (l.length + 1) cap ∧ RowsAt w (some ⟨g, 0, none⟩) 4 TradeR.row (l ++ [r])
  | 9, v, _ => ∃ d : PathW, v = .agg d.arr ∧ PRep d Z
  | 10, v, _ => v = .agg p.arr
  | 11, v, _ => v = .int .i64 LV
  | 12, v, _ => v = .agg #[.int .u64 r.maker, .int .u64 r.taker, .int .i64 r.price, .int .i64 r.size]
  | 13, v, _ => v = .agg e2.arr
  | 14, v, w => ∃ A, v = .pointer (some ⟨A, 0, none⟩) ∧ h0 ≤ A ∧ w.heap[A]? = some (.cells zeroP.arr 29 (0, 0))
  | 15, v, w => ∃ A, v = .pointer (some ⟨A, 0, none⟩) ∧ h0 ≤ A ∧ w.heap[A]? = some (.cells zeroP.arr 29 (0, 0))
  | _, _, _ => True
theorem fctWM_moved (a0 : Option Addr) (l : List TradeR) (c0 : Nat) (r : TradeR) (Z : PathZ) (p e2 : PathW) (LV : Int) (h0 : Nat) (j : Nat) (v : Value) (w w' : World) (h : FctWM a0 l c0 r Z p e2 LV h0 j v w) (hb : Below w.heap.size w w') : FctWM a0 l c0 r Z p e2 LV h0 j v w' := by
  match j with
  | 7 => obtain ⟨B, h1, h2⟩ := h; exact ⟨B, h1, (hb.block _ (heap_lt h2)).trans h2⟩
  | 8 => obtain ⟨g, cap, h1, h2⟩ := h; exact ⟨g, cap, h1, h2.moved hb⟩
  | 14 => obtain ⟨B, h1, h3, h2⟩ := h; exact ⟨B, h1, h3, (hb.block _ (heap_lt h2)).trans h2⟩
  | 15 => obtain ⟨B, h1, h3, h2⟩ := h; exact ⟨B, h1, h3, (hb.block _ (heap_lt h2)).trans h2⟩
  | 0 | 1 | 2 | 3 | 4 | 5 | 6 | 9 | 10 | 11 | 12 | 13 | _ + 16 => exact h

set_option maxRecDepth 100000 in
set_option maxHeartbeats 16000000 in
theorem WalkMirrors_walk (a0 : Option Addr) (l0 : List TradeR) (c0 : Nat) (r1 : TradeR) (W : World) (hr : RowsAt W a0 4 TradeR.row l0) (hg : ∀ r ∈ l0, r.good) (hb : l0.length ≤ c0) (hm : c0 ≤ maxLen) (g1 : r1.good) :
    Calls Try.prog 3 #[.slice a0 l0.length c0, .agg r1.row.toArray] W fun e w' => e = .returned (.bool true) ∧ Below W.heap.size W w' := by
  have AW : Hid (∀ wx, Below W.heap.size W wx → Calls Try.prog 6 #[] wx fun e w' => e = .returned (.bool true) ∧ Below W.heap.size W w' ∧ Below wx.heap.size wx w') := Lib.hid fun wx h => (awake34 wx).mono fun _ _ ⟨h1, h2⟩ => ⟨h1, below_at h h2, h2⟩
  have hW1 : Below W.heap.size W (W.alloc (.cells #[.int .u64 r1.maker, .int .u64 r1.taker, .int .i64 r1.price, .int .i64 r1.size] 25)) := (Below.refl _ _).alloc (Nat.le_refl _) _
  have HT0 : Hid ((W.alloc (.cells #[.int .u64 r1.maker, .int .u64 r1.taker, .int .i64 r1.price, .int .i64 r1.size] 25)).heap[W.heap.size]? = some (.cells #[.int .u64 r1.maker, .int .u64 r1.taker, .int .i64 r1.price, .int .i64 r1.size] 25 (0, 0))) := Lib.hid (heap_alloc_new _ _)
  rw [show r1.row.toArray = #[.int .u64 r1.maker, .int .u64 r1.taker, .int .i64 r1.price, .int .i64 r1.size] from rfl]
  obtain ⟨y0, hy0⟩ : ∃ x, x = r1.maker := ⟨_, rfl⟩
  obtain ⟨y1, hy1⟩ : ∃ x, x = r1.taker := ⟨_, rfl⟩
  obtain ⟨y2, hy2⟩ : ∃ x, x = r1.price := ⟨_, rfl⟩
  obtain ⟨y3, hy3⟩ : ∃ x, x = r1.size := ⟨_, rfl⟩
  have hYT : Hid (r1 = ⟨y0, y1, y2, y3⟩) := Lib.hid (by rw [hy0, hy1, hy2, hy3])
  rw [← hy0, ← hy1, ← hy2, ← hy3] at hW1 HT0 ⊢
  clear hy0 hy1 hy2 hy3
  by_cases hbig : 100 < l0.length
  · go_enter Try.func3, Try.ntmps3
    go_wp2_with (go_at_call 6; (with_reducible refine (AW.out _ hW1).mono ?_); rintro e w1 ⟨rfl, hB, -⟩)
    go_ret
    exact ⟨rfl, hB⟩
  · have HR := Lib.hid hr
    have HG := Lib.hid hg
    clear hr hg hm
    have hlen : l0.length ≤ 100 := by omega
    have HBI : Hid ((l0.length : Int) ≤ (c0 : Int)) := Lib.hid (by omega)
    clear hbig
    go_enter Try.func3, Try.ntmps3
    go_wp2_with (go_at_call 6; (with_reducible refine (AW.out _ hW1).mono ?_); rintro e w1 ⟨rfl, hB1, hB2⟩; have HT1 := Lib.hid ((hB2.block _ (heap_lt HT0.out)).trans HT0.out))
    clear hB2 HT0 AW hW1
    go_loopw [5, 6, 22] (fun v5 v6 v22 wr => ∃ k : Nat, k ≤ l0.length ∧ v22 = .int .i64 (k : Int) ∧ Hid (TwoM w1 wr 25 4 v5 k ((l0.take k).flatMap fun t => (mirT t).row) v6 k ((l0.take k).flatMap fun t => (stillT t).row)) ∧ Hid (∀ t ∈ l0.take k, t.price ≠ -9223372036854775808)) (fun _ _ v _ => l0.length - (intOf v).toNat)
    case atStart => exact ⟨0, by omega, rfl, Lib.hid TwoM.none, Lib.hid (by simp)⟩
    case round =>
      obtain ⟨k, hk, rfl, HT, HN⟩ := hrel
      by_cases hlt : k < l0.length
      · obtain ⟨b, o, hao, g0, g1', g2, g3⟩ := trade_cells ((HR.out.moved hB1).moved HT.out.bel) k hlt
        subst hao
        have hX := Lib.hid (flat_take_succ (fun t => (mirT t).row) l0 k hlt)
        have hY := Lib.hid (flat_take_succ (fun t => (stillT t).row) l0 k hlt)
        have HN2 : Hid (l0[k].price ≠ -9223372036854775808 → ∀ t ∈ l0.take (k + 1), t.price ≠ -9223372036854775808) := Lib.hid (fun h => by
          rw [List.take_succ_eq_append_getElem hlt]
          intro t ht
          rcases List.mem_append.1 ht with h1 | h1
          · exact HN.out t h1
          · simp only [List.mem_singleton] at h1; rw [h1]; exact h)
        have hgk := (HG.out l0[k] (List.getElem_mem hlt)).price
        have hm4 : (mirT l0[k]).row = [.int .u64 0, .int .u64 0, .int .i64 (-l0[k].price), .int .i64 l0[k].size] := rfl
        have hs4 : (stillT l0[k]).row = [.int .u64 0, .int .u64 0, .int .i64 l0[k].price, .int .i64 (min l0[k].size 0)] := rfl
        simp only [hm4, hs4] at hX hY
        clear hm4 hs4
        obtain ⟨x0, hx0⟩ : ∃ x, x = l0[k].maker := ⟨_, rfl⟩
        obtain ⟨x1, hx1⟩ : ∃ x, x = l0[k].taker := ⟨_, rfl⟩
        obtain ⟨x2, hx2⟩ : ∃ x, x = l0[k].price := ⟨_, rfl⟩
        obtain ⟨x3, hx3⟩ : ∃ x, x = l0[k].size := ⟨_, rfl⟩
        rw [← hx0] at g0; rw [← hx1] at g1'; rw [← hx2] at g2 hX hY HN2 hgk; rw [← hx3] at g3 hX hY
        clear hx0 hx1 hx2 hx3
        by_cases hmin : x2 = -9223372036854775808
        · obtain ⟨z1, z2⟩ := eq_bb hmin
          subst hmin
          have hBE : Below W.heap.size W (wr.alloc (.cells #[.int .u64 x0, .int .u64 x1, .int .i64 (-9223372036854775808), .int .i64 x3] 25)) := (hB1.trans (HT.out.bel.mono hB1.size)).alloc (by have := HT.out.bel.size; have := hB1.size; omega) _
          go_wp2
          go_ret
          exact ⟨rfl, hBE⟩
        · obtain ⟨z1, z2⟩ := ne_bb hmin
          have hneg : IntKind.i64.wrap (-x2) = -x2 := IntWalk.i64_in _ (by omega)
          have hmn := fun ts t w => run_min2 (P := Try.prog) ts t x3 0 w
          have HN3 := Lib.hid (HN2.out hmin)
          clear HN2 hgk
          have HXB : Hid ((wr.alloc (.cells #[.int .u64 x0, .int .u64 x1, .int .i64 x2, .int .i64 x3] 25)).heap[wr.heap.size]? = some (.cells #[.int .u64 x0, .int .u64 x1, .int .i64 x2, .int .i64 x3] 25 (0, 0))) := Lib.hid (heap_alloc_new _ _)
          have A0 : Hid (∀ g, u5.ownBlock = some g → g < wr.heap.size) := Lib.hid fun g hg => (HT.out.a.lt g hg).2
          go_wp2_with (first
            | (at_builtin; refine wp_append_twoM rfl (.tmp 29) (.tmp 36) 22 rfl w1 25 Try.underlying22 (.agg #[.int .u64 0, .int .u64 0, .int .i64 0, .int .i64 0]) 4 32 info_trade rfl (by decide) (by decide) _ _ _ k k _ _ rfl #[.int .u64 0, .int .u64 0, .int .i64 (-x2), .int .i64 x3] (wr.heap.size + 1) rfl ((HT.out.alloc _).alloc _) (heap_new (by simp)) rfl (by simp [Value.oneCell']) (by omega) ?_; intro g cap w2 hT2 hk2 hs2; have HT2 := Lib.hid hT2; have hxb := hk2 wr.heap.size _ ((Below.heap_alloc _ _ _ (by simp)).trans HXB.out) (by intro e; have := A0.out _ e.symm; omega); obtain ⟨d2, d3⟩ := heap_cells_t hxb; clear hT2 hk2 hxb)
            | (at_builtin; refine wp_append_twoM rfl (.tmp 38) (.tmp 45) 22 rfl w1 25 Try.underlying22 (.agg #[.int .u64 0, .int .u64 0, .int .i64 0, .int .i64 0]) 4 32 info_trade rfl (by decide) (by decide) _ _ _ k (k + 1) _ _ rfl #[.int .u64 0, .int .u64 0, .int .i64 x2, .int .i64 (min x3 0)] w2.heap.size rfl (HT2.out.swap.alloc _) (heap_new (by simp)) rfl (by simp [Value.oneCell']) (by omega) ?_; intro g' cap' w3 hT3 hk3 hs3; have HT3 := Lib.hid hT3; clear hT3 hk3))
          go_roundw
          case rel => exact ⟨k + 1, by omega, by go_num, Lib.hid (by rw [hX.out, hY.out]; exact HT3.out.swap), HN3⟩
          case measure => simp [intOf]; omega
      · obtain rfl : k = l0.length := by omega
        rw [List.take_length] at HN
        have hT := HT.out
        rw [List.take_length] at hT
        obtain ⟨AM, cM, hvM, hrM, hcM, -⟩ := own_rowsN (enc := TradeR.row) (m := 4) (l := l0.map mirT) (by have h := hT.a; rw [List.length_map, List.flatMap_map]; exact h) (fun r => rfl)
        obtain ⟨AS, cS, hvS, hrS, hcS, -⟩ := own_rowsN (enc := TradeR.row) (m := 4) (l := l0.map stillT) (by have h := hT.b; rw [List.length_map, List.flatMap_map]; exact h) (fun r => rfl)
        rw [List.length_map] at hvM hvS
        subst hvM
        subst hvS
        have hBW : Below W.heap.size W wr := hB1.trans (hT.bel.mono hB1.size)
        have HTR : Hid (wr.heap[W.heap.size]? = some (.cells #[.int .u64 y0, .int .u64 y1, .int .i64 y2, .int .i64 y3] 25 (0, 0))) := Lib.hid ((hT.bel.block _ (heap_lt HT1.out)).trans HT1.out)
        have hgm : ∀ r ∈ l0.map mirT, r.good := by
          intro r h
          obtain ⟨t, ht, rfl⟩ := List.mem_map.1 h
          exact mirT_good (HG.out t ht) (HN.out t ht)
        have hgs : ∀ r ∈ l0.map stillT, r.good := by
          intro r h
          obtain ⟨t, ht, rfl⟩ := List.mem_map.1 h
          exact stillT_good (HG.out t ht)
        have HOL : Hid (∀ wx, Below wr.heap.size wr wx → Calls Try.prog 7 #[.slice a0 l0.length c0] wx fun e w' => ∃ p : PathW, e = .returned (.agg p.arr) ∧ Hid (PRep p (afterZ l0 l0.length)) ∧ Below wx.heap.size wx w' ∧ Below wr.heap.size wr w') := Lib.hid fun wx h =>
          (walk_of l0 a0 c0 wx (by omega) HG.out ((HR.out.moved hBW).moved h)).mono fun _ _ ⟨p, h1, h2, h3⟩ => ⟨p, h1, Lib.hid h2, h3, below_at h h3⟩
        have HOM : Hid (∀ wx, Below wr.heap.size wr wx → Calls Try.prog 7 #[.slice AM l0.length cM] wx fun e w' => ∃ p : PathW, e = .returned (.agg p.arr) ∧ Hid (PRep p (afterZ (l0.map mirT) l0.length)) ∧ Below wx.heap.size wx w' ∧ Below wr.heap.size wr w') := Lib.hid fun wx h => by
          have := walk_of (l0.map mirT) AM cM wx (by rw [List.length_map]; omega) hgm (hrM.moved h)
          rw [List.length_map] at this
          exact this.mono fun _ _ ⟨p, h1, h2, h3⟩ => ⟨p, h1, Lib.hid h2, h3, below_at h h3⟩
        have HOS : Hid (∀ wx, Below wr.heap.size wr wx → Calls Try.prog 7 #[.slice AS l0.length cS] wx fun e w' => ∃ p : PathW, e = .returned (.agg p.arr) ∧ Hid (PRep p (afterZ (l0.map stillT) l0.length)) ∧ Below wx.heap.size wx w' ∧ Below wr.heap.size wr w') := Lib.hid fun wx h => by
          have := walk_of (l0.map stillT) AS cS wx (by rw [List.length_map]; omega) hgs (hrS.moved h)
          rw [List.length_map] at this
          exact this.mono fun _ _ ⟨p, h1, h2, h3⟩ => ⟨p, h1, Lib.hid h2, h3, below_at h h3⟩
        have HCL : Hid (∀ wx, Below wr.heap.size wr wx → Calls Try.prog 9 #[.slice a0 l0.length c0] wx fun e w' => e = .returned (.int .i64 (cornersZ l0)) ∧ Below wr.heap.size wr w') := Lib.hid fun wx h =>
          (walk_corners l0 a0 c0 wx (by omega) HG.out ((HR.out.moved hBW).moved h)).mono fun _ _ ⟨h1, h3⟩ => ⟨h1, below_at h h3⟩
        have HCM : Hid (∀ wx, Below wr.heap.size wr wx → Calls Try.prog 9 #[.slice AM l0.length cM] wx fun e w' => e = .returned (.int .i64 (cornersZ l0)) ∧ Below wr.heap.size wr w') := Lib.hid fun wx h => by
          have := walk_corners (l0.map mirT) AM cM wx (by rw [List.length_map]; omega) hgm (hrM.moved h)
          rw [List.length_map, corners_mir] at this
          exact this.mono fun _ _ ⟨h1, h3⟩ => ⟨h1, below_at h h3⟩
        have HRL := Lib.hid (HR.out.moved hBW)
        have HBW := Lib.hid hBW
        have hBr : Below wr.heap.size wr wr := Below.refl _ _
        clear hT HT hrM hrS hcM hcS hBW hgm hgs hB1 HT1 hb HR
        go_upto_region 15 with (first | (go_at_call 7; first | ((with_reducible refine (HOL.out _ hBr).mono ?_); rintro e w2 ⟨p, rfl, HP, -, hB2⟩) | ((with_reducible refine (HOM.out _ hB2).mono ?_); rintro e w3 ⟨q, rfl, HQ, -, hB3⟩)) | (with_reducible refine wpList_store_row rfl 29 (.tmp 9) (.tmp 49) rfl w3.heap.size p.arr rfl rfl 29 zeroP.arr ((Below.heap_alloc _ _ _ (by simp)).trans (heap_alloc_new _ _)) (p5_info _) (p5_size _ _) (p5_one _) ?_) | (with_reducible refine wpList_store_row rfl 29 (.tmp 10) (.tmp 51) rfl (w3.heap.size + 1) q.arr rfl rfl 29 zeroP.arr ((setRow_other _ _ _ _ (by omega)).trans (heap_new (by simp))) (p5_info _) (p5_size _ _) (p5_one _) ?_))
        obtain ⟨hB4, h4p, h4q⟩ := path_put2 wr p q 29 hB3
        generalize (((w3.alloc (.cells zeroP.arr 29)).alloc (.cells zeroP.arr 29)).setRow w3.heap.size p.arr).setRow (w3.heap.size + 1) q.arr = w4 at hB4 h4p h4q ⊢
        have H4P := Lib.hid h4p
        have H4Q := Lib.hid h4q
        clear h4p h4q hB2
        go_upto_region 16 with (first | (go_at_call 7; (with_reducible refine (HOS.out _ hB4).mono ?_); rintro e w5 ⟨o, rfl, HO, hC5, hB5⟩; have H5P := Lib.hid ((hC5.block _ (heap_lt H4P.out)).trans H4P.out); have H5Q := Lib.hid ((hC5.block _ (heap_lt H4Q.out)).trans H4Q.out)) | (with_reducible refine wpList_store_row rfl 29 (.tmp 11) (.tmp 53) rfl w5.heap.size o.arr rfl rfl 29 zeroP.arr (heap_alloc_new _ _) (p5_info _) (p5_size _ _) (p5_one _) ?_))
        obtain ⟨hB6, h6o, hC6⟩ := path_put wr o 29 hB5
        have H6P := Lib.hid ((hC6.block _ (heap_lt H5P.out)).trans H5P.out)
        have H6Q := Lib.hid ((hC6.block _ (heap_lt H5Q.out)).trans H5Q.out)
        generalize (w5.alloc (.cells zeroP.arr 29)).setRow w5.heap.size o.arr = w6 at hB6 h6o hC6 H6P H6Q ⊢
        have H6O := Lib.hid h6o
        clear h6o hC6 hC5 H4P H4Q H5P H5Q hB3 hB4 hB5
        obtain ⟨k9, hk9⟩ : ∃ k, k = w3.heap.size := ⟨_, rfl⟩
        obtain ⟨k11, hk11⟩ : ∃ k, k = w5.heap.size := ⟨_, rfl⟩
        rw [← hk9] at H6P H6Q ⊢
        rw [← hk11] at H6O ⊢
        clear hk9 hk11 HOL HOM HOS
        have hlast : 0 < l0.length → ∃ b o, a0 = some ⟨b, o, none⟩ ∧ wr.cell? ⟨b, o + (l0.length - 1) * 4 + 2, none⟩ = some (.int .i64 (lastZ l0 l0.length)) := by
          intro h0
          obtain ⟨b, o, e, _, _, h2, _⟩ := trade_cells HRL.out (l0.length - 1) (by omega)
          refine ⟨b, o, e, ?_⟩
          rw [h2]
          obtain ⟨n, hn⟩ : ∃ n, l0.length = n + 1 := ⟨l0.length - 1, by omega⟩
          simp only [hn, lastZ, Nat.add_sub_cancel]
          rw [List.getElem?_eq_getElem (by omega)]
          rfl
        obtain ⟨LV, hLV⟩ : ∃ z, z = lastZ l0 l0.length := ⟨_, rfl⟩
        rw [← hLV] at hlast
        have HLAST := Lib.hid hlast
        clear hlast
        go_upto_if 56 with fail
        go_cut [12] (fun v12 wc => v12 = .int .i64 LV ∧ w6 = wc)
        case first =>
          by_cases h0 : 0 < l0.length
          · obtain ⟨b, o, e, hcl⟩ := HLAST.out h0
            subst e
            have hc6 := (hB6.cell (cell_lt hcl)).trans hcl
            have hix : ((l0.length : Int) - 1).toNat = l0.length - 1 := by omega
            go_wp2
            go_meet
            exact ⟨by rw [hLV], rfl⟩
          · have hz : l0.length = 0 := by omega
            have hLV0 : LV = 0 := by rw [hLV, hz]; rfl
            subst hLV0
            go_wp2
            go_meet
            exact ⟨rfl, rfl⟩
        case rest =>
          obtain ⟨rfl, rfl⟩ := hcut
          go_upto_region 19 with fail
          obtain ⟨p0, p1, p2, p3, p4⟩ := heap_cells_p H6P.out
          have hT6 := (hB6.block _ (heap_lt HTR.out)).trans HTR.out
          obtain ⟨d0, d1, d2, d3⟩ := trade_cells4 hT6
          have hgf : (afterZ l0 l0.length).fine 1000 := fine_mono (afterZ_fine l0 l0.length (Nat.le_refl _)) (by omega)
          have hg1 : (⟨y0, y1, y2, y3⟩ : TradeR).good := by rw [← hYT.out]; exact g1
          obtain ⟨e2, hpe2, hcall2⟩ := walk_then p (afterZ l0 l0.length) HP.out hgf LV y0 y1 y2 y3 hg1.size
          have HPE2 := Lib.hid hpe2
          have HTH : Hid (∀ wx : World, Calls Try.prog 8 #[.agg p.arr, .int .i64 LV, .agg #[.int .u64 y0, .int .u64 y1, .int .i64 y2, .int .i64 y3]] wx fun e w' => e = .returned (.agg e2.arr) ∧ Below wx.heap.size wx w') := Lib.hid hcall2
          have HO6 : Hid (∀ (wx : World) (g cap : Nat), RowsAt wx (some ⟨g, 0, none⟩) 4 TradeR.row (l0 ++ [⟨y0, y1, y2, y3⟩]) → Calls Try.prog 7 #[.slice (some ⟨g, 0, none⟩) (l0.length + 1) cap] wx fun e w' => ∃ d : PathW, e = .returned (.agg d.arr) ∧ Hid (PRep d (stepZ (afterZ l0 l0.length) LV y2 y3)) ∧ Below wx.heap.size wx w') := Lib.hid fun wx g cap hrow => by
            have h1 := walk_of (l0 ++ [⟨y0, y1, y2, y3⟩]) (some ⟨g, 0, none⟩) cap wx (by rw [List.length_append]; simp; omega) (by
              intro r hr
              rcases List.mem_append.1 hr with h | h
              · exact HG.out r h
              · simp only [List.mem_singleton] at h; rw [h]; exact hg1) hrow
            rw [after_more, ← hLV] at h1
            rw [List.length_append] at h1
            exact h1.mono fun _ _ ⟨d, h1, h2, h3⟩ => ⟨d, h1, Lib.hid h2, h3⟩
          have HR6 := Lib.hid (HRL.out.moved hB6)
          have hB60 : Below w6.heap.size w6 w6 := Below.refl _ _
          have hB66 : Below w6.heap.size w6 w6.drew := (Below.refl _ _).drew
          have HB6 := Lib.hid hB6
          clear hT6 hgf hg1 hpe2 hcall2 HN HRL hBr hB6 HLAST hLV hlt hk
          have hbi := HBI.out
          have hbi0 : (0 : Int) ≤ (l0.length : Int) := by omega
          have hbd := Lib.hid hB66
          clear hB60 hB66
          refine wp_region_par 16 [64, 65, 66, 67, 68, 69, 70, 71, 72, 73, 74, 75, 76, 77, 13, 14] [14, 15] (FctWM a0 l0 c0 ⟨y0, y1, y2, y3⟩ (stepZ (afterZ l0 l0.length) LV y2 y3) p e2 LV w6.heap.size) (by kernel_rfl) (by kernel_rfl) (fctWM_moved _ _ _ _ _ _ _ _ _) ?step ?tail
          case step =>
            intro i hi o ho us wx hus hB hdep K hK
            obtain ⟨u0, u1, u2, u3, u4, u5, u6, u7, u8, u9, u10, u11, u12, u13, u14, u15, rfl⟩ := len16 us hus
            obtain rfl | rfl | rfl | rfl | rfl | rfl | rfl | rfl | rfl | rfl | rfl | rfl | rfl | rfl | rfl | rfl : i = 0 ∨ i = 1 ∨ i = 2 ∨ i = 3 ∨ i = 4 ∨ i = 5 ∨ i = 6 ∨ i = 7 ∨ i = 8 ∨ i = 9 ∨ i = 10 ∨ i = 11 ∨ i = 12 ∨ i = 13 ∨ i = 14 ∨ i = 15 := by omega
            all_goals (simp only [List.getElem?_toArray, List.getElem?_cons_succ, List.getElem?_cons_zero, Option.some.injEq] at ho; subst ho; clear hi hus)
            all_goals (generalize hA : puts _ _ _ = A at hK ⊢)
            · have A0 : A.tmps[0]?.getD undef = .slice a0 l0.length c0 := by rw [← hA]; kernel_rfl
              go_wp2
              exact hK _ _ _ rfl rfl (Below.refl _ _) (fun h => absurd h (by decide))
            · have A0 : A.tmps[0]?.getD undef = .slice a0 l0.length c0 := by rw [← hA]; kernel_rfl
              go_wp2
              exact hK _ _ _ rfl rfl (Below.refl _ _) (fun h => absurd h (by decide))
            · have q1 : u1 = .slice a0 l0.length c0 := hdep 1 (by decide)
              have A65 : A.tmps[65]?.getD undef = u1 := by rw [← hA]; kernel_rfl
              rw [q1] at A65
              go_wp2
              exact hK _ _ _ rfl rfl (Below.refl _ _) (fun h => absurd h (by decide))
            · have A0 : A.tmps[0]?.getD undef = .slice a0 l0.length c0 := by rw [← hA]; kernel_rfl
              go_wp2
              exact hK _ _ _ rfl rfl (Below.refl _ _) (fun h => absurd h (by decide))
            · have q3 : u3 = .slice a0 l0.length c0 := hdep 3 (by decide)
              have A67 : A.tmps[67]?.getD undef = u3 := by rw [← hA]; kernel_rfl
              rw [q3] at A67
              go_wp2
              exact hK _ _ _ rfl rfl (Below.refl _ _) (fun h => absurd h (by decide))
            · have q0 : u0 = .slice a0 l0.length c0 := hdep 0 (by decide)
              have q2 : u2 = .int .i64 (l0.length : Int) := hdep 2 (by decide)
              have q4 : u4 = .int .i64 (l0.length : Int) := hdep 4 (by decide)
              have A64 : A.tmps[64]?.getD undef = u0 := by rw [← hA]; kernel_rfl
              have A66 : A.tmps[66]?.getD undef = u2 := by rw [← hA]; kernel_rfl
              have A68 : A.tmps[68]?.getD undef = u4 := by rw [← hA]; kernel_rfl
              rw [q0] at A64; rw [q2] at A66; rw [q4] at A68
              have hbi := HBI.out
              have hbi0 : (0 : Int) ≤ (l0.length : Int) := by omega
              go_wp2
              exact hK _ _ _ rfl rfl (Below.refl _ _) (fun h => absurd h (by decide))
            · have e0 := (hB.cell (p := ⟨W.heap.size, 0, none⟩) (cell_lt d0)).trans d0
              have e1 := (hB.cell (p := ⟨W.heap.size, 1, none⟩) (cell_lt d1)).trans d1
              have e2' := (hB.cell (p := ⟨W.heap.size, 2, none⟩) (cell_lt d2)).trans d2
              have e3 := (hB.cell (p := ⟨W.heap.size, 3, none⟩) (cell_lt d3)).trans d3
              have A3 : A.tmps[3]?.getD undef = .pointer (some ⟨W.heap.size, 0, none⟩) := by rw [← hA]; kernel_rfl
              go_wp2
              exact hK _ _ _ rfl rfl (Below.refl _ _) (fun h => absurd h (by decide))
            · have q6 : u6 = (.agg #[.int .u64 y0, .int .u64 y1, .int .i64 y2, .int .i64 y3]) := hdep 6 (by decide)
              have A70 : A.tmps[70]?.getD undef = u6 := by rw [← hA]; kernel_rfl
              rw [q6] at A70
              go_wp2
              exact hK _ _ _ rfl ⟨_, rfl, heap_alloc_new _ _⟩ ((Below.refl _ _).alloc (Nat.le_refl _) _) (fun h => absurd h (by decide))
            · have q5 : u5 = .slice a0 l0.length l0.length := hdep 5 (by decide)
              obtain ⟨B, q7, hB7⟩ : ∃ B, u7 = .slice (some ⟨B, 0, none⟩) 1 1 ∧ wx.heap[B]? = some (.cells #[.int .u64 y0, .int .u64 y1, .int .i64 y2, .int .i64 y3] 25 (0, 0)) := hdep 7 (by decide)
              have A69 : A.tmps[69]?.getD undef = u5 := by rw [← hA]; kernel_rfl
              have A71 : A.tmps[71]?.getD undef = u7 := by rw [← hA]; kernel_rfl
              rw [q5] at A69; rw [q7] at A71
              refine wp_append_full rfl (.tmp 69) (.tmp 71) 22 rfl wx 25 Try.underlying22 (.agg #[.int .u64 0, .int .u64 0, .int .i64 0, .int .i64 0]) 4 32 info_trade rfl (by decide) (by decide) TradeR.row l0 a0 (by simpa [Act.eval] using A69) B (by simpa [Act.eval] using A71) (fun _ => rfl) (fun r u hu => by simp [TradeR.row] at hu; rcases hu with rfl | rfl | rfl | rfl <;> rfl) ⟨y0, y1, y2, y3⟩ #[.int .u64 y0, .int .u64 y1, .int .i64 y2, .int .i64 y3] rfl (by omega) (HR6.out.moved hB) hB7 ?_
              intro g cap w7 hr7 hB7' hc7
              exact hK _ _ _ rfl ⟨g, cap, rfl, hr7⟩ hB7' (fun h => absurd h (by decide))
            · obtain ⟨g, cap, q8, hr8⟩ : ∃ g cap, u8 = .slice (some ⟨g, 0, none⟩) (l0.length + 1) cap ∧ RowsAt wx (some ⟨g, 0, none⟩) 4 TradeR.row (l0 ++ [(⟨y0, y1, y2, y3⟩ : TradeR)]) := hdep 8 (by decide)
              have A72 : A.tmps[72]?.getD undef = u8 := by rw [← hA]; kernel_rfl
              rw [q8] at A72
              have HR8 := Lib.hid hr8
              clear hr8
              go_wp2_with (go_at_call 7; (with_reducible refine (HO6.out _ _ _ HR8.out).mono ?_); rintro e w8 ⟨d, rfl, HD, hB8⟩)
              exact hK _ _ _ rfl ⟨d, rfl, HD.out⟩ hB8 (fun h => absurd h (by decide))
            · have e0 := (hB.cell (p := ⟨k9, 0, none⟩) (cell_lt p0)).trans p0
              have e1 := (hB.cell (p := ⟨k9, 1, none⟩) (cell_lt p1)).trans p1
              have e2 := (hB.cell (p := ⟨k9, 2, none⟩) (cell_lt p2)).trans p2
              have e3 := (hB.cell (p := ⟨k9, 3, none⟩) (cell_lt p3)).trans p3
              have e4 := (hB.cell (p := ⟨k9, 4, none⟩) (cell_lt p4)).trans p4
              have A9 : A.tmps[9]?.getD undef = .pointer (some ⟨k9, 0, none⟩) := by rw [← hA]; kernel_rfl
              go_wp2
              exact hK _ _ _ rfl rfl (Below.refl _ _) (fun h => absurd h (by decide))
            · have A12 : A.tmps[12]?.getD undef = .int .i64 LV := by rw [← hA]; kernel_rfl
              go_wp2
              exact hK _ _ _ rfl rfl (Below.refl _ _) (fun h => absurd h (by decide))
            · have e0 := (hB.cell (p := ⟨W.heap.size, 0, none⟩) (cell_lt d0)).trans d0
              have e1 := (hB.cell (p := ⟨W.heap.size, 1, none⟩) (cell_lt d1)).trans d1
              have e2' := (hB.cell (p := ⟨W.heap.size, 2, none⟩) (cell_lt d2)).trans d2
              have e3 := (hB.cell (p := ⟨W.heap.size, 3, none⟩) (cell_lt d3)).trans d3
              have A3 : A.tmps[3]?.getD undef = .pointer (some ⟨W.heap.size, 0, none⟩) := by rw [← hA]; kernel_rfl
              go_wp2
              exact hK _ _ _ rfl rfl (Below.refl _ _) (fun h => absurd h (by decide))
            · have q10 : u10 = (.agg p.arr) := hdep 10 (by decide)
              have q11 : u11 = .int .i64 LV := hdep 11 (by decide)
              have q12 : u12 = (.agg #[.int .u64 y0, .int .u64 y1, .int .i64 y2, .int .i64 y3]) := hdep 12 (by decide)
              have A74 : A.tmps[74]?.getD undef = u10 := by rw [← hA]; kernel_rfl
              have A75 : A.tmps[75]?.getD undef = u11 := by rw [← hA]; kernel_rfl
              have A76 : A.tmps[76]?.getD undef = u12 := by rw [← hA]; kernel_rfl
              rw [q10] at A74; rw [q11] at A75; rw [q12] at A76
              go_wp2_with (go_at_call 8; (with_reducible refine (HTH.out _).mono ?_); rintro e w9 ⟨rfl, hB9⟩)
              exact hK _ _ _ rfl rfl hB9 (fun h => absurd h (by decide))
            · go_wp2
              refine hK _ _ _ rfl ⟨_, rfl, hB.size, heap_alloc_new _ _⟩ ((Below.refl _ _).alloc (Nat.le_refl _) _) (fun _ j hj v hv => ?_)
              simp only [List.mem_cons, List.mem_nil_iff, or_false] at hj
              rcases hj with rfl | rfl <;> (obtain ⟨A', rfl, -, h2⟩ := hv; intro e; cases e; have := heap_lt h2; omega)
            · go_wp2
              refine hK _ _ _ rfl ⟨_, rfl, hB.size, heap_alloc_new _ _⟩ ((Below.refl _ _).alloc (Nat.le_refl _) _) (fun _ j hj v hv => ?_)
              simp only [List.mem_cons, List.mem_nil_iff, or_false] at hj
              rcases hj with rfl | rfl <;> (obtain ⟨A', rfl, -, h2⟩ := hv; intro e; cases e; have := heap_lt h2; omega)
          case tail =>
            intro us wx hus hB hf hne
            obtain ⟨u0, u1, u2, u3, u4, u5, u6, u7, u8, u9, u10, u11, u12, u13, u14, u15, rfl⟩ := len16 us hus
            obtain ⟨d, q9, hd⟩ : ∃ d : PathW, u9 = .agg d.arr ∧ PRep d (stepZ (afterZ l0 l0.length) LV y2 y3) := hf 9 (by decide)
            have q13 : u13 = .agg e2.arr := hf 13 (by decide)
            obtain ⟨A1, q14, z14, h14⟩ : ∃ A, u14 = .pointer (some ⟨A, 0, none⟩) ∧ w6.heap.size ≤ A ∧ wx.heap[A]? = some (.cells zeroP.arr 29 (0, 0)) := hf 14 (by decide)
            obtain ⟨A2, q15, z15, h15⟩ : ∃ A, u15 = .pointer (some ⟨A, 0, none⟩) ∧ w6.heap.size ≤ A ∧ wx.heap[A]? = some (.cells zeroP.arr 29 (0, 0)) := hf 15 (by decide)
            have hn : u14 ≠ u15 := hne 14 15 (by decide) (by decide) (by decide) (by decide) (by decide)
            rw [q14, q15] at hn
            have hA12 : A1 ≠ A2 := fun e => hn (by rw [e])
            have H14 := Lib.hid h14
            have H15 := Lib.hid ((setRow_other wx A1 A2 d.arr (Ne.symm hA12)).trans h15)
            have HD := Lib.hid hd
            have HBX := Lib.hid hB
            subst q9 q13 q14 q15
            clear hf hne hn h14 h15 hd hus hB HTH HO6 HR6
            simp only [puts, Act.put, List.setIfInBounds_toArray, List.set_cons_succ, List.set_cons_zero, List.drop_succ_cons, List.drop_zero]
            go_upto_region 20 with (first | (with_reducible refine wpList_store_row rfl 29 (.tmp 13) (.tmp 73) rfl A1 d.arr rfl rfl 29 zeroP.arr H14.out (p5_info _) (p5_size _ _) (p5_one _) ?_) | (with_reducible refine wpList_store_row rfl 29 (.tmp 14) (.tmp 77) rfl A2 e2.arr rfl rfl 29 zeroP.arr H15.out (p5_info _) (p5_size _ _) (p5_one _) ?_))
            have hB9 : Below w6.heap.size w6 ((wx.setRow A1 d.arr).setRow A2 e2.arr) := below_setRow (below_setRow HBX.out _ _ z14) _ _ z15
            have h9d : ((wx.setRow A1 d.arr).setRow A2 e2.arr).heap[A1]? = some (.cells d.arr 29 (0, 0)) := (setRow_other _ _ _ _ hA12).trans (setRow_heap _ _ _ _ _ _ H14.out)
            have h9e : ((wx.setRow A1 d.arr).setRow A2 e2.arr).heap[A2]? = some (.cells e2.arr 29 (0, 0)) := setRow_heap _ _ _ _ _ _ H15.out
            generalize (wx.setRow A1 d.arr).setRow A2 e2.arr = w9 at hB9 h9d h9e ⊢
            have h9p := (hB9.block _ (heap_lt H6P.out)).trans H6P.out
            have h9q := (hB9.block _ (heap_lt H6Q.out)).trans H6Q.out
            have h9o := (hB9.block _ (heap_lt H6O.out)).trans H6O.out
            clear H14 H15 hA12 z14 z15 HBX H6P H6Q H6O p0 p1 p2 p3 p4 d0 d1 d2 d3
            obtain ⟨p0, p1, -, -, -⟩ := heap_cells_p h9p
            obtain ⟨q0, q1, -, -, -⟩ := heap_cells_p h9q
            obtain ⟨o0, o1, -, -, -⟩ := heap_cells_p h9o
            obtain ⟨d0, d1, d2, d3, d4⟩ := heap_cells_p h9d
            obtain ⟨e0, e1, e2', e3, e4⟩ := heap_cells_p h9e
            clear h9p h9q h9o h9d h9e
            have hmir := mir_after l0 l0.length (Nat.le_refl _)
            obtain ⟨s1, s2, s3, s4, -⟩ := still_after l0 l0.length (Nat.le_refl _)
            have hp := HP.out
            have hq := HQ.out
            have ho := HO.out
            have E1 := rep_same hp.at_.1 hq.at_.1 hmir.x.symm
            have E2 := rep_same hp.at_.2 (rep_neg hq.at_.2) (by rw [hmir.y]; omega)
            have E3 := rep_same hp.h.1 hq.h.1 hmir.hx.symm
            have E4 := rep_same hp.h.2 (rep_neg hq.h.2) (by rw [hmir.hy]; omega)
            have ho0 : CRep o.ar o.ai 0 0 := by have h := ho.at_; rw [s1, s2] at h; exact h
            have E5 := fun w => run_eql_cc (a := 0) (b := 0) (c := 0) (d := 0) ho0 ⟨rep_0, rep_0⟩ w
            have E6 := fun w => run_eql_cc ho.h hp.h w
            have E7 := fun w => run_eql_path HD.out HPE2.out w
            rw [s3, s4] at E6
            simp only [and_self, decide_true] at E5 E6
            have UN : ∀ (x : Nat) (w : World), (Op.unary UnOp.neg (.float .f64 x)).run Try.prog w = .ok (.float .f64 (Op.negFloat .f64 x)) w := fun _ _ => rfl
            have hBN : Below wr.heap.size wr w9 := HB6.out.trans (hB9.mono HB6.out.size)
            clear hmir s1 s2 s3 s4 hp hq ho ho0 HD HPE2 hB9 HO HP HQ
            go_wp2_with (first | (go_at_call 9; first | ((with_reducible refine (HCM.out _ hBN).mono ?_); rintro e w10 ⟨rfl, hB10⟩) | ((with_reducible refine (HCL.out _ hB10).mono ?_); rintro e w11 ⟨rfl, hB11⟩)))
            go_ret
            exact ⟨rfl, HBW.out.trans (hB11.mono HBW.out.size)⟩
end Go.Proofs.Ytkllcidmahhkoaa
