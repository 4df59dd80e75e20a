/-
  The columns of a row of trades; two rows of candles side by side; the chapter's example.
-/
import Derived.Test.YtfhbmeebkhefhaaCanRefOf
import Derived.Test.YtfhbmeebkhefhaaTwoRows
namespace Go.Proofs.Ytfhbmeebkhefhaa
open Go.RowKit
set_option linter.unusedVariables false
set_option linter.unusedSimpArgs false

theorem info_i64c : (Try.prog.info? 2).map (fun i => (i.zero, i.size, i.bytes)) = some (some (.int .i64 0), 1, 8) := by kernel_rfl
theorem map_take_succ {ρ α : Type} (f : ρ → α) (l : List ρ) (k : Nat) (h : k < l.length) : (l.take (k + 1)).map f = (l.take k).map f ++ [f l[k]] := by
  rw [List.take_succ_eq_append_getElem h, List.map_append]; simp

set_option maxRecDepth 100000 in
set_option maxHeartbeats 4000000 in
theorem columns35 (l : List TradeR) (A : Option Addr) (c : Nat) (w : World) (hr : RowsAt w A 4 TradeR.row l) (hlen : l.length ≤ 1000000) :
    Calls Try.prog 6 #[.slice A l.length c] w fun e w' => ∃ B C d f, e = .returned (.tuple #[.slice B l.length d, .slice C l.length f]) ∧ RowsAt w' B 1 intRow ((ticksOf l).map (·.1)) ∧ RowsAt w' C 1 intRow ((ticksOf l).map (·.2)) ∧ Below w.heap.size w w' ∧ l.length ≤ d ∧ l.length ≤ f := by
  have HR := Lib.hid hr
  have hsl : (ticksOf l).length = l.length := by simp [ticksOf]
  clear hr
  go_enter Try.func6, Try.ntmps6
  go_wp2
  go_loopw [4, 5, 10] (fun v4 v5 v10 wr => ∃ k : Nat, k ≤ l.length ∧ v10 = .int .i64 (k : Int) ∧ Hid (Two w wr 2 v4 k (((ticksOf l).take k).map fun r => Value.int .i64 r.1) v5 k (((ticksOf l).take k).map fun r => Value.int .i64 r.2))) (fun _ _ v _ => l.length - (intOf v).toNat)
  case atStart => exact ⟨0, by omega, rfl, Lib.hid Two.none⟩
  case round =>
    obtain ⟨k, hk, rfl, HT⟩ := hrel
    by_cases hlt : k < l.length
    · obtain ⟨b, o, rfl, c0, c1, c2, c3⟩ := trade_cells (HR.out.moved HT.out.bel) k hlt
      have hX := Lib.hid (map_take_succ (fun r => Value.int .i64 r.1) (ticksOf l) k (by omega))
      have hY := Lib.hid (map_take_succ (fun r => Value.int .i64 r.2) (ticksOf l) k (by omega))
      have hg : (ticksOf l)[k]'(by omega) = (l[k].price, l[k].size) := by simp [ticksOf]
      rw [hg] at hX hY
      obtain ⟨x0, hx0⟩ : ∃ x, x = l[k].maker := ⟨_, rfl⟩
      obtain ⟨x1, hx1⟩ : ∃ x, x = l[k].taker := ⟨_, rfl⟩
      obtain ⟨x2, hx2⟩ : ∃ x, x = l[k].price := ⟨_, rfl⟩
      obtain ⟨x3, hx3⟩ : ∃ x, x = l[k].size := ⟨_, rfl⟩
      rw [← hx0] at c0; rw [← hx1] at c1; rw [← hx2] at c2 hX; rw [← hx3] at c3 hY
      clear hx0 hx1 hx2 hx3 hg
      go_upto_region 5 with fail
      have HT1 : Hid (Two w (wr.alloc (.cells #[.int .u64 x0, .int .u64 x1, .int .i64 x2, .int .i64 x3] 49)).drew 2 u4 k _ u5 k _) := Lib.hid (HT.out.alloc _).drew
      have A0 : Hid (∀ g, u4.ownBlock = some g → g < wr.heap.size) := Lib.hid fun g hg => (HT.out.a.lt g hg).2
      have H7 : Hid ((wr.alloc (.cells #[.int .u64 x0, .int .u64 x1, .int .i64 x2, .int .i64 x3] 49)).drew.heap[wr.heap.size]? = some (.cells #[.int .u64 x0, .int .u64 x1, .int .i64 x2, .int .i64 x3] 49 (0, 0))) := Lib.hid (heap_alloc_new _ _)
      clear HT c0 c1 c2 c3
      go_region_held3 (fun wx => wx.heap[wr.heap.size]? = some (.cells #[.int .u64 x0, .int .u64 x1, .int .i64 x2, .int .i64 x3] 49 (0, 0)) ∧ wx.cell? ⟨wr.heap.size, 2, none⟩ = some (.int .i64 x2) ∧ wx.cell? ⟨wr.heap.size, 3, none⟩ = some (.int .i64 x3))
        ((refine keep7 ?_; first | exact H7.out | exact (Below.heap_alloc _ _ _ (by simp)).trans H7.out | exact (Below.heap_alloc _ _ _ (by simp; omega)).trans ((Below.heap_alloc _ _ _ (by simp)).trans H7.out) | exact K7.out | exact (Below.heap_alloc _ _ _ (heap_lt K7.out)).trans K7.out))
        (first
          | (refine step_append_two rfl (.tmp 14) (.tmp 17) 24 rfl w 2 Try.underlying24 (.int .i64 0) 8 info_i64c rfl (by decide) _ _ _ _ _ _ _ rfl (.int .i64 x2) _ rfl (by first | exact HT1.out.alloc _ | exact (HT1.out.alloc _).alloc _) (by first | exact heap_new (by simp) | exact (Below.heap_alloc _ _ _ (by simp)).trans (heap_new (by simp))) rfl (by omega) ?_; intro g cap w3 hT hk h7; have HT2 := Lib.hid hT; have NB := Lib.hid hk; have K7 := Lib.hid (h7 wr.heap.size _ _ _ (by first | exact (Below.heap_alloc _ _ _ (by simp)).trans H7.out | exact (Below.heap_alloc _ _ _ (by simp; omega)).trans ((Below.heap_alloc _ _ _ (by simp)).trans H7.out)) (by decide)); clear hT hk h7)
          | (refine step_append_two rfl (.tmp 19) (.tmp 22) 24 rfl w 2 Try.underlying24 (.int .i64 0) 8 info_i64c rfl (by decide) _ _ _ _ _ _ _ rfl (.int .i64 x3) _ rfl (by first | exact HT2.out.swap | exact HT2.out.swap.alloc _) (by first | exact heap_alloc_new _ _ | exact NB.out _ _ (heap_new (by simp)) (by intro e; have := A0.out _ e.symm; omega) | exact NB.out _ _ ((Below.heap_alloc _ _ _ (by simp)).trans (heap_new (by simp))) (by intro e; have := A0.out _ e.symm; omega)) rfl (by omega) ?_; intro g5 cap5 w4 hT hk h7; have HT3 := Lib.hid hT; have K8 := K7; clear K7; have K7 := Lib.hid (h7 wr.heap.size _ _ _ (by first | exact K8.out | exact (Below.heap_alloc _ _ _ (heap_lt K8.out)).trans K8.out) (by decide)); clear hT hk h7))
      · go_wp2
        go_roundw
        case rel => exact ⟨k + 1, by omega, by go_num, Lib.hid (by rw [hX.out, hY.out]; exact HT3.out.swap)⟩
        case measure => simp [intOf]; omega
      · go_wp2
        go_roundw
        case rel => exact ⟨k + 1, by omega, by go_num, Lib.hid (by rw [hX.out, hY.out]; exact HT3.out.swap)⟩
        case measure => simp [intOf]; omega
      · go_wp2
        go_roundw
        case rel => exact ⟨k + 1, by omega, by go_num, Lib.hid (by rw [hX.out, hY.out]; exact HT3.out.swap)⟩
        case measure => simp [intOf]; omega
    · obtain rfl : k = l.length := by omega
      have ho := HT.out
      rw [List.take_of_length_le (by omega)] at ho
      obtain ⟨a, c', e1, hrow1, h1, h2⟩ := own_rows (enc := intRow) (f := fun n => Value.int .i64 n) (l := (ticksOf l).map (·.1)) (by have h := ho.a; rw [List.map_map, List.length_map, hsl]; exact h) (fun _ => rfl)
      obtain ⟨a2, c2', e2, hrow2, h3, h4⟩ := own_rows (enc := intRow) (f := fun n => Value.int .i64 n) (l := (ticksOf l).map (·.2)) (by have h := ho.b; rw [List.map_map, List.length_map, hsl]; exact h) (fun _ => rfl)
      rw [List.length_map, hsl] at e1 h1 e2 h3
      have hbel := ho.bel
      clear ho HT
      subst e1
      subst e2
      have R1 := Lib.hid hrow1
      have R2 := Lib.hid hrow2
      clear hrow1 hrow2 h2 h4
      go_wp2
      go_ret2
      exact ⟨a, a2, c', c2', rfl, R1.out, R2.out, hbel, h1, h3⟩

theorem run_neq_c (x y : CandleR) (w : World) : (binOp .neq 53 (.agg x.arr) (.agg y.arr)).run Try.prog w = .ok (.bool (!decide (x = y))) w := by
  obtain ⟨x0, x1, x2, x3, x4, x5⟩ := x
  obtain ⟨y0, y1, y2, y3, y4, y5⟩ := y
  go_simp
  repeat' split
  all_goals simp_all
theorem run_neq_c2 (x y : CandleR) (w : World) : (binOp .neq 42 (.agg x.arr) (.agg y.arr)).run Try.prog w = .ok (.bool (!decide (x = y))) w := by
  obtain ⟨x0, x1, x2, x3, x4, x5⟩ := x
  obtain ⟨y0, y1, y2, y3, y4, y5⟩ := y
  go_simp
  repeat' split
  all_goals simp_all

set_option maxRecDepth 100000 in
set_option maxHeartbeats 4000000 in
theorem same35 (l q : List CandleR) (A B : Option Addr) (c d : Nat) (w : World) (hl : RowsAt w A 6 CandleR.row l) (hq : RowsAt w B 6 CandleR.row q) (hlen : l.length ≤ 1000000) (hlq : q.length ≤ 1000000) :
    Calls Try.prog 10 #[.slice A l.length c, .slice B q.length d] w fun e w' => e = .returned (.bool (decide (l = q))) ∧ Below w.heap.size w w' := by
  have HL := Lib.hid hl
  have HQ := Lib.hid hq
  clear hl hq
  obtain ⟨TT, hTT⟩ : ∃ TT, TT = decide (l = q) := ⟨_, rfl⟩
  rw [← hTT]
  have HTT := Lib.hid hTT
  clear hTT
  by_cases hne : l.length = q.length
  · have hB0 : Below w.heap.size w w := Below.refl _ _
    have HNE := Lib.hid hne
    rw [← hne]
    clear hne hlq
    go_enter Try.func10, Try.ntmps10
    go_wp2
    go_loopw [13] (fun v13 wr => ∃ k : Nat, k ≤ l.length ∧ v13 = .int .i64 (k : Int) ∧ Hid (l.take k = q.take k) ∧ Below w.heap.size w wr) (fun v _ => l.length - (intOf v).toNat)
    case atStart => exact ⟨0, by omega, rfl, Lib.hid (by simp), hB0⟩
    case round =>
      obtain ⟨k, hk, rfl, HT, hB⟩ := hrel
      by_cases hlt : k < l.length
      · obtain ⟨b, o, rfl, c0, c1, c2, c3, c4, c5⟩ := candle_cells (HL.out.moved hB) k hlt
        obtain ⟨b2, o2, rfl, d0, d1, d2, d3, d4, d5⟩ := candle_cells (HQ.out.moved hB) k (by rw [← HNE.out]; exact hlt)
        have hkq : k < q.length := by rw [← HNE.out]; exact hlt
        have hTK := Lib.hid (show (l[k] = q[k] → l.take (k + 1) = q.take (k + 1)) ∧ (l[k] ≠ q[k] → l ≠ q) from ⟨fun e => by rw [List.take_succ_eq_append_getElem hlt, List.take_succ_eq_append_getElem hkq, HT.out, e], fun h e => h (by subst e; rfl)⟩)
        obtain ⟨x, hx⟩ : ∃ x, x = l[k] := ⟨_, rfl⟩
        obtain ⟨y, hy⟩ : ∃ y, y = q[k] := ⟨_, rfl⟩
        rw [← hx] at c0 c1 c2 c3 c4 c5 hTK
        rw [← hy] at d0 d1 d2 d3 d4 d5 hTK
        clear hx hy
        by_cases hxy : x = y
        · subst hxy
          go_wp2
          go_quiet (fail)
          go_wp2
          go_roundw
          case rel => exact ⟨k + 1, by omega, by go_num, Lib.hid (hTK.out.1 (by first | trivial | rfl)), below_drewN hB _⟩
          case measure => simp [intOf]; omega
        · have hdd : TT = false := by rw [HTT.out]; simp; exact hTK.out.2 hxy
          go_wp2
          have hnq : ∀ w, (binOp .neq 53 (.agg x.arr) (.agg y.arr)).run Try.prog w = .ok (.bool true) w := fun w => by rw [run_neq_c]; simp [hxy]
          go_quiet (fail)
          go_wp2
          go_ret
          exact ⟨by rw [hdd]; rfl, below_drewN hB _⟩
      · have hdd : TT = true := by
          rw [HTT.out]
          have := HT.out
          rw [List.take_of_length_le (by omega), List.take_of_length_le (by have := HNE.out; omega)] at this
          simp [this]
        go_wp2
        go_ret
        exact ⟨by rw [hdd]; rfl, hB⟩
  · have hd : TT = false := by rw [HTT.out]; simp; intro e; exact hne (by rw [e])
    obtain ⟨n1, n2⟩ := ne_bb (show ¬ (l.length : Int) = (q.length : Int) by omega)
    go_enter Try.func10, Try.ntmps10
    go_wp2
    go_ret
    exact ⟨by rw [hd]; rfl, by (repeat (first | exact Below.refl _ _ | assumption | apply below_drewN | (refine Below.setCell ?_ (by first | assumption | omega | (simp; try omega)) _) | (refine Below.alloc ?_ (by first | assumption | omega | (simp; try omega)) _)))⟩
end Go.Proofs.Ytfhbmeebkhefhaa
