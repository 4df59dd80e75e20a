/-
  The document's candles: All, Of.
-/
import Derived.Test.YtfhbmeebkhefhaaCanOf
namespace Go.Proofs.Ytfhbmeebkhefhaa
open Go.RowKit
set_option linter.unusedVariables false
set_option linter.unusedSimpArgs false

def intRow (n : Int) : List Value := [.int .i64 n]
theorem r6_info (r : CandleR) : (Try.prog.info? 53).map (·.size) = some r.arr.size := show (Try.prog.info? 53).map (·.size) = some 6 by kernel_rfl
theorem info_refc : (Try.prog.info? 53).map (fun i => (i.zero, i.size, i.bytes)) = some (some (.agg zeroC.arr), 6, 48) := by kernel_rfl
theorem int_cell {w : World} {a : Option Addr} {l : List Int} (h : RowsAt w a 1 intRow l) (i : Nat) (hi : i < l.length) : ∃ b o, a = some ⟨b, o, none⟩ ∧ w.cell? ⟨b, o + i, none⟩ = some (.int .i64 l[i]) := by
  obtain ⟨b, o, e, hc⟩ := h.at_ i hi
  have h0 := hc 0 _ rfl
  simp only [Nat.mul_one, Nat.add_zero] at h0
  exact ⟨b, o, e, h0⟩
theorem joinC_zero (d : CandleR) : joinC zeroC d = (d, 0) := rfl
theorem joinC_one (x : CandleR) (p s : Int) (h : ¬ x.trades = 0) : joinC x (oneC p s) = if in64 (x.size + s) = true then (glue x (oneC p s), 0) else (zeroC, 24) := by
  unfold joinC
  rw [if_neg h, if_neg (show ¬ (oneC p s).trades = 0 by show ¬ (1 : Int) = 0; decide)]
  rfl
theorem heap_cells_ok {w : World} {B : Nat} {x : CandleR} {t : TypeId} (h : w.heap[B]? = some (.cells x.arr t (0, 0))) :
    w.cell? ⟨B, 0, none⟩ = some (.int .i64 x.first) ∧ w.cell? ⟨B, 1, none⟩ = some (.int .i64 x.high) ∧ w.cell? ⟨B, 2, none⟩ = some (.int .i64 x.low) ∧ w.cell? ⟨B, 3, none⟩ = some (.int .i64 x.last) ∧ w.cell? ⟨B, 4, none⟩ = some (.int .i64 x.size) ∧ w.cell? ⟨B, 5, none⟩ = some (.int .i64 x.trades) := by
  simp [World.cell?, h]
theorem heap_set4 {w : World} {B : Nat} {cs : Array Value} {t : TypeId} (h : w.heap[B]? = some (.cells cs t (0, 0))) (i : Nat) (v : Value) (ds : Array Value) (e : cs.setIfInBounds i v = ds) : (w.setCell ⟨B, i, none⟩ v).heap[B]? = some (.cells ds t (0, 0)) := by
  rw [← e]; exact heap_setCell_same w B i cs t v h

theorem heap_seto {w : World} {B i k : Nat} {v : Value} (h : k ≠ B) : (w.setCell ⟨B, i, none⟩ v).heap[k]? = w.heap[k]? := heap_setCell_other _ _ _ _ h

set_option maxRecDepth 100000 in
set_option maxHeartbeats 4000000 in
theorem ref_all35 (l : List (Int × Int)) (A B : Option Addr) (c d : Nat) (w : World) (hp : RowsAt w A 1 intRow (l.map (·.1))) (hs : RowsAt w B 1 intRow (l.map (·.2))) (hok : ∀ r ∈ l, in64 r.2 = true) (hlen : l.length ≤ 900) :
    Calls Try.prog 15 #[.slice A l.length c, .slice B l.length d] w fun e w' => e = .returned (.tuple #[.agg (joinL (onesOf l)).1.arr, .int .i64 (joinL (onesOf l)).2]) ∧ Below w.heap.size w w' := by
  have HP := Lib.hid hp
  have HS := Lib.hid hs
  have HOK := Lib.hid hok
  have hW0 : Below w.heap.size w w := Below.refl _ _
  have hsl : (onesOf l).length = l.length := by simp [onesOf]
  obtain ⟨T, hT⟩ : ∃ T, T = joinL (onesOf l) := ⟨_, rfl⟩
  rw [← hT]
  have HT := Lib.hid hT
  clear hp hs hok hT
  go_enter Try.func15, Try.ntmps15
  go_wp2
  go_loopw [13] (fun v13 wr => ∃ (k : Nat) (x : CandleR), k ≤ l.length ∧ v13 = .int .i64 (k : Int) ∧ Below w.heap.size w wr ∧ Hid (wr.heap[w.heap.size]? = some (.cells zeroC.arr 53 (0, 0))) ∧ Hid (wr.heap[w.heap.size + 1]? = some (.cells x.arr 53 (0, 0))) ∧ Hid (in64 x.size = true) ∧ Hid (x.trades = (k : Int)) ∧ Hid (k = 0 → x = zeroC) ∧ Hid (joinA x ((onesOf l).drop k) = T)) (fun v _ => l.length - (intOf v).toNat)
  case atStart => exact ⟨0, zeroC, by omega, rfl, ((hW0.alloc (Nat.le_refl _) _).alloc (by simp) _), Lib.hid (heap_alloc2_old _ _ _), Lib.hid (heap_alloc2_new _ _ _), Lib.hid (by decide), Lib.hid rfl, Lib.hid fun _ => rfl, Lib.hid HT.out.symm⟩
  case round =>
    obtain ⟨k, x, hk, rfl, hB, H0, H1, HX, HN, HZ, HJ⟩ := hrel
    by_cases hlt : k < l.length
    · obtain ⟨b, o, rfl, c0⟩ := int_cell (HP.out.moved hB) k (by simpa using hlt)
      obtain ⟨b2, o2, rfl, c1⟩ := int_cell (HS.out.moved hB) k (by simpa using hlt)
      have hJ := HJ.out
      rw [joinA_step x (onesOf l) k (by omega)] at hJ
      have hg : (onesOf l)[k]'(by omega) = oneC l[k].1 l[k].2 := by simp [onesOf]
      rw [hg] at hJ
      have hd := HOK.out l[k] (List.getElem_mem hlt)
      simp only [List.getElem_map] at c0 c1
      obtain ⟨p, hpe⟩ : ∃ p, p = l[k].1 := ⟨_, rfl⟩
      obtain ⟨s, hse⟩ : ∃ s, s = l[k].2 := ⟨_, rfl⟩
      rw [← hpe] at c0 hJ; rw [← hse] at c1 hJ hd
      clear hpe hse hg
      by_cases hk0 : k = 0
      · subst hk0
        have hxz := HZ.out rfl
        subst hxz
        rw [joinC_zero] at hJ
        have HJ2 := Lib.hid (show joinA (oneC p s) ((onesOf l).drop (0 + 1)) = T from hJ)
        clear hJ HJ HX HN HZ
        simp only [Nat.add_zero] at c0 c1
        go_wp2_with (first | (with_reducible refine wpList_store_row rfl 53 (.tmp 6) (.tmp 27) rfl (w.heap.size + 1) (oneC p s).arr rfl rfl 53 _ H1.out (r6_info _) (c6_size _ _) (c6_one _) ?_))
        go_roundw
        case rel =>
          exact ⟨1, oneC p s, by omega, by go_num, below_setRow hB _ _ (by omega), Lib.hid (by rw [setRow_other _ _ _ _ (by omega)]; exact H0.out), Lib.hid (setRow_heap _ _ _ _ _ _ H1.out), Lib.hid hd, Lib.hid rfl, Lib.hid (fun h => by omega), HJ2⟩
        case measure => simp [intOf]; omega
      · have hn : ¬ x.trades = 0 := by have := HN.out; omega
        rw [joinC_one x p s hn] at hJ
        have HH : Hid (∀ n, (wr.drewN n).heap[w.heap.size + 1]? = some (.cells x.arr 53 (0, 0))) := Lib.hid fun n => H1.out
        obtain ⟨d0, d1, d2, d3, d4, d5⟩ := heap_cells_ok H1.out
        have f1 := frozen_of_row _ _ 1 _ _ H1.out
        have f2 := frozen_of_row _ _ 2 _ _ H1.out
        have f3 := frozen_of_row _ _ 3 _ _ H1.out
        have f4 := frozen_of_row _ _ 4 _ _ H1.out
        have f5 := frozen_of_row _ _ 5 _ _ H1.out
        have ADQ : Hid (∀ wx, Calls Try.prog 19 #[.int .i64 x.size, .int .i64 s] wx fun e w' => e = .returned (.tuple #[.int .i64 (fits64 (x.size + s)), .int .i64 (over64 (x.size + s))]) ∧ ∃ m, w' = wx.drewN m) := Lib.hid fun wx =>
          (ref_add x.size s wx HX.out hd).mono fun _ _ ⟨h, ⟨hm⟩⟩ => ⟨h, hm⟩
        obtain ⟨e1, e2⟩ := eq_bb (show (k : Int) = (k : Int) from rfl)
        have hkk : ¬ (k : Int) = 0 := by omega
        have hlw : IntKind.i64.wrap (x.trades + 1) = x.trades + 1 := IntWalk.i64_in _ (by have := HN.out; omega)
        have HX2 := HX
        clear HX
        obtain ⟨x0, x1, x2, x3, x4, x5⟩ := x
        simp only at d0 d1 d2 d3 d4 d5 hJ ADQ hlw
        by_cases hz : in64 (x4 + s) = true
        · rw [if_pos hz, if_pos rfl] at hJ
          rw [show fits64 (x4 + s) = x4 + s by simp [fits64, hz], show over64 (x4 + s) = 0 by simp [over64, hz]] at ADQ
          have HSZ := Lib.hid hz
          clear hz H1 HX2
          by_cases hgt : x1 < p <;> by_cases hlt2 : p < x2
          · have HJ2 : Hid (joinA ⟨x0, p, p, p, x4 + s, x5 + 1⟩ ((onesOf l).drop (k + 1)) = T) := Lib.hid (by
              have e : glue ⟨x0, x1, x2, x3, x4, x5⟩ (oneC p s) = ⟨x0, p, p, p, x4 + s, x5 + 1⟩ := by simp only [glue, oneC]; congr 1 <;> omega
              rw [← e]; exact hJ)
            clear hJ
            go_wp2
            go_quiet ((go_at_call 19; refine Calls.quiet_of (ADQ.out _)))
            go_wp2
            go_roundw
            case rel =>
              refine ⟨k + 1, ⟨x0, p, p, p, x4 + s, x5 + 1⟩, by omega, by go_num, by (repeat (first | exact Below.refl _ _ | assumption | apply below_drewN | (refine Below.setCell ?_ (by first | assumption | omega | (simp; try omega)) _) | (refine Below.alloc ?_ (by first | assumption | omega | (simp; try omega)) _))), Lib.hid ?_, Lib.hid (heap_set4 (heap_set4 (heap_set4 (heap_set4 (heap_set4 (HH.out nq) 4 _ _ rfl) 5 _ _ rfl) 3 _ _ rfl) 1 _ _ rfl) 2 _ _ rfl), HSZ, Lib.hid (by have h5 : x5 = (k : Int) := HN.out; show x5 + 1 = ((k + 1 : Nat) : Int); omega), Lib.hid (fun h => by omega), HJ2⟩
              (repeat (refine (heap_seto (by omega)).trans ?_))
              exact H0.out
            case measure => simp [intOf]; omega
          · have HJ2 : Hid (joinA ⟨x0, p, x2, p, x4 + s, x5 + 1⟩ ((onesOf l).drop (k + 1)) = T) := Lib.hid (by
              have e : glue ⟨x0, x1, x2, x3, x4, x5⟩ (oneC p s) = ⟨x0, p, x2, p, x4 + s, x5 + 1⟩ := by simp only [glue, oneC]; congr 1 <;> omega
              rw [← e]; exact hJ)
            clear hJ
            go_wp2
            go_quiet ((go_at_call 19; refine Calls.quiet_of (ADQ.out _)))
            go_wp2
            go_roundw
            case rel =>
              refine ⟨k + 1, ⟨x0, p, x2, p, x4 + s, x5 + 1⟩, by omega, by go_num, by (repeat (first | exact Below.refl _ _ | assumption | apply below_drewN | (refine Below.setCell ?_ (by first | assumption | omega | (simp; try omega)) _) | (refine Below.alloc ?_ (by first | assumption | omega | (simp; try omega)) _))), Lib.hid ?_, Lib.hid (heap_set4 (heap_set4 (heap_set4 (heap_set4 (HH.out nq) 4 _ _ rfl) 5 _ _ rfl) 3 _ _ rfl) 1 _ _ rfl), HSZ, Lib.hid (by have h5 : x5 = (k : Int) := HN.out; show x5 + 1 = ((k + 1 : Nat) : Int); omega), Lib.hid (fun h => by omega), HJ2⟩
              (repeat (refine (heap_seto (by omega)).trans ?_))
              exact H0.out
            case measure => simp [intOf]; omega
          · have HJ2 : Hid (joinA ⟨x0, x1, p, p, x4 + s, x5 + 1⟩ ((onesOf l).drop (k + 1)) = T) := Lib.hid (by
              have e : glue ⟨x0, x1, x2, x3, x4, x5⟩ (oneC p s) = ⟨x0, x1, p, p, x4 + s, x5 + 1⟩ := by simp only [glue, oneC]; congr 1 <;> omega
              rw [← e]; exact hJ)
            clear hJ
            go_wp2
            go_quiet ((go_at_call 19; refine Calls.quiet_of (ADQ.out _)))
            go_wp2
            go_roundw
            case rel =>
              refine ⟨k + 1, ⟨x0, x1, p, p, x4 + s, x5 + 1⟩, by omega, by go_num, by (repeat (first | exact Below.refl _ _ | assumption | apply below_drewN | (refine Below.setCell ?_ (by first | assumption | omega | (simp; try omega)) _) | (refine Below.alloc ?_ (by first | assumption | omega | (simp; try omega)) _))), Lib.hid ?_, Lib.hid (heap_set4 (heap_set4 (heap_set4 (heap_set4 (HH.out nq) 4 _ _ rfl) 5 _ _ rfl) 3 _ _ rfl) 2 _ _ rfl), HSZ, Lib.hid (by have h5 : x5 = (k : Int) := HN.out; show x5 + 1 = ((k + 1 : Nat) : Int); omega), Lib.hid (fun h => by omega), HJ2⟩
              (repeat (refine (heap_seto (by omega)).trans ?_))
              exact H0.out
            case measure => simp [intOf]; omega
          · have HJ2 : Hid (joinA ⟨x0, x1, x2, p, x4 + s, x5 + 1⟩ ((onesOf l).drop (k + 1)) = T) := Lib.hid (by
              have e : glue ⟨x0, x1, x2, x3, x4, x5⟩ (oneC p s) = ⟨x0, x1, x2, p, x4 + s, x5 + 1⟩ := by simp only [glue, oneC]; congr 1 <;> omega
              rw [← e]; exact hJ)
            clear hJ
            go_wp2
            go_quiet ((go_at_call 19; refine Calls.quiet_of (ADQ.out _)))
            go_wp2
            go_roundw
            case rel =>
              refine ⟨k + 1, ⟨x0, x1, x2, p, x4 + s, x5 + 1⟩, by omega, by go_num, by (repeat (first | exact Below.refl _ _ | assumption | apply below_drewN | (refine Below.setCell ?_ (by first | assumption | omega | (simp; try omega)) _) | (refine Below.alloc ?_ (by first | assumption | omega | (simp; try omega)) _))), Lib.hid ?_, Lib.hid (heap_set4 (heap_set4 (heap_set4 (HH.out nq) 4 _ _ rfl) 5 _ _ rfl) 3 _ _ rfl), HSZ, Lib.hid (by have h5 : x5 = (k : Int) := HN.out; show x5 + 1 = ((k + 1 : Nat) : Int); omega), Lib.hid (fun h => by omega), HJ2⟩
              (repeat (refine (heap_seto (by omega)).trans ?_))
              exact H0.out
            case measure => simp [intOf]; omega
        · rw [if_neg hz, if_neg (by decide)] at hJ
          have hJ2 := Lib.hid hJ
          have hz2 : in64 (x4 + s) = false := by simpa using hz
          rw [show fits64 (x4 + s) = 0 by simp [fits64, hz2], show over64 (x4 + s) = 24 by simp [over64, hz2]] at ADQ
          have HB2 : Hid (∀ n, (wr.drewN n).heap[w.heap.size]? = some (.cells zeroC.arr 53 (0, 0))) := Lib.hid fun n => H0.out
          clear hz hz2 H1 HX2 hJ HH
          go_wp2
          go_quiet ((go_at_call 19; refine Calls.quiet_of (ADQ.out _)))
          go_wp2_with (with_reducible refine wpList_store_row rfl 53 (.tmp 4) (.tmp 40) rfl w.heap.size zeroC.arr rfl rfl 53 _ (HB2.out _) (r6_info _) (c6_size _ _) (c6_one _) ?_)
          refine bodyPost_ret (res_row_tmp Try.results15 _ _ w.heap.size 53 zeroC.arr (0, 0) _ rfl (setRow_heap _ _ _ _ _ _ (HB2.out _)) Try.underlying53 rfl (r6_info _)) rfl ?_
          exact ⟨by rw [← hJ2.out]; rfl, below_setRow (below_drewN hB _) _ _ (by omega)⟩
    · have HJ3 : Hid ((x, (0 : Int)) = T) := Lib.hid (by have h := HJ.out; rw [List.drop_eq_nil_of_le (by omega)] at h; exact h)
      go_wp2_with (first | (with_reducible refine wpList_load_row rfl 53 (.tmp 6) rfl (w.heap.size + 1) rfl 53 x.arr (0, 0) _ H1.out Try.underlying53 rfl (r6_info _) ?_) | (with_reducible refine wpList_store_row rfl 53 (.tmp 4) (.tmp 63) rfl w.heap.size x.arr rfl rfl 53 _ H0.out (r6_info _) (c6_size _ _) (c6_one _) ?_))
      refine bodyPost_ret (res_row_tmp Try.results15 _ _ w.heap.size 53 x.arr (0, 0) _ rfl (setRow_heap _ _ _ _ _ _ H0.out) Try.underlying53 rfl (r6_info _)) rfl ?_
      exact ⟨by rw [← HJ3.out]; rfl, below_setRow hB _ _ (by omega)⟩
end Go.Proofs.Ytfhbmeebkhefhaa
