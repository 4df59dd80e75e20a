/-
  The join of a row of candles.
-/
import Derived.Test.YtfhbmeebkhefhaaCan
namespace Go.Proofs.Ytfhbmeebkhefhaa
open Go.RowKit
set_option linter.unusedVariables false
set_option linter.unusedSimpArgs false

theorem in64_zero : in64 0 = true := by decide
theorem zero_ok (K : Int) (h : 0 ≤ K) : zeroC.ok K := ⟨by decide, by show (0 : Int) ≤ 0; omega, h⟩
theorem joinC_ok {c d : CandleR} {A B : Int} (hc : c.ok A) (hd : d.ok B) (hA : 0 ≤ A) (hB : 0 ≤ B) : (joinC c d).1.ok (A + B) := by
  unfold joinC
  split
  · exact ⟨hd.size, hd.t0, by have := hd.t1; simp only []; omega⟩
  · split
    · exact ⟨hc.size, hc.t0, by have := hc.t1; simp only []; omega⟩
    · split
      · rename_i h
        exact ⟨h, by have := hc.t0; have := hd.t0; simp only [glue]; omega, by have := hc.t1; have := hd.t1; simp only [glue]; omega⟩
      · exact zero_ok _ (by omega)
theorem candle_cells {w : World} {a : Option Addr} {l : List CandleR} (h : RowsAt w a 6 CandleR.row l) (i : Nat) (hi : i < l.length) : ∃ b o, a = some ⟨b, o, none⟩ ∧
    w.cell? ⟨b, o + i * 6, none⟩ = some (.int .i64 l[i].first) ∧ w.cell? ⟨b, o + i * 6 + 1, none⟩ = some (.int .i64 l[i].high) ∧ w.cell? ⟨b, o + i * 6 + 2, none⟩ = some (.int .i64 l[i].low) ∧ w.cell? ⟨b, o + i * 6 + 3, none⟩ = some (.int .i64 l[i].last) ∧ w.cell? ⟨b, o + i * 6 + 4, none⟩ = some (.int .i64 l[i].size) ∧ w.cell? ⟨b, o + i * 6 + 5, none⟩ = some (.int .i64 l[i].trades) := by
  obtain ⟨b, o, e, hc⟩ := h.at_ i hi
  exact ⟨b, o, e, hc 0 _ rfl, hc 1 _ rfl, hc 2 _ rfl, hc 3 _ rfl, hc 4 _ rfl, hc 5 _ rfl⟩
theorem joinA_step (c : CandleR) (l : List CandleR) (k : Nat) (h : k < l.length) : joinA c (l.drop k) = if (joinC c l[k]).2 = 0 then joinA (joinC c l[k]).1 (l.drop (k + 1)) else (zeroC, (joinC c l[k]).2) := by
  rw [List.drop_eq_getElem_cons h]; rfl

set_option maxRecDepth 100000 in
set_option maxHeartbeats 4000000 in
theorem candle_joinL (l : List CandleR) (a : Option Addr) (c : Nat) (w : World) (hr : RowsAt w a 6 CandleR.row l) (hok : ∀ x ∈ l, x.ok 1000) (hlen : l.length ≤ 900) :
    Calls Try.prog 17 #[.slice a l.length c] w fun e w' => e = .returned (.tuple #[.agg (joinL l).1.arr, .int .i64 (joinL l).2]) ∧ Below w.heap.size w w' := by
  have HR := Lib.hid hr
  have HOK := Lib.hid hok
  have hW0 : Below w.heap.size w w := Below.refl _ _
  obtain ⟨T, hT⟩ : ∃ T, T = joinL l := ⟨_, rfl⟩
  rw [← hT]
  have HT := Lib.hid hT
  clear hr hok hT
  go_enter Try.func17, Try.ntmps17
  go_wp2
  go_loopw [10] (fun v10 wr => ∃ (k : Nat) (x : CandleR), k ≤ l.length ∧ v10 = .int .i64 (k : Int) ∧ Below w.heap.size w wr ∧ Hid (wr.heap[w.heap.size]? = some (.cells zeroC.arr 42 (0, 0))) ∧ Hid (wr.heap[w.heap.size + 1]? = some (.cells x.arr 42 (0, 0))) ∧ Hid (x.ok (k * 1000)) ∧ Hid (joinA x (l.drop k) = T)) (fun v _ => l.length - (intOf v).toNat)
  case atStart => exact ⟨0, zeroC, by omega, rfl, ((hW0.alloc (Nat.le_refl _) _).alloc (by simp) _), Lib.hid (heap_alloc2_old _ _ _), Lib.hid (heap_alloc2_new _ _ _), Lib.hid (zero_ok _ (by omega)), Lib.hid HT.out.symm⟩
  case round =>
    obtain ⟨k, x, hk, rfl, hB, H0, H1, HX, HJ⟩ := hrel
    by_cases hlt : k < l.length
    · obtain ⟨b, o, rfl, c0, c1, c2, c3, c4, c5⟩ := candle_cells (HR.out.moved hB) k hlt
      have hJ := HJ.out
      rw [joinA_step x l k hlt] at hJ
      have hd := HOK.out l[k] (List.getElem_mem hlt)
      obtain ⟨y, hy⟩ : ∃ y, y = l[k] := ⟨_, rfl⟩
      rw [← hy] at c0 c1 c2 c3 c4 c5 hJ hd
      have JN : Hid (∀ wx, Calls Try.prog 21 #[.agg x.arr, .agg y.arr] wx fun e w' => e = .returned (.tuple #[.agg (joinC x y).1.arr, .int .i64 (joinC x y).2]) ∧ Below wx.heap.size wx w') := Lib.hid fun wx =>
        candle_join2 x y wx ⟨HX.out.size, HX.out.t0, by have := HX.out.t1; omega⟩ ⟨hd.size, hd.t0, by have := hd.t1; omega⟩
      have HZ : Hid ((joinC x y).1.ok (((k + 1 : Nat) : Int) * 1000)) := Lib.hid (by
        have := joinC_ok HX.out hd (by omega) (by omega)
        have e : ((k + 1 : Nat) : Int) * 1000 = (k : Int) * 1000 + 1000 := by omega
        rw [e]; exact this)
      obtain ⟨z, hz⟩ : ∃ z, z = (joinC x y).1 := ⟨_, rfl⟩
      obtain ⟨e, he⟩ : ∃ e, e = (joinC x y).2 := ⟨_, rfl⟩
      rw [← hz] at JN HZ hJ
      rw [← he] at JN hJ
      clear hz he hy hd HX
      go_upto_region 5 with fail
      have hB2 : Below w.heap.size w (wr.alloc (.cells y.arr 42)) := hB.alloc hB.size _
      have h0 : (wr.alloc (.cells y.arr 42)).heap[w.heap.size]? = some (.cells zeroC.arr 42 (0, 0)) := (Below.heap_alloc _ _ _ (heap_lt H0.out)).trans H0.out
      have h1 : (wr.alloc (.cells y.arr 42)).heap[w.heap.size + 1]? = some (.cells x.arr 42 (0, 0)) := (Below.heap_alloc _ _ _ (heap_lt H1.out)).trans H1.out
      have h2 : (wr.alloc (.cells y.arr 42)).heap[wr.heap.size]? = some (.cells y.arr 42 (0, 0)) := heap_alloc_new _ _
      generalize wr.alloc (.cells y.arr 42) = w2 at hB2 h0 h1 h2 ⊢
      have G0 := Lib.hid h0
      have G1 := Lib.hid h1
      have G2 := Lib.hid h2
      clear h0 h1 h2 c0 c1 c2 c3 c4 c5 H0 H1
      have HJ2 := Lib.hid hJ
      clear hJ
      by_cases hz0 : e = 0
      · have HJ3 := Lib.hid (by have h := HJ2.out; rw [if_pos hz0] at h; exact h)
        subst hz0
        go_wp2_with (first | (with_reducible refine wpList_load_row rfl 42 (.tmp 4) rfl (w.heap.size + 1) rfl 42 x.arr (0, 0) _ G1.out Try.underlying42 rfl (c6_info _) ?_) | (with_reducible refine wpList_load_row rfl 42 (.tmp 6) rfl wr.heap.size rfl 42 y.arr (0, 0) _ G2.out Try.underlying42 rfl (c6_info _) ?_) | (go_at_call 21; (with_reducible refine (JN.out _).mono ?_); rintro e w3 ⟨rfl, hB3⟩; have K0 := Lib.hid ((hB3.block _ (heap_lt G0.out)).trans G0.out); have K1 := Lib.hid ((hB3.block _ (heap_lt G1.out)).trans G1.out)) | (with_reducible refine wpList_store_row rfl 42 (.tmp 4) (.tmp 18) rfl (w.heap.size + 1) z.arr rfl rfl 42 _ K1.out (c6_info _) (c6_size _ _) (c6_one _) ?_))
        go_roundw
        case rel =>
          exact ⟨k + 1, z, by omega, by go_num, below_setRow (below_at hB2 hB3) _ _ (by omega), Lib.hid (by rw [setRow_other _ _ _ _ (by omega)]; exact K0.out), Lib.hid (setRow_heap _ _ _ _ _ _ K1.out), HZ, HJ3⟩
        case measure => simp [intOf]; omega
      · have HJ3 : Hid ((zeroC, e) = T) := Lib.hid (by have h := HJ2.out; rw [if_neg hz0] at h; exact h)
        obtain ⟨n1, n2⟩ := ne_bb hz0
        go_wp2_with (first | (with_reducible refine wpList_load_row rfl 42 (.tmp 4) rfl (w.heap.size + 1) rfl 42 x.arr (0, 0) _ G1.out Try.underlying42 rfl (c6_info _) ?_) | (with_reducible refine wpList_load_row rfl 42 (.tmp 6) rfl wr.heap.size rfl 42 y.arr (0, 0) _ G2.out Try.underlying42 rfl (c6_info _) ?_) | (go_at_call 21; (with_reducible refine (JN.out _).mono ?_); rintro e w3 ⟨rfl, hB3⟩; have K0 := Lib.hid ((hB3.block _ (heap_lt G0.out)).trans G0.out); have K1 := Lib.hid ((hB3.block _ (heap_lt G1.out)).trans G1.out); have K2 := Lib.hid ((setRow_other w3 (w.heap.size + 1) w.heap.size z.arr (by omega)).trans K0.out)) | (with_reducible refine wpList_store_row rfl 42 (.tmp 4) (.tmp 18) rfl (w.heap.size + 1) z.arr rfl rfl 42 _ K1.out (c6_info _) (c6_size _ _) (c6_one _) ?_) | (with_reducible refine wpList_store_row rfl 42 (.tmp 2) (.tmp 22) rfl w.heap.size zeroC.arr rfl rfl 42 _ K2.out (c6_info _) (c6_size _ _) (c6_one _) ?_))
        refine bodyPost_ret (res_row_tmp Try.results17 _ _ w.heap.size 42 zeroC.arr (0, 0) _ rfl (setRow_heap _ _ _ _ _ _ K2.out) Try.underlying42 rfl (c6_info _)) rfl ?_
        exact ⟨by rw [← HJ3.out]; rfl, below_setRow (below_setRow (below_at hB2 hB3) _ _ (by omega)) _ _ (by omega)⟩
    · have HJ3 : Hid ((x, (0 : Int)) = T) := Lib.hid (by have h := HJ.out; rw [List.drop_eq_nil_of_le (by omega)] at h; exact h)
      go_wp2_with (first | (with_reducible refine wpList_load_row rfl 42 (.tmp 4) rfl (w.heap.size + 1) rfl 42 x.arr (0, 0) _ H1.out Try.underlying42 rfl (c6_info _) ?_) | (with_reducible refine wpList_store_row rfl 42 (.tmp 2) (.tmp 25) rfl w.heap.size x.arr rfl rfl 42 _ H0.out (c6_info _) (c6_size _ _) (c6_one _) ?_))
      refine bodyPost_ret (res_row_tmp Try.results17 _ _ w.heap.size 42 x.arr (0, 0) _ rfl (setRow_heap _ _ _ _ _ _ H0.out) Try.underlying42 rfl (c6_info _)) rfl ?_
      exact ⟨by rw [← HJ3.out]; rfl, below_setRow hB _ _ (by omega)⟩
end Go.Proofs.Ytfhbmeebkhefhaa
