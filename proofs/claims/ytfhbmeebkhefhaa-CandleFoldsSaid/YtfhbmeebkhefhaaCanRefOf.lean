/-
  The document's candles: Of.
-/
import Derived.Test.YtfhbmeebkhefhaaCanRef
import Derived.Deep.RegionHeld3
namespace Go.Proofs.Ytfhbmeebkhefhaa
open Go.RowKit
set_option linter.unusedVariables false
set_option linter.unusedSimpArgs false

theorem below_drew1 {B : Nat} {a b : World} (h : Below B a b) : Below B a b.drew := h.trans ⟨rfl, rfl, rfl, Nat.le_refl _, fun _ _ => rfl⟩
theorem rows_drop1 {w : World} {b o : Nat} {l : List Int} (h : RowsAt w (some ⟨b, o, none⟩) 1 intRow l) (q : Nat) : RowsAt w (some ⟨b, o + q, none⟩) 1 intRow (l.drop q) := by
  refine ⟨.inr ⟨b, o + q, rfl, fun i r hi j v hv => ?_⟩⟩
  rw [List.getElem?_drop] at hi
  rcases h.out with e | ⟨b', o', e, hc⟩
  · rw [e] at hi; simp at hi
  · cases e
    have := hc _ r hi j v hv
    rw [show o + q + (i * 1 + j) = o + ((q + i) * 1 + j) by omega]
    exact this
theorem rows_take {ρ : Type} {w : World} {a : Option Addr} {m : Nat} {enc : ρ → List Value} {l : List ρ} (h : RowsAt w a m enc l) (q : Nat) : RowsAt w a m enc (l.take q) := by
  rcases h.out with e | ⟨b', o', e, hc⟩
  · exact ⟨.inl (by rw [e]; simp)⟩
  · refine ⟨.inr ⟨b', o', e, fun i r hi j v hv => hc i r ?_ j v hv⟩⟩
    rw [List.getElem?_take] at hi
    split at hi
    · exact hi
    · cases hi
theorem rows_at_some {ρ : Type} {w : World} {a : Option Addr} {m : Nat} {enc : ρ → List Value} {l : List ρ} (h : RowsAt w a m enc l) (hl : 0 < l.length) : ∃ b o, a = some ⟨b, o, none⟩ := by
  rcases h.out with e | ⟨b', o', e, hc⟩
  · rw [e] at hl; simp at hl
  · exact ⟨b', o', e⟩
theorem chunk_ones (l : List (Int × Int)) (n k : Nat) : chunkOf (onesOf l) n k = onesOf ((l.drop (k * n)).take n) := by
  simp [chunkOf, onesOf, List.map_take, List.map_drop]

set_option maxRecDepth 100000 in
set_option maxHeartbeats 4000000 in
theorem ref_of35 (l : List (Int × Int)) (A B : Option Addr) (c d n : Nat) (w : World) (hp : RowsAt w A 1 intRow (l.map (·.1))) (hs : RowsAt w B 1 intRow (l.map (·.2))) (hc : l.length ≤ c) (hd : l.length ≤ d) (hok : ∀ r ∈ l, in64 r.2 = true) (hlen : l.length ≤ 900) (hn1 : 1 ≤ n) (hn2 : n ≤ 9223372036854775807) :
    Calls Try.prog 9 #[.slice A l.length c, .slice B l.length d, .int .i64 (n : Int)] w fun e w' => ∃ A c res er, e = .returned (.tuple #[.slice A res.length c, .int .i64 er]) ∧ FoldIs (onesOf l) n res er ∧ RowsAt w' A 6 CandleR.row res ∧ Below w.heap.size w w' := by
  have HP := Lib.hid hp
  have HS := Lib.hid hs
  have HOK := Lib.hid hok
  have hn3 : ¬ (n : Int) < 1 := by omega
  have hsl : (onesOf l).length = l.length := by simp [onesOf]
  obtain ⟨L, hL⟩ : ∃ L, L = l.length := ⟨_, rfl⟩
  rw [← hL] at hc hd hlen hsl ⊢
  have HL := Lib.hid hL
  clear hp hs hok hL
  go_enter Try.func9, Try.ntmps9
  go_wp2
  go_loopw [0, 1, 8] (fun v0 v1 v8 wr => ∃ (k m : Nat) (A1 B1 : Option Addr) (c1 d1 : Nat), k ≤ nCh L n ∧ m = L - k * n ∧ v0 = .slice A1 m c1 ∧ v1 = .slice B1 m d1 ∧ m ≤ c1 ∧ m ≤ d1 ∧ Hid (RowsAt w A1 1 intRow ((l.map (·.1)).drop (k * n))) ∧ Hid (RowsAt w B1 1 intRow ((l.map (·.2)).drop (k * n))) ∧ Hid (∀ j, j < k → (joinL (chunkOf (onesOf l) n j)).2 = 0) ∧
      Hid (wr.ownsRow w.heap.size 53 6 v8 k (((List.range k).map fun j => (joinL (chunkOf (onesOf l) n j)).1).flatMap CandleR.row)) ∧ Below w.heap.size w wr) (fun v _ _ _ => match v with | .slice _ m _ => m | _ => 0)
  case atStart => exact ⟨0, L, A, B, c, d, Nat.zero_le _, by simp, rfl, rfl, hc, hd, Lib.hid (by simpa using HP.out), Lib.hid (by simpa using HS.out), Lib.hid (fun j hj => by omega), Lib.hid own_none, Below.refl _ _⟩
  case round =>
    obtain ⟨k, m, A1, B1, c1, d1, hk, hm, rfl, rfl, hc1, hd1, RP, RS, HE, HO, hB⟩ := hrel
    by_cases hlt : k < nCh L n
    · have hq := (nCh_lt (L := L) hn1).1 hlt
      have hnL : nCh L n ≤ L := by
        refine Nat.le_of_not_lt fun h => ?_
        have h1 := (nCh_lt hn1).1 h
        have h2 := Nat.le_mul_of_pos_right L hn1
        omega
      have hdl : ((l.drop (k * n)).take n).length = min n m := by rw [List.length_take, List.length_drop, ← HL.out, hm]
      obtain ⟨b, o, rfl⟩ := rows_at_some RP.out (by simp [← HL.out]; omega)
      obtain ⟨b2, o2, rfl⟩ := rows_at_some RS.out (by simp [← HL.out]; omega)
      have RP2 : RowsAt wr (some ⟨b, o, none⟩) 1 intRow (((l.drop (k * n)).take n).map (·.1)) := by rw [List.map_take, List.map_drop]; exact rows_take (RP.out.moved hB) n
      have RS2 : RowsAt wr (some ⟨b2, o2, none⟩) 1 intRow (((l.drop (k * n)).take n).map (·.2)) := by rw [List.map_take, List.map_drop]; exact rows_take (RS.out.moved hB) n
      have HA : Hid (∀ wx, Below wr.heap.size wr wx → Calls Try.prog 15 #[.slice (some ⟨b, o, none⟩) (min n m : Nat) c1, .slice (some ⟨b2, o2, none⟩) (min n m : Nat) d1] wx fun e w' => e = .returned (.tuple #[.agg (joinL (chunkOf (onesOf l) n k)).1.arr, .int .i64 (joinL (chunkOf (onesOf l) n k)).2]) ∧ Below wx.heap.size wx w') := Lib.hid fun wx hx => by
        have h := ref_all35 ((l.drop (k * n)).take n) (some ⟨b, o, none⟩) (some ⟨b2, o2, none⟩) c1 d1 wx (RP2.moved hx) (RS2.moved hx) (fun r hr => HOK.out r (List.mem_of_mem_drop (List.mem_of_mem_take hr))) (by omega)
        rw [hdl, ← chunk_ones] at h
        exact h
      have RP3 := Lib.hid (rows_drop1 RP.out n)
      have RS3 := Lib.hid (rows_drop1 RS.out n)
      have hdr : ∀ q : List Int, (q.drop (k * n)).drop n = q.drop ((k + 1) * n) := fun q => by rw [List.drop_drop, Nat.succ_mul]
      rw [hdr] at RP3 RS3
      have herr := joinL_err (chunkOf (onesOf l) n k)
      obtain ⟨z, hz⟩ : ∃ z, z = (joinL (chunkOf (onesOf l) n k)).1 := ⟨_, rfl⟩
      obtain ⟨e, he⟩ : ∃ e, e = (joinL (chunkOf (onesOf l) n k)).2 := ⟨_, rfl⟩
      rw [← hz, ← he] at HA
      rw [← he] at herr
      have HZ := Lib.hid hz
      have HEE := Lib.hid he
      have hm1 : 0 < m := by omega
      have HM := Lib.hid hm
      have HQ := Lib.hid hq
      obtain ⟨q, hqq⟩ : ∃ q, q = min n m := ⟨_, rfl⟩
      rw [← hqq] at HA
      have hq1 : 1 ≤ q := by omega
      have hq2 : q ≤ m := by omega
      clear hz he hm hdl RP2 RS2 RP RS hq hdr
      have hqm : q = n ∨ m < n ∧ q = m := by omega
      have HQM := Lib.hid hqm
      clear hqm
      go_upto_if 21 with fail
      go_cut [9] (fun v9 wc => v9 = .int .i64 (q : Int) ∧ wr = wc)
      case first =>
        by_cases hnm : m < n
        · obtain rfl : q = m := by omega
          clear hqq hq2 hq1
          go_wp2_with fail
          go_meet
          exact ⟨rfl, rfl⟩
        · obtain rfl : q = n := by omega
          clear hqq hq1
          go_wp2_with fail
          go_meet
          exact ⟨rfl, rfl⟩
      case rest =>
        obtain ⟨rfl, rfl⟩ := hcut
        clear hqq
        have hqc1 : (q : Int) ≤ (c1 : Int) := by omega
        have hqd1 : (q : Int) ≤ (d1 : Int) := by omega
        go_upto_region 8 with fail
        go_cut [10, 11] (fun v10 v11 wx => ∃ g, v10 = .pointer (some ⟨g, 0, none⟩) ∧ v11 = .int .i64 e ∧ Hid (Below wr.heap.size wr wx) ∧ Hid (wx.heap[g]? = some (.cells z.arr 53 (0, 0))))
        case first =>
          go_region_with (first | (go_at_call 15; (with_reducible refine (HA.out _ (by first | exact below_drew1 (Below.refl _ _) | exact below_drew1 ((Below.refl _ _).alloc (Nat.le_refl _) _))).mono ?_); rintro e w1 ⟨rfl, hB1⟩; (try (have K : w1.heap[wr.heap.size]? = some (.cells zeroC.arr 53 (0, 0)) := (hB1.block wr.heap.size (by simp)).trans (heap_alloc_new wr _))); (try (obtain ⟨g0, g1, g2, g3, g4, g5⟩ := heap_cells_ok (x := zeroC) K; have f0 := frozen_of_row _ _ 0 _ _ K; have f1 := frozen_of_row _ _ 1 _ _ K; have f2 := frozen_of_row _ _ 2 _ _ K; have f3 := frozen_of_row _ _ 3 _ _ K; have f4 := frozen_of_row _ _ 4 _ _ K; have f5 := frozen_of_row _ _ 5 _ _ K; simp only [] at g0 g1 g2 g3 g4 g5))))
          · have hBw : Below wr.heap.size wr w1 := (below_drew1 (Below.refl _ _)).trans hB1
            go_wp2_with fail
            go_meet
            refine ⟨_, rfl, rfl, Lib.hid ?_, Lib.hid ?_⟩
            · with_reducible exact hBw.alloc hBw.size _
            · with_reducible exact heap_alloc_new _ _
          · have hBw : Below wr.heap.size wr w1 := (below_drew1 ((Below.refl _ _).alloc (Nat.le_refl _) _)).trans (hB1.mono (by simp))
            have G := heap_set4 (heap_set4 (heap_set4 (heap_set4 (heap_set4 (heap_set4 K 0 (.int .i64 z.first) _ rfl) 1 (.int .i64 z.high) _ rfl) 2 (.int .i64 z.low) _ rfl) 3 (.int .i64 z.last) _ rfl) 4 (.int .i64 z.size) _ rfl) 5 (.int .i64 z.trades) z.arr rfl
            have G2 := Lib.hid G
            clear G
            go_wp2_with fail
            go_meet
            refine ⟨_, rfl, rfl, Lib.hid ?_, ?_⟩
            · with_reducible exact (((((hBw.setCell (Nat.le_refl _) _).setCell (Nat.le_refl _) _).setCell (Nat.le_refl _) _).setCell (Nat.le_refl _) _).setCell (Nat.le_refl _) _).setCell (Nat.le_refl _) _
            · with_reducible exact G2
        case rest =>
          obtain ⟨g, rfl, rfl, HBX, G⟩ := hcut
          have hsx := HBX.out.size
          clear HA
          rcases herr with rfl | rfl
          · have HO2 := Lib.hid ((own_moved HO.out HBX.out).alloc (.cells z.arr 53))
            go_wp2_with (first | (with_reducible refine wpList_load_row rfl 53 (.tmp 10) rfl g rfl 53 z.arr (0, 0) _ G.out Try.underlying53 rfl (r6_info _) ?_) | (at_builtin; refine wp_append_row rfl (.tmp 37) (.tmp 39) 35 rfl w.heap.size 53 Try.underlying35 (.agg zeroC.arr) 6 48 info_refc rfl (by decide) (by decide) _ _ k _ rfl HO2.out z.arr wc.heap.size (heap_alloc_new _ _) rfl (by simp [Value.oneCell']) rfl (by omega) (by have := hB.size; simp; omega) ?_; intro v' w4 hown1 hB4; have HO1 := Lib.hid hown1; clear hown1))
            go_roundw
            case rel =>
              have hmn : (m : Int) = (L : Int) - ((k * n : Nat) : Int) := by have := HM.out; have := HQ.out; omega
              have hkn : (k + 1) * n = k * n + n := Nat.succ_mul k n
              have hm2 : m - q = L - (k + 1) * n := by have := HM.out; have := HQ.out; have := HQM.out; omega
              have hll := HL.out
              refine ⟨k + 1, _, _, _, _, _, by omega, hm2, rfl, rfl, by omega, by omega, Lib.hid ?_, Lib.hid ?_, Lib.hid ?_, Lib.hid ?_, ((below_at hB HBX.out).alloc (by have := hB.size; omega) _).trans hB4⟩
              · rcases HQM.out with e | ⟨e1, e2⟩
                · split
                  · exact ⟨.inl (by rw [List.drop_eq_nil_of_le]; simp; omega)⟩
                  · rw [e]; exact RP3.out
                · exact ⟨.inl (by rw [List.drop_eq_nil_of_le]; simp; omega)⟩
              · rcases HQM.out with e | ⟨e1, e2⟩
                · split
                  · exact ⟨.inl (by rw [List.drop_eq_nil_of_le]; simp; omega)⟩
                  · rw [e]; exact RS3.out
                · exact ⟨.inl (by rw [List.drop_eq_nil_of_le]; simp; omega)⟩
              · intro j hj
                rcases Nat.lt_or_ge j k with h | h
                · exact HE.out j h
                · obtain rfl : j = k := by omega
                  exact HEE.out.symm
              · rw [List.range_succ, List.map_append, List.flatMap_append]
                have h1 := HO1.out
                have e : (List.map (fun j => (joinL (chunkOf (onesOf l) n j)).1) [k]).flatMap CandleR.row = z.arr.toList := by simp [← HZ.out, CandleR.row]
                rw [e]; exact h1
            case measure => simp; omega
          · clear G
            go_wp2
            go_ret2
            refine ⟨none, 0, [], 24, rfl, .inr ⟨⟨k, by rw [hsl]; exact hlt, by rw [← HEE.out]; decide⟩, rfl, rfl⟩, ⟨.inl rfl⟩, ?_⟩
            exact below_at hB HBX.out
    · have hkL : k = nCh L n := by omega
      have hq0 : m = 0 := by
        have := mt (nCh_lt (L := L) hn1).2 hlt
        omega
      subst hkL
      subst hq0
      have ho := HO.out
      obtain ⟨a, c', e2, hrow, h1, h2⟩ := own_rowsN (enc := CandleR.row) (m := 6) (l := (List.range (nCh L n)).map fun j => (joinL (chunkOf (onesOf l) n j)).1) (by simpa using ho) (fun _ => rfl)
      subst e2
      have HROW := Lib.hid hrow
      have hE2 : FoldIs (onesOf l) n ((List.range (nCh L n)).map fun j => (joinL (chunkOf (onesOf l) n j)).1) 0 := .inl ⟨fun k hk => HE.out k (by rw [hsl] at hk; exact hk), rfl, by rw [hsl]⟩
      have HF := Lib.hid hE2
      clear ho hrow hE2 HO
      go_wp2
      go_ret2
      exact ⟨a, c', _, 0, rfl, HF.out, HROW.out, hB⟩

theorem ref_of35_bad (a b : Value) (n : Int) (w : World) (hn : n < 1) :
    Calls Try.prog 9 #[a, b, .int .i64 n] w fun e w' => e = .returned (.tuple #[.slice none 0 0, .int .i64 2]) ∧ Below w.heap.size w w' := by
  go_enter Try.func9, Try.ntmps9
  go_wp2
  go_ret2
  exact ⟨rfl, by (repeat (first | exact Below.refl _ _ | assumption | apply below_drewN | (refine Below.setCell ?_ (by first | assumption | omega | (simp; try omega)) _) | (refine Below.alloc ?_ (by first | assumption | omega | (simp; try omega)) _)))⟩
end Go.Proofs.Ytfhbmeebkhefhaa
