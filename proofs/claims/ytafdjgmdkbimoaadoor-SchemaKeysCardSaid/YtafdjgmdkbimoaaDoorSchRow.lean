/-
  The document's rows of things: bourseref21.Row by contract.
-/
import Derived.Test.YtafdjgmdkbimoaaDoorSchKeySame
import Derived.Test.YtafdjgmdkbimoaaDoorRegPar
import Derived.Test.YtafdjgmdkbimoaaDoorAppFullN
namespace Go.Proofs.YtafdjgmdkbimoaaDoor
open Go.RowKit
set_option linter.unusedVariables false
set_option linter.unusedSimpArgs false

set_option maxHeartbeats 1000000 in
theorem ref_count (n : Int) (w : World) :
    Calls Tryd.prog 39 #[.int .u64 n] w fun e w' => e = .returned (.agg (cells4 117 0 n ByteArray.empty)) ∧ Below w.heap.size w w' := by
  have hz := zero_rpart
  go_enter Tryd.func39, Tryd.ntmps39
  go_wp2
  refine bodyPost_ret (results_cell_row Tryd.results39 _ _ w.heap.size 48 (cells4 117 0 n ByteArray.empty) (0, 0) _ rfl (heap_alloc_new _ _) Tryd.underlying48 rfl (info_rc4 _ _ _ _)) rfl ?_
  exact ⟨rfl, by (repeat (first | exact Below.refl _ _ | assumption | apply below_drewN | (refine Below.alloc ?_ (by first | assumption | omega | (simp; try omega)) _)))⟩
set_option maxHeartbeats 1000000 in
theorem ref_up (n : Int) (w : World) :
    Calls Tryd.prog 40 #[.int .i64 n] w fun e w' => e = .returned (.agg (cells4 105 n 0 ByteArray.empty)) ∧ Below w.heap.size w w' := by
  have hz := zero_rpart
  go_enter Tryd.func40, Tryd.ntmps40
  go_wp2
  refine bodyPost_ret (results_cell_row Tryd.results40 _ _ w.heap.size 48 (cells4 105 n 0 ByteArray.empty) (0, 0) _ rfl (heap_alloc_new _ _) Tryd.underlying48 rfl (info_rc4 _ _ _ _)) rfl ?_
  exact ⟨rfl, by (repeat (first | exact Below.refl _ _ | assumption | apply below_drewN | (refine Below.alloc ?_ (by first | assumption | omega | (simp; try omega)) _)))⟩
set_option maxHeartbeats 1000000 in
theorem ref_down (n : Int) (w : World) :
    Calls Tryd.prog 41 #[.int .i64 n] w fun e w' => e = .returned (.agg (cells4 100 n 0 ByteArray.empty)) ∧ Below w.heap.size w w' := by
  have hz := zero_rpart
  go_enter Tryd.func41, Tryd.ntmps41
  go_wp2
  refine bodyPost_ret (results_cell_row Tryd.results41 _ _ w.heap.size 48 (cells4 100 n 0 ByteArray.empty) (0, 0) _ rfl (heap_alloc_new _ _) Tryd.underlying48 rfl (info_rc4 _ _ _ _)) rfl ?_
  exact ⟨rfl, by (repeat (first | exact Below.refl _ _ | assumption | apply below_drewN | (refine Below.alloc ?_ (by first | assumption | omega | (simp; try omega)) _)))⟩
theorem len9 (us : List Value) (h : us.length = 9) : ∃ x0 x1 x2 x3 x4 x5 x6 x7 x8 : Value, us = [x0, x1, x2, x3, x4, x5, x6, x7, x8] := by
  match us, h with
  | [x0, x1, x2, x3, x4, x5, x6, x7, x8], _ => exact ⟨x0, x1, x2, x3, x4, x5, x6, x7, x8, rfl⟩
theorem len13 (us : List Value) (h : us.length = 13) : ∃ x0 x1 x2 x3 x4 x5 x6 x7 x8 x9 x10 x11 x12 : Value, us = [x0, x1, x2, x3, x4, x5, x6, x7, x8, x9, x10, x11, x12] := by
  match us, h with
  | [x0, x1, x2, x3, x4, x5, x6, x7, x8, x9, x10, x11, x12], _ => exact ⟨x0, x1, x2, x3, x4, x5, x6, x7, x8, x9, x10, x11, x12, rfl⟩
def FctRowA (s : ByteArray) (ac kd : Int) (B1 h1 : Nat) : Nat → Value → World → Prop
  | 0, v, w => v = .slice (some ⟨B1, 0, none⟩) 1 1
  | 1, v, w => v = .pointer (some ⟨h1, 1, none⟩)
  | 2, v, w => v = .int .u64 ac
  | 3, v, w => v = (.agg #[.int .u8 117, .int .i64 0, .int .u64 ac, .string ByteArray.empty])
  | 4, v, w => v = .pointer (some ⟨h1, 3, none⟩)
  | 5, v, w => v = .int .i64 kd
  | 6, v, w => v = (.agg #[.int .u8 105, .int .i64 kd, .int .u64 0, .string ByteArray.empty])
  | 7, v, w => ∃ B, v = .slice (some ⟨B, 0, none⟩) 2 2 ∧ w.heap[B]? = some (.cells #[.int .u8 117, .int .i64 0, .int .u64 ac, .string ByteArray.empty, .int .u8 105, .int .i64 kd, .int .u64 0, .string ByteArray.empty] 48 (0, 0))
  | 8, v, w => ∃ g cap, v = .slice (some ⟨g, 0, none⟩) 3 cap ∧ RowsAt w (some ⟨g, 0, none⟩) 4 PartR.row ([⟨116, 0, 0, s⟩, ⟨117, 0, ac, ByteArray.empty⟩, ⟨105, kd, 0, ByteArray.empty⟩] : List PartR)
  | _, _, _ => True
theorem FctRowA_moved (s : ByteArray) (ac kd : Int) (B1 h1 : Nat) (j : Nat) (v : Value) (w w' : World) (h : FctRowA s ac kd B1 h1 j v w) (hb : Below w.heap.size w w') : FctRowA s ac kd B1 h1 j v w' := by
  match j with
  | 7 => obtain ⟨B, h1, h2⟩ := h; exact ⟨B, h1, (hb.block _ (heap_lt h2)).trans h2⟩
  | 8 => obtain ⟨g, cap, h1, h2⟩ := h; exact ⟨g, cap, h1, h2.moved hb⟩
  | 0 | 1 | 2 | 3 | 4 | 5 | 6 | _ + 9 => exact h
def FctRowE (s : ByteArray) (tm id : Int) (B1 h1 : Nat) : Nat → Value → World → Prop
  | 0, v, w => v = .slice (some ⟨B1, 0, none⟩) 1 1
  | 1, v, w => v = .pointer (some ⟨h1, 6, none⟩)
  | 2, v, w => v = .int .u64 tm
  | 3, v, w => v = (.agg #[.int .u8 117, .int .i64 0, .int .u64 tm, .string ByteArray.empty])
  | 4, v, w => v = .pointer (some ⟨h1, 2, none⟩)
  | 5, v, w => v = .int .u64 id
  | 6, v, w => v = (.agg #[.int .u8 117, .int .i64 0, .int .u64 id, .string ByteArray.empty])
  | 7, v, w => ∃ B, v = .slice (some ⟨B, 0, none⟩) 2 2 ∧ w.heap[B]? = some (.cells #[.int .u8 117, .int .i64 0, .int .u64 tm, .string ByteArray.empty, .int .u8 117, .int .i64 0, .int .u64 id, .string ByteArray.empty] 48 (0, 0))
  | 8, v, w => ∃ g cap, v = .slice (some ⟨g, 0, none⟩) 3 cap ∧ RowsAt w (some ⟨g, 0, none⟩) 4 PartR.row ([⟨116, 0, 0, s⟩, ⟨117, 0, tm, ByteArray.empty⟩, ⟨117, 0, id, ByteArray.empty⟩] : List PartR)
  | _, _, _ => True
theorem FctRowE_moved (s : ByteArray) (tm id : Int) (B1 h1 : Nat) (j : Nat) (v : Value) (w w' : World) (h : FctRowE s tm id B1 h1 j v w) (hb : Below w.heap.size w w') : FctRowE s tm id B1 h1 j v w' := by
  match j with
  | 7 => obtain ⟨B, h1, h2⟩ := h; exact ⟨B, h1, (hb.block _ (heap_lt h2)).trans h2⟩
  | 8 => obtain ⟨g, cap, h1, h2⟩ := h; exact ⟨g, cap, h1, h2.moved hb⟩
  | 0 | 1 | 2 | 3 | 4 | 5 | 6 | _ + 9 => exact h
def FctRowB (s : ByteArray) (kd pr rk id ps : Int) (B1 h1 hp4 : Nat) : Nat → Value → World → Prop
  | 0, v, w => v = .slice (some ⟨B1, 0, none⟩) 1 1
  | 1, v, w => v = .pointer (some ⟨h1, 3, none⟩)
  | 2, v, w => v = .int .i64 kd
  | 3, v, w => v = (.agg #[.int .u8 105, .int .i64 kd, .int .u64 0, .string ByteArray.empty])
  | 4, v, w => v = (.agg #[.int .u8 ps, .int .i64 pr, .int .u64 0, .string ByteArray.empty])
  | 5, v, w => v = .pointer (some ⟨h1, 5, none⟩)
  | 6, v, w => v = .int .u64 rk
  | 7, v, w => v = (.agg #[.int .u8 117, .int .i64 0, .int .u64 rk, .string ByteArray.empty])
  | 8, v, w => v = .pointer (some ⟨h1, 2, none⟩)
  | 9, v, w => v = .int .u64 id
  | 10, v, w => v = (.agg #[.int .u8 117, .int .i64 0, .int .u64 id, .string ByteArray.empty])
  | 11, v, w => ∃ B, v = .slice (some ⟨B, 0, none⟩) 4 4 ∧ w.heap[B]? = some (.cells #[.int .u8 105, .int .i64 kd, .int .u64 0, .string ByteArray.empty, .int .u8 ps, .int .i64 pr, .int .u64 0, .string ByteArray.empty, .int .u8 117, .int .i64 0, .int .u64 rk, .string ByteArray.empty, .int .u8 117, .int .i64 0, .int .u64 id, .string ByteArray.empty] 48 (0, 0))
  | 12, v, w => ∃ g cap, v = .slice (some ⟨g, 0, none⟩) 5 cap ∧ RowsAt w (some ⟨g, 0, none⟩) 4 PartR.row ([⟨116, 0, 0, s⟩, ⟨105, kd, 0, ByteArray.empty⟩, ⟨ps, pr, 0, ByteArray.empty⟩, ⟨117, 0, rk, ByteArray.empty⟩, ⟨117, 0, id, ByteArray.empty⟩] : List PartR)
  | _, _, _ => True
theorem FctRowB_moved (s : ByteArray) (kd pr rk id ps : Int) (B1 h1 hp4 : Nat) (j : Nat) (v : Value) (w w' : World) (h : FctRowB s kd pr rk id ps B1 h1 hp4 j v w) (hb : Below w.heap.size w w') : FctRowB s kd pr rk id ps B1 h1 hp4 j v w' := by
  match j with
  | 11 => obtain ⟨B, h1, h2⟩ := h; exact ⟨B, h1, (hb.block _ (heap_lt h2)).trans h2⟩
  | 12 => obtain ⟨g, cap, h1, h2⟩ := h; exact ⟨g, cap, h1, h2.moved hb⟩
  | 0 | 1 | 2 | 3 | 4 | 5 | 6 | 7 | 8 | 9 | 10 | _ + 13 => exact h
set_option maxRecDepth 100000 in
set_option maxHeartbeats 8000000 in
theorem row_a (ac id kd pr rk tm : Int) (s nm : ByteArray) (w : World) (hs : s = ⟨#[97]⟩) :
    Calls Tryd.prog 29 #[.agg (cellsT s ac id kd pr rk tm nm)] w fun e w' => ∃ A c, e = .returned (.slice A (rowR ⟨s, ac, id, kd, pr, rk, tm, nm⟩).length c) ∧ RowsAt w' A 4 PartR.row (rowR ⟨s, ac, id, kd, pr, rk, tm, nm⟩) ∧ Below w.heap.size w w' := by
  have hrow : rowR ⟨s, ac, id, kd, pr, rk, tm, nm⟩ = [⟨116, 0, 0, s⟩, ⟨117, 0, ac, ByteArray.empty⟩, ⟨105, kd, 0, ByteArray.empty⟩] := by simp [rowR, hs, placeL] <;> rfl
  have HT : Hid (∀ s wx, Calls Tryd.prog 17 #[.string s] wx fun e w' => e = .returned (.agg (cells4 116 0 0 s)) ∧ Below wx.heap.size wx w') := Lib.hid ref_text
  have hk0 := heap_alloc_new w (.cells (cellsT s ac id kd pr rk tm nm) 35)
  obtain ⟨j0, j1, j2, j3, j4, j5, j6, j7⟩ := cellsT_of hk0
  have HK0 := Lib.hid hk0
  clear hk0
  obtain ⟨x97, y97⟩ := lit_bb (l := [97]) hs
  clear hs
  go_enter Tryd.func29, Tryd.ntmps29
  · go_upto_region 4 with (go_at_call 17; (with_reducible refine (HT.out _ _).mono ?_); rintro e w2 ⟨rfl, hB2⟩; have HK2 := Lib.hid ((hB2.block _ (heap_lt HK0.out)).trans HK0.out); have hk9 := (Below.heap_alloc w2 (.cells #[.int .u8 116, .int .i64 0, .int .u64 0, .string s] 48) _ (heap_lt HK2.out)).trans HK2.out; have m0 := (cellsT_of hk9).1; clear hk9; have HBB := Lib.hid (below_at ((Below.refl w.heap.size w).alloc (Nat.le_refl _) _) hB2))
    have hW3 : Below w.heap.size w (w2.alloc (.cells (cells4 116 0 0 s) 48)) := HBB.out.alloc HBB.out.size _
    have hk3 : (w2.alloc (.cells (cells4 116 0 0 s) 48)).heap[w.heap.size]? = _ := (Below.heap_alloc _ _ _ (heap_lt HK2.out)).trans HK2.out
    have hl3 := heap_alloc_new w2 (.cells (cells4 116 0 0 s) 48)
    clear m0
    generalize w2.alloc (.cells #[.int .u8 116, .int .i64 0, .int .u64 0, .string s] 48) = w3 at hW3 hk3 hl3 ⊢
    generalize w2.heap.size = B1 at hl3 ⊢
    obtain ⟨h1, hh1⟩ : ∃ h, h = w.heap.size := ⟨_, rfl⟩
    rw [← hh1] at hk3 ⊢
    obtain ⟨k0, k1, k2, k3, k4, k5, k6, k7⟩ := cellsT_of hk3
    have HL : Hid (RowsAt w3 (some ⟨B1, 0, none⟩) 4 PartR.row [⟨116, 0, 0, s⟩]) := Lib.hid (rows_block (fun _ => rfl) hl3 rfl)
    clear hh1
    clear HT HK0 HK2 HBB hl3 hk3 j0 j1 j2 j3 j4 j5 j6 j7
    refine wp_region_par 9 [13, 14, 15, 16, 17, 18, 19, 20, 21] [] (FctRowA s ac kd B1 h1) (by kernel_rfl) (by kernel_rfl) (FctRowA_moved _ _ _ _ _) ?step ?tail
    case step =>
      intro i hi o ho us wx hus hB hdep K hK
      obtain ⟨u0, u1, u2, u3, u4, u5, u6, u7, u8, rfl⟩ := len9 us hus
      obtain rfl | rfl | rfl | rfl | rfl | rfl | rfl | rfl | rfl : i = 0 ∨ i = 1 ∨ i = 2 ∨ i = 3 ∨ i = 4 ∨ i = 5 ∨ i = 6 ∨ i = 7 ∨ i = 8 := by omega
      all_goals (simp only [List.getElem?_toArray, List.getElem?_cons_succ, List.getElem?_cons_zero, Option.some.injEq] at ho; subst ho; clear hi hus)
      all_goals (generalize hA : puts _ _ _ = A at hK ⊢)
      · have A3 : A.tmps[3]?.getD undef = .slice (some ⟨B1, 0, none⟩) 1 1 := by rw [← hA]; kernel_rfl
        go_wp2
        exact hK _ _ _ rfl rfl (Below.refl _ _) (fun h => absurd h (by decide))
      · have A1 : A.tmps[1]?.getD undef = .pointer (some ⟨h1, 0, none⟩) := by rw [← hA]; kernel_rfl
        go_wp2
        exact hK _ _ _ rfl rfl (Below.refl _ _) (fun h => absurd h (by decide))
      · have q1 : u1 = .pointer (some ⟨h1, 1, none⟩) := hdep 1 (by decide)
        have A14 : A.tmps[14]?.getD undef = u1 := by rw [← hA]; kernel_rfl
        rw [q1] at A14
        have e0 := (hB.cell (p := ⟨h1, 1, none⟩) (cell_lt k1)).trans k1
        go_wp2
        exact hK _ _ _ rfl rfl (Below.refl _ _) (fun h => absurd h (by decide))
      · have q2 : u2 = .int .u64 ac := hdep 2 (by decide)
        have A15 : A.tmps[15]?.getD undef = u2 := by rw [← hA]; kernel_rfl
        rw [q2] at A15
        go_wp2_with (go_at_call 39; (with_reducible refine (ref_count _ _).mono ?_); rintro e wy ⟨rfl, hBy⟩)
        exact hK _ _ _ rfl rfl hBy (fun h => absurd h (by decide))
      · have A1 : A.tmps[1]?.getD undef = .pointer (some ⟨h1, 0, none⟩) := by rw [← hA]; kernel_rfl
        go_wp2
        exact hK _ _ _ rfl rfl (Below.refl _ _) (fun h => absurd h (by decide))
      · have q4 : u4 = .pointer (some ⟨h1, 3, none⟩) := hdep 4 (by decide)
        have A17 : A.tmps[17]?.getD undef = u4 := by rw [← hA]; kernel_rfl
        rw [q4] at A17
        have e0 := (hB.cell (p := ⟨h1, 3, none⟩) (cell_lt k3)).trans k3
        go_wp2
        exact hK _ _ _ rfl rfl (Below.refl _ _) (fun h => absurd h (by decide))
      · have q5 : u5 = .int .i64 kd := hdep 5 (by decide)
        have A18 : A.tmps[18]?.getD undef = u5 := by rw [← hA]; kernel_rfl
        rw [q5] at A18
        go_wp2_with (go_at_call 40; (with_reducible refine (ref_up _ _).mono ?_); rintro e wy ⟨rfl, hBy⟩)
        exact hK _ _ _ rfl rfl hBy (fun h => absurd h (by decide))
      · have q3 : u3 = (.agg #[.int .u8 117, .int .i64 0, .int .u64 ac, .string ByteArray.empty]) := hdep 3 (by decide)
        have A16 : A.tmps[16]?.getD undef = u3 := by rw [← hA]; kernel_rfl
        rw [q3] at A16
        have q6 : u6 = (.agg #[.int .u8 105, .int .i64 kd, .int .u64 0, .string ByteArray.empty]) := hdep 6 (by decide)
        have A19 : A.tmps[19]?.getD undef = u6 := by rw [← hA]; kernel_rfl
        rw [q6] at A19
        go_wp2
        exact hK _ _ _ rfl ⟨_, rfl, heap_alloc_new _ _⟩ ((Below.refl _ _).alloc (Nat.le_refl _) _) (fun h => absurd h (by decide))
      · have q0 : u0 = .slice (some ⟨B1, 0, none⟩) 1 1 := hdep 0 (by decide)
        have A13 : A.tmps[13]?.getD undef = u0 := by rw [← hA]; kernel_rfl
        rw [q0] at A13
        obtain ⟨B7, q7, hb7⟩ : ∃ B, u7 = .slice (some ⟨B, 0, none⟩) 2 2 ∧ wx.heap[B]? = some (.cells #[.int .u8 117, .int .i64 0, .int .u64 ac, .string ByteArray.empty, .int .u8 105, .int .i64 kd, .int .u64 0, .string ByteArray.empty] 48 (0, 0)) := hdep 7 (by decide)
        have A20 : A.tmps[20]?.getD undef = u7 := by rw [← hA]; kernel_rfl
        rw [q7] at A20
        refine wp_append_fullN rfl (.tmp 13) (.tmp 20) 50 rfl wx 48 Tryd.underlying50 (.agg (cells4 0 0 0 ByteArray.empty)) 4 40 info_rpart3 rfl (by decide) (by decide) PartR.row [⟨116, 0, 0, s⟩] B1 0 (by simpa [Act.eval] using A13) [⟨117, 0, ac, ByteArray.empty⟩, ⟨105, kd, 0, ByteArray.empty⟩] (by simp) B7 (by simpa [Act.eval] using A20) (fun _ => rfl) PartR.one #[.int .u8 117, .int .i64 0, .int .u64 ac, .string ByteArray.empty, .int .u8 105, .int .i64 kd, .int .u64 0, .string ByteArray.empty] rfl (by simp) (HL.out.moved hB) hb7 ?_
        intro g cap w7 hr7 hB7
        exact hK _ _ _ rfl ⟨g, cap, rfl, hr7⟩ hB7 (fun h => absurd h (by decide))
    case tail =>
      intro us wx hus hB hf hne
      obtain ⟨u0, u1, u2, u3, u4, u5, u6, u7, u8, rfl⟩ := len9 us hus
      obtain ⟨g, cap, q, hr⟩ : ∃ g cap, u8 = .slice (some ⟨g, 0, none⟩) 3 cap ∧ RowsAt wx (some ⟨g, 0, none⟩) 4 PartR.row ([⟨116, 0, 0, s⟩, ⟨117, 0, ac, ByteArray.empty⟩, ⟨105, kd, 0, ByteArray.empty⟩] : List PartR) := hf 8 (by decide)
      subst q
      have HRR := Lib.hid hr
      have HBW := Lib.hid (hW3.trans (hB.mono hW3.size))
      clear hf hne hus hB hr
      simp only [puts, Act.put, List.setIfInBounds_toArray, List.set_cons_succ, List.set_cons_zero, List.drop_succ_cons, List.drop_zero]
      go_wp2
      go_ret
      exact ⟨_, _, by rw [hrow]; rfl, by rw [hrow]; exact HRR.out, HBW.out⟩
set_option maxRecDepth 100000 in
set_option maxHeartbeats 8000000 in
theorem row_e (ac id kd pr rk tm : Int) (s nm : ByteArray) (w : World) (hs : s = ⟨#[101]⟩) :
    Calls Tryd.prog 29 #[.agg (cellsT s ac id kd pr rk tm nm)] w fun e w' => ∃ A c, e = .returned (.slice A (rowR ⟨s, ac, id, kd, pr, rk, tm, nm⟩).length c) ∧ RowsAt w' A 4 PartR.row (rowR ⟨s, ac, id, kd, pr, rk, tm, nm⟩) ∧ Below w.heap.size w w' := by
  have hrow : rowR ⟨s, ac, id, kd, pr, rk, tm, nm⟩ = [⟨116, 0, 0, s⟩, ⟨117, 0, tm, ByteArray.empty⟩, ⟨117, 0, id, ByteArray.empty⟩] := by simp [rowR, hs, placeL, ne_s] <;> rfl
  have HT : Hid (∀ s wx, Calls Tryd.prog 17 #[.string s] wx fun e w' => e = .returned (.agg (cells4 116 0 0 s)) ∧ Below wx.heap.size wx w') := Lib.hid ref_text
  have hk0 := heap_alloc_new w (.cells (cellsT s ac id kd pr rk tm nm) 35)
  obtain ⟨j0, j1, j2, j3, j4, j5, j6, j7⟩ := cellsT_of hk0
  have HK0 := Lib.hid hk0
  clear hk0
  obtain ⟨x97, y97⟩ := nlit_bb (l := [97]) (s := s) (by rw [hs]; exact ne_s (by decide))
  obtain ⟨x111, y111⟩ := nlit_bb (l := [111]) (s := s) (by rw [hs]; exact ne_s (by decide))
  obtain ⟨x98, y98⟩ := nlit_bb (l := [98]) (s := s) (by rw [hs]; exact ne_s (by decide))
  obtain ⟨x101, y101⟩ := lit_bb (l := [101]) hs
  clear hs
  go_enter Tryd.func29, Tryd.ntmps29
  · go_upto_region 13 with (go_at_call 17; (with_reducible refine (HT.out _ _).mono ?_); rintro e w2 ⟨rfl, hB2⟩; have HK2 := Lib.hid ((hB2.block _ (heap_lt HK0.out)).trans HK0.out); have hk9 := (Below.heap_alloc w2 (.cells #[.int .u8 116, .int .i64 0, .int .u64 0, .string s] 48) _ (heap_lt HK2.out)).trans HK2.out; have m0 := (cellsT_of hk9).1; clear hk9; have HBB := Lib.hid (below_at ((Below.refl w.heap.size w).alloc (Nat.le_refl _) _) hB2))
    have hW3 : Below w.heap.size w (w2.alloc (.cells (cells4 116 0 0 s) 48)) := HBB.out.alloc HBB.out.size _
    have hk3 : (w2.alloc (.cells (cells4 116 0 0 s) 48)).heap[w.heap.size]? = _ := (Below.heap_alloc _ _ _ (heap_lt HK2.out)).trans HK2.out
    have hl3 := heap_alloc_new w2 (.cells (cells4 116 0 0 s) 48)
    clear m0
    generalize w2.alloc (.cells #[.int .u8 116, .int .i64 0, .int .u64 0, .string s] 48) = w3 at hW3 hk3 hl3 ⊢
    generalize w2.heap.size = B1 at hl3 ⊢
    obtain ⟨h1, hh1⟩ : ∃ h, h = w.heap.size := ⟨_, rfl⟩
    rw [← hh1] at hk3 ⊢
    obtain ⟨k0, k1, k2, k3, k4, k5, k6, k7⟩ := cellsT_of hk3
    have HL : Hid (RowsAt w3 (some ⟨B1, 0, none⟩) 4 PartR.row [⟨116, 0, 0, s⟩]) := Lib.hid (rows_block (fun _ => rfl) hl3 rfl)
    clear hh1
    clear HT HK0 HK2 HBB hl3 hk3 j0 j1 j2 j3 j4 j5 j6 j7
    refine wp_region_par 9 [56, 57, 58, 59, 60, 61, 62, 63, 64] [] (FctRowE s tm id B1 h1) (by kernel_rfl) (by kernel_rfl) (FctRowE_moved _ _ _ _ _) ?step ?tail
    case step =>
      intro i hi o ho us wx hus hB hdep K hK
      obtain ⟨u0, u1, u2, u3, u4, u5, u6, u7, u8, rfl⟩ := len9 us hus
      obtain rfl | rfl | rfl | rfl | rfl | rfl | rfl | rfl | rfl : i = 0 ∨ i = 1 ∨ i = 2 ∨ i = 3 ∨ i = 4 ∨ i = 5 ∨ i = 6 ∨ i = 7 ∨ i = 8 := by omega
      all_goals (simp only [List.getElem?_toArray, List.getElem?_cons_succ, List.getElem?_cons_zero, Option.some.injEq] at ho; subst ho; clear hi hus)
      all_goals (generalize hA : puts _ _ _ = A at hK ⊢)
      · have A3 : A.tmps[3]?.getD undef = .slice (some ⟨B1, 0, none⟩) 1 1 := by rw [← hA]; kernel_rfl
        go_wp2
        exact hK _ _ _ rfl rfl (Below.refl _ _) (fun h => absurd h (by decide))
      · have A1 : A.tmps[1]?.getD undef = .pointer (some ⟨h1, 0, none⟩) := by rw [← hA]; kernel_rfl
        go_wp2
        exact hK _ _ _ rfl rfl (Below.refl _ _) (fun h => absurd h (by decide))
      · have q1 : u1 = .pointer (some ⟨h1, 6, none⟩) := hdep 1 (by decide)
        have A57 : A.tmps[57]?.getD undef = u1 := by rw [← hA]; kernel_rfl
        rw [q1] at A57
        have e0 := (hB.cell (p := ⟨h1, 6, none⟩) (cell_lt k6)).trans k6
        go_wp2
        exact hK _ _ _ rfl rfl (Below.refl _ _) (fun h => absurd h (by decide))
      · have q2 : u2 = .int .u64 tm := hdep 2 (by decide)
        have A58 : A.tmps[58]?.getD undef = u2 := by rw [← hA]; kernel_rfl
        rw [q2] at A58
        go_wp2_with (go_at_call 39; (with_reducible refine (ref_count _ _).mono ?_); rintro e wy ⟨rfl, hBy⟩)
        exact hK _ _ _ rfl rfl hBy (fun h => absurd h (by decide))
      · have A1 : A.tmps[1]?.getD undef = .pointer (some ⟨h1, 0, none⟩) := by rw [← hA]; kernel_rfl
        go_wp2
        exact hK _ _ _ rfl rfl (Below.refl _ _) (fun h => absurd h (by decide))
      · have q4 : u4 = .pointer (some ⟨h1, 2, none⟩) := hdep 4 (by decide)
        have A60 : A.tmps[60]?.getD undef = u4 := by rw [← hA]; kernel_rfl
        rw [q4] at A60
        have e0 := (hB.cell (p := ⟨h1, 2, none⟩) (cell_lt k2)).trans k2
        go_wp2
        exact hK _ _ _ rfl rfl (Below.refl _ _) (fun h => absurd h (by decide))
      · have q5 : u5 = .int .u64 id := hdep 5 (by decide)
        have A61 : A.tmps[61]?.getD undef = u5 := by rw [← hA]; kernel_rfl
        rw [q5] at A61
        go_wp2_with (go_at_call 39; (with_reducible refine (ref_count _ _).mono ?_); rintro e wy ⟨rfl, hBy⟩)
        exact hK _ _ _ rfl rfl hBy (fun h => absurd h (by decide))
      · have q3 : u3 = (.agg #[.int .u8 117, .int .i64 0, .int .u64 tm, .string ByteArray.empty]) := hdep 3 (by decide)
        have A59 : A.tmps[59]?.getD undef = u3 := by rw [← hA]; kernel_rfl
        rw [q3] at A59
        have q6 : u6 = (.agg #[.int .u8 117, .int .i64 0, .int .u64 id, .string ByteArray.empty]) := hdep 6 (by decide)
        have A62 : A.tmps[62]?.getD undef = u6 := by rw [← hA]; kernel_rfl
        rw [q6] at A62
        go_wp2
        exact hK _ _ _ rfl ⟨_, rfl, heap_alloc_new _ _⟩ ((Below.refl _ _).alloc (Nat.le_refl _) _) (fun h => absurd h (by decide))
      · have q0 : u0 = .slice (some ⟨B1, 0, none⟩) 1 1 := hdep 0 (by decide)
        have A56 : A.tmps[56]?.getD undef = u0 := by rw [← hA]; kernel_rfl
        rw [q0] at A56
        obtain ⟨B7, q7, hb7⟩ : ∃ B, u7 = .slice (some ⟨B, 0, none⟩) 2 2 ∧ wx.heap[B]? = some (.cells #[.int .u8 117, .int .i64 0, .int .u64 tm, .string ByteArray.empty, .int .u8 117, .int .i64 0, .int .u64 id, .string ByteArray.empty] 48 (0, 0)) := hdep 7 (by decide)
        have A63 : A.tmps[63]?.getD undef = u7 := by rw [← hA]; kernel_rfl
        rw [q7] at A63
        refine wp_append_fullN rfl (.tmp 56) (.tmp 63) 50 rfl wx 48 Tryd.underlying50 (.agg (cells4 0 0 0 ByteArray.empty)) 4 40 info_rpart3 rfl (by decide) (by decide) PartR.row [⟨116, 0, 0, s⟩] B1 0 (by simpa [Act.eval] using A56) [⟨117, 0, tm, ByteArray.empty⟩, ⟨117, 0, id, ByteArray.empty⟩] (by simp) B7 (by simpa [Act.eval] using A63) (fun _ => rfl) PartR.one #[.int .u8 117, .int .i64 0, .int .u64 tm, .string ByteArray.empty, .int .u8 117, .int .i64 0, .int .u64 id, .string ByteArray.empty] rfl (by simp) (HL.out.moved hB) hb7 ?_
        intro g cap w7 hr7 hB7
        exact hK _ _ _ rfl ⟨g, cap, rfl, hr7⟩ hB7 (fun h => absurd h (by decide))
    case tail =>
      intro us wx hus hB hf hne
      obtain ⟨u0, u1, u2, u3, u4, u5, u6, u7, u8, rfl⟩ := len9 us hus
      obtain ⟨g, cap, q, hr⟩ : ∃ g cap, u8 = .slice (some ⟨g, 0, none⟩) 3 cap ∧ RowsAt wx (some ⟨g, 0, none⟩) 4 PartR.row ([⟨116, 0, 0, s⟩, ⟨117, 0, tm, ByteArray.empty⟩, ⟨117, 0, id, ByteArray.empty⟩] : List PartR) := hf 8 (by decide)
      subst q
      have HRR := Lib.hid hr
      have HBW := Lib.hid (hW3.trans (hB.mono hW3.size))
      clear hf hne hus hB hr
      simp only [puts, Act.put, List.setIfInBounds_toArray, List.set_cons_succ, List.set_cons_zero, List.drop_succ_cons, List.drop_zero]
      go_wp2
      go_ret
      exact ⟨_, _, by rw [hrow]; rfl, by rw [hrow]; exact HRR.out, HBW.out⟩
set_option maxRecDepth 100000 in
set_option maxHeartbeats 8000000 in
theorem row_o (ac id kd pr rk tm : Int) (s nm : ByteArray) (w : World) (hs : s = ⟨#[111]⟩) :
    Calls Tryd.prog 29 #[.agg (cellsT s ac id kd pr rk tm nm)] w fun e w' => ∃ A c, e = .returned (.slice A (rowR ⟨s, ac, id, kd, pr, rk, tm, nm⟩).length c) ∧ RowsAt w' A 4 PartR.row (rowR ⟨s, ac, id, kd, pr, rk, tm, nm⟩) ∧ Below w.heap.size w w' := by
  have hrow : rowR ⟨s, ac, id, kd, pr, rk, tm, nm⟩ = [⟨116, 0, 0, s⟩, ⟨117, 0, id, ByteArray.empty⟩] := by simp [rowR, hs, placeL, ne_s] <;> rfl
  have HT : Hid (∀ s wx, Calls Tryd.prog 17 #[.string s] wx fun e w' => e = .returned (.agg (cells4 116 0 0 s)) ∧ Below wx.heap.size wx w') := Lib.hid ref_text
  have hk0 := heap_alloc_new w (.cells (cellsT s ac id kd pr rk tm nm) 35)
  obtain ⟨j0, j1, j2, j3, j4, j5, j6, j7⟩ := cellsT_of hk0
  have HK0 := Lib.hid hk0
  clear hk0
  obtain ⟨x97, y97⟩ := nlit_bb (l := [97]) (s := s) (by rw [hs]; exact ne_s (by decide))
  obtain ⟨x111, y111⟩ := lit_bb (l := [111]) hs
  clear hs
  go_enter Tryd.func29, Tryd.ntmps29
  · go_upto_region 6 with (go_at_call 17; (with_reducible refine (HT.out _ _).mono ?_); rintro e w2 ⟨rfl, hB2⟩; have HK2 := Lib.hid ((hB2.block _ (heap_lt HK0.out)).trans HK0.out); have hk9 := (Below.heap_alloc w2 (.cells #[.int .u8 116, .int .i64 0, .int .u64 0, .string s] 48) _ (heap_lt HK2.out)).trans HK2.out; have m0 := (cellsT_of hk9).1; clear hk9; have HBB := Lib.hid (below_at ((Below.refl w.heap.size w).alloc (Nat.le_refl _) _) hB2))
    have hW3 : Below w.heap.size w (w2.alloc (.cells (cells4 116 0 0 s) 48)) := HBB.out.alloc HBB.out.size _
    have hk3 : (w2.alloc (.cells (cells4 116 0 0 s) 48)).heap[w.heap.size]? = _ := (Below.heap_alloc _ _ _ (heap_lt HK2.out)).trans HK2.out
    have hl3 := heap_alloc_new w2 (.cells (cells4 116 0 0 s) 48)
    clear m0
    generalize w2.alloc (.cells #[.int .u8 116, .int .i64 0, .int .u64 0, .string s] 48) = w3 at hW3 hk3 hl3 ⊢
    generalize w2.heap.size = B1 at hl3 ⊢
    obtain ⟨h1, hh1⟩ : ∃ h, h = w.heap.size := ⟨_, rfl⟩
    rw [← hh1] at hk3 ⊢
    obtain ⟨k0, k1, k2, k3, k4, k5, k6, k7⟩ := cellsT_of hk3
    have HL : Hid (RowsAt w3 (some ⟨B1, 0, none⟩) 4 PartR.row [⟨116, 0, 0, s⟩]) := Lib.hid (rows_block (fun _ => rfl) hl3 rfl)
    clear hh1
    clear HT HK0 HK2 HBB hl3 hk3 j0 j1 j2 j3 j4 j5 j6 j7
    have hB0 : Below w3.heap.size w3 w3 := Below.refl _ _
    go_wp2_with (first | (go_at_call 39; (with_reducible refine (ref_count _ _).mono ?_); rintro e wy ⟨rfl, hBy⟩) | (at_builtin; refine wp_append_fullN rfl (.tmp 24) (.tmp 28) 50 rfl _ 48 Tryd.underlying50 (.agg (cells4 0 0 0 ByteArray.empty)) 4 40 info_rpart3 rfl (by decide) (by decide) PartR.row [⟨116, 0, 0, s⟩] B1 0 rfl [⟨117, 0, id, ByteArray.empty⟩] (by simp) wy.heap.size rfl (fun _ => rfl) PartR.one #[.int .u8 117, .int .i64 0, .int .u64 id, .string ByteArray.empty] rfl (by simp) (HL.out.moved (hBy.trans ((Below.refl _ _).alloc hBy.size _))) (heap_alloc_new _ _) ?_; intro g cap w7 hr7 hB7; have HRR := Lib.hid hr7; have HBW := Lib.hid (hW3.trans (((hBy.alloc hBy.size _).trans (hB7.mono (by have := hBy.size; simp; omega))).mono hW3.size)); clear hr7))
    go_ret
    exact ⟨_, _, by rw [hrow]; rfl, by rw [hrow]; exact HRR.out, HBW.out⟩
set_option maxRecDepth 100000 in
set_option maxHeartbeats 8000000 in
theorem row_n (ac id kd pr rk tm : Int) (s nm : ByteArray) (w : World) (hs : s = ⟨#[110]⟩) :
    Calls Tryd.prog 29 #[.agg (cellsT s ac id kd pr rk tm nm)] w fun e w' => ∃ A c, e = .returned (.slice A (rowR ⟨s, ac, id, kd, pr, rk, tm, nm⟩).length c) ∧ RowsAt w' A 4 PartR.row (rowR ⟨s, ac, id, kd, pr, rk, tm, nm⟩) ∧ Below w.heap.size w w' := by
  have hrow : rowR ⟨s, ac, id, kd, pr, rk, tm, nm⟩ = [⟨116, 0, 0, s⟩, ⟨116, 0, 0, nm⟩] := by simp [rowR, hs, placeL, ne_s] <;> rfl
  have HT : Hid (∀ s wx, Calls Tryd.prog 17 #[.string s] wx fun e w' => e = .returned (.agg (cells4 116 0 0 s)) ∧ Below wx.heap.size wx w') := Lib.hid ref_text
  have hk0 := heap_alloc_new w (.cells (cellsT s ac id kd pr rk tm nm) 35)
  obtain ⟨j0, j1, j2, j3, j4, j5, j6, j7⟩ := cellsT_of hk0
  have HK0 := Lib.hid hk0
  clear hk0
  obtain ⟨x97, y97⟩ := nlit_bb (l := [97]) (s := s) (by rw [hs]; exact ne_s (by decide))
  obtain ⟨x111, y111⟩ := nlit_bb (l := [111]) (s := s) (by rw [hs]; exact ne_s (by decide))
  obtain ⟨x98, y98⟩ := nlit_bb (l := [98]) (s := s) (by rw [hs]; exact ne_s (by decide))
  obtain ⟨x101, y101⟩ := nlit_bb (l := [101]) (s := s) (by rw [hs]; exact ne_s (by decide))
  obtain ⟨x110, y110⟩ := lit_bb (l := [110]) hs
  clear hs
  go_enter Tryd.func29, Tryd.ntmps29
  · go_upto_region 15 with (go_at_call 17; (with_reducible refine (HT.out _ _).mono ?_); rintro e w2 ⟨rfl, hB2⟩; have HK2 := Lib.hid ((hB2.block _ (heap_lt HK0.out)).trans HK0.out); have hk9 := (Below.heap_alloc w2 (.cells #[.int .u8 116, .int .i64 0, .int .u64 0, .string s] 48) _ (heap_lt HK2.out)).trans HK2.out; have m0 := (cellsT_of hk9).1; clear hk9; have HBB := Lib.hid (below_at ((Below.refl w.heap.size w).alloc (Nat.le_refl _) _) hB2))
    have hW3 : Below w.heap.size w (w2.alloc (.cells (cells4 116 0 0 s) 48)) := HBB.out.alloc HBB.out.size _
    have hk3 : (w2.alloc (.cells (cells4 116 0 0 s) 48)).heap[w.heap.size]? = _ := (Below.heap_alloc _ _ _ (heap_lt HK2.out)).trans HK2.out
    have hl3 := heap_alloc_new w2 (.cells (cells4 116 0 0 s) 48)
    clear m0
    generalize w2.alloc (.cells #[.int .u8 116, .int .i64 0, .int .u64 0, .string s] 48) = w3 at hW3 hk3 hl3 ⊢
    generalize w2.heap.size = B1 at hl3 ⊢
    obtain ⟨h1, hh1⟩ : ∃ h, h = w.heap.size := ⟨_, rfl⟩
    rw [← hh1] at hk3 ⊢
    obtain ⟨k0, k1, k2, k3, k4, k5, k6, k7⟩ := cellsT_of hk3
    have HL : Hid (RowsAt w3 (some ⟨B1, 0, none⟩) 4 PartR.row [⟨116, 0, 0, s⟩]) := Lib.hid (rows_block (fun _ => rfl) hl3 rfl)
    clear hh1
    clear HT HK0 HK2 HBB hl3 hk3 j0 j1 j2 j3 j4 j5 j6 j7
    have hB0 : Below w3.heap.size w3 w3 := Below.refl _ _
    go_wp2_with (first | (go_at_call 17; (with_reducible refine (ref_text _ _).mono ?_); rintro e wy ⟨rfl, hBy⟩) | (at_builtin; refine wp_append_fullN rfl (.tmp 67) (.tmp 71) 50 rfl _ 48 Tryd.underlying50 (.agg (cells4 0 0 0 ByteArray.empty)) 4 40 info_rpart3 rfl (by decide) (by decide) PartR.row [⟨116, 0, 0, s⟩] B1 0 rfl [⟨116, 0, 0, nm⟩] (by simp) wy.heap.size rfl (fun _ => rfl) PartR.one #[.int .u8 116, .int .i64 0, .int .u64 0, .string nm] rfl (by simp) (HL.out.moved (hBy.trans ((Below.refl _ _).alloc hBy.size _))) (heap_alloc_new _ _) ?_; intro g cap w7 hr7 hB7; have HRR := Lib.hid hr7; have HBW := Lib.hid (hW3.trans (((hBy.alloc hBy.size _).trans (hB7.mono (by have := hBy.size; simp; omega))).mono hW3.size)); clear hr7))
    go_ret
    exact ⟨_, _, by rw [hrow]; rfl, by rw [hrow]; exact HRR.out, HBW.out⟩
set_option maxRecDepth 100000 in
set_option maxHeartbeats 8000000 in
theorem row_b0 (ac id kd pr rk tm : Int) (s nm : ByteArray) (w : World) (hs : s = ⟨#[98]⟩) (hk : ¬ kd = 1) :
    Calls Tryd.prog 29 #[.agg (cellsT s ac id kd pr rk tm nm)] w fun e w' => ∃ A c, e = .returned (.slice A (rowR ⟨s, ac, id, kd, pr, rk, tm, nm⟩).length c) ∧ RowsAt w' A 4 PartR.row (rowR ⟨s, ac, id, kd, pr, rk, tm, nm⟩) ∧ Below w.heap.size w w' := by
  have hrow : rowR ⟨s, ac, id, kd, pr, rk, tm, nm⟩ = [⟨116, 0, 0, s⟩, ⟨105, kd, 0, ByteArray.empty⟩, ⟨105, pr, 0, ByteArray.empty⟩, ⟨117, 0, rk, ByteArray.empty⟩, ⟨117, 0, id, ByteArray.empty⟩] := by simp [rowR, hs, placeL, ne_s, hk] <;> rfl
  have HT : Hid (∀ s wx, Calls Tryd.prog 17 #[.string s] wx fun e w' => e = .returned (.agg (cells4 116 0 0 s)) ∧ Below wx.heap.size wx w') := Lib.hid ref_text
  have hk0 := heap_alloc_new w (.cells (cellsT s ac id kd pr rk tm nm) 35)
  obtain ⟨j0, j1, j2, j3, j4, j5, j6, j7⟩ := cellsT_of hk0
  have HK0 := Lib.hid hk0
  clear hk0
  obtain ⟨x97, y97⟩ := nlit_bb (l := [97]) (s := s) (by rw [hs]; exact ne_s (by decide))
  obtain ⟨x111, y111⟩ := nlit_bb (l := [111]) (s := s) (by rw [hs]; exact ne_s (by decide))
  obtain ⟨x98, y98⟩ := lit_bb (l := [98]) hs
  clear hs
  obtain ⟨e1, e2⟩ := ne_bb hk
  clear hk
  go_enter Tryd.func29, Tryd.ntmps29
  · go_upto_region 8 with (go_at_call 17; (with_reducible refine (HT.out _ _).mono ?_); rintro e w2 ⟨rfl, hB2⟩; have HK2 := Lib.hid ((hB2.block _ (heap_lt HK0.out)).trans HK0.out); have hk9 := (Below.heap_alloc w2 (.cells #[.int .u8 116, .int .i64 0, .int .u64 0, .string s] 48) _ (heap_lt HK2.out)).trans HK2.out; have m0 := (cellsT_of hk9).1; clear hk9; have HBB := Lib.hid (below_at ((Below.refl w.heap.size w).alloc (Nat.le_refl _) _) hB2))
    have hW3 : Below w.heap.size w (w2.alloc (.cells (cells4 116 0 0 s) 48)) := HBB.out.alloc HBB.out.size _
    have hk3 : (w2.alloc (.cells (cells4 116 0 0 s) 48)).heap[w.heap.size]? = _ := (Below.heap_alloc _ _ _ (heap_lt HK2.out)).trans HK2.out
    have hl3 := heap_alloc_new w2 (.cells (cells4 116 0 0 s) 48)
    clear m0
    generalize w2.alloc (.cells #[.int .u8 116, .int .i64 0, .int .u64 0, .string s] 48) = w3 at hW3 hk3 hl3 ⊢
    generalize w2.heap.size = B1 at hl3 ⊢
    obtain ⟨h1, hh1⟩ : ∃ h, h = w.heap.size := ⟨_, rfl⟩
    rw [← hh1] at hk3 ⊢
    obtain ⟨k0, k1, k2, k3, k4, k5, k6, k7⟩ := cellsT_of hk3
    have HL : Hid (RowsAt w3 (some ⟨B1, 0, none⟩) 4 PartR.row [⟨116, 0, 0, s⟩]) := Lib.hid (rows_block (fun _ => rfl) hl3 rfl)
    clear hh1
    have HK3 := Lib.hid hk3
    clear HT HK0 HK2 HBB hl3 hk3 j0 j1 j2 j3 j4 j5 j6 j7
    go_upto_region 11 with (first | (go_at_call 40; (with_reducible refine (ref_up _ _).mono ?_); rintro e w4 ⟨rfl, hB4⟩; have hB5 : Below w3.heap.size w3 (w4.alloc (.cells (cells4 105 pr 0 ByteArray.empty) 48)) := hB4.alloc hB4.size _; have m3 := cell_stays hB5 k3; have m4 := cell_stays hB5 k4))
    have hBF := hB5
    have hpp := heap_alloc_new w4 (.cells (cells4 105 pr 0 ByteArray.empty) 48)
    generalize w4.alloc (.cells #[.int .u8 105, .int .i64 pr, .int .u64 0, .string ByteArray.empty] 48) = wF at hBF hpp ⊢
    generalize w4.heap.size = hp4 at hpp ⊢
    have hk9 := (hBF.block _ (heap_lt HK3.out)).trans HK3.out
    clear k0 k1 k2 k3 k4 k5 k6 k7 m3 m4 hB4 hB5 HK3
    obtain ⟨k0, k1, k2, k3, k4, k5, k6, k7⟩ := cellsT_of hk9
    have HL9 : Hid (RowsAt wF (some ⟨B1, 0, none⟩) 4 PartR.row [⟨116, 0, 0, s⟩]) := Lib.hid (HL.out.moved hBF)
    have hWF : Below w.heap.size w wF := hW3.trans (hBF.mono hW3.size)
    clear hk9 hBF hW3
    refine wp_region_par 13 [41, 42, 43, 44, 45, 46, 47, 48, 49, 50, 51, 52, 53] [] (FctRowB s kd pr rk id 105 B1 h1 hp4) (by kernel_rfl) (by kernel_rfl) (FctRowB_moved _ _ _ _ _ _ _ _ _) ?step ?tail
    case step =>
      intro i hi o ho us wx hus hB hdep K hK
      obtain ⟨u0, u1, u2, u3, u4, u5, u6, u7, u8, u9, u10, u11, u12, rfl⟩ := len13 us hus
      obtain rfl | rfl | rfl | rfl | rfl | rfl | rfl | rfl | rfl | rfl | rfl | rfl | rfl : i = 0 ∨ i = 1 ∨ i = 2 ∨ i = 3 ∨ i = 4 ∨ i = 5 ∨ i = 6 ∨ i = 7 ∨ i = 8 ∨ i = 9 ∨ i = 10 ∨ i = 11 ∨ i = 12 := by omega
      all_goals (simp only [List.getElem?_toArray, List.getElem?_cons_succ, List.getElem?_cons_zero, Option.some.injEq] at ho; subst ho; clear hi hus)
      all_goals (generalize hA : puts _ _ _ = A at hK ⊢)
      · have A3 : A.tmps[3]?.getD undef = .slice (some ⟨B1, 0, none⟩) 1 1 := by rw [← hA]; kernel_rfl
        go_wp2
        exact hK _ _ _ rfl rfl (Below.refl _ _) (fun h => absurd h (by decide))
      · have A1 : A.tmps[1]?.getD undef = .pointer (some ⟨h1, 0, none⟩) := by rw [← hA]; kernel_rfl
        go_wp2
        exact hK _ _ _ rfl rfl (Below.refl _ _) (fun h => absurd h (by decide))
      · have q1 : u1 = .pointer (some ⟨h1, 3, none⟩) := hdep 1 (by decide)
        have A42 : A.tmps[42]?.getD undef = u1 := by rw [← hA]; kernel_rfl
        rw [q1] at A42
        have e0 := (hB.cell (p := ⟨h1, 3, none⟩) (cell_lt k3)).trans k3
        go_wp2
        exact hK _ _ _ rfl rfl (Below.refl _ _) (fun h => absurd h (by decide))
      · have q2 : u2 = .int .i64 kd := hdep 2 (by decide)
        have A43 : A.tmps[43]?.getD undef = u2 := by rw [← hA]; kernel_rfl
        rw [q2] at A43
        go_wp2_with (go_at_call 40; (with_reducible refine (ref_up _ _).mono ?_); rintro e wy ⟨rfl, hBy⟩)
        exact hK _ _ _ rfl rfl hBy (fun h => absurd h (by decide))
      · have A4 : A.tmps[4]?.getD undef = .pointer (some ⟨hp4, 0, none⟩) := by rw [← hA]; kernel_rfl
        obtain ⟨n0, n1, n2, n3⟩ := cells4_of ((hB.block _ (heap_lt hpp)).trans hpp)
        go_wp2
        exact hK _ _ _ rfl rfl (Below.refl _ _) (fun h => absurd h (by decide))
      · have A1 : A.tmps[1]?.getD undef = .pointer (some ⟨h1, 0, none⟩) := by rw [← hA]; kernel_rfl
        go_wp2
        exact hK _ _ _ rfl rfl (Below.refl _ _) (fun h => absurd h (by decide))
      · have q5 : u5 = .pointer (some ⟨h1, 5, none⟩) := hdep 5 (by decide)
        have A46 : A.tmps[46]?.getD undef = u5 := by rw [← hA]; kernel_rfl
        rw [q5] at A46
        have e0 := (hB.cell (p := ⟨h1, 5, none⟩) (cell_lt k5)).trans k5
        go_wp2
        exact hK _ _ _ rfl rfl (Below.refl _ _) (fun h => absurd h (by decide))
      · have q6 : u6 = .int .u64 rk := hdep 6 (by decide)
        have A47 : A.tmps[47]?.getD undef = u6 := by rw [← hA]; kernel_rfl
        rw [q6] at A47
        go_wp2_with (go_at_call 39; (with_reducible refine (ref_count _ _).mono ?_); rintro e wy ⟨rfl, hBy⟩)
        exact hK _ _ _ rfl rfl hBy (fun h => absurd h (by decide))
      · have A1 : A.tmps[1]?.getD undef = .pointer (some ⟨h1, 0, none⟩) := by rw [← hA]; kernel_rfl
        go_wp2
        exact hK _ _ _ rfl rfl (Below.refl _ _) (fun h => absurd h (by decide))
      · have q8 : u8 = .pointer (some ⟨h1, 2, none⟩) := hdep 8 (by decide)
        have A49 : A.tmps[49]?.getD undef = u8 := by rw [← hA]; kernel_rfl
        rw [q8] at A49
        have e0 := (hB.cell (p := ⟨h1, 2, none⟩) (cell_lt k2)).trans k2
        go_wp2
        exact hK _ _ _ rfl rfl (Below.refl _ _) (fun h => absurd h (by decide))
      · have q9 : u9 = .int .u64 id := hdep 9 (by decide)
        have A50 : A.tmps[50]?.getD undef = u9 := by rw [← hA]; kernel_rfl
        rw [q9] at A50
        go_wp2_with (go_at_call 39; (with_reducible refine (ref_count _ _).mono ?_); rintro e wy ⟨rfl, hBy⟩)
        exact hK _ _ _ rfl rfl hBy (fun h => absurd h (by decide))
      · have q3 : u3 = (.agg #[.int .u8 105, .int .i64 kd, .int .u64 0, .string ByteArray.empty]) := hdep 3 (by decide)
        have A44 : A.tmps[44]?.getD undef = u3 := by rw [← hA]; kernel_rfl
        rw [q3] at A44
        have q4 : u4 = (.agg #[.int .u8 105, .int .i64 pr, .int .u64 0, .string ByteArray.empty]) := hdep 4 (by decide)
        have A45 : A.tmps[45]?.getD undef = u4 := by rw [← hA]; kernel_rfl
        rw [q4] at A45
        have q7 : u7 = (.agg #[.int .u8 117, .int .i64 0, .int .u64 rk, .string ByteArray.empty]) := hdep 7 (by decide)
        have A48 : A.tmps[48]?.getD undef = u7 := by rw [← hA]; kernel_rfl
        rw [q7] at A48
        have q10 : u10 = (.agg #[.int .u8 117, .int .i64 0, .int .u64 id, .string ByteArray.empty]) := hdep 10 (by decide)
        have A51 : A.tmps[51]?.getD undef = u10 := by rw [← hA]; kernel_rfl
        rw [q10] at A51
        go_wp2
        exact hK _ _ _ rfl ⟨_, rfl, heap_alloc_new _ _⟩ ((Below.refl _ _).alloc (Nat.le_refl _) _) (fun h => absurd h (by decide))
      · have q0 : u0 = .slice (some ⟨B1, 0, none⟩) 1 1 := hdep 0 (by decide)
        have A41 : A.tmps[41]?.getD undef = u0 := by rw [← hA]; kernel_rfl
        rw [q0] at A41
        obtain ⟨B11, q11, hb11⟩ : ∃ B, u11 = .slice (some ⟨B, 0, none⟩) 4 4 ∧ wx.heap[B]? = some (.cells #[.int .u8 105, .int .i64 kd, .int .u64 0, .string ByteArray.empty, .int .u8 105, .int .i64 pr, .int .u64 0, .string ByteArray.empty, .int .u8 117, .int .i64 0, .int .u64 rk, .string ByteArray.empty, .int .u8 117, .int .i64 0, .int .u64 id, .string ByteArray.empty] 48 (0, 0)) := hdep 11 (by decide)
        have A52 : A.tmps[52]?.getD undef = u11 := by rw [← hA]; kernel_rfl
        rw [q11] at A52
        refine wp_append_fullN rfl (.tmp 41) (.tmp 52) 50 rfl wx 48 Tryd.underlying50 (.agg (cells4 0 0 0 ByteArray.empty)) 4 40 info_rpart3 rfl (by decide) (by decide) PartR.row [⟨116, 0, 0, s⟩] B1 0 (by simpa [Act.eval] using A41) [⟨105, kd, 0, ByteArray.empty⟩, ⟨105, pr, 0, ByteArray.empty⟩, ⟨117, 0, rk, ByteArray.empty⟩, ⟨117, 0, id, ByteArray.empty⟩] (by simp) B11 (by simpa [Act.eval] using A52) (fun _ => rfl) PartR.one #[.int .u8 105, .int .i64 kd, .int .u64 0, .string ByteArray.empty, .int .u8 105, .int .i64 pr, .int .u64 0, .string ByteArray.empty, .int .u8 117, .int .i64 0, .int .u64 rk, .string ByteArray.empty, .int .u8 117, .int .i64 0, .int .u64 id, .string ByteArray.empty] rfl (by simp) (HL9.out.moved hB) hb11 ?_
        intro g cap w7 hr7 hB7
        exact hK _ _ _ rfl ⟨g, cap, rfl, hr7⟩ hB7 (fun h => absurd h (by decide))
    case tail =>
      intro us wx hus hB hf hne
      obtain ⟨u0, u1, u2, u3, u4, u5, u6, u7, u8, u9, u10, u11, u12, rfl⟩ := len13 us hus
      obtain ⟨g, cap, q, hr⟩ : ∃ g cap, u12 = .slice (some ⟨g, 0, none⟩) 5 cap ∧ RowsAt wx (some ⟨g, 0, none⟩) 4 PartR.row ([⟨116, 0, 0, s⟩, ⟨105, kd, 0, ByteArray.empty⟩, ⟨105, pr, 0, ByteArray.empty⟩, ⟨117, 0, rk, ByteArray.empty⟩, ⟨117, 0, id, ByteArray.empty⟩] : List PartR) := hf 12 (by decide)
      subst q
      have HRR := Lib.hid hr
      have HBW := Lib.hid (hWF.trans (hB.mono hWF.size))
      clear hf hne hus hB hr
      simp only [puts, Act.put, List.setIfInBounds_toArray, List.set_cons_succ, List.set_cons_zero, List.drop_succ_cons, List.drop_zero]
      go_wp2
      go_ret
      exact ⟨_, _, by rw [hrow]; rfl, by rw [hrow]; exact HRR.out, HBW.out⟩
set_option maxRecDepth 100000 in
set_option maxHeartbeats 8000000 in
theorem row_b1 (ac id kd pr rk tm : Int) (s nm : ByteArray) (w : World) (hs : s = ⟨#[98]⟩) (hk : kd = 1) :
    Calls Tryd.prog 29 #[.agg (cellsT s ac id kd pr rk tm nm)] w fun e w' => ∃ A c, e = .returned (.slice A (rowR ⟨s, ac, id, kd, pr, rk, tm, nm⟩).length c) ∧ RowsAt w' A 4 PartR.row (rowR ⟨s, ac, id, kd, pr, rk, tm, nm⟩) ∧ Below w.heap.size w w' := by
  have hrow : rowR ⟨s, ac, id, kd, pr, rk, tm, nm⟩ = [⟨116, 0, 0, s⟩, ⟨105, kd, 0, ByteArray.empty⟩, ⟨100, pr, 0, ByteArray.empty⟩, ⟨117, 0, rk, ByteArray.empty⟩, ⟨117, 0, id, ByteArray.empty⟩] := by simp [rowR, hs, placeL, ne_s, hk] <;> rfl
  have HT : Hid (∀ s wx, Calls Tryd.prog 17 #[.string s] wx fun e w' => e = .returned (.agg (cells4 116 0 0 s)) ∧ Below wx.heap.size wx w') := Lib.hid ref_text
  have hk0 := heap_alloc_new w (.cells (cellsT s ac id kd pr rk tm nm) 35)
  obtain ⟨j0, j1, j2, j3, j4, j5, j6, j7⟩ := cellsT_of hk0
  have HK0 := Lib.hid hk0
  clear hk0
  obtain ⟨x97, y97⟩ := nlit_bb (l := [97]) (s := s) (by rw [hs]; exact ne_s (by decide))
  obtain ⟨x111, y111⟩ := nlit_bb (l := [111]) (s := s) (by rw [hs]; exact ne_s (by decide))
  obtain ⟨x98, y98⟩ := lit_bb (l := [98]) hs
  clear hs
  subst hk
  go_enter Tryd.func29, Tryd.ntmps29
  · go_upto_region 8 with (go_at_call 17; (with_reducible refine (HT.out _ _).mono ?_); rintro e w2 ⟨rfl, hB2⟩; have HK2 := Lib.hid ((hB2.block _ (heap_lt HK0.out)).trans HK0.out); have hk9 := (Below.heap_alloc w2 (.cells #[.int .u8 116, .int .i64 0, .int .u64 0, .string s] 48) _ (heap_lt HK2.out)).trans HK2.out; have m0 := (cellsT_of hk9).1; clear hk9; have HBB := Lib.hid (below_at ((Below.refl w.heap.size w).alloc (Nat.le_refl _) _) hB2))
    have hW3 : Below w.heap.size w (w2.alloc (.cells (cells4 116 0 0 s) 48)) := HBB.out.alloc HBB.out.size _
    have hk3 : (w2.alloc (.cells (cells4 116 0 0 s) 48)).heap[w.heap.size]? = _ := (Below.heap_alloc _ _ _ (heap_lt HK2.out)).trans HK2.out
    have hl3 := heap_alloc_new w2 (.cells (cells4 116 0 0 s) 48)
    clear m0
    generalize w2.alloc (.cells #[.int .u8 116, .int .i64 0, .int .u64 0, .string s] 48) = w3 at hW3 hk3 hl3 ⊢
    generalize w2.heap.size = B1 at hl3 ⊢
    obtain ⟨h1, hh1⟩ : ∃ h, h = w.heap.size := ⟨_, rfl⟩
    rw [← hh1] at hk3 ⊢
    obtain ⟨k0, k1, k2, k3, k4, k5, k6, k7⟩ := cellsT_of hk3
    have HL : Hid (RowsAt w3 (some ⟨B1, 0, none⟩) 4 PartR.row [⟨116, 0, 0, s⟩]) := Lib.hid (rows_block (fun _ => rfl) hl3 rfl)
    clear hh1
    have HK3 := Lib.hid hk3
    clear HT HK0 HK2 HBB hl3 hk3 j0 j1 j2 j3 j4 j5 j6 j7
    go_upto_region 11 with (first | (go_at_call 40; (with_reducible refine (ref_up _ _).mono ?_); rintro e w4 ⟨rfl, hB4⟩; have hB5 : Below w3.heap.size w3 (w4.alloc (.cells (cells4 105 pr 0 ByteArray.empty) 48)) := hB4.alloc hB4.size _; have m3 := cell_stays hB5 k3; have m4 := cell_stays hB5 k4) | (go_at_call 41; (with_reducible refine (ref_down _ _).mono ?_); rintro e w6 ⟨rfl, hB6⟩; have H5 : Hid (w6.heap[w4.heap.size]? = some (.cells (cells4 105 pr 0 ByteArray.empty) 48 (0, 0))) := Lib.hid (by have h := heap_alloc_new w4 (.cells (cells4 105 pr 0 ByteArray.empty) 48); exact (hB6.block _ (heap_lt h)).trans h)) | (with_reducible refine wpList_store_row rfl 48 (.tmp 4) (.tmp 40) rfl w4.heap.size (cells4 100 pr 0 ByteArray.empty) rfl rfl 48 (cells4 105 pr 0 ByteArray.empty) H5.out (info_rc4 _ _ _ _) (size4' _ _ _ _ _ _ _ _) (one4' _ _ _ _) ?_))
    have hBF : Below w3.heap.size w3 (w6.setRow w4.heap.size (cells4 100 pr 0 ByteArray.empty)) := below_setRow' (below_at hB5 hB6) hB4.size _
    have hpp : (w6.setRow w4.heap.size (cells4 100 pr 0 ByteArray.empty)).heap[w4.heap.size]? = some (.cells (cells4 100 pr 0 ByteArray.empty) 48 (0, 0)) := setRow_heap _ _ _ _ _ _ H5.out
    generalize w6.setRow w4.heap.size #[.int .u8 100, .int .i64 pr, .int .u64 0, .string ByteArray.empty] = wF at hBF hpp ⊢
    generalize w4.heap.size = hp4 at hpp ⊢
    have hk9 := (hBF.block _ (heap_lt HK3.out)).trans HK3.out
    clear k0 k1 k2 k3 k4 k5 k6 k7 m3 m4 hB4 hB5 HK3 H5 hB6
    obtain ⟨k0, k1, k2, k3, k4, k5, k6, k7⟩ := cellsT_of hk9
    have HL9 : Hid (RowsAt wF (some ⟨B1, 0, none⟩) 4 PartR.row [⟨116, 0, 0, s⟩]) := Lib.hid (HL.out.moved hBF)
    have hWF : Below w.heap.size w wF := hW3.trans (hBF.mono hW3.size)
    clear hk9 hBF hW3
    refine wp_region_par 13 [41, 42, 43, 44, 45, 46, 47, 48, 49, 50, 51, 52, 53] [] (FctRowB s 1 pr rk id 100 B1 h1 hp4) (by kernel_rfl) (by kernel_rfl) (FctRowB_moved _ _ _ _ _ _ _ _ _) ?step ?tail
    case step =>
      intro i hi o ho us wx hus hB hdep K hK
      obtain ⟨u0, u1, u2, u3, u4, u5, u6, u7, u8, u9, u10, u11, u12, rfl⟩ := len13 us hus
      obtain rfl | rfl | rfl | rfl | rfl | rfl | rfl | rfl | rfl | rfl | rfl | rfl | rfl : i = 0 ∨ i = 1 ∨ i = 2 ∨ i = 3 ∨ i = 4 ∨ i = 5 ∨ i = 6 ∨ i = 7 ∨ i = 8 ∨ i = 9 ∨ i = 10 ∨ i = 11 ∨ i = 12 := by omega
      all_goals (simp only [List.getElem?_toArray, List.getElem?_cons_succ, List.getElem?_cons_zero, Option.some.injEq] at ho; subst ho; clear hi hus)
      all_goals (generalize hA : puts _ _ _ = A at hK ⊢)
      · have A3 : A.tmps[3]?.getD undef = .slice (some ⟨B1, 0, none⟩) 1 1 := by rw [← hA]; kernel_rfl
        go_wp2
        exact hK _ _ _ rfl rfl (Below.refl _ _) (fun h => absurd h (by decide))
      · have A1 : A.tmps[1]?.getD undef = .pointer (some ⟨h1, 0, none⟩) := by rw [← hA]; kernel_rfl
        go_wp2
        exact hK _ _ _ rfl rfl (Below.refl _ _) (fun h => absurd h (by decide))
      · have q1 : u1 = .pointer (some ⟨h1, 3, none⟩) := hdep 1 (by decide)
        have A42 : A.tmps[42]?.getD undef = u1 := by rw [← hA]; kernel_rfl
        rw [q1] at A42
        have e0 := (hB.cell (p := ⟨h1, 3, none⟩) (cell_lt k3)).trans k3
        go_wp2
        exact hK _ _ _ rfl rfl (Below.refl _ _) (fun h => absurd h (by decide))
      · have q2 : u2 = .int .i64 1 := hdep 2 (by decide)
        have A43 : A.tmps[43]?.getD undef = u2 := by rw [← hA]; kernel_rfl
        rw [q2] at A43
        go_wp2_with (go_at_call 40; (with_reducible refine (ref_up _ _).mono ?_); rintro e wy ⟨rfl, hBy⟩)
        exact hK _ _ _ rfl rfl hBy (fun h => absurd h (by decide))
      · have A4 : A.tmps[4]?.getD undef = .pointer (some ⟨hp4, 0, none⟩) := by rw [← hA]; kernel_rfl
        obtain ⟨n0, n1, n2, n3⟩ := cells4_of ((hB.block _ (heap_lt hpp)).trans hpp)
        go_wp2
        exact hK _ _ _ rfl rfl (Below.refl _ _) (fun h => absurd h (by decide))
      · have A1 : A.tmps[1]?.getD undef = .pointer (some ⟨h1, 0, none⟩) := by rw [← hA]; kernel_rfl
        go_wp2
        exact hK _ _ _ rfl rfl (Below.refl _ _) (fun h => absurd h (by decide))
      · have q5 : u5 = .pointer (some ⟨h1, 5, none⟩) := hdep 5 (by decide)
        have A46 : A.tmps[46]?.getD undef = u5 := by rw [← hA]; kernel_rfl
        rw [q5] at A46
        have e0 := (hB.cell (p := ⟨h1, 5, none⟩) (cell_lt k5)).trans k5
        go_wp2
        exact hK _ _ _ rfl rfl (Below.refl _ _) (fun h => absurd h (by decide))
      · have q6 : u6 = .int .u64 rk := hdep 6 (by decide)
        have A47 : A.tmps[47]?.getD undef = u6 := by rw [← hA]; kernel_rfl
        rw [q6] at A47
        go_wp2_with (go_at_call 39; (with_reducible refine (ref_count _ _).mono ?_); rintro e wy ⟨rfl, hBy⟩)
        exact hK _ _ _ rfl rfl hBy (fun h => absurd h (by decide))
      · have A1 : A.tmps[1]?.getD undef = .pointer (some ⟨h1, 0, none⟩) := by rw [← hA]; kernel_rfl
        go_wp2
        exact hK _ _ _ rfl rfl (Below.refl _ _) (fun h => absurd h (by decide))
      · have q8 : u8 = .pointer (some ⟨h1, 2, none⟩) := hdep 8 (by decide)
        have A49 : A.tmps[49]?.getD undef = u8 := by rw [← hA]; kernel_rfl
        rw [q8] at A49
        have e0 := (hB.cell (p := ⟨h1, 2, none⟩) (cell_lt k2)).trans k2
        go_wp2
        exact hK _ _ _ rfl rfl (Below.refl _ _) (fun h => absurd h (by decide))
      · have q9 : u9 = .int .u64 id := hdep 9 (by decide)
        have A50 : A.tmps[50]?.getD undef = u9 := by rw [← hA]; kernel_rfl
        rw [q9] at A50
        go_wp2_with (go_at_call 39; (with_reducible refine (ref_count _ _).mono ?_); rintro e wy ⟨rfl, hBy⟩)
        exact hK _ _ _ rfl rfl hBy (fun h => absurd h (by decide))
      · have q3 : u3 = (.agg #[.int .u8 105, .int .i64 1, .int .u64 0, .string ByteArray.empty]) := hdep 3 (by decide)
        have A44 : A.tmps[44]?.getD undef = u3 := by rw [← hA]; kernel_rfl
        rw [q3] at A44
        have q4 : u4 = (.agg #[.int .u8 100, .int .i64 pr, .int .u64 0, .string ByteArray.empty]) := hdep 4 (by decide)
        have A45 : A.tmps[45]?.getD undef = u4 := by rw [← hA]; kernel_rfl
        rw [q4] at A45
        have q7 : u7 = (.agg #[.int .u8 117, .int .i64 0, .int .u64 rk, .string ByteArray.empty]) := hdep 7 (by decide)
        have A48 : A.tmps[48]?.getD undef = u7 := by rw [← hA]; kernel_rfl
        rw [q7] at A48
        have q10 : u10 = (.agg #[.int .u8 117, .int .i64 0, .int .u64 id, .string ByteArray.empty]) := hdep 10 (by decide)
        have A51 : A.tmps[51]?.getD undef = u10 := by rw [← hA]; kernel_rfl
        rw [q10] at A51
        go_wp2
        exact hK _ _ _ rfl ⟨_, rfl, heap_alloc_new _ _⟩ ((Below.refl _ _).alloc (Nat.le_refl _) _) (fun h => absurd h (by decide))
      · have q0 : u0 = .slice (some ⟨B1, 0, none⟩) 1 1 := hdep 0 (by decide)
        have A41 : A.tmps[41]?.getD undef = u0 := by rw [← hA]; kernel_rfl
        rw [q0] at A41
        obtain ⟨B11, q11, hb11⟩ : ∃ B, u11 = .slice (some ⟨B, 0, none⟩) 4 4 ∧ wx.heap[B]? = some (.cells #[.int .u8 105, .int .i64 1, .int .u64 0, .string ByteArray.empty, .int .u8 100, .int .i64 pr, .int .u64 0, .string ByteArray.empty, .int .u8 117, .int .i64 0, .int .u64 rk, .string ByteArray.empty, .int .u8 117, .int .i64 0, .int .u64 id, .string ByteArray.empty] 48 (0, 0)) := hdep 11 (by decide)
        have A52 : A.tmps[52]?.getD undef = u11 := by rw [← hA]; kernel_rfl
        rw [q11] at A52
        refine wp_append_fullN rfl (.tmp 41) (.tmp 52) 50 rfl wx 48 Tryd.underlying50 (.agg (cells4 0 0 0 ByteArray.empty)) 4 40 info_rpart3 rfl (by decide) (by decide) PartR.row [⟨116, 0, 0, s⟩] B1 0 (by simpa [Act.eval] using A41) [⟨105, 1, 0, ByteArray.empty⟩, ⟨100, pr, 0, ByteArray.empty⟩, ⟨117, 0, rk, ByteArray.empty⟩, ⟨117, 0, id, ByteArray.empty⟩] (by simp) B11 (by simpa [Act.eval] using A52) (fun _ => rfl) PartR.one #[.int .u8 105, .int .i64 1, .int .u64 0, .string ByteArray.empty, .int .u8 100, .int .i64 pr, .int .u64 0, .string ByteArray.empty, .int .u8 117, .int .i64 0, .int .u64 rk, .string ByteArray.empty, .int .u8 117, .int .i64 0, .int .u64 id, .string ByteArray.empty] rfl (by simp) (HL9.out.moved hB) hb11 ?_
        intro g cap w7 hr7 hB7
        exact hK _ _ _ rfl ⟨g, cap, rfl, hr7⟩ hB7 (fun h => absurd h (by decide))
    case tail =>
      intro us wx hus hB hf hne
      obtain ⟨u0, u1, u2, u3, u4, u5, u6, u7, u8, u9, u10, u11, u12, rfl⟩ := len13 us hus
      obtain ⟨g, cap, q, hr⟩ : ∃ g cap, u12 = .slice (some ⟨g, 0, none⟩) 5 cap ∧ RowsAt wx (some ⟨g, 0, none⟩) 4 PartR.row ([⟨116, 0, 0, s⟩, ⟨105, 1, 0, ByteArray.empty⟩, ⟨100, pr, 0, ByteArray.empty⟩, ⟨117, 0, rk, ByteArray.empty⟩, ⟨117, 0, id, ByteArray.empty⟩] : List PartR) := hf 12 (by decide)
      subst q
      have HRR := Lib.hid hr
      have HBW := Lib.hid (hWF.trans (hB.mono hWF.size))
      clear hf hne hus hB hr
      simp only [puts, Act.put, List.setIfInBounds_toArray, List.set_cons_succ, List.set_cons_zero, List.drop_succ_cons, List.drop_zero]
      go_wp2
      go_ret
      exact ⟨_, _, by rw [hrow]; rfl, by rw [hrow]; exact HRR.out, HBW.out⟩
end Go.Proofs.YtafdjgmdkbimoaaDoor
