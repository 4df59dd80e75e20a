/-
  The walk of SkipTowers: whatever the towers' heights, what is told is the same.
-/
import Derived.Test.YtacgpflheokkaaaSkpTwo
namespace Go.Proofs.Ytacgpflheokkaaa
open Go.RowKit Go.Shelf
set_option linter.unusedVariables false
set_option linter.unusedSimpArgs false

set_option maxRecDepth 100000 in
set_option maxHeartbeats 8000000 in
theorem SkipTowers_walk (a0 : Option Addr) (l : List Act7R) (cap0 : Nat) (a1 : Option Addr) (hs : List Int) (cap1 : Nat) (key : ByteArray) (W : World) (w0 : RowsAt W a0 3 Act7R.row l) (g0 : ∀ r ∈ l, r.good) (b0 : l.length ≤ cap0) (m0 : cap0 ≤ maxLen) (w1 : RowsAt W a1 1 intRow hs) (g1 : ∀ n ∈ hs, I64 n) (b1 : hs.length ≤ cap1) (m1 : cap1 ≤ maxLen) (w2 : key.size ≤ 140737488351232) :
    Calls Try.prog 4 #[.slice a0 l.length cap0, .slice a1 hs.length cap1, .string key] W fun e w' => e = .returned (.bool true) ∧ Below W.heap.size W w' := by
  have hlm : l.length ≤ 9223372036854775807 := Nat.le_trans b0 m0
  have hhm : hs.length ≤ 9223372036854775807 := Nat.le_trans b1 m1
  have HR := Lib.hid w0
  have HH := Lib.hid w1
  have HLI : Hid (∀ wx, Below W.heap.size W wx → Calls Try.prog 13 #[.slice a0 l.length cap0, .int .i64 80] wx fun e w' => ∃ b, e = .returned (.bool b) ∧ (b = true ↔ Light7 l) ∧ Below W.heap.size W w') := Lib.hid fun wx h =>
    (law07_light l a0 cap0 wx (w0.moved h) hlm).mono fun _ _ ⟨b, h1, h2, h3⟩ => ⟨b, h1, h2, below_at h h3⟩
  clear w0 w1 g1 b0 m0 b1 m1
  have hW0 := Below.refl W.heap.size W
  go_enter Try.func4, Try.ntmps4
  go_upto_region 3 with (go_at_call 7; refine (awake07 _).mono ?_; rintro e wa ⟨rfl, hBa⟩)
  by_cases hall : Light7 l ∧ hs.length ≤ 100 ∧ key.size ≤ 300
  · obtain ⟨hLt, hh100, hk300⟩ := hall
    have HLT := Lib.hid hLt
    clear hLt
    go_upto_region 5 with (go_at_call 13; (with_reducible refine (HLI.out _ hBa).mono ?_); rintro e wl ⟨lb, rfl, hlb, hBl⟩; obtain rfl : lb = true := hlb.2 HLT.out; clear hlb)
    go_upto_region 6 with (first | (go_at_call 8; (first | (refine (skl_new w3).mono ?_; rintro e w4 ⟨b, Fb, rfl, hSb, hBb, hFb⟩; have HTW : Hid (TwoS W.heap.size w4 a b [] [] ∧ Below W.heap.size W w4) := Lib.hid ⟨TwoS.ofTwo HSA.out.1 HSA.out.2.1 hBb HSA.out.2.2.size hSb hFb, below_at HSA.out.2.2 hBb⟩; clear hSb hBb hFb HSA) | (refine (skl_new _).mono ?_; rintro e w3 ⟨a, Fa, rfl, hSa, hBA, hFa⟩; have HSA : Hid (SkL w3 Fa a [] (fun _ => 0) 0 ∧ (∀ k, Fa k → W.heap.size ≤ k ∧ k < w3.heap.size) ∧ Below W.heap.size W w3) := Lib.hid ⟨hSa, fun k hk => ⟨Nat.le_trans hBl.size (hFa k hk).1, (hFa k hk).2⟩, below_at hBl hBA⟩; clear hSa hBA hFa))))
    clear HLI hBl hBa
    go_wp2
    go_loopw [35] (fun v35 wr => ∃ k : Nat, k ≤ l.length ∧ v35 = .int .i64 (k : Int) ∧ Hid (TwoS W.heap.size wr a b (playP (l.take k)) (playP (l.take k))) ∧ Below W.heap.size W wr) (fun v _ => l.length - (intOf v).toNat)
    case atStart => exact ⟨0, by omega, rfl, Lib.hid HTW.out.1, HTW.out.2⟩
    case round =>
      obtain ⟨k, hk, rfl, HT, hB⟩ := hrel
      clear HTW
      have hwr := hB.size
      by_cases hlt : k < l.length
      · obtain ⟨B, o, rfl, c0, c1, c2⟩ := act_cells (HR.out.moved hB) k hlt
        have HTK := Lib.hid (playP_take l k hlt)
        have HSM := Lib.hid (play_small HLT.out k hk)
        have HSX := Lib.hid (HLT.out l[k] (List.getElem_mem hlt))
        obtain ⟨x, hx⟩ : ∃ x, x = l[k] := ⟨_, rfl⟩
        rw [← hx] at c0 c1 c2 HTK HSX
        clear hx
        obtain ⟨x0, x1, x2⟩ := x
        simp only at c0 c1 c2
        have hk80 : k ≤ 80 := by have := HSX.out.1; omega
        have hbox := Lib.hid (heap_alloc_new wr (.cells #[.string x0, .string x1, .int .i64 x2] 39))
        have PA : Hid (Calls Try.prog 9 #[.pointer (some ⟨a, 0, none⟩), .string x0, .string x1, .int .i64 x2] (wr.alloc (.cells #[.string x0, .string x1, .int .i64 x2] 39)) fun e w' => e = .returned (.int .i64 0) ∧
            TwoS W.heap.size w' b a (playP (l.take k)) (playP (l.take (k + 1))) ∧ Below W.heap.size W w' ∧ w'.heap[wr.heap.size]? = some (.cells #[.string x0, .string x1, .int .i64 x2] 39 (0, 0))) := Lib.hid
          ((two_put_a HT.out hwr ((Below.refl _ _).alloc (Nat.le_refl _) _) x0 x1 x2 HSM.out (by omega) HSX.out.2.1 HSX.out.2.2).mono fun _ _ ⟨h1, h2, h3, h4⟩ => ⟨h1, by rw [HTK.out]; exact h2.symm, (hB.alloc hwr _).trans h3, (h4 _ (Nat.le_refl _) (by simp)).trans hbox.out⟩)
        have PB : Hid (∀ ht wx, TwoS W.heap.size wx b a (playP (l.take k)) (playP (l.take (k + 1))) → Below W.heap.size W wx → Calls Try.prog 9 #[.pointer (some ⟨b, 0, none⟩), .string x0, .string x1, .int .i64 ht] wx fun e w' => e = .returned (.int .i64 0) ∧
            TwoS W.heap.size w' a b (playP (l.take (k + 1))) (playP (l.take (k + 1))) ∧ Below W.heap.size W w') := Lib.hid fun ht wx hT hBx =>
          ((two_put_a hT hBx.size (Below.refl _ _) x0 x1 ht HSM.out (by omega) HSX.out.2.1 HSX.out.2.2).mono fun _ _ ⟨h1, h2, h3, _⟩ => ⟨h1, by rw [HTK.out] at h2 ⊢; exact h2.symm, hBx.trans h3⟩)
        have HRM := Lib.hid hB
        by_cases hi : k < hs.length
        · obtain ⟨B2, o2, rfl, e0⟩ := ints_at HH.out k hi
          have HE0 : Hid (∀ wx, Below W.heap.size W wx → wx.cell? ⟨B2, o2 + k, none⟩ = some (.int .i64 hs[k])) := Lib.hid fun wx h => (h.cell (p := ⟨B2, o2 + k, none⟩) (cell_lt e0)).trans e0
          obtain ⟨y, hy⟩ : ∃ y, y = hs[k] := ⟨_, rfl⟩
          rw [← hy] at HE0
          clear e0 hy
          go_wp2_with (go_at_call 9; (first | ((with_reducible refine (PB.out _ _ HT5.out HB5.out).mono ?_); rintro e w6 ⟨rfl, hT6, hB6⟩; have HT6 := Lib.hid hT6; clear hT6) | ((with_reducible refine PA.out.mono ?_); rintro e w5 ⟨rfl, hT5, hB5, hx5⟩; have HT5 := Lib.hid hT5; have HB5 := Lib.hid hB5; have e0 := HE0.out _ hB5; have d0 : w5.cell? ⟨wr.heap.size, 0, none⟩ = some (.string x0) := (by rw [cell_of_row _ _ _ _ _ _ hx5]; rfl); have d1 : w5.cell? ⟨wr.heap.size, 1, none⟩ = some (.string x1) := (by rw [cell_of_row _ _ _ _ _ _ hx5]; rfl); clear hT5 hB5 hx5)))
          go_roundw
          case rel => exact ⟨k + 1, by omega, by go_num, HT6, hB6⟩
          case measure => simp [intOf] <;> omega
        · go_wp2_with (go_at_call 9; (first | ((with_reducible refine (PB.out _ _ HT5.out HB5.out).mono ?_); rintro e w6 ⟨rfl, hT6, hB6⟩; have HT6 := Lib.hid hT6; clear hT6) | ((with_reducible refine PA.out.mono ?_); rintro e w5 ⟨rfl, hT5, hB5, hx5⟩; have HT5 := Lib.hid hT5; have HB5 := Lib.hid hB5; have d0 : w5.cell? ⟨wr.heap.size, 0, none⟩ = some (.string x0) := (by rw [cell_of_row _ _ _ _ _ _ hx5]; rfl); have d1 : w5.cell? ⟨wr.heap.size, 1, none⟩ = some (.string x1) := (by rw [cell_of_row _ _ _ _ _ _ hx5]; rfl); clear hT5 hB5 hx5)))
          go_roundw
          case rel => exact ⟨k + 1, by omega, by go_num, HT6, hB6⟩
          case measure => simp [intOf] <;> omega
      · have hkl : k = l.length := by omega
        subst hkl
        rw [List.take_length] at HT
        have HSM := Lib.hid (play_small HLT.out l.length (Nat.le_refl _))
        have hll : l.length ≤ 80 := by
          cases hl : l with
          | nil => simp
          | cons y r => have := (HLT.out y (by rw [hl]; simp)).1; rw [hl] at this; exact this
        rw [List.take_length] at HSM
        obtain ⟨P, hP⟩ : ∃ P, P = playP l := ⟨_, rfl⟩
        rw [← hP] at HT HSM
        have hPl : P.length ≤ 60000 := by have := HSM.out.len; omega
        clear hP
        obtain ⟨V, hV⟩ : ∃ V, V = getPV P key := ⟨_, rfl⟩
        obtain ⟨S, hS⟩ : ∃ S, S = (getP P key).isSome := ⟨_, rfl⟩
        have GA : Hid (∀ wx a b, TwoS W.heap.size wx a b P P → Below W.heap.size W wx → Calls Try.prog 14 #[.pointer (some ⟨a, 0, none⟩), .string key] wx fun e w' => e = .returned (.tuple #[.string V, .bool S]) ∧ TwoS W.heap.size w' b a P P ∧ Below W.heap.size W w') := Lib.hid fun wx a b hT hx =>
          (two_get_a hT hx.size key).mono fun _ _ ⟨h1, h2, h3⟩ => ⟨by rw [h1, hV, hS], h2.symm, hx.trans h3⟩
        obtain ⟨R, hR⟩ : ∃ R, R = (fromP P key).take 200 := ⟨_, rfl⟩
        obtain ⟨D, hD⟩ : ∃ D, D = (downP P key).take 200 := ⟨_, rfl⟩
        have HRL : Hid (R.length ≤ 1000000000 ∧ D.length ≤ 1000000000) := Lib.hid (by rw [hR, hD]; simp only [List.length_take]; omega)
        have FRA : Hid (∀ wx a b, TwoS W.heap.size wx a b P P → Below W.heap.size W wx → Calls Try.prog 16 #[.func (.func 27) #[] #[.pointer (some ⟨wx.heap.size, 0, none⟩), .pointer (some ⟨wx.heap.size + 1, 0, none⟩)], .int .i64 200] ((wx.alloc (.cells #[.pointer (some ⟨a, 0, none⟩)] 24)).alloc (.cells #[.string key] 9)) fun e w' =>
            ∃ A c, e = .returned (.slice A R.length c) ∧ RowsAt w' A 2 pairRow R ∧ TwoS W.heap.size w' b a P P ∧ Below W.heap.size W w' ∧ (∀ A l, RowsAt wx A 2 pairRow l → RowsAt w' A 2 pairRow l)) := Lib.hid fun wx a b hT hx => by
          have hb2 : Below wx.heap.size wx ((wx.alloc (.cells #[.pointer (some ⟨a, 0, none⟩)] 24)).alloc (.cells #[.string key] 9)) := by (repeat (first | exact Below.refl _ _ | assumption | apply below_drewN | (refine Below.setCell ?_ (by first | assumption | omega | (simp; try omega)) _) | (refine Below.alloc ?_ (by first | assumption | omega | (simp; try omega)) _)))
          refine (two_from_a (hT.moved hb2) (Nat.le_trans hx.size hb2.size) key _ _ hPl (heap_alloc2_old _ _ _) (heap_alloc2_new _ _ _)).mono ?_
          rintro e w' ⟨A, c, rfl, h1, h2, h3, h4⟩
          exact ⟨A, c, by rw [hR], by rw [hR]; exact h1, h2.symm, (below_at hx hb2).trans h3, fun A l h => h4 A l (h.moved hb2)⟩
        have DNA : Hid (∀ wx a b, TwoS W.heap.size wx a b P P → Below W.heap.size W wx → Calls Try.prog 16 #[.func (.func 28) #[] #[.pointer (some ⟨wx.heap.size, 0, none⟩), .pointer (some ⟨wx.heap.size + 1, 0, none⟩)], .int .i64 200] ((wx.alloc (.cells #[.pointer (some ⟨a, 0, none⟩)] 24)).alloc (.cells #[.string key] 9)) fun e w' =>
            ∃ A c, e = .returned (.slice A D.length c) ∧ RowsAt w' A 2 pairRow D ∧ TwoS W.heap.size w' b a P P ∧ Below W.heap.size W w' ∧ (∀ A l, RowsAt wx A 2 pairRow l → RowsAt w' A 2 pairRow l)) := Lib.hid fun wx a b hT hx => by
          have hb2 : Below wx.heap.size wx ((wx.alloc (.cells #[.pointer (some ⟨a, 0, none⟩)] 24)).alloc (.cells #[.string key] 9)) := by (repeat (first | exact Below.refl _ _ | assumption | apply below_drewN | (refine Below.setCell ?_ (by first | assumption | omega | (simp; try omega)) _) | (refine Below.alloc ?_ (by first | assumption | omega | (simp; try omega)) _)))
          refine (two_down_a (hT.moved hb2) (Nat.le_trans hx.size hb2.size) key _ _ hPl (heap_alloc2_old _ _ _) (heap_alloc2_new _ _ _)).mono ?_
          rintro e w' ⟨A, c, rfl, h1, h2, h3, h4⟩
          exact ⟨A, c, by rw [hD], by rw [hD]; exact h1, h2.symm, (below_at hx hb2).trans h3, fun A l h => h4 A l (h.moved hb2)⟩
        clear hV hS hR hD HR HH HLT HSM
        go_upto_region 17 with (go_at_call 14; (first | ((with_reducible refine (GA.out _ _ _ HT5.out HB5.out).mono ?_); rintro e w6 ⟨rfl, hT6, hB6⟩; have HT6 := Lib.hid hT6; have HB6 := Lib.hid hB6; clear hT6 hB6) | ((with_reducible refine (GA.out _ _ _ HT.out hB).mono ?_); rintro e w5 ⟨rfl, hT5, hB5⟩; have HT5 := Lib.hid hT5; have HB5 := Lib.hid hB5; clear hT5 hB5)))
        go_wp2_with (first | (go_at_call 11; (first | (refine (two_len_a HT6.out).mono ?_; rintro e w' ⟨rfl, rfl⟩) | (refine (two_len_a HT6.out.symm).mono ?_; rintro e w' ⟨rfl, rfl⟩))) | (go_at_call 12; (first | (refine (two_bytes_a HT6.out).mono ?_; rintro e w' ⟨rfl, rfl⟩) | (refine (two_bytes_a HT6.out.symm).mono ?_; rintro e w' ⟨rfl, rfl⟩))) | (go_at_call 10; refine (from_make _ _ _).mono ?_; rintro e w5 ⟨rfl, rfl⟩) | (go_at_call 17; refine (down_make _ _ _).mono ?_; rintro e w5 ⟨rfl, rfl⟩) | (go_at_call 16; (first | ((with_reducible refine (DNA.out _ _ _ HT10.out HB10.out).mono ?_); rintro e w11 ⟨A4, c4, rfl, hR4, hT11, hB11, hk11⟩; have HR3b := Lib.hid (hk11 _ _ HR3.out); have HR4 := Lib.hid hR4; have HB11 := Lib.hid hB11; clear hR4 hT11 hB11 hk11) | ((with_reducible refine (DNA.out _ _ _ HT9.out HB9.out).mono ?_); rintro e w10 ⟨A3, c3, rfl, hR3, hT10, hB10, hk10⟩; have HR3 := Lib.hid hR3; have HT10 := Lib.hid hT10; have HB10 := Lib.hid hB10; clear hR3 hT10 hB10 hk10) | ((with_reducible refine (FRA.out _ _ _ HT7.out HB7.out).mono ?_); rintro e w8 ⟨A2, c2, rfl, hR2, hT8, hB8, hk8⟩; have HR1b := Lib.hid (hk8 _ _ HR1.out); have HR2 := Lib.hid hR2; have HT8 := Lib.hid hT8; have HB8 := Lib.hid hB8; clear hR2 hT8 hB8 hk8) | ((with_reducible refine (FRA.out _ _ _ HT6.out HB6.out).mono ?_); rintro e w7 ⟨A1, c1, rfl, hR1, hT7, hB7, hk7⟩; have HR1 := Lib.hid hR1; have HT7 := Lib.hid hT7; have HB7 := Lib.hid hB7; clear hR1 hT7 hB7 hk7))) | (go_at_call 15; (first | (refine (ref07_same D D _ _ _ _ _ HR3b.out HR4.out HRL.out.2 HRL.out.2).mono ?_; rintro e w12 ⟨sb, rfl, hsb, hB12⟩; obtain rfl : sb = true := hsb.2 rfl; have HB12 := Lib.hid (below_at HB11.out hB12); clear hsb hB12) | (refine (ref07_same R R _ _ _ _ _ HR1b.out HR2.out HRL.out.1 HRL.out.1).mono ?_; rintro e w9 ⟨sb, rfl, hsb, hB9⟩; obtain rfl : sb = true := hsb.2 rfl; have HT9 := Lib.hid (HT8.out.moved hB9); have HB9 := Lib.hid (below_at HB8.out hB9); clear hsb hB9))))
        go_ret
        exact ⟨rfl, HB12.out⟩
  · by_cases h1 : Light7 l
    · have HLT := Lib.hid h1
      have hno : 100 < hs.length ∨ hs.length ≤ 100 ∧ 300 < key.size := by
        have h2 : ¬ (hs.length ≤ 100 ∧ key.size ≤ 300) := fun h => hall ⟨h1, h⟩
        omega
      clear hall h1
      rcases hno with h2 | ⟨h2, h3⟩
      · go_wp2_with (go_at_call 13; (with_reducible refine (HLI.out _ hBa).mono ?_); rintro e wl ⟨lb, rfl, hlb, hBl⟩; obtain rfl : lb = true := hlb.2 HLT.out; clear hlb)
        go_ret
        exact ⟨rfl, hBl⟩
      · go_wp2_with (go_at_call 13; (with_reducible refine (HLI.out _ hBa).mono ?_); rintro e wl ⟨lb, rfl, hlb, hBl⟩; obtain rfl : lb = true := hlb.2 HLT.out; clear hlb)
        go_ret
        exact ⟨rfl, hBl⟩
    · have HLT := Lib.hid h1
      clear hall h1
      go_wp2_with (go_at_call 13; (with_reducible refine (HLI.out _ hBa).mono ?_); rintro e wl ⟨lb, rfl, hlb, hBl⟩; obtain rfl : lb = false := (by cases lb with | false => rfl | true => exact absurd (hlb.1 rfl) HLT.out); clear hlb)
      go_ret
      exact ⟨rfl, hBl⟩
end Go.Proofs.Ytacgpflheokkaaa
