/-
  The walk of KeyMakes: the bytes of any row, the row of any bytes, which of two stands ahead, what stands behind a beginning.
-/
import Derived.Test.YtlbdemcpjpfbfaaDoorLawKeyKeeps
import Derived.Test.YtlbdemcpjpfbfaaDoorKeyRefPs
import Derived.Test.YtlbdemcpjpfbfaaDoorKeyRefLs
namespace Go.Proofs.YtlbdemcpjpfbfaaDoor
open Go.RowKit
set_option linter.unusedVariables false
set_option linter.unusedSimpArgs false

set_option maxRecDepth 100000 in
set_option maxHeartbeats 8000000 in
theorem KeyMakes_walk (A : Option Addr) (la : List PartR) (ca : Nat) (A' : Option Addr) (lb : List PartR) (cb : Nat) (s : ByteArray) (m : Int) (w : World)
    (ra : RowsAt w A 4 PartR.row la) (ga : ∀ p ∈ la, p.good) (ba : la.length ≤ ca) (ma : ca ≤ maxLen)
    (rb : RowsAt w A' 4 PartR.row lb) (gb : ∀ p ∈ lb, p.good) (bb : lb.length ≤ cb) (mb : cb ≤ maxLen) (ws : s.size ≤ 140737488351232) (hm : w.cell? ⟨0, 0, none⟩ = some (.int .i64 m)) :
    Calls Tryd.prog 6 #[.slice A la.length ca, .slice A' lb.length cb, .string s] w fun e w' => e = .returned (.bool true) ∧ Below w.heap.size w w' := by
  have W0 : Below w.heap.size w w := Below.refl _ _
  have hML : maxLen ≤ 9223372036854775807 := by decide
  have AW : Hid (∀ wx, Below w.heap.size w wx → Calls Tryd.prog 7 #[] wx fun e w' => e = .returned (.bool true) ∧ Below w.heap.size w w') := Lib.hid fun wx h => (awake04 wx).mono fun _ _ ⟨h1, h2⟩ => ⟨h1, below_at h h2⟩
  have LA : Hid (∀ wx, Below w.heap.size w wx → Calls Tryd.prog 16 #[.slice A la.length ca] wx fun e w' => e = .returned (.bool (lightB la)) ∧ Below w.heap.size w w') := Lib.hid fun wx h => (law_light la A ca wx (ra.moved h) (by omega) (fun p hp => by have := (ga p hp).s; omega)).mono fun _ _ ⟨h1, h2⟩ => ⟨h1, below_at h h2⟩
  have LB : Hid (∀ wx, Below w.heap.size w wx → Calls Tryd.prog 16 #[.slice A' lb.length cb] wx fun e w' => e = .returned (.bool (lightB lb)) ∧ Below w.heap.size w w') := Lib.hid fun wx h => (law_light lb A' cb wx (rb.moved h) (by omega) (fun p hp => by have := (gb p hp).s; omega)).mono fun _ _ ⟨h1, h2⟩ => ⟨h1, below_at h h2⟩
  cases hla : lightB la with
  | false =>
    rw [hla] at LA
    clear hm ra rb ga gb hla LB
    go_enter Tryd.func6, Tryd.ntmps6
    go_wp2_with (first | (go_at_call 7; (with_reducible refine (AW.out _ (by assumption)).mono ?_); rintro e w1 ⟨rfl, hB1⟩) | (go_at_call 16; (with_reducible refine (LA.out _ (by assumption)).mono ?_); rintro e w2 ⟨rfl, hB2⟩))
    go_ret
    exact ⟨rfl, hB2⟩
  | true =>
    cases hlb : lightB lb with
    | false =>
      rw [hla] at LA
      rw [hlb] at LB
      clear hm ra rb ga gb hla hlb
      go_enter Tryd.func6, Tryd.ntmps6
      go_wp2_with (first | (go_at_call 7; (with_reducible refine (AW.out _ (by assumption)).mono ?_); rintro e w1 ⟨rfl, hB1⟩) | (go_at_call 16; first | (with_reducible refine (LA.out _ (by assumption)).mono ?_) | (with_reducible refine (LB.out _ (by assumption)).mono ?_)) <;> rintro e w2 ⟨rfl, hB2⟩)
      go_ret
      exact ⟨rfl, by assumption⟩
    | true =>
      rw [hla] at LA
      rw [hlb] at LB
      by_cases h300 : 300 < s.size
      · clear hm ra rb ga gb hla hlb
        go_enter Tryd.func6, Tryd.ntmps6
        go_wp2_with (first | (go_at_call 7; (with_reducible refine (AW.out _ (by assumption)).mono ?_); rintro e w1 ⟨rfl, hB1⟩) | (go_at_call 16; first | (with_reducible refine (LA.out _ (by assumption)).mono ?_) | (with_reducible refine (LB.out _ (by assumption)).mono ?_)) <;> rintro e w2 ⟨rfl, hB2⟩)
        go_ret
        exact ⟨rfl, by assumption⟩
      · obtain ⟨la30, laS⟩ := light_all hla
        obtain ⟨lb30, lbS⟩ := light_all hlb
        have hcell : ∀ wx, Below w.heap.size w wx → wx.cell? ⟨0, 0, none⟩ = some (.int .i64 m) := fun wx h => by
          have h0 : 0 < w.heap.size := cell_lt hm
          rw [h.cell (p := ⟨0, 0, none⟩) h0]; exact hm
        obtain ⟨t, ht⟩ : ∃ t, t = makeGo la [] := ⟨_, rfl⟩
        have KA : Hid (∀ wx, Below w.heap.size w wx → Calls Tryd.prog 9 #[.slice A la.length ca] wx fun e w' => e = .returned (.tuple #[.string (str t.1), .int .i64 t.2]) ∧ Below w.heap.size w w') := Lib.hid fun wx h => by
          rw [ht]
          exact (key_make_any la A ca wx m (ra.moved h) (by omega) ga laS (hcell wx h)).mono fun _ _ ⟨h3, h4⟩ => ⟨h3, below_at h h4⟩
        have TA : Hid (∀ wx, Below w.heap.size w wx → Calls Tryd.prog 22 #[.slice A la.length ca] wx fun e w' => ∃ q c, e = .returned (.slice q la.length c) ∧ (Below w.heap.size w w' ∧ RowsAt w' q 4 PartR.row la)) := Lib.hid fun wx h => (law_to la A ca wx (ra.moved h) (by omega)).mono fun _ _ ⟨q, c, h1, h2, _, _, h3⟩ => ⟨q, c, h1, below_at h h3, h2⟩
        have TB : Hid (∀ wx q, (Below w.heap.size w wx ∧ RowsAt wx q 4 PartR.row la) → Calls Tryd.prog 22 #[.slice A' lb.length cb] wx fun e w' => ∃ q' c, e = .returned (.slice q' lb.length c) ∧ (Below w.heap.size w w' ∧ RowsAt w' q 4 PartR.row la ∧ RowsAt w' q' 4 PartR.row lb)) := Lib.hid fun wx q ⟨h, h0⟩ => (law_to lb A' cb wx (rb.moved h) (by omega)).mono fun _ _ ⟨q', c, h1, h2, _, _, h3⟩ => ⟨q', c, h1, below_at h h3, h0.moved h3, h2⟩
        have RM : Hid (∀ wx q c, (Below w.heap.size w wx ∧ RowsAt wx q 4 PartR.row la) → Calls Tryd.prog 21 #[.slice q la.length c] wx fun e w' => e = .returned (.tuple #[.string (str t.1), .int .i64 t.2]) ∧ Below w.heap.size w w') := Lib.hid fun wx q c ⟨h, h1⟩ => by
          rw [ht]
          exact (ref_make la q c wx h1 (by omega) ga laS).mono fun _ _ ⟨h3, h4⟩ => ⟨h3, below_at h h4⟩
        obtain ⟨P, hP⟩ : ∃ P, P = partsR s.data.toList := ⟨_, rfl⟩
        have KP : Hid (∀ wx, Below w.heap.size w wx → Calls Tryd.prog 18 #[.string s] wx fun e w' => ∃ d c, e = .returned (.tuple #[.slice d P.1.length c, .int .i64 P.2]) ∧ (Below w.heap.size w w' ∧ RowsAt w' d 4 PartR.row P.1) ∧ (P.1.length : Int) ≤ 9223372036854775807) := Lib.hid fun wx h => by
          rw [hP]
          exact (key_parts s wx ws).mono fun _ _ ⟨d, c, h1, h2, h3, h4, h5⟩ => ⟨d, c, h1, ⟨below_at h h5, h2⟩, by omega⟩
        have RP : Hid (∀ wx d, (Below w.heap.size w wx ∧ RowsAt wx d 4 PartR.row P.1) → Calls Tryd.prog 23 #[.string s] wx fun e w' => ∃ d' c, e = .returned (.tuple #[.slice d' P.1.length c, .int .i64 P.2]) ∧ (Below w.heap.size w w' ∧ RowsAt w' d 4 PartR.row P.1 ∧ RowsAt w' d' 4 PartR.row P.1)) := Lib.hid fun wx d ⟨h, h0⟩ => by
          rw [hP] at h0 ⊢
          exact (ref_parts s wx ws).mono fun _ _ ⟨d', c, h1, h2, h3, h4, h5⟩ => ⟨d', c, h1, below_at h h5, h0.moved h5, h2⟩
        obtain ⟨F, hF⟩ : ∃ F, F = afterL s.data.toList := ⟨_, rfl⟩
        have KF : Hid (∀ wx d d', (Below w.heap.size w wx ∧ RowsAt wx d 4 PartR.row P.1 ∧ RowsAt wx d' 4 PartR.row P.1) → Calls Tryd.prog 14 #[.string s] wx fun e w' => e = .returned (.tuple #[.string (str (F.getD [])), .bool F.isSome]) ∧ (Below w.heap.size w w' ∧ RowsAt w' d 4 PartR.row P.1 ∧ RowsAt w' d' 4 PartR.row P.1)) := Lib.hid fun wx d d' ⟨h, h1, h2⟩ => by
          rw [hF]
          exact (key_after s wx (by omega)).mono fun _ _ ⟨h3, h4⟩ => ⟨h3, below_at h h4, h1.moved h4, h2.moved h4⟩
        have RF : Hid (∀ wx d d', (Below w.heap.size w wx ∧ RowsAt wx d 4 PartR.row P.1 ∧ RowsAt wx d' 4 PartR.row P.1) → Calls Tryd.prog 24 #[.string s] wx fun e w' => e = .returned (.tuple #[.string (str (F.getD [])), .bool F.isSome]) ∧ (Below w.heap.size w w' ∧ RowsAt w' d 4 PartR.row P.1 ∧ RowsAt w' d' 4 PartR.row P.1)) := Lib.hid fun wx d d' ⟨h, h1, h2⟩ => by
          rw [hF]
          exact (ref_after s wx (by omega)).mono fun _ _ ⟨h3, h4⟩ => ⟨h3, below_at h h4, h1.moved h4, h2.moved h4⟩
        obtain ⟨lt, hlt⟩ : ∃ b, b = decide (cmpL la lb < 0) := ⟨_, rfl⟩
        have LS : Hid (∀ wx, Below w.heap.size w wx → Calls Tryd.prog 20 #[.slice A la.length ca, .slice A' lb.length cb] wx fun e w' => e = .returned (.bool lt) ∧ Below w.heap.size w w') := Lib.hid fun wx h => by
          rw [hlt]
          exact (key_less la lb A A' ca cb wx (ra.moved h) (rb.moved h) (by omega) (by omega)).mono fun _ _ ⟨h3, h4⟩ => ⟨h3, below_at h h4⟩
        have RL : Hid (∀ wx q q' c c', (Below w.heap.size w wx ∧ RowsAt wx q 4 PartR.row la ∧ RowsAt wx q' 4 PartR.row lb) → Calls Tryd.prog 25 #[.slice q la.length c, .slice q' lb.length c'] wx fun e w' => e = .returned (.bool lt) ∧ Below w.heap.size w w') := Lib.hid fun wx q q' c c' ⟨h, h1, h2⟩ => by
          rw [hlt]
          exact (ref_less la lb q q' c c' wx h1 h2 (by omega) (by omega)).mono fun _ _ ⟨h3, h4⟩ => ⟨h3, below_at h h4⟩
        obtain ⟨X, hX⟩ : ∃ X, X = str t.1 := ⟨_, rfl⟩
        obtain ⟨Y, hY⟩ : ∃ Y, Y = str (F.getD []) := ⟨_, rfl⟩
        rw [← hX] at KA RM
        rw [← hY] at KF RF
        obtain ⟨ea, hea⟩ : ∃ e, e = t.2 := ⟨_, rfl⟩
        rw [← hea] at KA RM
        obtain ⟨ok, hok⟩ : ∃ e, e = F.isSome := ⟨_, rfl⟩
        rw [← hok] at KF RF
        obtain ⟨pl, pe⟩ := P
        simp only at KP RP KF RF
        obtain ⟨x1, x2⟩ := seq_bb (rfl : X = X)
        obtain ⟨y1, y2⟩ := seq_bb (rfl : Y = Y)
        obtain ⟨z1, z2⟩ := eq_bb (rfl : ea = ea)
        obtain ⟨z3, z4⟩ := eq_bb (rfl : pe = pe)
        clear ht hX hY hea hok hlt hF hP hcell laS lbS hla hlb hm ra rb ga gb t F
        go_enter Tryd.func6, Tryd.ntmps6
        go_wp2_with (first
          | (go_at_call 7; (with_reducible refine (AW.out _ (by assumption)).mono ?_); rintro e w1 ⟨rfl, hB1⟩)
          | (go_at_call 16; (with_reducible refine (LA.out _ hB1).mono ?_); rintro e w2 ⟨rfl, hB2⟩)
          | (go_at_call 16; (with_reducible refine (LB.out _ hB2).mono ?_); rintro e w3 ⟨rfl, hB3⟩)
          | (go_at_call 9; (with_reducible refine (KA.out _ hB3).mono ?_); rintro e w4 ⟨rfl, hB4⟩)
          | (go_at_call 22; (with_reducible refine (TA.out _ hB4).mono ?_); rintro e w5 ⟨q1, c1, rfl, T5⟩)
          | (go_at_call 21; (with_reducible refine (RM.out _ _ _ T5).mono ?_); rintro e w6 ⟨rfl, hB6⟩)
          | (go_at_call 18; (with_reducible refine (KP.out _ hB6).mono ?_); rintro e w7 ⟨d1, c2, rfl, T7, hpl⟩)
          | (go_at_call 23; (with_reducible refine (RP.out _ _ T7).mono ?_); rintro e w8 ⟨d2, c3, rfl, T8⟩)
          | (go_at_call 14; (with_reducible refine (KF.out _ _ _ T8).mono ?_); rintro e w9 ⟨rfl, T9⟩)
          | (go_at_call 24; (with_reducible refine (RF.out _ _ _ T9).mono ?_); rintro e w10 ⟨rfl, T10⟩))
        have HT10 := Lib.hid T10
        clear hB1 hB2 hB3 hB4 T5 hB6 T7 T8 T9 T10 AW LA LB KA RM KP RP KF RF
        go_loopw [98] (fun v98 wr => ∃ j : Nat, j ≤ pl.length ∧ v98 = .int .i64 j ∧ Below w.heap.size w wr ∧ Hid (RowsAt wr d1 4 PartR.row pl) ∧ Hid (RowsAt wr d2 4 PartR.row pl)) (fun v _ => pl.length - (intOf v).toNat)
        case atStart => exact ⟨0, Nat.zero_le _, rfl, HT10.out.1, Lib.hid HT10.out.2.1, Lib.hid HT10.out.2.2⟩
        case round =>
          obtain ⟨j, hj, rfl, hB, HR, HR'⟩ := hrel
          by_cases hlt : j < pl.length
          · obtain ⟨b, o, rfl, k0, k1, k2, k3⟩ := row4_at HR.out j hlt
            obtain ⟨b', o', rfl, i0, i1, i2, i3⟩ := row4_at HR'.out j hlt
            obtain ⟨p, hp⟩ : ∃ p, p = pl[j] := ⟨_, rfl⟩
            rw [← hp] at k0 k1 k2 k3 i0 i1 i2 i3
            obtain ⟨a, n, u, sx⟩ := p
            simp only at k0 k1 k2 k3 i0 i1 i2 i3
            have e1 : (j : Int) < (pl.length : Int) := by omega
            have e3 : (0 : Int) ≤ (j : Int) := by omega
            clear hp
            go_wp2
            go_quiet (fail)
            go_wp2
            go_roundw
            case rel => exact ⟨j + 1, by omega, by go_num, by (repeat (first | exact Below.refl _ _ | assumption | apply below_drewN | (refine Below.alloc ?_ (by simp; try omega) _))), Lib.hid (HR.out.moved (by (repeat (first | exact Below.refl _ _ | assumption | apply below_drewN | (refine Below.alloc ?_ (by simp; try omega) _))))), Lib.hid (HR'.out.moved (by (repeat (first | exact Below.refl _ _ | assumption | apply below_drewN | (refine Below.alloc ?_ (by simp; try omega) _)))))⟩
            case measure => simp [intOf]; omega
          · go_wp2_with (first
              | (go_at_call 20; (with_reducible refine (LS.out _ hB).mono ?_); rintro e w1 ⟨rfl, hB1⟩)
              | (go_at_call 22; (with_reducible refine (TA.out _ hB1).mono ?_); rintro e w2 ⟨q1, c1, rfl, T2⟩)
              | (go_at_call 22; (with_reducible refine (TB.out _ _ T2).mono ?_); rintro e w3 ⟨q2, c2, rfl, T3⟩)
              | (go_at_call 25; (with_reducible refine (RL.out _ _ _ _ _ T3).mono ?_); rintro e w4 ⟨rfl, hB4⟩))
            go_ret
            exact ⟨by simp, hB4⟩

end Go.Proofs.YtlbdemcpjpfbfaaDoor
