/-
  The walk of KeyKeeps: keys stand in the order of their rows; what is made is parsed as it was.
-/
import Derived.Test.YtlbdemcpjpfbfaaDoorKeyAwake
import Derived.Test.YtlbdemcpjpfbfaaDoorKeyPlain
import Derived.Test.YtlbdemcpjpfbfaaDoorKeyBytes
namespace Go.Proofs.YtlbdemcpjpfbfaaDoor
open Go.RowKit
set_option linter.unusedVariables false
set_option linter.unusedSimpArgs false

theorem rows_take {ρ : Type} {w : World} {a : Option Addr} {m : Nat} {enc : ρ → List Value} {l : List ρ} (h : RowsAt w a m enc l) (n : Nat) : RowsAt w a m enc (l.take n) := by
  rcases h.out with e | ⟨b, o, e, hc⟩
  · subst e; exact ⟨.inl (by simp)⟩
  · refine ⟨.inr ⟨b, o, e, fun i r hi j v hv => hc i r ?_ j v hv⟩⟩
    rw [List.getElem?_take] at hi
    split at hi
    · exact hi
    · cases hi

theorem light_all {l : List PartR} (h : lightB l = true) : l.length ≤ 30 ∧ ∀ p ∈ l, p.s.size ≤ 300 := by
  unfold lightB at h
  simpa using h

set_option maxRecDepth 100000 in
set_option maxHeartbeats 4000000 in
theorem KeyKeeps_walk (A : Option Addr) (la : List PartR) (ca : Nat) (A' : Option Addr) (lb : List PartR) (cb : Nat) (m : Int) (w : World)
    (ra : RowsAt w A 4 PartR.row la) (ga : ∀ p ∈ la, p.good) (ba : la.length ≤ ca) (ma : ca ≤ maxLen)
    (rb : RowsAt w A' 4 PartR.row lb) (gb : ∀ p ∈ lb, p.good) (bb : lb.length ≤ cb) (mb : cb ≤ maxLen) (hm : w.cell? ⟨0, 0, none⟩ = some (.int .i64 m)) :
    Calls Tryd.prog 5 #[.slice A la.length ca, .slice A' lb.length cb] w fun e w' => e = .returned (.bool true) ∧ Below w.heap.size w w' := by
  have W0 : Below w.heap.size w w := Below.refl _ _
  have hML : maxLen ≤ 9223372036854775807 := by decide
  have AW : Hid (∀ wx, Below w.heap.size w wx → Calls Tryd.prog 7 #[] wx fun e w' => e = .returned (.bool true) ∧ Below w.heap.size w w') := Lib.hid fun wx h => (awake04 wx).mono fun _ _ ⟨h1, h2⟩ => ⟨h1, below_at h h2⟩
  have LA : Hid (∀ wx, Below w.heap.size w wx → Calls Tryd.prog 16 #[.slice A la.length ca] wx fun e w' => e = .returned (.bool (lightB la)) ∧ Below w.heap.size w w') := Lib.hid fun wx h => (law_light la A ca wx (ra.moved h) (by omega) (fun p hp => by have := (ga p hp).s; omega)).mono fun _ _ ⟨h1, h2⟩ => ⟨h1, below_at h h2⟩
  have LB : Hid (∀ wx, Below w.heap.size w wx → Calls Tryd.prog 16 #[.slice A' lb.length cb] wx fun e w' => e = .returned (.bool (lightB lb)) ∧ Below w.heap.size w w') := Lib.hid fun wx h => (law_light lb A' cb wx (rb.moved h) (by omega) (fun p hp => by have := (gb p hp).s; omega)).mono fun _ _ ⟨h1, h2⟩ => ⟨h1, below_at h h2⟩
  cases hla : lightB la with
  | false =>
    rw [hla] at LA
    clear hm ra rb ga gb hla LB
    go_enter Tryd.func5, Tryd.ntmps5
    go_wp2_with (first | (go_at_call 7; (with_reducible refine (AW.out _ (by assumption)).mono ?_); rintro e w1 ⟨rfl, hB1⟩) | (go_at_call 16; (with_reducible refine (LA.out _ (by assumption)).mono ?_); rintro e w2 ⟨rfl, hB2⟩))
    go_ret
    exact ⟨rfl, hB2⟩
  | true =>
    cases hlb : lightB lb with
    | false =>
      rw [hla] at LA
      rw [hlb] at LB
      clear hm ra rb ga gb hla hlb
      go_enter Tryd.func5, Tryd.ntmps5
      go_wp2_with (first | (go_at_call 7; (with_reducible refine (AW.out _ (by assumption)).mono ?_); rintro e w1 ⟨rfl, hB1⟩) | (go_at_call 16; first | (with_reducible refine (LA.out _ (by assumption)).mono ?_) | (with_reducible refine (LB.out _ (by assumption)).mono ?_)) <;> rintro e w2 ⟨rfl, hB2⟩)
      go_ret
      exact ⟨rfl, by assumption⟩
    | true =>
      rw [hla] at LA
      rw [hlb] at LB
      obtain ⟨la30, laS⟩ := light_all hla
      obtain ⟨lb30, lbS⟩ := light_all hlb
      have hcell : ∀ wx, Below w.heap.size w wx → wx.cell? ⟨0, 0, none⟩ = some (.int .i64 m) := fun wx h => by
        have h0 : 0 < w.heap.size := cell_lt hm
        rw [h.cell (p := ⟨0, 0, none⟩) h0]; exact hm
      obtain ⟨pa, hpa⟩ : ∃ l, l = la.map plainP := ⟨_, rfl⟩
      obtain ⟨pb, hpb⟩ : ∃ l, l = lb.map plainP := ⟨_, rfl⟩
      have na : pa.length = la.length := by rw [hpa, List.length_map]
      have nb : pb.length = lb.length := by rw [hpb, List.length_map]
      have neA : ∀ p ∈ pa, Neat p ∧ p.s.size ≤ 300 := by
        intro p hp
        rw [hpa] at hp
        obtain ⟨q, hq, rfl⟩ := List.mem_map.1 hp
        refine ⟨plain_neat (ga q hq), ?_⟩
        have := laS q hq
        unfold plainP; simp only; split
        · exact this
        · decide
      have neB : ∀ p ∈ pb, Neat p ∧ p.s.size ≤ 300 := by
        intro p hp
        rw [hpb] at hp
        obtain ⟨q, hq, rfl⟩ := List.mem_map.1 hp
        refine ⟨plain_neat (gb q hq), ?_⟩
        have := lbS q hq
        unfold plainP; simp only; split
        · exact this
        · decide
      have PA : Hid (∀ wx, Below w.heap.size w wx → Calls Tryd.prog 17 #[.slice A la.length ca] wx fun e w' => ∃ a c, e = .returned (.slice a la.length c) ∧ RowsAt w' a 4 PartR.row pa ∧ Below w.heap.size w w') := Lib.hid fun wx h => (law_plain la A ca wx (ra.moved h) (by omega)).mono fun _ _ ⟨a, c, h1, h2, h3, h4, h5⟩ => ⟨a, c, h1, by rw [hpa]; exact h2, below_at h h5⟩
      have PB : Hid (∀ wx a, (Below w.heap.size w wx ∧ RowsAt wx a 4 PartR.row pa) → Calls Tryd.prog 17 #[.slice A' lb.length cb] wx fun e w' => ∃ b c, e = .returned (.slice b lb.length c) ∧ (Below w.heap.size w w' ∧ RowsAt w' a 4 PartR.row pa ∧ RowsAt w' b 4 PartR.row pb) ∧ (lb.length : Int) ≤ (c : Int)) := Lib.hid fun wx a ⟨h, h0⟩ => (law_plain lb A' cb wx (rb.moved h) (by omega)).mono fun _ _ ⟨b, c, h1, h2, h3, h4, h5⟩ => ⟨b, c, h1, ⟨below_at h h5, h0.moved h5, by rw [hpb]; exact h2⟩, by omega⟩
      have KA : Hid (∀ wx a b c, (Below w.heap.size w wx ∧ RowsAt wx a 4 PartR.row pa ∧ RowsAt wx b 4 PartR.row pb) → Calls Tryd.prog 9 #[.slice a la.length c] wx fun e w' => e = .returned (.tuple #[.string (str (makeGo pa []).1), .int .i64 (makeGo pa []).2]) ∧ (Below w.heap.size w w' ∧ RowsAt w' a 4 PartR.row pa ∧ RowsAt w' b 4 PartR.row pb)) := Lib.hid fun wx a b c ⟨h, h1, h2⟩ => by
        have k := key_make_any pa a c wx m h1 (by omega) (fun p hp => (neA p hp).1.good) (fun p hp => (neA p hp).2) (hcell wx h)
        rw [na] at k
        exact k.mono fun _ _ ⟨h3, h4⟩ => ⟨h3, below_at h h4, h1.moved h4, h2.moved h4⟩
      have KB : Hid (∀ wx a b c, (Below w.heap.size w wx ∧ RowsAt wx a 4 PartR.row pa ∧ RowsAt wx b 4 PartR.row pb) → Calls Tryd.prog 9 #[.slice b lb.length c] wx fun e w' => e = .returned (.tuple #[.string (str (makeGo pb []).1), .int .i64 (makeGo pb []).2]) ∧ (Below w.heap.size w w' ∧ RowsAt w' a 4 PartR.row pa ∧ RowsAt w' b 4 PartR.row pb)) := Lib.hid fun wx a b c ⟨h, h1, h2⟩ => by
        have k := key_make_any pb b c wx m h2 (by omega) (fun p hp => (neB p hp).1.good) (fun p hp => (neB p hp).2) (hcell wx h)
        rw [nb] at k
        exact k.mono fun _ _ ⟨h3, h4⟩ => ⟨h3, below_at h h4, h1.moved h4, h2.moved h4⟩
      have MA := make_ok pa []
      have MB := make_ok pb []
      obtain ⟨ta, hta⟩ : ∃ t, t = makeGo pa [] := ⟨_, rfl⟩
      obtain ⟨tb, htb⟩ : ∃ t, t = makeGo pb [] := ⟨_, rfl⟩
      rw [← hta] at KA MA
      rw [← htb] at KB MB
      obtain ⟨xa, ea⟩ := ta
      obtain ⟨xb, eb⟩ := tb
      simp only at KA KB MA MB
      clear hta htb ra rb hpa hpb hm
      by_cases ha : ea = 0
      · obtain ⟨okA, ha2, ha3⟩ := MA ha
        obtain ⟨za, za'⟩ := eq_bb ha
        by_cases hb : eb = 0
        · obtain ⟨okB, hb2, hb3⟩ := MB hb
          obtain ⟨zb, zb'⟩ := eq_bb hb
          have NA : ∀ p ∈ pa, Neat p ∧ (partB p).isSome = true := fun p hp => ⟨(neA p hp).1, okA p hp⟩
          have NB : ∀ p ∈ pb, Neat p ∧ (partB p).isSome = true := fun p hp => ⟨(neB p hp).1, okB p hp⟩
          rw [List.nil_append] at ha2 hb2
          have hxa : xa.length ≤ 200 := by
            rcases ha3 with h | h
            · rw [ha2, h]; simp [encL]
            · exact h
          have hxb : xb.length ≤ 200 := by
            rcases hb3 with h | h
            · rw [hb2, h]; simp [encL]
            · exact h
          have EP : partsR xa = (pa, 0) := by rw [ha2]; exact parts_back pa NA (by rw [← ha2]; exact hxa)
          have EL : Op.bytesLess xa xb = decide (cmpL pa pb < 0) := by rw [ha2, hb2]; exact rows_less pa pb NA NB
          have ES : (xa = xb) ↔ sameL pa pb = true := by rw [ha2, hb2]; exact keys_same pa pb NA NB
          have EB : xa.isPrefixOf xb = (decide (la.length ≤ lb.length) && sameL pa (pb.take la.length)) := by
            rw [ha2, hb2, keys_begin pa pb NA NB, na, nb]
          have KP : Hid (∀ wx a b, (Below w.heap.size w wx ∧ RowsAt wx a 4 PartR.row pa ∧ RowsAt wx b 4 PartR.row pb) → Calls Tryd.prog 18 #[.string (str xa)] wx fun e w' => ∃ d c, e = .returned (.tuple #[.slice d la.length c, .int .i64 0]) ∧ (Below w.heap.size w w' ∧ RowsAt w' a 4 PartR.row pa ∧ RowsAt w' b 4 PartR.row pb ∧ RowsAt w' d 4 PartR.row pa)) := Lib.hid fun wx a b ⟨h, h1, h2⟩ => by
            have k := key_parts (str xa) wx (by rw [str_size]; omega)
            rw [str_data, EP] at k
            simp only at k
            rw [na] at k
            exact k.mono fun _ _ ⟨d, c, h3, h4, _, _, h5⟩ => ⟨d, c, h3, below_at h h5, h1.moved h5, h2.moved h5, h4⟩
          have S1 : Hid (∀ wx a b d c c', (Below w.heap.size w wx ∧ RowsAt wx a 4 PartR.row pa ∧ RowsAt wx b 4 PartR.row pb ∧ RowsAt wx d 4 PartR.row pa) → Calls Tryd.prog 19 #[.slice d la.length c, .slice a la.length c'] wx fun e w' => e = .returned (.bool true) ∧ (Below w.heap.size w w' ∧ RowsAt w' a 4 PartR.row pa ∧ RowsAt w' b 4 PartR.row pb ∧ RowsAt w' d 4 PartR.row pa)) := Lib.hid fun wx a b d c c' ⟨h, h1, h2, h3⟩ => by
            have k := law_same pa pa d a c c' wx h3 h1 (by omega) (by omega)
            rw [na, (sameL_eq pa pa).2 rfl] at k
            exact k.mono fun _ _ ⟨h4, h5⟩ => ⟨h4, below_at h h5, h1.moved h5, h2.moved h5, h3.moved h5⟩
          have S2 : Hid (∀ wx a b d c c', (Below w.heap.size w wx ∧ RowsAt wx a 4 PartR.row pa ∧ RowsAt wx b 4 PartR.row pb ∧ RowsAt wx d 4 PartR.row pa) → Calls Tryd.prog 19 #[.slice a la.length c, .slice b lb.length c'] wx fun e w' => e = .returned (.bool (sameL pa pb)) ∧ (Below w.heap.size w w' ∧ RowsAt w' a 4 PartR.row pa ∧ RowsAt w' b 4 PartR.row pb ∧ RowsAt w' d 4 PartR.row pa)) := Lib.hid fun wx a b d c c' ⟨h, h1, h2, h3⟩ => by
            have k := law_same pa pb a b c c' wx h1 h2 (by omega) (by omega)
            rw [na, nb] at k
            exact k.mono fun _ _ ⟨h4, h5⟩ => ⟨h4, below_at h h5, h1.moved h5, h2.moved h5, h3.moved h5⟩
          have LS : Hid (∀ wx a b d c c', (Below w.heap.size w wx ∧ RowsAt wx a 4 PartR.row pa ∧ RowsAt wx b 4 PartR.row pb ∧ RowsAt wx d 4 PartR.row pa) → Calls Tryd.prog 20 #[.slice a la.length c, .slice b lb.length c'] wx fun e w' => e = .returned (.bool (decide (cmpL pa pb < 0))) ∧ (Below w.heap.size w w' ∧ RowsAt w' a 4 PartR.row pa ∧ RowsAt w' b 4 PartR.row pb ∧ RowsAt w' d 4 PartR.row pa)) := Lib.hid fun wx a b d c c' ⟨h, h1, h2, h3⟩ => by
            have k := key_less pa pb a b c c' wx h1 h2 (by omega) (by omega)
            rw [na, nb] at k
            exact k.mono fun _ _ ⟨h4, h5⟩ => ⟨h4, below_at h h5, h1.moved h5, h2.moved h5, h3.moved h5⟩
          have HP : Hid (∀ wx, Calls Tryd.prog 15 #[.string (str xb), .string (str xa)] wx fun e w' => e = .returned (.bool (decide (la.length ≤ lb.length) && sameL pa (pb.take la.length))) ∧ w' = wx) := Lib.hid fun wx => by
            have k := Tryd.strings_HasPrefix (str xb) (str xa) wx
            rw [str_data, str_data] at k
            unfold Lib.hasPrefix at k
            rw [EB] at k
            exact k
          have EL2 : Op.bytesLess (str xa).toList (str xb).toList = decide (cmpL pa pb < 0) := by rw [ByteArray.toList_eq, ByteArray.toList_eq, str_data, str_data]; exact EL
          have ES2 : (str xa = str xb) ↔ sameL pa pb = true := by
            rw [← ES]
            constructor
            · intro h
              have := congrArg (fun b : ByteArray => b.data.toList) h
              simpa [str_data] using this
            · rintro rfl; rfl
          have S3 : Hid (la.length ≤ lb.length → ∀ wx a b d c c', (Below w.heap.size w wx ∧ RowsAt wx a 4 PartR.row pa ∧ RowsAt wx b 4 PartR.row pb ∧ RowsAt wx d 4 PartR.row pa) → Calls Tryd.prog 19 #[.slice a la.length c, .slice b la.length c'] wx fun e w' => e = .returned (.bool (sameL pa (pb.take la.length))) ∧ (Below w.heap.size w w' ∧ RowsAt w' a 4 PartR.row pa ∧ RowsAt w' b 4 PartR.row pb ∧ RowsAt w' d 4 PartR.row pa)) := Lib.hid fun hle wx a b d c c' ⟨h, h1, h2, h3⟩ => by
            have k := law_same pa (pb.take la.length) a b c c' wx h1 (rows_take h2 _) (by omega) (by rw [List.length_take]; omega)
            have e : (pb.take la.length).length = la.length := by rw [List.length_take]; omega
            rw [na, e] at k
            exact k.mono fun _ _ ⟨h4, h5⟩ => ⟨h4, below_at h h5, h1.moved h5, h2.moved h5, h3.moved h5⟩
          obtain ⟨X, hX⟩ : ∃ X, X = str xa := ⟨_, rfl⟩
          obtain ⟨Y, hY⟩ : ∃ Y, Y = str xb := ⟨_, rfl⟩
          have hXs : X.size ≤ 200 := by rw [hX, str_size]; exact hxa
          have hYs : Y.size ≤ 200 := by rw [hY, str_size]; exact hxb
          rw [← hX] at KP HP EL2 ES2 KA
          rw [← hY] at HP EL2 ES2 KB
          obtain ⟨sb, hsb⟩ : ∃ b, b = sameL pa (pb.take la.length) := ⟨_, rfl⟩
          obtain ⟨lt, hlt⟩ : ∃ b, b = decide (cmpL pa pb < 0) := ⟨_, rfl⟩
          rw [← hsb] at HP S3
          rw [← hlt] at LS EL2
          have HNA := Lib.hid na
          have HNB := Lib.hid nb
          clear hX hY hsb hlt EL ES EB EP NA NB okA okB ha2 hb2 ha3 hb3 hxa hxb MA MB ha hb laS lbS hla hlb hcell neA neB ga gb na nb
          have hlen30a : (la.length : Int) ≤ 30 := by omega
          have hlen30b : (lb.length : Int) ≤ 30 := by omega
          by_cases hle : la.length ≤ lb.length
          · have S3' := Lib.hid (S3.out hle)
            have hle2 : (la.length : Int) ≤ (lb.length : Int) := by omega
            have hmin : min (la.length : Int) (lb.length : Int) = (la.length : Int) := by omega
            have hd : decide (la.length ≤ lb.length) = true := by simpa using hle
            rw [hd, Bool.true_and] at HP
            clear hd S3
            by_cases hxy : X = Y
            · have hs2 := ES2.1 hxy
              rw [hs2] at S2
              obtain ⟨x1, x2⟩ := seq_bb hxy
              clear ES2 hs2 hxy
              go_enter Tryd.func5, Tryd.ntmps5
              go_wp2_with (first
                | (go_at_call 7; (with_reducible refine (AW.out _ (by assumption)).mono ?_); rintro e w1 ⟨rfl, hB1⟩)
                | (go_at_call 16; (with_reducible refine (LA.out _ hB1).mono ?_); rintro e w2 ⟨rfl, hB2⟩)
                | (go_at_call 16; (with_reducible refine (LB.out _ hB2).mono ?_); rintro e w3 ⟨rfl, hB3⟩)
                | (go_at_call 17; (with_reducible refine (PA.out _ hB3).mono ?_); rintro e w4 ⟨a1, c1, rfl, hr4, hB4⟩)
                | (go_at_call 17; (with_reducible refine (PB.out _ a1 ⟨hB4, hr4⟩).mono ?_); rintro e w5 ⟨b1, c2, rfl, T5, hc2⟩)
                | (go_at_call 9; (with_reducible refine (KA.out _ _ _ _ T5).mono ?_); rintro e w6 ⟨rfl, T6⟩)
                | (go_at_call 9; (with_reducible refine (KB.out _ _ _ _ T6).mono ?_); rintro e w7 ⟨rfl, T7⟩)
                | (go_at_call 18; (with_reducible refine (KP.out _ _ _ T7).mono ?_); rintro e w8 ⟨d1, c3, rfl, T8⟩)
                | (go_at_call 19; (with_reducible refine (S3'.out _ _ _ _ _ _ T8).mono ?_); rintro e w9 ⟨rfl, T9⟩; clear T8)
                | (go_at_call 19; (with_reducible refine (S1.out _ _ _ _ _ _ T9).mono ?_); rintro e w10 ⟨rfl, T10⟩; clear T9)
                | (go_at_call 20; (with_reducible refine (LS.out _ _ _ _ _ _ T10).mono ?_); rintro e w11 ⟨rfl, T11⟩; clear T10)
                | (go_at_call 19; (with_reducible refine (S2.out _ _ _ _ _ _ T11).mono ?_); rintro e w12 ⟨rfl, T12⟩; clear T11)
                | (go_at_call 15; (with_reducible refine (HP.out _).mono ?_); rintro e w13 ⟨rfl, rfl⟩))
              go_ret
              exact ⟨by simp, T12.1⟩
            · have hs2 : sameL pa pb = false := by
                cases h : sameL pa pb with
                | false => rfl
                | true => exact absurd (ES2.2 h) hxy
              rw [hs2] at S2
              obtain ⟨x1, x2⟩ := sne_bb hxy
              clear ES2 hs2 hxy
              go_enter Tryd.func5, Tryd.ntmps5
              go_wp2_with (first
                | (go_at_call 7; (with_reducible refine (AW.out _ (by assumption)).mono ?_); rintro e w1 ⟨rfl, hB1⟩)
                | (go_at_call 16; (with_reducible refine (LA.out _ hB1).mono ?_); rintro e w2 ⟨rfl, hB2⟩)
                | (go_at_call 16; (with_reducible refine (LB.out _ hB2).mono ?_); rintro e w3 ⟨rfl, hB3⟩)
                | (go_at_call 17; (with_reducible refine (PA.out _ hB3).mono ?_); rintro e w4 ⟨a1, c1, rfl, hr4, hB4⟩)
                | (go_at_call 17; (with_reducible refine (PB.out _ a1 ⟨hB4, hr4⟩).mono ?_); rintro e w5 ⟨b1, c2, rfl, T5, hc2⟩)
                | (go_at_call 9; (with_reducible refine (KA.out _ _ _ _ T5).mono ?_); rintro e w6 ⟨rfl, T6⟩)
                | (go_at_call 9; (with_reducible refine (KB.out _ _ _ _ T6).mono ?_); rintro e w7 ⟨rfl, T7⟩)
                | (go_at_call 18; (with_reducible refine (KP.out _ _ _ T7).mono ?_); rintro e w8 ⟨d1, c3, rfl, T8⟩)
                | (go_at_call 19; (with_reducible refine (S3'.out _ _ _ _ _ _ T8).mono ?_); rintro e w9 ⟨rfl, T9⟩; clear T8)
                | (go_at_call 19; (with_reducible refine (S1.out _ _ _ _ _ _ T9).mono ?_); rintro e w10 ⟨rfl, T10⟩; clear T9)
                | (go_at_call 20; (with_reducible refine (LS.out _ _ _ _ _ _ T10).mono ?_); rintro e w11 ⟨rfl, T11⟩; clear T10)
                | (go_at_call 19; (with_reducible refine (S2.out _ _ _ _ _ _ T11).mono ?_); rintro e w12 ⟨rfl, T12⟩; clear T11)
                | (go_at_call 15; (with_reducible refine (HP.out _).mono ?_); rintro e w13 ⟨rfl, rfl⟩))
              go_ret
              exact ⟨by simp, T12.1⟩
          · have hxy : ¬ X = Y := fun h => by
              have h2 := (sameL_eq pa pb).1 (ES2.1 h)
              have h3 := congrArg List.length h2
              have h4 := HNA.out
              have h5 := HNB.out
              omega
            have hs2 : sameL pa pb = false := by
              cases h : sameL pa pb with
              | false => rfl
              | true => exact absurd (ES2.2 h) hxy
            rw [hs2] at S2
            obtain ⟨x1, x2⟩ := sne_bb hxy
            have hle2 : ¬ (la.length : Int) ≤ (lb.length : Int) := by omega
            have hd : decide (la.length ≤ lb.length) = false := by simpa using hle
            rw [hd, Bool.false_and] at HP
            clear ES2 hs2 hxy hd S3
            go_enter Tryd.func5, Tryd.ntmps5
            go_wp2_with (first
              | (go_at_call 7; (with_reducible refine (AW.out _ (by assumption)).mono ?_); rintro e w1 ⟨rfl, hB1⟩)
              | (go_at_call 16; (with_reducible refine (LA.out _ hB1).mono ?_); rintro e w2 ⟨rfl, hB2⟩)
              | (go_at_call 16; (with_reducible refine (LB.out _ hB2).mono ?_); rintro e w3 ⟨rfl, hB3⟩)
              | (go_at_call 17; (with_reducible refine (PA.out _ hB3).mono ?_); rintro e w4 ⟨a1, c1, rfl, hr4, hB4⟩)
              | (go_at_call 17; (with_reducible refine (PB.out _ a1 ⟨hB4, hr4⟩).mono ?_); rintro e w5 ⟨b1, c2, rfl, T5, hc2⟩)
              | (go_at_call 9; (with_reducible refine (KA.out _ _ _ _ T5).mono ?_); rintro e w6 ⟨rfl, T6⟩)
              | (go_at_call 9; (with_reducible refine (KB.out _ _ _ _ T6).mono ?_); rintro e w7 ⟨rfl, T7⟩)
              | (go_at_call 18; (with_reducible refine (KP.out _ _ _ T7).mono ?_); rintro e w8 ⟨d1, c3, rfl, T8⟩)
              | (go_at_call 19; (with_reducible refine (S1.out _ _ _ _ _ _ T8).mono ?_); rintro e w10 ⟨rfl, T10⟩; clear T8)
              | (go_at_call 20; (with_reducible refine (LS.out _ _ _ _ _ _ T10).mono ?_); rintro e w11 ⟨rfl, T11⟩; clear T10)
              | (go_at_call 19; (with_reducible refine (S2.out _ _ _ _ _ _ T11).mono ?_); rintro e w12 ⟨rfl, T12⟩; clear T11)
              | (go_at_call 15; (with_reducible refine (HP.out _).mono ?_); rintro e w13 ⟨rfl, rfl⟩))
            go_ret
            exact ⟨by simp, T12.1⟩
        · obtain ⟨zb, zb'⟩ := ne_bb hb
          clear ha MA MB hb laS lbS hla hlb hcell neA neB ga gb na nb
          go_enter Tryd.func5, Tryd.ntmps5
          go_wp2_with (first
            | (go_at_call 7; (with_reducible refine (AW.out _ (by assumption)).mono ?_); rintro e w1 ⟨rfl, hB1⟩)
            | (go_at_call 16; (with_reducible refine (LA.out _ hB1).mono ?_); rintro e w2 ⟨rfl, hB2⟩)
            | (go_at_call 16; (with_reducible refine (LB.out _ hB2).mono ?_); rintro e w3 ⟨rfl, hB3⟩)
            | (go_at_call 17; (with_reducible refine (PA.out _ hB3).mono ?_); rintro e w4 ⟨a1, c1, rfl, hr4, hB4⟩)
            | (go_at_call 17; (with_reducible refine (PB.out _ a1 ⟨hB4, hr4⟩).mono ?_); rintro e w5 ⟨b1, c2, rfl, T5, hc2⟩)
            | (go_at_call 9; (with_reducible refine (KA.out _ _ _ _ T5).mono ?_); rintro e w6 ⟨rfl, T6⟩)
            | (go_at_call 9; (with_reducible refine (KB.out _ _ _ _ T6).mono ?_); rintro e w7 ⟨rfl, T7⟩))
          go_ret
          exact ⟨rfl, T7.1⟩
      · obtain ⟨za, za'⟩ := ne_bb ha
        clear ha MA MB laS lbS hla hlb hcell neA neB ga gb na nb
        go_enter Tryd.func5, Tryd.ntmps5
        go_wp2_with (first
          | (go_at_call 7; (with_reducible refine (AW.out _ (by assumption)).mono ?_); rintro e w1 ⟨rfl, hB1⟩)
          | (go_at_call 16; (with_reducible refine (LA.out _ hB1).mono ?_); rintro e w2 ⟨rfl, hB2⟩)
          | (go_at_call 16; (with_reducible refine (LB.out _ hB2).mono ?_); rintro e w3 ⟨rfl, hB3⟩)
          | (go_at_call 17; (with_reducible refine (PA.out _ hB3).mono ?_); rintro e w4 ⟨a1, c1, rfl, hr4, hB4⟩)
          | (go_at_call 17; (with_reducible refine (PB.out _ a1 ⟨hB4, hr4⟩).mono ?_); rintro e w5 ⟨b1, c2, rfl, T5, hc2⟩)
          | (go_at_call 9; (with_reducible refine (KA.out _ _ _ _ T5).mono ?_); rintro e w6 ⟨rfl, T6⟩)
          | (go_at_call 9; (with_reducible refine (KB.out _ _ _ _ T6).mono ?_); rintro e w7 ⟨rfl, T7⟩))
        go_ret
        exact ⟨rfl, T7.1⟩

end Go.Proofs.YtlbdemcpjpfbfaaDoor
