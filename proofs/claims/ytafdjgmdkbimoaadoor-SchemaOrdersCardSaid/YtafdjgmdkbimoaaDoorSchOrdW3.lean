/-
  The walk of SchemaOrders, case 3 of four.
-/
import Derived.Test.YtafdjgmdkbimoaaDoorSchOrdW
namespace Go.Proofs.YtafdjgmdkbimoaaDoor
open Go.RowKit
set_option linter.unusedVariables false
set_option linter.unusedSimpArgs false

set_option maxRecDepth 100000 in
set_option maxHeartbeats 40000000 in
theorem SchemaOrders_walk3 (r r' : OrderR) (m : Int) (w : World) (gr : r.good) (gr' : r'.good) (hm : w.cell? ⟨0, 0, none⟩ = some (.int .i64 m)) (hcase : Hid (r.rank = r'.rank ∧ ¬ r.id < r'.id)) :
    Calls Tryd.prog 3 #[.agg r.row.toArray, .agg r'.row.toArray] w fun e w' => e = .returned (.bool true) ∧ Below w.heap.size w w' := by
  obtain ⟨id, ac, sx, pr, sz, lf, rk, ex, st⟩ := r
  obtain ⟨id', ac', sx', pr', sz', lf', rk', ex', st'⟩ := r'
  obtain ⟨gi, ga, gs, gp, _, _, gk, _, _⟩ := gr
  obtain ⟨gi', ga', gs', gp', _, _, gk', _, _⟩ := gr'
  simp only at gi gp gk gi' gp' gk'
  show Calls Tryd.prog 3 #[.agg (ro id ac sx pr sz lf rk ex st), .agg (ro id' ac' sx' pr' sz' lf' rk' ex' st')] w _
  have hbx := i64_and1 sx
  have hby := i64_and1 sx'
  have hx : sx % 2 = 0 ∨ sx % 2 = 1 := by omega
  have hy : sx' % 2 = 0 ∨ sx' % 2 = 1 := by omega
  have hzt := zero_thing
  have AW : Hid (∀ wx, SO2 w (ro id ac sx pr sz lf rk ex st) (ro id' ac' sx' pr' sz' lf' rk' ex' st') wx → Calls Tryd.prog 6 #[] wx fun e w' => e = .returned (.bool true) ∧ SO2 w (ro id ac sx pr sz lf rk ex st) (ro id' ac' sx' pr' sz' lf' rk' ex' st') w') := Lib.hid fun wx T => (awake21 wx m (cell0 hm T.below)).mono fun _ _ ⟨h1, h2⟩ => ⟨h1, T.step h2⟩
  have HF0 := Lib.hid (SO2.first w (ro id ac sx pr sz lf rk ex st) (ro id' ac' sx' pr' sz' lf' rk' ex' st'))
  have BT : Hid (∀ s wx RA RB, SO2 w RA RB wx → Calls Tryd.prog 7 #[.int .i64 s, .int .i64 pr, .int .i64 pr'] wx fun e w' => e = .returned (.bool (decide ((s = 1 ∧ pr' < pr) ∨ (s = 2 ∧ pr < pr')))) ∧ SO2 w RA RB w') := Lib.hid fun s wx RA RB T => (order_better s pr pr' wx).mono fun _ _ ⟨h1, h2⟩ => ⟨h1, T.step h2⟩
  obtain ⟨E1, hE1⟩ : ∃ E, E = ofS ⟨#[101]⟩ [⟨117, 0, rk, ByteArray.empty⟩, ⟨117, 0, id, ByteArray.empty⟩] := ⟨_, rfl⟩
  obtain ⟨E2, hE2⟩ : ∃ E, E = ofS ⟨#[101]⟩ [⟨117, 0, rk', ByteArray.empty⟩, ⟨117, 0, id', ByteArray.empty⟩] := ⟨_, rfl⟩
  have X1 : Hid (∀ wx RA RB RT g, SO3 w RA RB RT g wx → Calls Tryd.prog 10 #[.int .u64 rk, .int .u64 id] wx fun e w' => e = .returned (.string E1) ∧ SO3 w RA RB RT g w') := Lib.hid fun wx RA RB RT g T => by
    rw [hE1]; exact (schema_expiry rk id m wx gk gi (cell0 hm T.below)).mono fun _ _ ⟨h1, h2⟩ => ⟨h1, T.step h2⟩
  have X2 : Hid (∀ wx RA RB RT g, SO3 w RA RB RT g wx → Calls Tryd.prog 10 #[.int .u64 rk', .int .u64 id'] wx fun e w' => e = .returned (.string E2) ∧ SO3 w RA RB RT g w') := Lib.hid fun wx RA RB RT g T => by
    rw [hE2]; exact (schema_expiry rk' id' m wx gk' gi' (cell0 hm T.below)).mono fun _ _ ⟨h1, h2⟩ => ⟨h1, T.step h2⟩
  have EL := expiry_order rk id rk' id' gk gi gk' gi'
  rw [← hE1, ← hE2] at EL
  have PC : ∀ s : Int, (s = 1 ∨ s = 2) → ∃ K, K = ofS ⟨#[98]⟩ (placeL s pr rk id) ∧
      Hid (∀ wx RA RB, SO2 w RA RB wx → Calls Tryd.prog 9 #[.agg (ro id ac s pr sz lf rk ex st)] wx fun e w' => e = .returned (.string K) ∧ SO2 w RA RB w') ∧
      Hid (∀ wx RA RB RT g, SO3 w RA RB RT g wx → Calls Tryd.prog 9 #[.agg (ro id ac s pr sz lf rk ex st)] wx fun e w' => e = .returned (.string K) ∧ SO3 w RA RB RT g w') ∧
      Hid (∀ wx RA RB, SO2 w RA RB wx → Calls Tryd.prog 8 #[.string K] wx fun e w' => e = .returned (.tuple #[.agg (cellsT ⟨#[98]⟩ 0 id s pr rk 0 ByteArray.empty), .int .i64 0]) ∧ SO2 w RA RB w') := fun s hs => ⟨_, rfl,
      Lib.hid fun wx RA RB T => (schema_place id ac s pr sz lf rk ex st m wx (by omega) gp gk gi (cell0 hm T.below)).mono fun _ _ ⟨h1, h2⟩ => ⟨h1, T.step h2⟩,
      Lib.hid fun wx RA RB RT g T => (schema_place id ac s pr sz lf rk ex st m wx (by omega) gp gk gi (cell0 hm T.below)).mono fun _ _ ⟨h1, h2⟩ => ⟨h1, T.step h2⟩,
      Lib.hid fun wx RA RB T => by
        have hlen : (ofS ⟨#[98]⟩ (placeL s pr rk id)).size ≤ 200 := by
          obtain ⟨e1, e2, _⟩ := ofS_nums 98 (by decide) (placeL s pr rk id) (place_fine s pr rk id (by omega) gp gk gi) (by simp [placeL])
          have h : (ofS ⟨#[98]⟩ (placeL s pr rk id)).data.toList.length = (ofS ⟨#[98]⟩ (placeL s pr rk id)).size := by simp
          rw [← h, e1]; exact e2
        have q := schema_parse (ofS ⟨#[98]⟩ (placeL s pr rk id)) wx (by omega)
        rw [parse_place s pr rk id hs gp gk gi] at q
        exact q.mono fun _ _ ⟨h1, h2⟩ => ⟨h1, T.step h2⟩⟩
  have PC' : ∀ s : Int, (s = 1 ∨ s = 2) → ∃ K, K = ofS ⟨#[98]⟩ (placeL s pr' rk' id') ∧
      Hid (∀ wx RA RB RT g, SO3 w RA RB RT g wx → Calls Tryd.prog 9 #[.agg (ro id' ac' s pr' sz' lf' rk' ex' st')] wx fun e w' => e = .returned (.string K) ∧ SO3 w RA RB RT g w') := fun s hs => ⟨_, rfl,
      Lib.hid fun wx RA RB RT g T => (schema_place id' ac' s pr' sz' lf' rk' ex' st' m wx (by omega) gp' gk' gi' (cell0 hm T.below)).mono fun _ _ ⟨h1, h2⟩ => ⟨h1, T.step h2⟩⟩
  have PO : ∀ s s' : Int, (s = 1 ∨ s = 2) → (s' = 1 ∨ s' = 2) → Op.bytesLess (ofS ⟨#[98]⟩ (placeL s pr rk id)).toList (ofS ⟨#[98]⟩ (placeL s' pr' rk' id')).toList = aheadB s pr rk id s' pr' rk' id' := fun s s' h h' => place_order s pr rk id s' pr' rk' id' h h' gp gk gi gp' gk' gi'
  have HID3 : (rk < rk' ∧ ¬ rk' < rk ∧ ¬ rk = rk') ∨ (rk' < rk ∧ ¬ rk < rk' ∧ ¬ rk = rk') ∨ (rk = rk' ∧ (id < id' ∨ ¬ id < id')) := by omega
  have HP3 : (pr < pr' ∧ ¬ pr' < pr ∧ ¬ pr = pr') ∨ (pr' < pr ∧ ¬ pr < pr' ∧ ¬ pr = pr') ∨ pr = pr' := by omega
  clear ga gs ga' gs'
  obtain ⟨y, hy'⟩ : ∃ y, y = sx % 2 := ⟨_, rfl⟩
  obtain ⟨y', hy''⟩ : ∃ y, y = sx' % 2 := ⟨_, rfl⟩
  rw [← hy'] at hbx hx
  rw [← hy''] at hby hy
  obtain ⟨s, hs⟩ : ∃ s, s = 1 + y := ⟨_, rfl⟩
  obtain ⟨s', hs'⟩ : ∃ s, s = 1 + y' := ⟨_, rfl⟩
  have hs12 : s = 1 ∨ s = 2 := by omega
  have hs12' : s' = 1 ∨ s' = 2 := by omega
  have y0 : 0 ≤ y := by omega
  have y1 : y ≤ 1 := by omega
  have y0' : 0 ≤ y' := by omega
  have y1' : y' ≤ 1 := by omega
  have e1 : 1 + y = s := hs.symm
  have e2 : 1 + y' = s' := hs'.symm
  have hsb : -9223372036854775808 ≤ s ∧ s ≤ 9223372036854775807 := by omega
  have hsb' : -9223372036854775808 ≤ s' ∧ s' ≤ 9223372036854775807 := by omega
  obtain ⟨K, hK, P1, P2, P4⟩ := PC s hs12
  obtain ⟨K', hK', P3⟩ := PC' s' hs12'
  have PL := PO s s' hs12 hs12'
  rw [← hK, ← hK'] at PL
  obtain ⟨AH, hAH⟩ : ∃ b, b = aheadB s pr rk id s' pr' rk' id' := ⟨_, rfl⟩
  rw [← hAH] at PL
  have HAH := Lib.hid hAH
  have HS12 := Lib.hid (And.intro hs12 hs12')
  clear hK hK' PC PC' PO hE1 hE2 hm gi gp gk gi' gp' gk' hs hs' hy' hy'' hx hy hAH hs12 hs12'
  have HSB := Lib.hid (And.intro hsb hsb')
  clear hsb hsb'
  go_enter Tryd.func3, Tryd.ntmps3
  go_upto_region 3 with (go_at_call 6; (with_reducible refine (AW.out _ HF0.out).mono ?_); rintro e w1 ⟨rfl, T1⟩)
  go_cut [19] (fun v19 wc => Hid (SO2 w (ro id ac s pr sz lf rk ex st) (ro id' ac' s' pr' sz' lf' rk' ex' st') wc))
  case first =>
    obtain ⟨a0, a2, a3, a6, af⟩ := ro_of T1.a
    obtain ⟨b0, b2, b3, b6, bf⟩ := ro_of T1.b
    clear BT X1 X2 P1 P2 P3 P4 PL EL
    go_region
    all_goals (go_wp2_with fail; go_meet)
    all_goals exact Lib.hid (T1.sides s s')
  case rest =>
    have T := hcut.out
    obtain ⟨a0, a2, a3, a6, af⟩ := ro_of T.a
    obtain ⟨b0, b2, b3, b6, bf⟩ := ro_of T.b
    have HT := Lib.hid T
    clear T T1 AW HF0 e1 e2 y0 y1 y0' y1' hbx hby
    go_upto_if 29 with fail
    go_cut [5] (fun v5 wc => v5 = .bool AH ∧ Hid (SO2 w (ro id ac s pr sz lf rk ex st) (ro id' ac' s' pr' sz' lf' rk' ex' st') wc))
    case first =>
      clear X1 X2 P1 P2 P3 P4 PL EL
      by_cases hss : s = s'
      · obtain ⟨p1, p2⟩ := eq_bb hss
        have hnlt : ¬ s < s' := by omega
        by_cases hbt : (s = 1 ∧ pr' < pr) ∨ (s = 2 ∧ pr < pr')
        · have HF : Hid (AH = true) := Lib.hid (by rw [HAH.out]; unfold aheadB; simp only [hss] at hbt ⊢; simp [hbt])
          have BT2 := fun wx => BT.out s wx (ro id ac s pr sz lf rk ex st) (ro id' ac' s' pr' sz' lf' rk' ex' st')
          rw [decide_eq_true hbt] at BT2
          have BT3 := Lib.hid BT2
          clear BT BT2 hbt hss HAH
          go_wp2_with (go_at_call 7; (with_reducible refine (BT3.out _ HT.out).mono ?_); rintro e w2 ⟨rfl, T2⟩; obtain ⟨c0, c2, c3, c6, cf⟩ := ro_of T2.a; obtain ⟨d0, d2, d3, d6, df⟩ := ro_of T2.b)
          all_goals go_meet
          all_goals exact ⟨by rw [HF.out], Lib.hid T2⟩
        · have HG : Hid (AH = (decide (pr = pr') && idB rk id rk' id')) := Lib.hid (by rw [HAH.out]; unfold aheadB; simp only [hss] at hbt ⊢; simp [hbt])
          have BT2 := fun wx => BT.out s wx (ro id ac s pr sz lf rk ex st) (ro id' ac' s' pr' sz' lf' rk' ex' st')
          rw [decide_eq_false hbt] at BT2
          have BT3 := Lib.hid BT2
          clear BT BT2 hbt hss HAH HP3
          by_cases hpr : pr = pr'
          · obtain ⟨q1, q2⟩ := eq_bb hpr
            rcases HID3 with ⟨i1, i2, i3⟩ | ⟨i1, i2, i3⟩ | ⟨i1, i2 | i2⟩
            · have HF : Hid (AH = true) := Lib.hid (by rw [HG.out]; unfold idB; simp [hpr, i1])
              clear hpr
              clear HG
              go_wp2_with (go_at_call 7; (with_reducible refine (BT3.out _ HT.out).mono ?_); rintro e w2 ⟨rfl, T2⟩; obtain ⟨c0, c2, c3, c6, cf⟩ := ro_of T2.a; obtain ⟨d0, d2, d3, d6, df⟩ := ro_of T2.b)
              all_goals go_meet
              all_goals exact ⟨by first | (rw [HF.out]; done) | (rw [HF.out]; simp [i2]; done) | (rw [HF.out]; simp [j3, i2]; done), Lib.hid T2⟩
            · have HF : Hid (AH = false) := Lib.hid (by rw [HG.out]; unfold idB; simp [i2, i3])
              obtain ⟨j1, j2⟩ := ne_bb i3
              clear hpr i3
              clear HG
              go_wp2_with (go_at_call 7; (with_reducible refine (BT3.out _ HT.out).mono ?_); rintro e w2 ⟨rfl, T2⟩; obtain ⟨c0, c2, c3, c6, cf⟩ := ro_of T2.a; obtain ⟨d0, d2, d3, d6, df⟩ := ro_of T2.b)
              all_goals go_meet
              all_goals exact ⟨by first | (rw [HF.out]; done) | (rw [HF.out]; simp [i2]; done) | (rw [HF.out]; simp [j3, i2]; done), Lib.hid T2⟩
            · have HF : Hid (AH = true) := Lib.hid (by rw [HG.out]; unfold idB; simp [hpr, i1, i2])
              obtain ⟨j1, j2⟩ := eq_bb i1
              have j3 : ¬ rk < rk' := by omega
              clear hpr i1
              clear HG
              go_wp2_with (go_at_call 7; (with_reducible refine (BT3.out _ HT.out).mono ?_); rintro e w2 ⟨rfl, T2⟩; obtain ⟨c0, c2, c3, c6, cf⟩ := ro_of T2.a; obtain ⟨d0, d2, d3, d6, df⟩ := ro_of T2.b)
              all_goals go_meet
              all_goals exact ⟨by first | (rw [HF.out]; done) | (rw [HF.out]; simp [i2]; done) | (rw [HF.out]; simp [j3, i2]; done), Lib.hid T2⟩
            · have HF : Hid (AH = false) := Lib.hid (by rw [HG.out]; unfold idB; simp [i1, i2])
              obtain ⟨j1, j2⟩ := eq_bb i1
              have j3 : ¬ rk < rk' := by omega
              clear hpr i1
              clear HG
              go_wp2_with (go_at_call 7; (with_reducible refine (BT3.out _ HT.out).mono ?_); rintro e w2 ⟨rfl, T2⟩; obtain ⟨c0, c2, c3, c6, cf⟩ := ro_of T2.a; obtain ⟨d0, d2, d3, d6, df⟩ := ro_of T2.b)
              all_goals go_meet
              all_goals exact ⟨by first | (rw [HF.out]; done) | (rw [HF.out]; simp [i2]; done) | (rw [HF.out]; simp [j3, i2]; done), Lib.hid T2⟩
          · have HF : Hid (AH = false) := Lib.hid (by rw [HG.out]; simp [hpr])
            obtain ⟨q1, q2⟩ := ne_bb hpr
            clear hpr
            clear HG
            go_wp2_with (go_at_call 7; (with_reducible refine (BT3.out _ HT.out).mono ?_); rintro e w2 ⟨rfl, T2⟩; obtain ⟨c0, c2, c3, c6, cf⟩ := ro_of T2.a; obtain ⟨d0, d2, d3, d6, df⟩ := ro_of T2.b)
            all_goals go_meet
            all_goals exact ⟨by first | (rw [HF.out]; done) | (rw [HF.out]; simp [i2]; done) | (rw [HF.out]; simp [j3, i2]; done), Lib.hid T2⟩
      · obtain ⟨p1, p2⟩ := ne_bb hss
        have HF : Hid (AH = decide (s < s')) := Lib.hid (by rw [HAH.out]; unfold aheadB; simp [hss])
        clear BT HAH hss
        go_wp2
        all_goals go_meet
        all_goals exact ⟨by rw [HF.out], HT⟩
    case rest =>
      obtain ⟨rfl, HT2⟩ := hcut
      have T := HT2.out
      clear HT HT2 a0 a2 a3 a6 af b0 b2 b3 b6 bf HAH HP3 BT
      go_upto_region 8 with (first
        | (with_reducible refine wpList_load_row rfl 24 (.tmp 2) rfl w.heap.size rfl 24 (ro id ac s pr sz lf rk ex st) (0, 0) _ T.a Tryd.underlying24 rfl (info_ro _ _ _ _ _ _ _ _ _) ?_)
        | (go_at_call 9; (with_reducible refine (P1.out _ _ _ T).mono ?_); rintro e w3 ⟨rfl, T⟩)
        | (go_at_call 8; (with_reducible refine (P4.out _ _ _ T).mono ?_); rintro e w4 ⟨rfl, T4⟩; have T := (T4.made (cellsT ⟨#[98]⟩ 0 id s pr rk 0 ByteArray.empty)).step (w' := (w4.alloc (.cells (cellsT ⟨#[98]⟩ 0 id s pr rk 0 ByteArray.empty) 28)).drew) (Drew.refl _).drew.below))
      have TT := T
      clear T T4 P1 P4
      dsimp only [List.append]
      rcases HID3 with ⟨i1, i2, i3⟩ | ⟨i1, i2, i3⟩ | ⟨i1, i2 | i2⟩
      · exact absurd (hcase.out).1 (by omega)
      · exact absurd (hcase.out).1 (by omega)
      · exact absurd (show id < id' by omega) (by have := hcase.out.2; omega)
      · have hid : idB rk id rk' id' = false := by unfold idB; simp [i1, i2]
        rw [hid] at EL
        obtain ⟨j1, j2⟩ := eq_bb i1
        have j3 : ¬ rk < rk' := by omega
        have j4 : decide (rk < rk') = false := decide_eq_false (by omega)
        have j5 : decide (id < id') = false := decide_eq_false (by omega)
        clear hid i1
        refine wp_region_held_drew (S := SO3 w (ro id ac s pr sz lf rk ex st) (ro id' ac' s' pr' sz' lf' rk' ex' st') (cellsT ⟨#[98]⟩ 0 id s pr rk 0 ByteArray.empty) w4.heap.size) (by kernel_rfl) TT (fun hHeld => ?_)
        refine wpAnyH_take (i := 0) (v := ?_) (by (try simp only [List.getElem?_toArray, List.getElem?_cons_succ, List.getElem?_cons_zero]); exact rfl) (by kernel_rfl) (by kernel_rfl) (by kernel_rfl) (by intro _ _ _ h; exact h) (Or.inl ⟨by rfl, ?_⟩) hHeld ?_
        rotate_left
        · intro w hSw
          obtain ⟨k0, k1, k2, k3, k4, k5, k6, k7, k8, k9, k10, k11, k12, k13, k14, k15, k16, k17, k18, k19, k20, k21, hBw⟩ := SO3.cells hSw
          go_simp
          all_goals (with_reducible rfl)
        (try simp only [Act.put, List.setIfInBounds_toArray, List.set_cons_zero, List.set_cons_succ])
        refine wpAnyH_take (i := 2) (v := ?_) (by (try simp only [List.getElem?_toArray, List.getElem?_cons_succ, List.getElem?_cons_zero]); exact rfl) (by kernel_rfl) (by kernel_rfl) (by kernel_rfl) (by intro _ _ _ h; exact h) (Or.inl ⟨by rfl, ?_⟩) hHeld ?_
        rotate_left
        · intro w hSw
          obtain ⟨k0, k1, k2, k3, k4, k5, k6, k7, k8, k9, k10, k11, k12, k13, k14, k15, k16, k17, k18, k19, k20, k21, hBw⟩ := SO3.cells hSw
          go_simp
          all_goals (with_reducible rfl)
        (try simp only [Act.put, List.setIfInBounds_toArray, List.set_cons_zero, List.set_cons_succ])
        refine wpAnyH_take (i := 5) (v := ?_) (by (try simp only [List.getElem?_toArray, List.getElem?_cons_succ, List.getElem?_cons_zero]); exact rfl) (by kernel_rfl) (by kernel_rfl) (by kernel_rfl) (by intro _ _ _ h; exact h) (Or.inl ⟨by rfl, ?_⟩) hHeld ?_
        rotate_left
        · intro w hSw
          obtain ⟨k0, k1, k2, k3, k4, k5, k6, k7, k8, k9, k10, k11, k12, k13, k14, k15, k16, k17, k18, k19, k20, k21, hBw⟩ := SO3.cells hSw
          go_simp
          all_goals (with_reducible rfl)
        (try simp only [Act.put, List.setIfInBounds_toArray, List.set_cons_zero, List.set_cons_succ])
        refine wpAnyH_ready (rs := [1]) (by kernel_rfl) (by simp) ?_
        refine AllReadyH.cons (by (try simp only [List.getElem?_toArray, List.getElem?_cons_succ, List.getElem?_cons_zero]); exact rfl) (fun K hK => ?_) AllReadyH.nil
        rw [if_pos (by rfl)]
        go_simp
        go_at_call 9
        (with_reducible refine (P2.out _ _ _ _ _ hHeld).mono ?_)
        rintro e w9 ⟨rfl, hT9⟩
        go_wp2_with fail
        refine hK.out _ _ hT9 (fun hHeld => ?_)
        clear hK K hT9
        (try simp only [Act.put, List.setIfInBounds_toArray, List.set_cons_zero, List.set_cons_succ])
        refine wpAnyH_ready (rs := [3]) (by kernel_rfl) (by simp) ?_
        refine AllReadyH.cons (by (try simp only [List.getElem?_toArray, List.getElem?_cons_succ, List.getElem?_cons_zero]); exact rfl) (fun K hK => ?_) AllReadyH.nil
        rw [if_pos (by rfl)]
        go_simp
        go_at_call 9
        (with_reducible refine (P3.out _ _ _ _ _ hHeld).mono ?_)
        rintro e w9 ⟨rfl, hT9⟩
        go_wp2_with fail
        refine hK.out _ _ hT9 (fun hHeld => ?_)
        clear hK K hT9
        (try simp only [Act.put, List.setIfInBounds_toArray, List.set_cons_zero, List.set_cons_succ])
        refine wpAnyH_take (i := 4) (v := ?_) (by (try simp only [List.getElem?_toArray, List.getElem?_cons_succ, List.getElem?_cons_zero]); exact rfl) (by kernel_rfl) (by kernel_rfl) (by kernel_rfl) (by intro _ _ _ h; exact h) (Or.inl ⟨by rfl, ?_⟩) hHeld ?_
        rotate_left
        · intro w hSw
          obtain ⟨k0, k1, k2, k3, k4, k5, k6, k7, k8, k9, k10, k11, k12, k13, k14, k15, k16, k17, k18, k19, k20, k21, hBw⟩ := SO3.cells hSw
          go_simp
          all_goals (with_reducible rfl)
        (try simp only [Act.put, List.setIfInBounds_toArray, List.set_cons_zero, List.set_cons_succ])
        refine wpAnyH_take (i := 6) (v := ?_) (by (try simp only [List.getElem?_toArray, List.getElem?_cons_succ, List.getElem?_cons_zero]); exact rfl) (by kernel_rfl) (by kernel_rfl) (by kernel_rfl) (by intro _ _ _ h; exact h) (Or.inl ⟨by rfl, ?_⟩) hHeld ?_
        rotate_left
        · intro w hSw
          obtain ⟨k0, k1, k2, k3, k4, k5, k6, k7, k8, k9, k10, k11, k12, k13, k14, k15, k16, k17, k18, k19, k20, k21, hBw⟩ := SO3.cells hSw
          go_simp
          all_goals (with_reducible rfl)
        (try simp only [Act.put, List.setIfInBounds_toArray, List.set_cons_zero, List.set_cons_succ])
        refine wpAnyH_take (i := 7) (v := ?_) (by (try simp only [List.getElem?_toArray, List.getElem?_cons_succ, List.getElem?_cons_zero]); exact rfl) (by kernel_rfl) (by kernel_rfl) (by kernel_rfl) (by intro _ _ _ h; exact h) (Or.inl ⟨by rfl, ?_⟩) hHeld ?_
        rotate_left
        · intro w hSw
          obtain ⟨k0, k1, k2, k3, k4, k5, k6, k7, k8, k9, k10, k11, k12, k13, k14, k15, k16, k17, k18, k19, k20, k21, hBw⟩ := SO3.cells hSw
          go_simp
          all_goals (with_reducible rfl)
        (try simp only [Act.put, List.setIfInBounds_toArray, List.set_cons_zero, List.set_cons_succ])
        refine wpAnyH_take (i := 8) (v := ?_) (by (try simp only [List.getElem?_toArray, List.getElem?_cons_succ, List.getElem?_cons_zero]); exact rfl) (by kernel_rfl) (by kernel_rfl) (by kernel_rfl) (by intro _ _ _ h; exact h) (Or.inl ⟨by rfl, ?_⟩) hHeld ?_
        rotate_left
        · intro w hSw
          obtain ⟨k0, k1, k2, k3, k4, k5, k6, k7, k8, k9, k10, k11, k12, k13, k14, k15, k16, k17, k18, k19, k20, k21, hBw⟩ := SO3.cells hSw
          go_simp
          all_goals (with_reducible rfl)
        (try simp only [Act.put, List.setIfInBounds_toArray, List.set_cons_zero, List.set_cons_succ])
        refine wpAnyH_take (i := 9) (v := ?_) (by (try simp only [List.getElem?_toArray, List.getElem?_cons_succ, List.getElem?_cons_zero]); exact rfl) (by kernel_rfl) (by kernel_rfl) (by kernel_rfl) (by intro _ _ _ h; exact h) (Or.inl ⟨by rfl, ?_⟩) hHeld ?_
        rotate_left
        · intro w hSw
          obtain ⟨k0, k1, k2, k3, k4, k5, k6, k7, k8, k9, k10, k11, k12, k13, k14, k15, k16, k17, k18, k19, k20, k21, hBw⟩ := SO3.cells hSw
          go_simp
          all_goals (with_reducible rfl)
        (try simp only [Act.put, List.setIfInBounds_toArray, List.set_cons_zero, List.set_cons_succ])
        refine wpAnyH_take (i := 10) (v := ?_) (by (try simp only [List.getElem?_toArray, List.getElem?_cons_succ, List.getElem?_cons_zero]); exact rfl) (by kernel_rfl) (by kernel_rfl) (by kernel_rfl) (by intro _ _ _ h; exact h) (Or.inl ⟨by rfl, ?_⟩) hHeld ?_
        rotate_left
        · intro w hSw
          obtain ⟨k0, k1, k2, k3, k4, k5, k6, k7, k8, k9, k10, k11, k12, k13, k14, k15, k16, k17, k18, k19, k20, k21, hBw⟩ := SO3.cells hSw
          go_simp
          all_goals (with_reducible rfl)
        (try simp only [Act.put, List.setIfInBounds_toArray, List.set_cons_zero, List.set_cons_succ])
        refine wpAnyH_take (i := 11) (v := ?_) (by (try simp only [List.getElem?_toArray, List.getElem?_cons_succ, List.getElem?_cons_zero]); exact rfl) (by kernel_rfl) (by kernel_rfl) (by kernel_rfl) (by intro _ _ _ h; exact h) (Or.inl ⟨by rfl, ?_⟩) hHeld ?_
        rotate_left
        · intro w hSw
          obtain ⟨k0, k1, k2, k3, k4, k5, k6, k7, k8, k9, k10, k11, k12, k13, k14, k15, k16, k17, k18, k19, k20, k21, hBw⟩ := SO3.cells hSw
          go_simp
          all_goals (with_reducible rfl)
        (try simp only [Act.put, List.setIfInBounds_toArray, List.set_cons_zero, List.set_cons_succ])
        refine wpAnyH_take (i := 12) (v := ?_) (by (try simp only [List.getElem?_toArray, List.getElem?_cons_succ, List.getElem?_cons_zero]); exact rfl) (by kernel_rfl) (by kernel_rfl) (by kernel_rfl) (by intro _ _ _ h; exact h) (Or.inl ⟨by rfl, ?_⟩) hHeld ?_
        rotate_left
        · intro w hSw
          obtain ⟨k0, k1, k2, k3, k4, k5, k6, k7, k8, k9, k10, k11, k12, k13, k14, k15, k16, k17, k18, k19, k20, k21, hBw⟩ := SO3.cells hSw
          go_simp
          all_goals (with_reducible rfl)
        (try simp only [Act.put, List.setIfInBounds_toArray, List.set_cons_zero, List.set_cons_succ])
        refine wpAnyH_take (i := 13) (v := ?_) (by (try simp only [List.getElem?_toArray, List.getElem?_cons_succ, List.getElem?_cons_zero]); exact rfl) (by kernel_rfl) (by kernel_rfl) (by kernel_rfl) (by intro _ _ _ h; exact h) (Or.inl ⟨by rfl, ?_⟩) hHeld ?_
        rotate_left
        · intro w hSw
          obtain ⟨k0, k1, k2, k3, k4, k5, k6, k7, k8, k9, k10, k11, k12, k13, k14, k15, k16, k17, k18, k19, k20, k21, hBw⟩ := SO3.cells hSw
          go_simp
          all_goals (with_reducible rfl)
        (try simp only [Act.put, List.setIfInBounds_toArray, List.set_cons_zero, List.set_cons_succ])
        refine wpAnyH_take (i := 14) (v := ?_) (by (try simp only [List.getElem?_toArray, List.getElem?_cons_succ, List.getElem?_cons_zero]); exact rfl) (by kernel_rfl) (by kernel_rfl) (by kernel_rfl) (by intro _ _ _ h; exact h) (Or.inl ⟨by rfl, ?_⟩) hHeld ?_
        rotate_left
        · intro w hSw
          obtain ⟨k0, k1, k2, k3, k4, k5, k6, k7, k8, k9, k10, k11, k12, k13, k14, k15, k16, k17, k18, k19, k20, k21, hBw⟩ := SO3.cells hSw
          go_simp
          all_goals (with_reducible rfl)
        (try simp only [Act.put, List.setIfInBounds_toArray, List.set_cons_zero, List.set_cons_succ])
        refine wpAnyH_take (i := 15) (v := ?_) (by (try simp only [List.getElem?_toArray, List.getElem?_cons_succ, List.getElem?_cons_zero]); exact rfl) (by kernel_rfl) (by kernel_rfl) (by kernel_rfl) (by intro _ _ _ h; exact h) (Or.inl ⟨by rfl, ?_⟩) hHeld ?_
        rotate_left
        · intro w hSw
          obtain ⟨k0, k1, k2, k3, k4, k5, k6, k7, k8, k9, k10, k11, k12, k13, k14, k15, k16, k17, k18, k19, k20, k21, hBw⟩ := SO3.cells hSw
          go_simp
          all_goals (with_reducible rfl)
        (try simp only [Act.put, List.setIfInBounds_toArray, List.set_cons_zero, List.set_cons_succ])
        refine wpAnyH_take (i := 16) (v := ?_) (by (try simp only [List.getElem?_toArray, List.getElem?_cons_succ, List.getElem?_cons_zero]); exact rfl) (by kernel_rfl) (by kernel_rfl) (by kernel_rfl) (by intro _ _ _ h; exact h) (Or.inl ⟨by rfl, ?_⟩) hHeld ?_
        rotate_left
        · intro w hSw
          obtain ⟨k0, k1, k2, k3, k4, k5, k6, k7, k8, k9, k10, k11, k12, k13, k14, k15, k16, k17, k18, k19, k20, k21, hBw⟩ := SO3.cells hSw
          go_simp
          all_goals (with_reducible rfl)
        (try simp only [Act.put, List.setIfInBounds_toArray, List.set_cons_zero, List.set_cons_succ])
        refine wpAnyH_take (i := 17) (v := ?_) (by (try simp only [List.getElem?_toArray, List.getElem?_cons_succ, List.getElem?_cons_zero]); exact rfl) (by kernel_rfl) (by kernel_rfl) (by kernel_rfl) (by intro _ _ _ h; exact h) (Or.inl ⟨by rfl, ?_⟩) hHeld ?_
        rotate_left
        · intro w hSw
          obtain ⟨k0, k1, k2, k3, k4, k5, k6, k7, k8, k9, k10, k11, k12, k13, k14, k15, k16, k17, k18, k19, k20, k21, hBw⟩ := SO3.cells hSw
          go_simp
          all_goals (with_reducible rfl)
        (try simp only [Act.put, List.setIfInBounds_toArray, List.set_cons_zero, List.set_cons_succ])
        refine wpAnyH_take (i := 18) (v := ?_) (by (try simp only [List.getElem?_toArray, List.getElem?_cons_succ, List.getElem?_cons_zero]); exact rfl) (by kernel_rfl) (by kernel_rfl) (by kernel_rfl) (by intro _ _ _ h; exact h) (Or.inl ⟨by rfl, ?_⟩) hHeld ?_
        rotate_left
        · intro w hSw
          obtain ⟨k0, k1, k2, k3, k4, k5, k6, k7, k8, k9, k10, k11, k12, k13, k14, k15, k16, k17, k18, k19, k20, k21, hBw⟩ := SO3.cells hSw
          go_simp
          all_goals (with_reducible rfl)
        (try simp only [Act.put, List.setIfInBounds_toArray, List.set_cons_zero, List.set_cons_succ])
        refine wpAnyH_take (i := 19) (v := ?_) (by (try simp only [List.getElem?_toArray, List.getElem?_cons_succ, List.getElem?_cons_zero]); exact rfl) (by kernel_rfl) (by kernel_rfl) (by kernel_rfl) (by intro _ _ _ h; exact h) (Or.inl ⟨by rfl, ?_⟩) hHeld ?_
        rotate_left
        · intro w hSw
          obtain ⟨k0, k1, k2, k3, k4, k5, k6, k7, k8, k9, k10, k11, k12, k13, k14, k15, k16, k17, k18, k19, k20, k21, hBw⟩ := SO3.cells hSw
          go_simp
          all_goals (with_reducible rfl)
        (try simp only [Act.put, List.setIfInBounds_toArray, List.set_cons_zero, List.set_cons_succ])
        refine wpAnyH_take (i := 20) (v := ?_) (by (try simp only [List.getElem?_toArray, List.getElem?_cons_succ, List.getElem?_cons_zero]); exact rfl) (by kernel_rfl) (by kernel_rfl) (by kernel_rfl) (by intro _ _ _ h; exact h) (Or.inl ⟨by rfl, ?_⟩) hHeld ?_
        rotate_left
        · intro w hSw
          obtain ⟨k0, k1, k2, k3, k4, k5, k6, k7, k8, k9, k10, k11, k12, k13, k14, k15, k16, k17, k18, k19, k20, k21, hBw⟩ := SO3.cells hSw
          go_simp
          all_goals (with_reducible rfl)
        (try simp only [Act.put, List.setIfInBounds_toArray, List.set_cons_zero, List.set_cons_succ])
        refine wpAnyH_take (i := 21) (v := ?_) (by (try simp only [List.getElem?_toArray, List.getElem?_cons_succ, List.getElem?_cons_zero]); exact rfl) (by kernel_rfl) (by kernel_rfl) (by kernel_rfl) (by intro _ _ _ h; exact h) (Or.inl ⟨by rfl, ?_⟩) hHeld ?_
        rotate_left
        · intro w hSw
          obtain ⟨k0, k1, k2, k3, k4, k5, k6, k7, k8, k9, k10, k11, k12, k13, k14, k15, k16, k17, k18, k19, k20, k21, hBw⟩ := SO3.cells hSw
          go_simp
          all_goals (with_reducible rfl)
        (try simp only [Act.put, List.setIfInBounds_toArray, List.set_cons_zero, List.set_cons_succ])
        refine wpAnyH_take (i := 22) (v := ?_) (by (try simp only [List.getElem?_toArray, List.getElem?_cons_succ, List.getElem?_cons_zero]); exact rfl) (by kernel_rfl) (by kernel_rfl) (by kernel_rfl) (by intro _ _ _ h; exact h) (Or.inl ⟨by rfl, ?_⟩) hHeld ?_
        rotate_left
        · intro w hSw
          obtain ⟨k0, k1, k2, k3, k4, k5, k6, k7, k8, k9, k10, k11, k12, k13, k14, k15, k16, k17, k18, k19, k20, k21, hBw⟩ := SO3.cells hSw
          go_simp
          all_goals (with_reducible rfl)
        (try simp only [Act.put, List.setIfInBounds_toArray, List.set_cons_zero, List.set_cons_succ])
        refine wpAnyH_take (i := 23) (v := ?_) (by (try simp only [List.getElem?_toArray, List.getElem?_cons_succ, List.getElem?_cons_zero]); exact rfl) (by kernel_rfl) (by kernel_rfl) (by kernel_rfl) (by intro _ _ _ h; exact h) (Or.inl ⟨by rfl, ?_⟩) hHeld ?_
        rotate_left
        · intro w hSw
          obtain ⟨k0, k1, k2, k3, k4, k5, k6, k7, k8, k9, k10, k11, k12, k13, k14, k15, k16, k17, k18, k19, k20, k21, hBw⟩ := SO3.cells hSw
          go_simp
          all_goals (with_reducible rfl)
        (try simp only [Act.put, List.setIfInBounds_toArray, List.set_cons_zero, List.set_cons_succ])
        refine wpAnyH_take (i := 24) (v := ?_) (by (try simp only [List.getElem?_toArray, List.getElem?_cons_succ, List.getElem?_cons_zero]); exact rfl) (by kernel_rfl) (by kernel_rfl) (by kernel_rfl) (by intro _ _ _ h; exact h) (Or.inl ⟨by rfl, ?_⟩) hHeld ?_
        rotate_left
        · intro w hSw
          obtain ⟨k0, k1, k2, k3, k4, k5, k6, k7, k8, k9, k10, k11, k12, k13, k14, k15, k16, k17, k18, k19, k20, k21, hBw⟩ := SO3.cells hSw
          go_simp
          all_goals (with_reducible rfl)
        (try simp only [Act.put, List.setIfInBounds_toArray, List.set_cons_zero, List.set_cons_succ])
        refine wpAnyH_take (i := 25) (v := ?_) (by (try simp only [List.getElem?_toArray, List.getElem?_cons_succ, List.getElem?_cons_zero]); exact rfl) (by kernel_rfl) (by kernel_rfl) (by kernel_rfl) (by intro _ _ _ h; exact h) (Or.inl ⟨by rfl, ?_⟩) hHeld ?_
        rotate_left
        · intro w hSw
          obtain ⟨k0, k1, k2, k3, k4, k5, k6, k7, k8, k9, k10, k11, k12, k13, k14, k15, k16, k17, k18, k19, k20, k21, hBw⟩ := SO3.cells hSw
          go_simp
          all_goals (with_reducible rfl)
        (try simp only [Act.put, List.setIfInBounds_toArray, List.set_cons_zero, List.set_cons_succ])
        refine wpAnyH_take (i := 26) (v := ?_) (by (try simp only [List.getElem?_toArray, List.getElem?_cons_succ, List.getElem?_cons_zero]); exact rfl) (by kernel_rfl) (by kernel_rfl) (by kernel_rfl) (by intro _ _ _ h; exact h) (Or.inl ⟨by rfl, ?_⟩) hHeld ?_
        rotate_left
        · intro w hSw
          obtain ⟨k0, k1, k2, k3, k4, k5, k6, k7, k8, k9, k10, k11, k12, k13, k14, k15, k16, k17, k18, k19, k20, k21, hBw⟩ := SO3.cells hSw
          go_simp
          all_goals (with_reducible rfl)
        (try simp only [Act.put, List.setIfInBounds_toArray, List.set_cons_zero, List.set_cons_succ])
        refine wpAnyH_take (i := 27) (v := ?_) (by (try simp only [List.getElem?_toArray, List.getElem?_cons_succ, List.getElem?_cons_zero]); exact rfl) (by kernel_rfl) (by kernel_rfl) (by kernel_rfl) (by intro _ _ _ h; exact h) (Or.inl ⟨by rfl, ?_⟩) hHeld ?_
        rotate_left
        · intro w hSw
          obtain ⟨k0, k1, k2, k3, k4, k5, k6, k7, k8, k9, k10, k11, k12, k13, k14, k15, k16, k17, k18, k19, k20, k21, hBw⟩ := SO3.cells hSw
          go_simp
          all_goals (with_reducible rfl)
        (try simp only [Act.put, List.setIfInBounds_toArray, List.set_cons_zero, List.set_cons_succ])
        refine wpAnyH_take (i := 28) (v := ?_) (by (try simp only [List.getElem?_toArray, List.getElem?_cons_succ, List.getElem?_cons_zero]); exact rfl) (by kernel_rfl) (by kernel_rfl) (by kernel_rfl) (by intro _ _ _ h; exact h) (Or.inl ⟨by rfl, ?_⟩) hHeld ?_
        rotate_left
        · intro w hSw
          obtain ⟨k0, k1, k2, k3, k4, k5, k6, k7, k8, k9, k10, k11, k12, k13, k14, k15, k16, k17, k18, k19, k20, k21, hBw⟩ := SO3.cells hSw
          go_simp
          all_goals (with_reducible rfl)
        (try simp only [Act.put, List.setIfInBounds_toArray, List.set_cons_zero, List.set_cons_succ])
        refine wpAnyH_take (i := 29) (v := ?_) (by (try simp only [List.getElem?_toArray, List.getElem?_cons_succ, List.getElem?_cons_zero]); exact rfl) (by kernel_rfl) (by kernel_rfl) (by kernel_rfl) (by intro _ _ _ h; exact h) (Or.inl ⟨by rfl, ?_⟩) hHeld ?_
        rotate_left
        · intro w hSw
          obtain ⟨k0, k1, k2, k3, k4, k5, k6, k7, k8, k9, k10, k11, k12, k13, k14, k15, k16, k17, k18, k19, k20, k21, hBw⟩ := SO3.cells hSw
          go_simp
          all_goals (with_reducible rfl)
        (try simp only [Act.put, List.setIfInBounds_toArray, List.set_cons_zero, List.set_cons_succ])
        refine wpAnyH_take (i := 30) (v := ?_) (by (try simp only [List.getElem?_toArray, List.getElem?_cons_succ, List.getElem?_cons_zero]); exact rfl) (by kernel_rfl) (by kernel_rfl) (by kernel_rfl) (by intro _ _ _ h; exact h) (Or.inl ⟨by rfl, ?_⟩) hHeld ?_
        rotate_left
        · intro w hSw
          obtain ⟨k0, k1, k2, k3, k4, k5, k6, k7, k8, k9, k10, k11, k12, k13, k14, k15, k16, k17, k18, k19, k20, k21, hBw⟩ := SO3.cells hSw
          go_simp
          all_goals (with_reducible rfl)
        (try simp only [Act.put, List.setIfInBounds_toArray, List.set_cons_zero, List.set_cons_succ])
        refine wpAnyH_take (i := 31) (v := ?_) (by (try simp only [List.getElem?_toArray, List.getElem?_cons_succ, List.getElem?_cons_zero]); exact rfl) (by kernel_rfl) (by kernel_rfl) (by kernel_rfl) (by intro _ _ _ h; exact h) (Or.inl ⟨by rfl, ?_⟩) hHeld ?_
        rotate_left
        · intro w hSw
          obtain ⟨k0, k1, k2, k3, k4, k5, k6, k7, k8, k9, k10, k11, k12, k13, k14, k15, k16, k17, k18, k19, k20, k21, hBw⟩ := SO3.cells hSw
          go_simp
          all_goals (with_reducible rfl)
        (try simp only [Act.put, List.setIfInBounds_toArray, List.set_cons_zero, List.set_cons_succ])
        refine wpAnyH_take (i := 32) (v := ?_) (by (try simp only [List.getElem?_toArray, List.getElem?_cons_succ, List.getElem?_cons_zero]); exact rfl) (by kernel_rfl) (by kernel_rfl) (by kernel_rfl) (by intro _ _ _ h; exact h) (Or.inl ⟨by rfl, ?_⟩) hHeld ?_
        rotate_left
        · intro w hSw
          obtain ⟨k0, k1, k2, k3, k4, k5, k6, k7, k8, k9, k10, k11, k12, k13, k14, k15, k16, k17, k18, k19, k20, k21, hBw⟩ := SO3.cells hSw
          go_simp
          all_goals (with_reducible rfl)
        (try simp only [Act.put, List.setIfInBounds_toArray, List.set_cons_zero, List.set_cons_succ])
        refine wpAnyH_take (i := 33) (v := ?_) (by (try simp only [List.getElem?_toArray, List.getElem?_cons_succ, List.getElem?_cons_zero]); exact rfl) (by kernel_rfl) (by kernel_rfl) (by kernel_rfl) (by intro _ _ _ h; exact h) (Or.inl ⟨by rfl, ?_⟩) hHeld ?_
        rotate_left
        · intro w hSw
          obtain ⟨k0, k1, k2, k3, k4, k5, k6, k7, k8, k9, k10, k11, k12, k13, k14, k15, k16, k17, k18, k19, k20, k21, hBw⟩ := SO3.cells hSw
          go_simp
          all_goals (with_reducible rfl)
        (try simp only [Act.put, List.setIfInBounds_toArray, List.set_cons_zero, List.set_cons_succ])
        refine wpAnyH_take (i := 34) (v := ?_) (by (try simp only [List.getElem?_toArray, List.getElem?_cons_succ, List.getElem?_cons_zero]); exact rfl) (by kernel_rfl) (by kernel_rfl) (by kernel_rfl) (by intro _ _ _ h; exact h) (Or.inl ⟨by rfl, ?_⟩) hHeld ?_
        rotate_left
        · intro w hSw
          obtain ⟨k0, k1, k2, k3, k4, k5, k6, k7, k8, k9, k10, k11, k12, k13, k14, k15, k16, k17, k18, k19, k20, k21, hBw⟩ := SO3.cells hSw
          go_simp
          all_goals (with_reducible rfl)
        (try simp only [Act.put, List.setIfInBounds_toArray, List.set_cons_zero, List.set_cons_succ])
        refine wpAnyH_take (i := 35) (v := ?_) (by (try simp only [List.getElem?_toArray, List.getElem?_cons_succ, List.getElem?_cons_zero]); exact rfl) (by kernel_rfl) (by kernel_rfl) (by kernel_rfl) (by intro _ _ _ h; exact h) (Or.inl ⟨by rfl, ?_⟩) hHeld ?_
        rotate_left
        · intro w hSw
          obtain ⟨k0, k1, k2, k3, k4, k5, k6, k7, k8, k9, k10, k11, k12, k13, k14, k15, k16, k17, k18, k19, k20, k21, hBw⟩ := SO3.cells hSw
          go_simp
          all_goals (with_reducible rfl)
        (try simp only [Act.put, List.setIfInBounds_toArray, List.set_cons_zero, List.set_cons_succ])
        refine wpAnyH_take (i := 36) (v := ?_) (by (try simp only [List.getElem?_toArray, List.getElem?_cons_succ, List.getElem?_cons_zero]); exact rfl) (by kernel_rfl) (by kernel_rfl) (by kernel_rfl) (by intro _ _ _ h; exact h) (Or.inl ⟨by rfl, ?_⟩) hHeld ?_
        rotate_left
        · intro w hSw
          obtain ⟨k0, k1, k2, k3, k4, k5, k6, k7, k8, k9, k10, k11, k12, k13, k14, k15, k16, k17, k18, k19, k20, k21, hBw⟩ := SO3.cells hSw
          go_simp
          all_goals (with_reducible rfl)
        (try simp only [Act.put, List.setIfInBounds_toArray, List.set_cons_zero, List.set_cons_succ])
        refine wpAnyH_take (i := 37) (v := ?_) (by (try simp only [List.getElem?_toArray, List.getElem?_cons_succ, List.getElem?_cons_zero]); exact rfl) (by kernel_rfl) (by kernel_rfl) (by kernel_rfl) (by intro _ _ _ h; exact h) (Or.inl ⟨by rfl, ?_⟩) hHeld ?_
        rotate_left
        · intro w hSw
          obtain ⟨k0, k1, k2, k3, k4, k5, k6, k7, k8, k9, k10, k11, k12, k13, k14, k15, k16, k17, k18, k19, k20, k21, hBw⟩ := SO3.cells hSw
          go_simp
          all_goals (with_reducible rfl)
        (try simp only [Act.put, List.setIfInBounds_toArray, List.set_cons_zero, List.set_cons_succ])
        refine wpAnyH_take (i := 38) (v := ?_) (by (try simp only [List.getElem?_toArray, List.getElem?_cons_succ, List.getElem?_cons_zero]); exact rfl) (by kernel_rfl) (by kernel_rfl) (by kernel_rfl) (by intro _ _ _ h; exact h) (Or.inl ⟨by rfl, ?_⟩) hHeld ?_
        rotate_left
        · intro w hSw
          obtain ⟨k0, k1, k2, k3, k4, k5, k6, k7, k8, k9, k10, k11, k12, k13, k14, k15, k16, k17, k18, k19, k20, k21, hBw⟩ := SO3.cells hSw
          go_simp
          all_goals (with_reducible rfl)
        (try simp only [Act.put, List.setIfInBounds_toArray, List.set_cons_zero, List.set_cons_succ])
        refine wpAnyH_take (i := 39) (v := ?_) (by (try simp only [List.getElem?_toArray, List.getElem?_cons_succ, List.getElem?_cons_zero]); exact rfl) (by kernel_rfl) (by kernel_rfl) (by kernel_rfl) (by intro _ _ _ h; exact h) (Or.inl ⟨by rfl, ?_⟩) hHeld ?_
        rotate_left
        · intro w hSw
          obtain ⟨k0, k1, k2, k3, k4, k5, k6, k7, k8, k9, k10, k11, k12, k13, k14, k15, k16, k17, k18, k19, k20, k21, hBw⟩ := SO3.cells hSw
          go_simp
          all_goals (with_reducible rfl)
        (try simp only [Act.put, List.setIfInBounds_toArray, List.set_cons_zero, List.set_cons_succ])
        refine wpAnyH_take (i := 40) (v := ?_) (by (try simp only [List.getElem?_toArray, List.getElem?_cons_succ, List.getElem?_cons_zero]); exact rfl) (by kernel_rfl) (by kernel_rfl) (by kernel_rfl) (by intro _ _ _ h; exact h) (Or.inl ⟨by rfl, ?_⟩) hHeld ?_
        rotate_left
        · intro w hSw
          obtain ⟨k0, k1, k2, k3, k4, k5, k6, k7, k8, k9, k10, k11, k12, k13, k14, k15, k16, k17, k18, k19, k20, k21, hBw⟩ := SO3.cells hSw
          go_simp
          all_goals (with_reducible rfl)
        (try simp only [Act.put, List.setIfInBounds_toArray, List.set_cons_zero, List.set_cons_succ])
        refine wpAnyH_take (i := 41) (v := ?_) (by (try simp only [List.getElem?_toArray, List.getElem?_cons_succ, List.getElem?_cons_zero]); exact rfl) (by kernel_rfl) (by kernel_rfl) (by kernel_rfl) (by intro _ _ _ h; exact h) (Or.inl ⟨by rfl, ?_⟩) hHeld ?_
        rotate_left
        · intro w hSw
          obtain ⟨k0, k1, k2, k3, k4, k5, k6, k7, k8, k9, k10, k11, k12, k13, k14, k15, k16, k17, k18, k19, k20, k21, hBw⟩ := SO3.cells hSw
          go_simp
          all_goals (with_reducible rfl)
        (try simp only [Act.put, List.setIfInBounds_toArray, List.set_cons_zero, List.set_cons_succ])
        refine wpAnyH_take (i := 42) (v := ?_) (by (try simp only [List.getElem?_toArray, List.getElem?_cons_succ, List.getElem?_cons_zero]); exact rfl) (by kernel_rfl) (by kernel_rfl) (by kernel_rfl) (by intro _ _ _ h; exact h) (Or.inl ⟨by rfl, ?_⟩) hHeld ?_
        rotate_left
        · intro w hSw
          obtain ⟨k0, k1, k2, k3, k4, k5, k6, k7, k8, k9, k10, k11, k12, k13, k14, k15, k16, k17, k18, k19, k20, k21, hBw⟩ := SO3.cells hSw
          go_simp
          all_goals (with_reducible rfl)
        (try simp only [Act.put, List.setIfInBounds_toArray, List.set_cons_zero, List.set_cons_succ])
        refine wpAnyH_take (i := 43) (v := ?_) (by (try simp only [List.getElem?_toArray, List.getElem?_cons_succ, List.getElem?_cons_zero]); exact rfl) (by kernel_rfl) (by kernel_rfl) (by kernel_rfl) (by intro _ _ _ h; exact h) (Or.inl ⟨by rfl, ?_⟩) hHeld ?_
        rotate_left
        · intro w hSw
          obtain ⟨k0, k1, k2, k3, k4, k5, k6, k7, k8, k9, k10, k11, k12, k13, k14, k15, k16, k17, k18, k19, k20, k21, hBw⟩ := SO3.cells hSw
          go_simp
          all_goals (with_reducible rfl)
        (try simp only [Act.put, List.setIfInBounds_toArray, List.set_cons_zero, List.set_cons_succ])
        refine wpAnyH_take (i := 45) (v := ?_) (by (try simp only [List.getElem?_toArray, List.getElem?_cons_succ, List.getElem?_cons_zero]); exact rfl) (by kernel_rfl) (by kernel_rfl) (by kernel_rfl) (by intro _ _ _ h; exact h) (Or.inl ⟨by rfl, ?_⟩) hHeld ?_
        rotate_left
        · intro w hSw
          obtain ⟨k0, k1, k2, k3, k4, k5, k6, k7, k8, k9, k10, k11, k12, k13, k14, k15, k16, k17, k18, k19, k20, k21, hBw⟩ := SO3.cells hSw
          go_simp
          all_goals (with_reducible rfl)
        (try simp only [Act.put, List.setIfInBounds_toArray, List.set_cons_zero, List.set_cons_succ])
        refine wpAnyH_take (i := 46) (v := ?_) (by (try simp only [List.getElem?_toArray, List.getElem?_cons_succ, List.getElem?_cons_zero]); exact rfl) (by kernel_rfl) (by kernel_rfl) (by kernel_rfl) (by intro _ _ _ h; exact h) (Or.inl ⟨by rfl, ?_⟩) hHeld ?_
        rotate_left
        · intro w hSw
          obtain ⟨k0, k1, k2, k3, k4, k5, k6, k7, k8, k9, k10, k11, k12, k13, k14, k15, k16, k17, k18, k19, k20, k21, hBw⟩ := SO3.cells hSw
          go_simp
          all_goals (with_reducible rfl)
        (try simp only [Act.put, List.setIfInBounds_toArray, List.set_cons_zero, List.set_cons_succ])
        refine wpAnyH_take (i := 47) (v := ?_) (by (try simp only [List.getElem?_toArray, List.getElem?_cons_succ, List.getElem?_cons_zero]); exact rfl) (by kernel_rfl) (by kernel_rfl) (by kernel_rfl) (by intro _ _ _ h; exact h) (Or.inl ⟨by rfl, ?_⟩) hHeld ?_
        rotate_left
        · intro w hSw
          obtain ⟨k0, k1, k2, k3, k4, k5, k6, k7, k8, k9, k10, k11, k12, k13, k14, k15, k16, k17, k18, k19, k20, k21, hBw⟩ := SO3.cells hSw
          go_simp
          all_goals (with_reducible rfl)
        (try simp only [Act.put, List.setIfInBounds_toArray, List.set_cons_zero, List.set_cons_succ])
        refine wpAnyH_take (i := 48) (v := ?_) (by (try simp only [List.getElem?_toArray, List.getElem?_cons_succ, List.getElem?_cons_zero]); exact rfl) (by kernel_rfl) (by kernel_rfl) (by kernel_rfl) (by intro _ _ _ h; exact h) (Or.inl ⟨by rfl, ?_⟩) hHeld ?_
        rotate_left
        · intro w hSw
          obtain ⟨k0, k1, k2, k3, k4, k5, k6, k7, k8, k9, k10, k11, k12, k13, k14, k15, k16, k17, k18, k19, k20, k21, hBw⟩ := SO3.cells hSw
          go_simp
          all_goals (with_reducible rfl)
        (try simp only [Act.put, List.setIfInBounds_toArray, List.set_cons_zero, List.set_cons_succ])
        refine wpAnyH_take (i := 51) (v := ?_) (by (try simp only [List.getElem?_toArray, List.getElem?_cons_succ, List.getElem?_cons_zero]); exact rfl) (by kernel_rfl) (by kernel_rfl) (by kernel_rfl) (by intro _ _ _ h; exact h) (Or.inl ⟨by rfl, ?_⟩) hHeld ?_
        rotate_left
        · intro w hSw
          obtain ⟨k0, k1, k2, k3, k4, k5, k6, k7, k8, k9, k10, k11, k12, k13, k14, k15, k16, k17, k18, k19, k20, k21, hBw⟩ := SO3.cells hSw
          go_simp
          all_goals (with_reducible rfl)
        (try simp only [Act.put, List.setIfInBounds_toArray, List.set_cons_zero, List.set_cons_succ])
        refine wpAnyH_take (i := 52) (v := ?_) (by (try simp only [List.getElem?_toArray, List.getElem?_cons_succ, List.getElem?_cons_zero]); exact rfl) (by kernel_rfl) (by kernel_rfl) (by kernel_rfl) (by intro _ _ _ h; exact h) (Or.inl ⟨by rfl, ?_⟩) hHeld ?_
        rotate_left
        · intro w hSw
          obtain ⟨k0, k1, k2, k3, k4, k5, k6, k7, k8, k9, k10, k11, k12, k13, k14, k15, k16, k17, k18, k19, k20, k21, hBw⟩ := SO3.cells hSw
          go_simp
          all_goals (with_reducible rfl)
        (try simp only [Act.put, List.setIfInBounds_toArray, List.set_cons_zero, List.set_cons_succ])
        refine wpAnyH_take (i := 53) (v := ?_) (by (try simp only [List.getElem?_toArray, List.getElem?_cons_succ, List.getElem?_cons_zero]); exact rfl) (by kernel_rfl) (by kernel_rfl) (by kernel_rfl) (by intro _ _ _ h; exact h) (Or.inl ⟨by rfl, ?_⟩) hHeld ?_
        rotate_left
        · intro w hSw
          obtain ⟨k0, k1, k2, k3, k4, k5, k6, k7, k8, k9, k10, k11, k12, k13, k14, k15, k16, k17, k18, k19, k20, k21, hBw⟩ := SO3.cells hSw
          go_simp
          all_goals (with_reducible rfl)
        (try simp only [Act.put, List.setIfInBounds_toArray, List.set_cons_zero, List.set_cons_succ])
        refine wpAnyH_take (i := 54) (v := ?_) (by (try simp only [List.getElem?_toArray, List.getElem?_cons_succ, List.getElem?_cons_zero]); exact rfl) (by kernel_rfl) (by kernel_rfl) (by kernel_rfl) (by intro _ _ _ h; exact h) (Or.inl ⟨by rfl, ?_⟩) hHeld ?_
        rotate_left
        · intro w hSw
          obtain ⟨k0, k1, k2, k3, k4, k5, k6, k7, k8, k9, k10, k11, k12, k13, k14, k15, k16, k17, k18, k19, k20, k21, hBw⟩ := SO3.cells hSw
          go_simp
          all_goals (with_reducible rfl)
        (try simp only [Act.put, List.setIfInBounds_toArray, List.set_cons_zero, List.set_cons_succ])
        refine wpAnyH_take (i := 55) (v := ?_) (by (try simp only [List.getElem?_toArray, List.getElem?_cons_succ, List.getElem?_cons_zero]); exact rfl) (by kernel_rfl) (by kernel_rfl) (by kernel_rfl) (by intro _ _ _ h; exact h) (Or.inl ⟨by rfl, ?_⟩) hHeld ?_
        rotate_left
        · intro w hSw
          obtain ⟨k0, k1, k2, k3, k4, k5, k6, k7, k8, k9, k10, k11, k12, k13, k14, k15, k16, k17, k18, k19, k20, k21, hBw⟩ := SO3.cells hSw
          go_simp
          all_goals (with_reducible rfl)
        (try simp only [Act.put, List.setIfInBounds_toArray, List.set_cons_zero, List.set_cons_succ])
        refine wpAnyH_ready (rs := [44]) (by kernel_rfl) (by simp) ?_
        refine AllReadyH.cons (by (try simp only [List.getElem?_toArray, List.getElem?_cons_succ, List.getElem?_cons_zero]); exact rfl) (fun K hK => ?_) AllReadyH.nil
        rw [if_pos (by rfl)]
        go_simp
        go_at_call 10
        (with_reducible refine (X1.out _ _ _ _ _ hHeld).mono ?_)
        rintro e w9 ⟨rfl, hT9⟩
        go_wp2_with fail
        refine hK.out _ _ hT9 (fun hHeld => ?_)
        clear hK K hT9
        (try simp only [Act.put, List.setIfInBounds_toArray, List.set_cons_zero, List.set_cons_succ])
        refine wpAnyH_ready (rs := [49]) (by kernel_rfl) (by simp) ?_
        refine AllReadyH.cons (by (try simp only [List.getElem?_toArray, List.getElem?_cons_succ, List.getElem?_cons_zero]); exact rfl) (fun K hK => ?_) AllReadyH.nil
        rw [if_pos (by rfl)]
        go_simp
        go_at_call 10
        (with_reducible refine (X2.out _ _ _ _ _ hHeld).mono ?_)
        rintro e w9 ⟨rfl, hT9⟩
        go_wp2_with fail
        refine hK.out _ _ hT9 (fun hHeld => ?_)
        clear hK K hT9
        (try simp only [Act.put, List.setIfInBounds_toArray, List.set_cons_zero, List.set_cons_succ])
        refine wpAnyH_take (i := 50) (v := ?_) (by (try simp only [List.getElem?_toArray, List.getElem?_cons_succ, List.getElem?_cons_zero]); exact rfl) (by kernel_rfl) (by kernel_rfl) (by kernel_rfl) (by intro _ _ _ h; exact h) (Or.inl ⟨by rfl, ?_⟩) hHeld ?_
        rotate_left
        · intro w hSw
          obtain ⟨k0, k1, k2, k3, k4, k5, k6, k7, k8, k9, k10, k11, k12, k13, k14, k15, k16, k17, k18, k19, k20, k21, hBw⟩ := SO3.cells hSw
          go_simp
          all_goals (with_reducible rfl)
        (try simp only [Act.put, List.setIfInBounds_toArray, List.set_cons_zero, List.set_cons_succ])
        refine wpAnyH_take (i := 56) (v := ?_) (by (try simp only [List.getElem?_toArray, List.getElem?_cons_succ, List.getElem?_cons_zero]); exact rfl) (by kernel_rfl) (by kernel_rfl) (by kernel_rfl) (by intro _ _ _ h; exact h) (Or.inl ⟨by rfl, ?_⟩) hHeld ?_
        rotate_left
        · intro w hSw
          obtain ⟨k0, k1, k2, k3, k4, k5, k6, k7, k8, k9, k10, k11, k12, k13, k14, k15, k16, k17, k18, k19, k20, k21, hBw⟩ := SO3.cells hSw
          go_simp
          all_goals (with_reducible rfl)
        (try simp only [Act.put, List.setIfInBounds_toArray, List.set_cons_zero, List.set_cons_succ])
        refine wpAnyH_take (i := 57) (v := ?_) (by (try simp only [List.getElem?_toArray, List.getElem?_cons_succ, List.getElem?_cons_zero]); exact rfl) (by kernel_rfl) (by kernel_rfl) (by kernel_rfl) (by intro _ _ _ h; exact h) (Or.inl ⟨by rfl, ?_⟩) hHeld ?_
        rotate_left
        · intro w hSw
          obtain ⟨k0, k1, k2, k3, k4, k5, k6, k7, k8, k9, k10, k11, k12, k13, k14, k15, k16, k17, k18, k19, k20, k21, hBw⟩ := SO3.cells hSw
          go_simp
          all_goals (with_reducible rfl)
        (try simp only [Act.put, List.setIfInBounds_toArray, List.set_cons_zero, List.set_cons_succ])
        refine wpAnyH_take (i := 58) (v := ?_) (by (try simp only [List.getElem?_toArray, List.getElem?_cons_succ, List.getElem?_cons_zero]); exact rfl) (by kernel_rfl) (by kernel_rfl) (by kernel_rfl) (by intro _ _ _ h; exact h) (Or.inl ⟨by rfl, ?_⟩) hHeld ?_
        rotate_left
        · intro w hSw
          obtain ⟨k0, k1, k2, k3, k4, k5, k6, k7, k8, k9, k10, k11, k12, k13, k14, k15, k16, k17, k18, k19, k20, k21, hBw⟩ := SO3.cells hSw
          go_simp
          all_goals (with_reducible rfl)
        (try simp only [Act.put, List.setIfInBounds_toArray, List.set_cons_zero, List.set_cons_succ])
        refine wpAnyH_take (i := 59) (v := ?_) (by (try simp only [List.getElem?_toArray, List.getElem?_cons_succ, List.getElem?_cons_zero]); exact rfl) (by kernel_rfl) (by kernel_rfl) (by kernel_rfl) (by intro _ _ _ h; exact h) (Or.inl ⟨by rfl, ?_⟩) hHeld ?_
        rotate_left
        · intro w hSw
          obtain ⟨k0, k1, k2, k3, k4, k5, k6, k7, k8, k9, k10, k11, k12, k13, k14, k15, k16, k17, k18, k19, k20, k21, hBw⟩ := SO3.cells hSw
          go_simp
          all_goals (with_reducible rfl)
        (try simp only [Act.put, List.setIfInBounds_toArray, List.set_cons_zero, List.set_cons_succ])
        refine wpAnyH_take (i := 60) (v := ?_) (by (try simp only [List.getElem?_toArray, List.getElem?_cons_succ, List.getElem?_cons_zero]); exact rfl) (by kernel_rfl) (by kernel_rfl) (by kernel_rfl) (by intro _ _ _ h; exact h) (Or.inl ⟨by rfl, ?_⟩) hHeld ?_
        rotate_left
        · intro w hSw
          obtain ⟨k0, k1, k2, k3, k4, k5, k6, k7, k8, k9, k10, k11, k12, k13, k14, k15, k16, k17, k18, k19, k20, k21, hBw⟩ := SO3.cells hSw
          go_simp
          all_goals (with_reducible rfl)
        (try simp only [Act.put, List.setIfInBounds_toArray, List.set_cons_zero, List.set_cons_succ])
        refine wpAnyH_take (i := 61) (v := ?_) (by (try simp only [List.getElem?_toArray, List.getElem?_cons_succ, List.getElem?_cons_zero]); exact rfl) (by kernel_rfl) (by kernel_rfl) (by kernel_rfl) (by intro _ _ _ h; exact h) (Or.inl ⟨by rfl, ?_⟩) hHeld ?_
        rotate_left
        · intro w hSw
          obtain ⟨k0, k1, k2, k3, k4, k5, k6, k7, k8, k9, k10, k11, k12, k13, k14, k15, k16, k17, k18, k19, k20, k21, hBw⟩ := SO3.cells hSw
          go_simp
          all_goals (with_reducible rfl)
        (try simp only [Act.put, List.setIfInBounds_toArray, List.set_cons_zero, List.set_cons_succ])
        refine wpAnyH_take (i := 62) (v := ?_) (by (try simp only [List.getElem?_toArray, List.getElem?_cons_succ, List.getElem?_cons_zero]); exact rfl) (by kernel_rfl) (by kernel_rfl) (by kernel_rfl) (by intro _ _ _ h; exact h) (Or.inl ⟨by rfl, ?_⟩) hHeld ?_
        rotate_left
        · intro w hSw
          obtain ⟨k0, k1, k2, k3, k4, k5, k6, k7, k8, k9, k10, k11, k12, k13, k14, k15, k16, k17, k18, k19, k20, k21, hBw⟩ := SO3.cells hSw
          go_simp
          all_goals (with_reducible rfl)
        (try simp only [Act.put, List.setIfInBounds_toArray, List.set_cons_zero, List.set_cons_succ])
        refine wpAnyH_take (i := 63) (v := ?_) (by (try simp only [List.getElem?_toArray, List.getElem?_cons_succ, List.getElem?_cons_zero]); exact rfl) (by kernel_rfl) (by kernel_rfl) (by kernel_rfl) (by intro _ _ _ h; exact h) (Or.inl ⟨by rfl, ?_⟩) hHeld ?_
        rotate_left
        · intro w hSw
          obtain ⟨k0, k1, k2, k3, k4, k5, k6, k7, k8, k9, k10, k11, k12, k13, k14, k15, k16, k17, k18, k19, k20, k21, hBw⟩ := SO3.cells hSw
          go_simp
          all_goals (with_reducible rfl)
        (try simp only [Act.put, List.setIfInBounds_toArray, List.set_cons_zero, List.set_cons_succ])
        refine wpAnyH_take (i := 64) (v := ?_) (by (try simp only [List.getElem?_toArray, List.getElem?_cons_succ, List.getElem?_cons_zero]); exact rfl) (by kernel_rfl) (by kernel_rfl) (by kernel_rfl) (by intro _ _ _ h; exact h) (Or.inl ⟨by rfl, ?_⟩) hHeld ?_
        rotate_left
        · intro w hSw
          obtain ⟨k0, k1, k2, k3, k4, k5, k6, k7, k8, k9, k10, k11, k12, k13, k14, k15, k16, k17, k18, k19, k20, k21, hBw⟩ := SO3.cells hSw
          go_simp
          all_goals (with_reducible rfl)
        (try simp only [Act.put, List.setIfInBounds_toArray, List.set_cons_zero, List.set_cons_succ])
        refine wpAnyH_take (i := 65) (v := ?_) (by (try simp only [List.getElem?_toArray, List.getElem?_cons_succ, List.getElem?_cons_zero]); exact rfl) (by kernel_rfl) (by kernel_rfl) (by kernel_rfl) (by intro _ _ _ h; exact h) (Or.inl ⟨by rfl, ?_⟩) hHeld ?_
        rotate_left
        · intro w hSw
          obtain ⟨k0, k1, k2, k3, k4, k5, k6, k7, k8, k9, k10, k11, k12, k13, k14, k15, k16, k17, k18, k19, k20, k21, hBw⟩ := SO3.cells hSw
          go_simp
          all_goals (with_reducible rfl)
        (try simp only [Act.put, List.setIfInBounds_toArray, List.set_cons_zero, List.set_cons_succ])
        refine wpAnyH_take (i := 66) (v := ?_) (by (try simp only [List.getElem?_toArray, List.getElem?_cons_succ, List.getElem?_cons_zero]); exact rfl) (by kernel_rfl) (by kernel_rfl) (by kernel_rfl) (by intro _ _ _ h; exact h) (Or.inl ⟨by rfl, ?_⟩) hHeld ?_
        rotate_left
        · intro w hSw
          obtain ⟨k0, k1, k2, k3, k4, k5, k6, k7, k8, k9, k10, k11, k12, k13, k14, k15, k16, k17, k18, k19, k20, k21, hBw⟩ := SO3.cells hSw
          go_simp
          all_goals (with_reducible rfl)
        (try simp only [Act.put, List.setIfInBounds_toArray, List.set_cons_zero, List.set_cons_succ])
        refine wpAnyH_take (i := 67) (v := ?_) (by (try simp only [List.getElem?_toArray, List.getElem?_cons_succ, List.getElem?_cons_zero]); exact rfl) (by kernel_rfl) (by kernel_rfl) (by kernel_rfl) (by intro _ _ _ h; exact h) (Or.inl ⟨by rfl, ?_⟩) hHeld ?_
        rotate_left
        · intro w hSw
          obtain ⟨k0, k1, k2, k3, k4, k5, k6, k7, k8, k9, k10, k11, k12, k13, k14, k15, k16, k17, k18, k19, k20, k21, hBw⟩ := SO3.cells hSw
          go_simp
          all_goals (with_reducible rfl)
        (try simp only [Act.put, List.setIfInBounds_toArray, List.set_cons_zero, List.set_cons_succ])
        refine wpAnyH_take (i := 68) (v := ?_) (by (try simp only [List.getElem?_toArray, List.getElem?_cons_succ, List.getElem?_cons_zero]); exact rfl) (by kernel_rfl) (by kernel_rfl) (by kernel_rfl) (by intro _ _ _ h; exact h) (Or.inl ⟨by rfl, ?_⟩) hHeld ?_
        rotate_left
        · intro w hSw
          obtain ⟨k0, k1, k2, k3, k4, k5, k6, k7, k8, k9, k10, k11, k12, k13, k14, k15, k16, k17, k18, k19, k20, k21, hBw⟩ := SO3.cells hSw
          go_simp
          all_goals (with_reducible rfl)
        (try simp only [Act.put, List.setIfInBounds_toArray, List.set_cons_zero, List.set_cons_succ])
        refine wpAnyH_take (i := 69) (v := ?_) (by (try simp only [List.getElem?_toArray, List.getElem?_cons_succ, List.getElem?_cons_zero]); exact rfl) (by kernel_rfl) (by kernel_rfl) (by kernel_rfl) (by intro _ _ _ h; exact h) (Or.inl ⟨by rfl, ?_⟩) hHeld ?_
        rotate_left
        · intro w hSw
          obtain ⟨k0, k1, k2, k3, k4, k5, k6, k7, k8, k9, k10, k11, k12, k13, k14, k15, k16, k17, k18, k19, k20, k21, hBw⟩ := SO3.cells hSw
          go_simp
          all_goals (with_reducible rfl)
        (try simp only [Act.put, List.setIfInBounds_toArray, List.set_cons_zero, List.set_cons_succ])
        refine wpAnyH_take (i := 70) (v := ?_) (by (try simp only [List.getElem?_toArray, List.getElem?_cons_succ, List.getElem?_cons_zero]); exact rfl) (by kernel_rfl) (by kernel_rfl) (by kernel_rfl) (by intro _ _ _ h; exact h) (Or.inl ⟨by rfl, ?_⟩) hHeld ?_
        rotate_left
        · intro w hSw
          obtain ⟨k0, k1, k2, k3, k4, k5, k6, k7, k8, k9, k10, k11, k12, k13, k14, k15, k16, k17, k18, k19, k20, k21, hBw⟩ := SO3.cells hSw
          go_simp
          all_goals (with_reducible rfl)
        (try simp only [Act.put, List.setIfInBounds_toArray, List.set_cons_zero, List.set_cons_succ])
        refine wpAnyH_take (i := 71) (v := ?_) (by (try simp only [List.getElem?_toArray, List.getElem?_cons_succ, List.getElem?_cons_zero]); exact rfl) (by kernel_rfl) (by kernel_rfl) (by kernel_rfl) (by intro _ _ _ h; exact h) (Or.inl ⟨by rfl, ?_⟩) hHeld ?_
        rotate_left
        · intro w hSw
          obtain ⟨k0, k1, k2, k3, k4, k5, k6, k7, k8, k9, k10, k11, k12, k13, k14, k15, k16, k17, k18, k19, k20, k21, hBw⟩ := SO3.cells hSw
          go_simp
          all_goals (with_reducible rfl)
        (try simp only [Act.put, List.setIfInBounds_toArray, List.set_cons_zero, List.set_cons_succ])
        refine wpAnyH_take (i := 72) (v := ?_) (by (try simp only [List.getElem?_toArray, List.getElem?_cons_succ, List.getElem?_cons_zero]); exact rfl) (by kernel_rfl) (by kernel_rfl) (by kernel_rfl) (by intro _ _ _ h; exact h) (Or.inl ⟨by rfl, ?_⟩) hHeld ?_
        rotate_left
        · intro w hSw
          obtain ⟨k0, k1, k2, k3, k4, k5, k6, k7, k8, k9, k10, k11, k12, k13, k14, k15, k16, k17, k18, k19, k20, k21, hBw⟩ := SO3.cells hSw
          go_simp
          all_goals (with_reducible rfl)
        (try simp only [Act.put, List.setIfInBounds_toArray, List.set_cons_zero, List.set_cons_succ])
        refine wpAnyH_done (by kernel_rfl) ?_ _
        have hBE := hHeld.below
        clear hHeld
        go_wp2
        go_ret
        exact ⟨by simp, hBE⟩
end Go.Proofs.YtafdjgmdkbimoaaDoor
