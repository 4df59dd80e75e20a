/-
  The document's things of keys: the walk of bourseref21.Parse.
-/
import Derived.Test.YtafdjgmdkbimoaaDoorSchRps
namespace Go.Proofs.YtafdjgmdkbimoaaDoor
open Go.RowKit
set_option linter.unusedVariables false
set_option linter.unusedSimpArgs false

set_option maxRecDepth 100000 in
set_option maxHeartbeats 16000000 in
theorem ref_parse21 (k : ByteArray) (w : World) (hk : k.size ≤ 140737488351232) :
    Calls Tryd.prog 14 #[.string k] w fun e w' => e = .returned (.tuple #[(outT (parse21 k.data.toList)).1.val, .int .i64 (outT (parse21 k.data.toList)).2]) ∧ Below w.heap.size w w' := by
  obtain ⟨t, ht⟩ : ∃ t, t = outT (parse21 k.data.toList) := ⟨_, rfl⟩
  rw [← ht]
  have HT : Hid (∀ x, parse21 k.data.toList = x → t = outT x) := Lib.hid (by rintro x rfl; exact ht)
  clear ht
  unfold parse21 at HT
  have hz := zero_thing21
  have hlen := partsR_len k.data.toList
  have hfin := parts_small k.data.toList
  obtain ⟨P, hP⟩ : ∃ P, P = partsR k.data.toList := ⟨_, rfl⟩
  have KP : Hid (∀ wx, (Below w.heap.size w wx ∧ wx.heap[w.heap.size]? = some (.cells zeroT 35 (0, 0))) → Calls Tryd.prog 32 #[.string k] wx fun e w' => ∃ d c, e = .returned (.tuple #[.slice d P.1.length c, .int .i64 P.2]) ∧ (Below w.heap.size w w' ∧ w'.heap[w.heap.size]? = some (.cells zeroT 35 (0, 0))) ∧ RowsAt w' d 4 PartR.row P.1 ∧ (P.1.length : Int) ≤ (c : Int)) := Lib.hid fun wx ⟨h1, h2⟩ => by
    rw [hP]
    exact (ref_parts k wx hk).mono fun _ _ ⟨d, c, h3, h4, h5, h6, h7⟩ => ⟨d, c, h3, ⟨below_at h1 h7, by rw [h7.block _ (heap_lt h2)]; exact h2⟩, h4, by omega⟩
  rw [← hP] at HT hlen hfin
  clear hP
  obtain ⟨pl, pe⟩ := P
  simp only at KP HT hlen hfin
  have H0 : Hid (Below w.heap.size w (w.alloc (.cells zeroT 35)) ∧ (w.alloc (.cells zeroT 35)).heap[w.heap.size]? = some (.cells zeroT 35 (0, 0))) := Lib.hid ⟨by (repeat (first | exact Below.refl _ _ | assumption | apply below_drewN | (refine Below.alloc ?_ (by first | assumption | omega | (simp; try omega)) _))), heap_alloc_new _ _⟩
  by_cases he : pe = 0
  rotate_left
  · obtain ⟨e1, e2⟩ := ne_bb he
    have HF : Hid (t = (⟨ByteArray.empty, 0, 0, 0, 0, 0, 0, ByteArray.empty⟩, 19)) := Lib.hid (HT.out none (by rw [if_pos he]))
    clear HT he hlen hfin
    go_enter Tryd.func14, Tryd.ntmps14
    go_wp2_with (first | (go_at_call 32; (with_reducible refine (KP.out _ H0.out).mono ?_); rintro e w1 ⟨d, c, rfl, T1, hR, hc⟩) | (with_reducible refine wpList_store_row rfl 35 (.tmp 2) (.tmp 29) rfl w.heap.size (zeroT) rfl rfl 35 (zeroT) T1.2 (info_T21 _ _ _ _ _ _ _ _) (size_T _ _ _ _ _ _ _ _ _ _ _ _ _ _ _ _) (one_T _ _ _ _ _ _ _ _) ?_))
    refine bodyPost_ret (results_row_tmp Tryd.results14 _ _ w.heap.size 35 (zeroT) (0, 0) _ rfl (setRow_heap _ _ _ _ _ _ T1.2) Tryd.underlying35 rfl (info_T21 _ _ _ _ _ _ _ _)) rfl ?_
    exact ⟨by rw [HF.out]; rfl, below_setRow' T1.1 (Nat.le_refl _) _⟩
  obtain ⟨e1, e2⟩ := eq_bb he
  have hfin2 := hfin he
  rw [if_neg (by simpa using he)] at HT
  clear hfin
  by_cases hl2 : pl.length < 2
  · have HF : Hid (t = (⟨ByteArray.empty, 0, 0, 0, 0, 0, 0, ByteArray.empty⟩, 19)) := Lib.hid (HT.out none (by match pl, hl2 with | [], _ => rfl | [_], _ => rfl | _ :: _ :: _, h => simp at h; omega))
    have hl3 : (pl.length : Int) < 2 := by omega
    have hl4 : (0 : Int) ≤ (pl.length : Int) := by omega
    generalize pl.length = N at *
    clear HT he hlen hfin2
    go_enter Tryd.func14, Tryd.ntmps14
    go_wp2_with (first | (go_at_call 32; (with_reducible refine (KP.out _ H0.out).mono ?_); rintro e w1 ⟨d, c, rfl, T1, hR, hc⟩) | (with_reducible refine wpList_store_row rfl 35 (.tmp 2) (.tmp 29) rfl w.heap.size (zeroT) rfl rfl 35 (zeroT) T1.2 (info_T21 _ _ _ _ _ _ _ _) (size_T _ _ _ _ _ _ _ _ _ _ _ _ _ _ _ _) (one_T _ _ _ _ _ _ _ _) ?_))
    refine bodyPost_ret (results_row_tmp Tryd.results14 _ _ w.heap.size 35 (zeroT) (0, 0) _ rfl (setRow_heap _ _ _ _ _ _ T1.2) Tryd.underlying35 rfl (info_T21 _ _ _ _ _ _ _ _)) rfl ?_
    exact ⟨by rw [HF.out]; rfl, below_setRow' T1.1 (Nat.le_refl _) _⟩
  obtain ⟨p, x, r, rfl⟩ : ∃ p x r, pl = p :: x :: r := by
    match pl, hl2 with
    | [], h => simp at h
    | [_], h => simp at h
    | p :: x :: r, _ => exact ⟨p, x, r, rfl⟩
  obtain ⟨N, hN⟩ : ∃ N, N = (p :: x :: r).length := ⟨_, rfl⟩
  have hN2 : 2 ≤ N := by rw [hN]; simp
  have hNr : N = r.length + 2 := by rw [hN]; rfl
  rw [← hN] at KP hlen
  have n0 : (0 : Int) < (N : Int) := by omega
  have n1 : (1 : Int) < (N : Int) := by omega
  have n2 : ¬ (N : Int) < 2 := by omega
  have n3 : (N : Int) ≤ 9223372036854775807 := by omega
  by_cases h116 : p.sort = 116
  rotate_left
  · obtain ⟨s1, s2⟩ := ne_bb h116
    have HF : Hid (t = (⟨ByteArray.empty, 0, 0, 0, 0, 0, 0, ByteArray.empty⟩, 19)) := Lib.hid (HT.out none (by simp only [pre21]; rw [if_pos h116]))
    clear HT he hlen hfin2 h116 hN hNr hN2
    go_enter Tryd.func14, Tryd.ntmps14
    go_upto_region 2 with (go_at_call 32; (with_reducible refine (KP.out _ H0.out).mono ?_); rintro e w1 ⟨d, c, rfl, T1, hR, hc⟩)
    obtain ⟨b, o, rfl, k0, k1, k2, k3⟩ := row4_at hR 0 (by simp)
    simp only [List.getElem_cons_zero, Nat.zero_mul, Nat.add_zero] at k0 k1 k2 k3
    generalize p.sort = ps at *
    go_wp2_with (with_reducible refine wpList_store_row rfl 35 (.tmp 2) (.tmp 29) rfl w.heap.size (zeroT) rfl rfl 35 (zeroT) T1.2 (info_T21 _ _ _ _ _ _ _ _) (size_T _ _ _ _ _ _ _ _ _ _ _ _ _ _ _ _) (one_T _ _ _ _ _ _ _ _) ?_)
    refine bodyPost_ret (results_row_tmp Tryd.results14 _ _ w.heap.size 35 (zeroT) (0, 0) _ rfl (setRow_heap _ _ _ _ _ _ T1.2) Tryd.underlying35 rfl (info_T21 _ _ _ _ _ _ _ _)) rfl ?_
    exact ⟨by rw [HF.out]; rfl, below_setRow' T1.1 (Nat.le_refl _) _⟩
  obtain ⟨s1, s2⟩ := eq_bb h116
  by_cases hnone : pre21 (p :: x :: r) = none
  · have HF : Hid (t = (⟨ByteArray.empty, 0, 0, 0, 0, 0, 0, ByteArray.empty⟩, 19)) := Lib.hid (HT.out none (by rw [hnone]))
    have hx : (¬ p.s = ⟨#[97]⟩) ∧ (¬ p.s = ⟨#[111]⟩) ∧ (¬ p.s = ⟨#[98]⟩) ∧ (¬ p.s = ⟨#[101]⟩) ∧ (¬ p.s = ⟨#[110]⟩) := by
      simp only [pre21] at hnone
      rw [if_neg (show ¬ (p.sort ≠ 116) from fun h => h h116)] at hnone
      refine ⟨fun h => ?_, fun h => ?_, fun h => ?_, fun h => ?_, fun h => ?_⟩ <;> (simp only [h] at hnone) <;> simp [ne_s] at hnone
    obtain ⟨c1, c2, c3, c4, c5⟩ := hx
    obtain ⟨x97, y97⟩ := nlit_bb (l := [97]) c1
    obtain ⟨x111, y111⟩ := nlit_bb (l := [111]) c2
    obtain ⟨x98, y98⟩ := nlit_bb (l := [98]) c3
    obtain ⟨x101, y101⟩ := nlit_bb (l := [101]) c4
    obtain ⟨x110, y110⟩ := nlit_bb (l := [110]) c5
    clear HT he hlen hfin2 hN hNr hN2 hnone c1 c2 c3 c4 c5
    go_enter Tryd.func14, Tryd.ntmps14
    go_upto_region 2 with (go_at_call 32; (with_reducible refine (KP.out _ H0.out).mono ?_); rintro e w1 ⟨d, c, rfl, T1, hR, hc⟩)
    obtain ⟨b, o, rfl, k0, k1, k2, k3⟩ := row4_at hR 0 (by simp)
    simp only [List.getElem_cons_zero, Nat.zero_mul, Nat.add_zero] at k0 k1 k2 k3
    generalize p.sort = ps at *
    generalize p.s = s at *
    have T4 : Hid ((w1.alloc (.cells (cellsT s 0 0 0 0 0 0 ByteArray.empty) 35)).heap[w.heap.size]? = some (.cells zeroT 35 (0, 0))) := Lib.hid ((Below.heap_alloc _ _ _ (heap_lt T1.2)).trans T1.2)
    have B4 : Below w.heap.size w (w1.alloc (.cells (cellsT s 0 0 0 0 0 0 ByteArray.empty) 35)) := T1.1.alloc T1.1.size _
    go_wp2_with (with_reducible refine wpList_store_row rfl 35 (.tmp 2) (.tmp 37) rfl w.heap.size (zeroT) rfl rfl 35 (zeroT) T4.out (info_T21 _ _ _ _ _ _ _ _) (size_T _ _ _ _ _ _ _ _ _ _ _ _ _ _ _ _) (one_T _ _ _ _ _ _ _ _) ?_)
    refine bodyPost_ret (results_row_tmp Tryd.results14 _ _ w.heap.size 35 (zeroT) (0, 0) _ rfl (setRow_heap _ _ _ _ _ _ T4.out) Tryd.underlying35 rfl (info_T21 _ _ _ _ _ _ _ _)) rfl ?_
    exact ⟨by rw [HF.out]; rfl, below_setRow' B4 (Nat.le_refl _) _⟩
  obtain ⟨⟨tq, n⟩, hsome⟩ : ∃ q, pre21 (p :: x :: r) = some q := by
    cases h : pre21 (p :: x :: r) with
    | none => exact absurd h hnone
    | some q => exact ⟨q, rfl⟩
  obtain ⟨hk0, hn64, hgs⟩ := pre21_fine hfin2 hsome
  have HT2 := Lib.hid (HT.out _ (by rw [hsome]))
  obtain ⟨qs, qa, qi, qk, qp, qr, qt, qn⟩ := tq
  simp only at hk0
  subst hk0
  have hps : p.s = qs := by
    simp only [pre21] at hsome
    rw [if_neg (show ¬ (p.sort ≠ 116) from fun h => h h116)] at hsome
    repeat' split at hsome
    all_goals first | (cases hsome; rfl) | (cases hsome)
  have HPS := Lib.hid hps
  have HSOME := Lib.hid hsome
  have HFIN := Lib.hid hfin2
  have HNR := Lib.hid hNr
  clear hps hsome hfin2 hNr hN hN2 hlen HT hnone
  go_enter Tryd.func14, Tryd.ntmps14
  go_upto_region 2 with (go_at_call 32; (with_reducible refine (KP.out _ H0.out).mono ?_); rintro e w1 ⟨d, c, rfl, T1, hR, hc⟩)
  have HR := Lib.hid hR
  obtain ⟨b, o, rfl, k0, k1, k2, k3⟩ := row4_at hR 0 (by simp)
  simp only [List.getElem_cons_zero, Nat.zero_mul, Nat.add_zero] at k0 k1 k2 k3
  rw [HPS.out] at k3
  clear hR
  go_upto_block 0 with fail
  go_cut [7] (fun v7 wc => v7 = .int .i64 n ∧ Hid (wc.heap[w1.heap.size]? = some (.cells (cellsT qs qa qi 0 qp qr qt qn) 35 (0, 0))) ∧ Hid (wc.heap[w.heap.size]? = some (.cells zeroT 35 (0, 0))) ∧ Hid (Below w.heap.size w wc))
  case first =>
    have hsome := HSOME.out
    have hNr := HNR.out
    simp only [pre21] at hsome
    rw [if_neg (show ¬ (p.sort ≠ 116) from fun h => h h116), HPS.out] at hsome
    have hend : ∀ C : Array Value, Hid ((w1.alloc (.cells C 35)).heap[w1.heap.size]? = some (.cells C 35 (0, 0))) ∧ Hid ((w1.alloc (.cells C 35)).heap[w.heap.size]? = some (.cells zeroT 35 (0, 0))) ∧ Hid (Below w.heap.size w (w1.alloc (.cells C 35))) := fun C => ⟨Lib.hid (heap_alloc_new _ _), Lib.hid ((Below.heap_alloc _ _ _ (heap_lt T1.2)).trans T1.2), Lib.hid (T1.1.alloc T1.1.size _)⟩
    have HEND := Lib.hid hend
    clear hend HFIN HT2 hgs h116
    by_cases h97 : qs = ⟨#[97]⟩
    · rw [if_pos h97] at hsome
      obtain ⟨x97, y97⟩ := lit_bb (l := [97]) h97
      subst h97
      revert hsome
      revert hNr
      revert HR
      clear HSOME HPS HNR
      match r with
      | [y] =>
        intro HR hNr hsome
        simp only [List.length_cons, List.length_nil] at hNr
        obtain ⟨z1, z2⟩ := eq_bb (show (N : Int) = 3 by omega)
        have g1 : (1 : Int) < (N : Int) := by omega
        have g2 : (2 : Int) < (N : Int) := by omega
        obtain ⟨b', o', e', a0, a1, a2, a3⟩ := row4_at HR.out 1 (by simp)
        cases e'
        simp only [List.getElem_cons_succ, List.getElem_cons_zero, Nat.one_mul, Nat.reduceMul] at a0 a1 a2 a3
        have aq0 := fun C : Array Value => cell_stays ((Below.refl w1.heap.size w1).alloc (Nat.le_refl _) (.cells C 35)) a0
        have aq1 := fun C : Array Value => cell_stays ((Below.refl w1.heap.size w1).alloc (Nat.le_refl _) (.cells C 35)) a1
        have aq2 := fun C : Array Value => cell_stays ((Below.refl w1.heap.size w1).alloc (Nat.le_refl _) (.cells C 35)) a2
        have aq3 := fun C : Array Value => cell_stays ((Below.refl w1.heap.size w1).alloc (Nat.le_refl _) (.cells C 35)) a3
        obtain ⟨b', o', e', d0, d1, d2, d3⟩ := row4_at HR.out 2 (by simp)
        cases e'
        simp only [List.getElem_cons_succ, List.getElem_cons_zero, Nat.one_mul, Nat.reduceMul] at d0 d1 d2 d3
        have dq0 := fun C : Array Value => cell_stays ((Below.refl w1.heap.size w1).alloc (Nat.le_refl _) (.cells C 35)) d0
        have dq1 := fun C : Array Value => cell_stays ((Below.refl w1.heap.size w1).alloc (Nat.le_refl _) (.cells C 35)) d1
        have dq2 := fun C : Array Value => cell_stays ((Below.refl w1.heap.size w1).alloc (Nat.le_refl _) (.cells C 35)) d2
        have dq3 := fun C : Array Value => cell_stays ((Below.refl w1.heap.size w1).alloc (Nat.le_refl _) (.cells C 35)) d3
        simp only [Option.some.injEq, Prod.mk.injEq, ThingR.mk.injEq] at hsome; obtain ⟨⟨-, rfl, rfl, -, rfl, rfl, rfl, rfl⟩, rfl⟩ := hsome
        clear HR hNr
        go_wp2
        go_meet
        exact ⟨rfl, HEND.out _⟩
      | [] =>
        intro HR hNr hsome
        simp only [List.length_cons, List.length_nil] at hNr
        obtain ⟨z1, z2⟩ := ne_bb (show ¬ (N : Int) = 3 by omega)
        simp only [Option.some.injEq, Prod.mk.injEq, ThingR.mk.injEq] at hsome; obtain ⟨⟨-, rfl, rfl, -, rfl, rfl, rfl, rfl⟩, rfl⟩ := hsome
        clear HR hNr
        go_wp2
        go_meet
        exact ⟨rfl, HEND.out _⟩
      | y :: z :: r =>
        intro HR hNr hsome
        simp only [List.length_cons, List.length_nil] at hNr
        obtain ⟨z1, z2⟩ := ne_bb (show ¬ (N : Int) = 3 by omega)
        simp only [Option.some.injEq, Prod.mk.injEq, ThingR.mk.injEq] at hsome; obtain ⟨⟨-, rfl, rfl, -, rfl, rfl, rfl, rfl⟩, rfl⟩ := hsome
        clear HR hNr
        go_wp2
        go_meet
        exact ⟨rfl, HEND.out _⟩
    by_cases h111 : qs = ⟨#[111]⟩
    · rw [if_neg h97, if_pos h111] at hsome
      obtain ⟨x97, y97⟩ := nlit_bb (l := [97]) h97
      obtain ⟨x111, y111⟩ := lit_bb (l := [111]) h111
      subst h111
      obtain ⟨b', o', e', a0, a1, a2, a3⟩ := row4_at HR.out 1 (by simp)
      cases e'
      simp only [List.getElem_cons_succ, List.getElem_cons_zero, Nat.one_mul, Nat.reduceMul] at a0 a1 a2 a3
      have aq0 := fun C : Array Value => cell_stays ((Below.refl w1.heap.size w1).alloc (Nat.le_refl _) (.cells C 35)) a0
      have aq1 := fun C : Array Value => cell_stays ((Below.refl w1.heap.size w1).alloc (Nat.le_refl _) (.cells C 35)) a1
      have aq2 := fun C : Array Value => cell_stays ((Below.refl w1.heap.size w1).alloc (Nat.le_refl _) (.cells C 35)) a2
      have aq3 := fun C : Array Value => cell_stays ((Below.refl w1.heap.size w1).alloc (Nat.le_refl _) (.cells C 35)) a3
      simp only [Option.some.injEq, Prod.mk.injEq, ThingR.mk.injEq] at hsome; obtain ⟨⟨-, rfl, rfl, -, rfl, rfl, rfl, rfl⟩, rfl⟩ := hsome
      clear HR hNr
      go_wp2
      go_meet
      exact ⟨rfl, HEND.out _⟩
    by_cases h98 : qs = ⟨#[98]⟩
    · rw [if_neg h97, if_neg h111, if_pos h98] at hsome
      obtain ⟨x97, y97⟩ := nlit_bb (l := [97]) h97
      obtain ⟨x111, y111⟩ := nlit_bb (l := [111]) h111
      obtain ⟨x98, y98⟩ := lit_bb (l := [98]) h98
      subst h98
      revert hsome
      revert hNr
      revert HR
      clear HSOME HPS HNR
      match r with
      | [y, z, v] =>
        intro HR hNr hsome
        simp only [List.length_cons, List.length_nil] at hNr
        obtain ⟨z1, z2⟩ := eq_bb (show (N : Int) = 5 by omega)
        have g1 : (1 : Int) < (N : Int) := by omega
        have g2 : (2 : Int) < (N : Int) := by omega
        have g3 : (3 : Int) < (N : Int) := by omega
        have g4 : (4 : Int) < (N : Int) := by omega
        obtain ⟨b', o', e', a0, a1, a2, a3⟩ := row4_at HR.out 1 (by simp)
        cases e'
        simp only [List.getElem_cons_succ, List.getElem_cons_zero, Nat.one_mul, Nat.reduceMul] at a0 a1 a2 a3
        have aq0 := fun C : Array Value => cell_stays ((Below.refl w1.heap.size w1).alloc (Nat.le_refl _) (.cells C 35)) a0
        have aq1 := fun C : Array Value => cell_stays ((Below.refl w1.heap.size w1).alloc (Nat.le_refl _) (.cells C 35)) a1
        have aq2 := fun C : Array Value => cell_stays ((Below.refl w1.heap.size w1).alloc (Nat.le_refl _) (.cells C 35)) a2
        have aq3 := fun C : Array Value => cell_stays ((Below.refl w1.heap.size w1).alloc (Nat.le_refl _) (.cells C 35)) a3
        obtain ⟨b', o', e', d0, d1, d2, d3⟩ := row4_at HR.out 2 (by simp)
        cases e'
        simp only [List.getElem_cons_succ, List.getElem_cons_zero, Nat.one_mul, Nat.reduceMul] at d0 d1 d2 d3
        have dq0 := fun C : Array Value => cell_stays ((Below.refl w1.heap.size w1).alloc (Nat.le_refl _) (.cells C 35)) d0
        have dq1 := fun C : Array Value => cell_stays ((Below.refl w1.heap.size w1).alloc (Nat.le_refl _) (.cells C 35)) d1
        have dq2 := fun C : Array Value => cell_stays ((Below.refl w1.heap.size w1).alloc (Nat.le_refl _) (.cells C 35)) d2
        have dq3 := fun C : Array Value => cell_stays ((Below.refl w1.heap.size w1).alloc (Nat.le_refl _) (.cells C 35)) d3
        obtain ⟨b', o', e', f0, f1, f2, f3⟩ := row4_at HR.out 3 (by simp)
        cases e'
        simp only [List.getElem_cons_succ, List.getElem_cons_zero, Nat.one_mul, Nat.reduceMul] at f0 f1 f2 f3
        have fq0 := fun C : Array Value => cell_stays ((Below.refl w1.heap.size w1).alloc (Nat.le_refl _) (.cells C 35)) f0
        have fq1 := fun C : Array Value => cell_stays ((Below.refl w1.heap.size w1).alloc (Nat.le_refl _) (.cells C 35)) f1
        have fq2 := fun C : Array Value => cell_stays ((Below.refl w1.heap.size w1).alloc (Nat.le_refl _) (.cells C 35)) f2
        have fq3 := fun C : Array Value => cell_stays ((Below.refl w1.heap.size w1).alloc (Nat.le_refl _) (.cells C 35)) f3
        obtain ⟨b', o', e', g0, g1, g2, g3⟩ := row4_at HR.out 4 (by simp)
        cases e'
        simp only [List.getElem_cons_succ, List.getElem_cons_zero, Nat.one_mul, Nat.reduceMul] at g0 g1 g2 g3
        have gq0 := fun C : Array Value => cell_stays ((Below.refl w1.heap.size w1).alloc (Nat.le_refl _) (.cells C 35)) g0
        have gq1 := fun C : Array Value => cell_stays ((Below.refl w1.heap.size w1).alloc (Nat.le_refl _) (.cells C 35)) g1
        have gq2 := fun C : Array Value => cell_stays ((Below.refl w1.heap.size w1).alloc (Nat.le_refl _) (.cells C 35)) g2
        have gq3 := fun C : Array Value => cell_stays ((Below.refl w1.heap.size w1).alloc (Nat.le_refl _) (.cells C 35)) g3
        simp only [Option.some.injEq, Prod.mk.injEq, ThingR.mk.injEq] at hsome; obtain ⟨⟨-, rfl, rfl, -, rfl, rfl, rfl, rfl⟩, rfl⟩ := hsome
        clear HR hNr
        go_wp2
        go_meet
        exact ⟨rfl, HEND.out _⟩
      | [] =>
        intro HR hNr hsome
        simp only [List.length_cons, List.length_nil] at hNr
        obtain ⟨z1, z2⟩ := ne_bb (show ¬ (N : Int) = 5 by omega)
        simp only [Option.some.injEq, Prod.mk.injEq, ThingR.mk.injEq] at hsome; obtain ⟨⟨-, rfl, rfl, -, rfl, rfl, rfl, rfl⟩, rfl⟩ := hsome
        clear HR hNr
        go_wp2
        go_meet
        exact ⟨rfl, HEND.out _⟩
      | [y] =>
        intro HR hNr hsome
        simp only [List.length_cons, List.length_nil] at hNr
        obtain ⟨z1, z2⟩ := ne_bb (show ¬ (N : Int) = 5 by omega)
        simp only [Option.some.injEq, Prod.mk.injEq, ThingR.mk.injEq] at hsome; obtain ⟨⟨-, rfl, rfl, -, rfl, rfl, rfl, rfl⟩, rfl⟩ := hsome
        clear HR hNr
        go_wp2
        go_meet
        exact ⟨rfl, HEND.out _⟩
      | [y, z] =>
        intro HR hNr hsome
        simp only [List.length_cons, List.length_nil] at hNr
        obtain ⟨z1, z2⟩ := ne_bb (show ¬ (N : Int) = 5 by omega)
        simp only [Option.some.injEq, Prod.mk.injEq, ThingR.mk.injEq] at hsome; obtain ⟨⟨-, rfl, rfl, -, rfl, rfl, rfl, rfl⟩, rfl⟩ := hsome
        clear HR hNr
        go_wp2
        go_meet
        exact ⟨rfl, HEND.out _⟩
      | y :: z :: v :: u :: r =>
        intro HR hNr hsome
        simp only [List.length_cons, List.length_nil] at hNr
        obtain ⟨z1, z2⟩ := ne_bb (show ¬ (N : Int) = 5 by omega)
        simp only [Option.some.injEq, Prod.mk.injEq, ThingR.mk.injEq] at hsome; obtain ⟨⟨-, rfl, rfl, -, rfl, rfl, rfl, rfl⟩, rfl⟩ := hsome
        clear HR hNr
        go_wp2
        go_meet
        exact ⟨rfl, HEND.out _⟩
    by_cases h101 : qs = ⟨#[101]⟩
    · rw [if_neg h97, if_neg h111, if_neg h98, if_pos h101] at hsome
      obtain ⟨x97, y97⟩ := nlit_bb (l := [97]) h97
      obtain ⟨x111, y111⟩ := nlit_bb (l := [111]) h111
      obtain ⟨x98, y98⟩ := nlit_bb (l := [98]) h98
      obtain ⟨x101, y101⟩ := lit_bb (l := [101]) h101
      subst h101
      revert hsome
      revert hNr
      revert HR
      clear HSOME HPS HNR
      match r with
      | [y] =>
        intro HR hNr hsome
        simp only [List.length_cons, List.length_nil] at hNr
        obtain ⟨z1, z2⟩ := eq_bb (show (N : Int) = 3 by omega)
        have g1 : (1 : Int) < (N : Int) := by omega
        have g2 : (2 : Int) < (N : Int) := by omega
        obtain ⟨b', o', e', a0, a1, a2, a3⟩ := row4_at HR.out 1 (by simp)
        cases e'
        simp only [List.getElem_cons_succ, List.getElem_cons_zero, Nat.one_mul, Nat.reduceMul] at a0 a1 a2 a3
        have aq0 := fun C : Array Value => cell_stays ((Below.refl w1.heap.size w1).alloc (Nat.le_refl _) (.cells C 35)) a0
        have aq1 := fun C : Array Value => cell_stays ((Below.refl w1.heap.size w1).alloc (Nat.le_refl _) (.cells C 35)) a1
        have aq2 := fun C : Array Value => cell_stays ((Below.refl w1.heap.size w1).alloc (Nat.le_refl _) (.cells C 35)) a2
        have aq3 := fun C : Array Value => cell_stays ((Below.refl w1.heap.size w1).alloc (Nat.le_refl _) (.cells C 35)) a3
        obtain ⟨b', o', e', d0, d1, d2, d3⟩ := row4_at HR.out 2 (by simp)
        cases e'
        simp only [List.getElem_cons_succ, List.getElem_cons_zero, Nat.one_mul, Nat.reduceMul] at d0 d1 d2 d3
        have dq0 := fun C : Array Value => cell_stays ((Below.refl w1.heap.size w1).alloc (Nat.le_refl _) (.cells C 35)) d0
        have dq1 := fun C : Array Value => cell_stays ((Below.refl w1.heap.size w1).alloc (Nat.le_refl _) (.cells C 35)) d1
        have dq2 := fun C : Array Value => cell_stays ((Below.refl w1.heap.size w1).alloc (Nat.le_refl _) (.cells C 35)) d2
        have dq3 := fun C : Array Value => cell_stays ((Below.refl w1.heap.size w1).alloc (Nat.le_refl _) (.cells C 35)) d3
        simp only [Option.some.injEq, Prod.mk.injEq, ThingR.mk.injEq] at hsome; obtain ⟨⟨-, rfl, rfl, -, rfl, rfl, rfl, rfl⟩, rfl⟩ := hsome
        clear HR hNr
        go_wp2
        go_meet
        exact ⟨rfl, HEND.out _⟩
      | [] =>
        intro HR hNr hsome
        simp only [List.length_cons, List.length_nil] at hNr
        obtain ⟨z1, z2⟩ := ne_bb (show ¬ (N : Int) = 3 by omega)
        simp only [Option.some.injEq, Prod.mk.injEq, ThingR.mk.injEq] at hsome; obtain ⟨⟨-, rfl, rfl, -, rfl, rfl, rfl, rfl⟩, rfl⟩ := hsome
        clear HR hNr
        go_wp2
        go_meet
        exact ⟨rfl, HEND.out _⟩
      | y :: z :: r =>
        intro HR hNr hsome
        simp only [List.length_cons, List.length_nil] at hNr
        obtain ⟨z1, z2⟩ := ne_bb (show ¬ (N : Int) = 3 by omega)
        simp only [Option.some.injEq, Prod.mk.injEq, ThingR.mk.injEq] at hsome; obtain ⟨⟨-, rfl, rfl, -, rfl, rfl, rfl, rfl⟩, rfl⟩ := hsome
        clear HR hNr
        go_wp2
        go_meet
        exact ⟨rfl, HEND.out _⟩
    by_cases h110 : qs = ⟨#[110]⟩
    · rw [if_neg h97, if_neg h111, if_neg h98, if_neg h101, if_pos h110] at hsome
      obtain ⟨x97, y97⟩ := nlit_bb (l := [97]) h97
      obtain ⟨x111, y111⟩ := nlit_bb (l := [111]) h111
      obtain ⟨x98, y98⟩ := nlit_bb (l := [98]) h98
      obtain ⟨x101, y101⟩ := nlit_bb (l := [101]) h101
      obtain ⟨x110, y110⟩ := lit_bb (l := [110]) h110
      subst h110
      obtain ⟨b', o', e', a0, a1, a2, a3⟩ := row4_at HR.out 1 (by simp)
      cases e'
      simp only [List.getElem_cons_succ, List.getElem_cons_zero, Nat.one_mul, Nat.reduceMul] at a0 a1 a2 a3
      have aq0 := fun C : Array Value => cell_stays ((Below.refl w1.heap.size w1).alloc (Nat.le_refl _) (.cells C 35)) a0
      have aq1 := fun C : Array Value => cell_stays ((Below.refl w1.heap.size w1).alloc (Nat.le_refl _) (.cells C 35)) a1
      have aq2 := fun C : Array Value => cell_stays ((Below.refl w1.heap.size w1).alloc (Nat.le_refl _) (.cells C 35)) a2
      have aq3 := fun C : Array Value => cell_stays ((Below.refl w1.heap.size w1).alloc (Nat.le_refl _) (.cells C 35)) a3
      simp only [Option.some.injEq, Prod.mk.injEq, ThingR.mk.injEq] at hsome; obtain ⟨⟨-, rfl, rfl, -, rfl, rfl, rfl, rfl⟩, rfl⟩ := hsome
      clear HR hNr
      go_wp2
      go_meet
      exact ⟨rfl, HEND.out _⟩
    rw [if_neg h97, if_neg h111, if_neg h98, if_neg h101, if_neg h110] at hsome
    cases hsome
  case rest =>
    obtain ⟨rfl, H6, HR0, HB6⟩ := hcut
    have hlt : w.heap.size < w1.heap.size := heap_lt T1.2
    clear HSOME HPS HNR HR k0 k1 k2 k3 T1 hc KP H0 s1 s2 h116
    generalize w1.heap.size = B6 at H6 hlt ⊢
    have hne6 : w.heap.size ≠ B6 := Nat.ne_of_lt hlt
    by_cases hsm : smallB n = true
    rotate_left
    · have HF : Hid (t = (⟨ByteArray.empty, 0, 0, 0, 0, 0, 0, ByteArray.empty⟩, 19)) := Lib.hid (by rw [HT2.out, if_neg hsm]; rfl)
      unfold smallB at hsm
      simp only [Bool.and_eq_true, decide_eq_true_eq] at hsm
      clear HT2 hgs HFIN
      by_cases hlo : n < -2147483648
      · clear hsm
        go_wp2_with (with_reducible refine wpList_store_row rfl 35 (.tmp 2) (.tmp 111) rfl w.heap.size (zeroT) rfl rfl 35 (zeroT) HR0.out (info_T21 _ _ _ _ _ _ _ _) (size_T _ _ _ _ _ _ _ _ _ _ _ _ _ _ _ _) (one_T _ _ _ _ _ _ _ _) ?_)
        refine bodyPost_ret (results_row_tmp Tryd.results14 _ _ w.heap.size 35 (zeroT) (0, 0) _ rfl (setRow_heap _ _ _ _ _ _ HR0.out) Tryd.underlying35 rfl (info_T21 _ _ _ _ _ _ _ _)) rfl ?_
        exact ⟨by rw [HF.out]; rfl, below_setRow' HB6.out (Nat.le_refl _) _⟩
      · have hhi : 2147483647 < n := by omega
        clear hsm
        go_wp2_with (with_reducible refine wpList_store_row rfl 35 (.tmp 2) (.tmp 111) rfl w.heap.size (zeroT) rfl rfl 35 (zeroT) HR0.out (info_T21 _ _ _ _ _ _ _ _) (size_T _ _ _ _ _ _ _ _ _ _ _ _ _ _ _ _) (one_T _ _ _ _ _ _ _ _) ?_)
        refine bodyPost_ret (results_row_tmp Tryd.results14 _ _ w.heap.size 35 (zeroT) (0, 0) _ rfl (setRow_heap _ _ _ _ _ _ HR0.out) Tryd.underlying35 rfl (info_T21 _ _ _ _ _ _ _ _)) rfl ?_
        exact ⟨by rw [HF.out]; rfl, below_setRow' HB6.out (Nat.le_refl _) _⟩
    · rw [if_pos hsm] at HT2
      have hg2 := hgs hn64
      have hb : -2147483648 ≤ n ∧ n ≤ 2147483647 := by unfold smallB at hsm; simp at hsm; omega
      have hlo : ¬ n < -2147483648 := by omega
      have hhi : ¬ 2147483647 < n := by omega
      have KY : Hid (∀ wx : World, (wx.heap[B6]? = some (.cells (cellsT qs qa qi n qp qr qt qn) 35 (0, 0)) ∧ wx.heap[w.heap.size]? = some (.cells zeroT 35 (0, 0)) ∧ Below w.heap.size w wx) → Calls Tryd.prog 12 #[.agg (cellsT qs qa qi n qp qr qt qn)] wx fun e w' => e = .returned (.tuple #[.string (str (makeGo (rowR (kindT ⟨qs, qa, qi, 0, qp, qr, qt, qn⟩ n)) []).1), .int .i64 (makeGo (rowR (kindT ⟨qs, qa, qi, 0, qp, qr, qt, qn⟩ n)) []).2]) ∧ (w'.heap[B6]? = some (.cells (cellsT qs qa qi n qp qr qt qn) 35 (0, 0)) ∧ w'.heap[w.heap.size]? = some (.cells zeroT 35 (0, 0)) ∧ Below w.heap.size w w')) := Lib.hid fun wx ⟨q1, q2, q3⟩ => (ref_key21 (kindT ⟨qs, qa, qi, 0, qp, qr, qt, qn⟩ n) wx hg2.1 hg2.2).mono fun _ _ ⟨h1, h2⟩ => ⟨h1, (h2.block _ (heap_lt q1)).trans q1, (h2.block _ (heap_lt q2)).trans q2, below_at q3 h2⟩
      obtain ⟨M, hM⟩ : ∃ M, M = makeGo (rowR (kindT ⟨qs, qa, qi, 0, qp, qr, qt, qn⟩ n)) [] := ⟨_, rfl⟩
      rw [← hM] at KY HT2
      obtain ⟨m1, m2⟩ := M
      simp only at KY HT2
      clear hM hsm hgs hg2 hb HFIN
      obtain ⟨g0, g1, g2, g3, g4, g5, g6, g7⟩ := cellsT_of H6.out
      have gf : wc.frozen? ⟨B6, 3, none⟩ = false := Lib.frozen_of_heap H6.out 3
      have hd6 : (wc.setCell ⟨B6, 3, none⟩ (.int .i64 n)).heap[B6]? = some (.cells (cellsT qs qa qi n qp qr qt qn) 35 (0, 0)) := heap_setCell_at H6.out 3 _
      have hdr : (wc.setCell ⟨B6, 3, none⟩ (.int .i64 n)).heap[w.heap.size]? = some (.cells zeroT 35 (0, 0)) := heap_setCell_ne HR0.out hne6 3 _
      have hdb : Below w.heap.size w (wc.setCell ⟨B6, 3, none⟩ (.int .i64 n)) := HB6.out.setCell (p := ⟨B6, 3, none⟩) (Nat.le_of_lt hlt) _
      have HC : Hid (_ ∧ _ ∧ _) := Lib.hid ⟨hd6, hdr, hdb⟩
      clear hdr hdb
      have HD6 := Lib.hid hd6
      clear hd6
      by_cases hm2 : m2 = 0
      rotate_left
      · obtain ⟨f1, f2⟩ := ne_bb hm2
        have HF : Hid (t = (⟨ByteArray.empty, 0, 0, 0, 0, 0, 0, ByteArray.empty⟩, 19)) := Lib.hid (by rw [HT2.out, if_neg (fun h => hm2 h.1)]; rfl)
        clear HT2 hm2
        go_wp2_with (first | (with_reducible refine wpList_load_row rfl 35 (.tmp 6) rfl B6 rfl 35 (cellsT qs qa qi n qp qr qt qn) (0, 0) _ HD6.out Tryd.underlying35 rfl (info_T21 _ _ _ _ _ _ _ _) ?_) | (go_at_call 12; (with_reducible refine (KY.out _ HC.out).mono ?_); rintro e w5 ⟨rfl, T5, T6, T7⟩) | (with_reducible refine wpList_store_row rfl 35 (.tmp 2) (.tmp 126) rfl w.heap.size (zeroT) rfl rfl 35 (zeroT) T6 (info_T21 _ _ _ _ _ _ _ _) (size_T _ _ _ _ _ _ _ _ _ _ _ _ _ _ _ _) (one_T _ _ _ _ _ _ _ _) ?_))
        refine bodyPost_ret (results_row_tmp Tryd.results14 _ _ w.heap.size 35 (zeroT) (0, 0) _ rfl (setRow_heap _ _ _ _ _ _ T6) Tryd.underlying35 rfl (info_T21 _ _ _ _ _ _ _ _)) rfl ?_
        exact ⟨by rw [HF.out]; rfl, below_setRow' T7 (Nat.le_refl _) _⟩
      · obtain ⟨f1, f2⟩ := eq_bb hm2
        by_cases hmk : m1 = k.data.toList
        rotate_left
        · have hsk : ¬ str m1 = k := fun h => hmk (by rw [← h, str_data])
          obtain ⟨f3, f4⟩ := sne_bb hsk
          have HF : Hid (t = (⟨ByteArray.empty, 0, 0, 0, 0, 0, 0, ByteArray.empty⟩, 19)) := Lib.hid (by rw [HT2.out, if_neg (fun h => hmk h.2)]; rfl)
          clear HT2 hm2 hmk hsk
          go_wp2_with (first | (with_reducible refine wpList_load_row rfl 35 (.tmp 6) rfl B6 rfl 35 (cellsT qs qa qi n qp qr qt qn) (0, 0) _ HD6.out Tryd.underlying35 rfl (info_T21 _ _ _ _ _ _ _ _) ?_) | (go_at_call 12; (with_reducible refine (KY.out _ HC.out).mono ?_); rintro e w5 ⟨rfl, T5, T6, T7⟩) | (with_reducible refine wpList_store_row rfl 35 (.tmp 2) (.tmp 126) rfl w.heap.size (zeroT) rfl rfl 35 (zeroT) T6 (info_T21 _ _ _ _ _ _ _ _) (size_T _ _ _ _ _ _ _ _ _ _ _ _ _ _ _ _) (one_T _ _ _ _ _ _ _ _) ?_))
          refine bodyPost_ret (results_row_tmp Tryd.results14 _ _ w.heap.size 35 (zeroT) (0, 0) _ rfl (setRow_heap _ _ _ _ _ _ T6) Tryd.underlying35 rfl (info_T21 _ _ _ _ _ _ _ _)) rfl ?_
          exact ⟨by rw [HF.out]; rfl, below_setRow' T7 (Nat.le_refl _) _⟩
        · have hsk : str m1 = k := by rw [hmk, str_self]
          obtain ⟨f3, f4⟩ := seq_bb hsk
          have HF : Hid (t = (kindT ⟨qs, qa, qi, 0, qp, qr, qt, qn⟩ n, 0)) := Lib.hid (by rw [HT2.out, if_pos ⟨hm2, hmk⟩]; rfl)
          clear HT2 hm2 hmk hsk
          go_wp2_with (first | (with_reducible refine wpList_load_row rfl 35 (.tmp 6) rfl B6 rfl 35 (cellsT qs qa qi n qp qr qt qn) (0, 0) _ HD6.out Tryd.underlying35 rfl (info_T21 _ _ _ _ _ _ _ _) ?_) | (go_at_call 12; (with_reducible refine (KY.out _ HC.out).mono ?_); rintro e w5 ⟨rfl, T5, T6, T7⟩) | (with_reducible refine wpList_load_row rfl 35 (.tmp 6) rfl B6 rfl 35 (cellsT qs qa qi n qp qr qt qn) (0, 0) _ T5 Tryd.underlying35 rfl (info_T21 _ _ _ _ _ _ _ _) ?_) | (with_reducible refine wpList_store_row rfl 35 (.tmp 2) (.tmp 127) rfl w.heap.size (cellsT qs qa qi n qp qr qt qn) rfl rfl 35 (zeroT) T6 (info_T21 _ _ _ _ _ _ _ _) (size_T _ _ _ _ _ _ _ _ _ _ _ _ _ _ _ _) (one_T _ _ _ _ _ _ _ _) ?_))
          refine bodyPost_ret (results_row_tmp Tryd.results14 _ _ w.heap.size 35 (cellsT qs qa qi n qp qr qt qn) (0, 0) _ rfl (setRow_heap _ _ _ _ _ _ T6) Tryd.underlying35 rfl (info_T21 _ _ _ _ _ _ _ _)) rfl ?_
          exact ⟨by rw [HF.out]; rfl, below_setRow' T7 (Nat.le_refl _) _⟩
end Go.Proofs.YtafdjgmdkbimoaaDoor
