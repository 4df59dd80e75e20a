/-
  The walk of OrderNeeds: the less is left of an order, the less it holds.
-/
import Derived.Test.YtbhhfdkidpmfeaaOrd
namespace Go.Proofs.Ytbhhfdkidpmfeaa
open Go.RowKit
set_option linter.unusedVariables false
set_option linter.unusedSimpArgs false

set_option maxHeartbeats 1000000 in
theorem Awake19 (w : World) : Calls Try.prog 14 #[] w fun e w' => e = .returned (.bool true) ∧ Drew w w' := by
  go_enter Try.func14, Try.ntmps14
  go_wp2_with (go_at_call 27; refine (awake19 _).mono ?_; rintro e w1 ⟨rfl, ⟨n, rfl⟩⟩)
  go_ret
  exact ⟨rfl, by repeat (first | exact Drew.refl _ | apply Drew.step)⟩

set_option maxHeartbeats 1000000 in
theorem awake20 (w : World) : Calls Try.prog 5 #[] w fun e w' => e = .returned (.bool true) ∧ Below w.heap.size w w' := by
  have hm : str (numL (zz 1).toNat ++ numL (zz 2).toNat) = ⟨#[2, 4]⟩ := by kernel_rfl
  have M : Hid (∀ wx, Calls Try.prog 11 #[.agg #[.int .i64 1, .int .i64 2]] wx fun e w' => e = .returned (.string ⟨#[2, 4]⟩) ∧ Below wx.heap.size wx w') := Lib.hid fun wx => by
    rw [← hm]; exact order_money 1 2 wx (by decide) (by decide)
  have O : Hid (∀ wx, Calls Try.prog 13 #[.int .i64 1] wx fun e w' => e = .returned (.int .i64 2) ∧ Drew wx w') := Lib.hid fun wx => order_other 1 wx
  clear hm
  go_enter Try.func5, Try.ntmps5
  go_wp2_with (first | (go_at_call 11; refine (M.out _).mono ?_; rintro e w1 ⟨rfl, hB⟩) | (go_at_call 13; refine (O.out _).mono ?_; rintro e w1 ⟨rfl, ⟨n1, rfl⟩⟩) | (go_at_call 14; refine (Awake19 _).mono ?_; rintro e w1 ⟨rfl, ⟨n2, rfl⟩⟩))
  go_ret
  exact ⟨rfl, by (repeat (first | exact Below.refl _ _ | assumption | apply below_drewN | (refine Below.alloc ?_ (by simp; try omega) _)))⟩

/-- the law's own order lies in block b -/
abbrev cells9 (id ac sd pr sz lf rk ex st : Int) : Obj := .cells #[.int .u64 id, .int .u64 ac, .int .i64 sd, .int .i64 pr, .int .i64 sz, .int .i64 lf, .int .u64 rk, .int .u64 ex, .int .i64 st] 24 (0, 0)

theorem heap_lt {w : World} {b : Nat} {o : Obj} (h : w.heap[b]? = some o) : b < w.heap.size := by
  rcases Nat.lt_or_ge b w.heap.size with h' | h'
  · exact h'
  · simp [Array.getElem?_eq_none h'] at h
theorem cells9_of {w : World} {B : Nat} {id ac sd pr sz lf rk ex st : Int} (h : w.heap[B]? = some (cells9 id ac sd pr sz lf rk ex st)) :
    w.cell? ⟨B, 0, none⟩ = some (.int .u64 id) ∧ w.cell? ⟨B, 1, none⟩ = some (.int .u64 ac) ∧ w.cell? ⟨B, 2, none⟩ = some (.int .i64 sd) ∧ w.cell? ⟨B, 3, none⟩ = some (.int .i64 pr) ∧ w.cell? ⟨B, 4, none⟩ = some (.int .i64 sz) ∧ w.cell? ⟨B, 5, none⟩ = some (.int .i64 lf) ∧ w.cell? ⟨B, 6, none⟩ = some (.int .u64 rk) ∧ w.cell? ⟨B, 7, none⟩ = some (.int .u64 ex) ∧ w.cell? ⟨B, 8, none⟩ = some (.int .i64 st) := by
  refine ⟨?_, ?_, ?_, ?_, ?_, ?_, ?_, ?_, ?_⟩ <;> (rw [cell_of_row _ _ _ _ _ _ h]; rfl)

theorem two_new (w : World) (C : Obj) : ((w.alloc C).alloc C).drew.heap[w.heap.size]? = some C ∧ ((w.alloc C).alloc C).drew.heap[w.heap.size + 1]? = some C := by
  have e : ((w.alloc C).alloc C).drew.heap = (w.heap.push C).push C := rfl
  constructor
  · rw [e, Array.getElem?_push_lt (by simp), Array.getElem_push_eq]
  · rw [e, show w.heap.size + 1 = (w.heap.push C).size from by simp, Array.getElem?_push_size]
theorem two_old (w : World) (C D : Obj) (b : Nat) (h : w.heap[b]? = some D) : ((w.alloc C).alloc C).drew.heap[b]? = some D := by
  have hb := heap_lt h
  have e : ((w.alloc C).alloc C).drew.heap = (w.heap.push C).push C := rfl
  rw [e, Array.getElem?_push, if_neg (by simp; omega), Array.getElem?_push, if_neg (by omega)]
  exact h
theorem costs (p l : Int) (hp : 0 < p) (hl : 0 < l) : (costE (p * l) = 0 ∧ costS (p * l) = p * l) ∨ costE (p * l) = 24 := by
  have h : 0 < p * l := Int.mul_pos hp hl
  unfold costE costS
  by_cases h1 : in64 (p * l) = true
  · left; rw [if_pos h1, if_pos h1, if_neg (by omega), if_neg (by omega)]; exact ⟨rfl, rfl⟩
  · right; rw [if_neg h1]
theorem costs_ok (p l : Int) (hp : 0 < p) (hl : 0 < l) (h1 : p * l ≤ 9223372036854775807) : costE (p * l) = 0 ∧ costS (p * l) = p * l := by
  have h : 0 < p * l := Int.mul_pos hp hl
  have h2 : in64 (p * l) = true := by rw [in64_iff]; omega
  unfold costE costS
  rw [if_pos h2, if_pos h2, if_neg (by omega), if_neg (by omega)]; exact ⟨rfl, rfl⟩

/-- what the law says of what is held -/
theorem needs_law (o : OrderR) (g : o.good) (hc : checkS o = 0) (hl : 2 ≤ o.left) (m : Int) (m1 : 1 ≤ m) (m2 : m < o.left) :
    (needsErr o = 24) ∨ (needsErr o = 0 ∧ needsErr { o with left := m } = 0 ∧ needsErr { o with left := o.left - m } = 0 ∧ needsHeld { o with left := m } + needsHeld { o with left := o.left - m } = needsHeld o ∧ 0 < needsHeld { o with left := m } ∧ needsHeld { o with left := m } < needsHeld o ∧ needsHeld { o with left := m } ≤ 9223372036854775807 ∧ needsHeld o ≤ 9223372036854775807) := by
  have hp : 0 < o.price := by
    unfold checkS at hc
    split at hc
    · exact absurd hc (by decide)
    · split at hc
      · exact absurd hc (by decide)
      · split at hc
        · rename_i h; exact absurd hc h
        · rename_i h
          have h2 : rightS o.price o.size = 0 := by
            rcases Decidable.em (rightS o.price o.size = 0) with h' | h'
            · exact h'
            · exact absurd h' h
          unfold rightS at h2
          split at h2
          · exact absurd h2 (by decide)
          · omega
  unfold needsErr needsHeld
  by_cases hs : o.side = 1
  · simp only [hs, if_true]
    rcases costs o.price o.left hp (by omega) with ⟨e1, e2⟩ | e1
    · right
      have hb : o.price * o.left ≤ 9223372036854775807 := by
        unfold costE at e1
        split at e1
        · rename_i h; rw [in64_iff] at h; exact h.2
        · exact absurd e1 (by decide)
      have hsum : o.price * m + o.price * (o.left - m) = o.price * o.left := by rw [← Int.mul_add]; congr 1; omega
      have hA : 0 < o.price * m := Int.mul_pos hp (by omega)
      have hB : 0 < o.price * (o.left - m) := Int.mul_pos hp (by omega)
      obtain ⟨a1, a2⟩ := costs_ok o.price m hp (by omega) (by omega)
      obtain ⟨b1, b2⟩ := costs_ok o.price (o.left - m) hp (by omega) (by omega)
      rw [e1, e2, a1, a2, b1, b2]
      exact ⟨rfl, rfl, rfl, hsum, hA, by omega, by omega, hb⟩
    · exact .inl e1
  · right
    simp only [hs, if_false]
    have := g.left
    exact ⟨trivial, trivial, trivial, by omega, by omega, by omega, by omega, by omega⟩

set_option maxRecDepth 100000 in
set_option maxHeartbeats 8000000 in
theorem OrderNeeds_walk (o : OrderR) (part : Int) (w : World) (g : o.good) (wp : (Lit.int .i64 part).wf = true) :
    Calls Try.prog 3 #[.agg o.row.toArray, .int .i64 part] w fun e w' => e = .returned (.bool true) ∧ Below w.heap.size w w' := by
  obtain ⟨p0, p1⟩ := wfI64 wp
  clear wp
  obtain ⟨c, hc⟩ : ∃ c, c = checkS o := ⟨_, rfl⟩
  have CH : Hid (∀ wx, Calls Try.prog 6 #[o.val] wx fun e w' => e = .returned (.int .i64 c) ∧ Below wx.heap.size wx w') := Lib.hid fun wx => by rw [hc]; exact order_check o wx g
  obtain ⟨id, ac, sd, pr, sz, lf, rk, ex, st⟩ := o
  simp only [OrderR.val, OrderR.row] at *
  have G := Lib.hid g
  have HC := Lib.hid hc
  clear g hc
  have S0 : Below w.heap.size w (w.alloc (cells9 id ac sd pr sz lf rk ex st)) ∧ (w.alloc (cells9 id ac sd pr sz lf rk ex st)).heap[w.heap.size]? = some (cells9 id ac sd pr sz lf rk ex st) := ⟨by (repeat (first | exact Below.refl _ _ | assumption | apply below_drewN | (refine Below.alloc ?_ (by simp; try omega) _))), heap_alloc_new _ _⟩
  have AW : Hid (∀ wx, (Below w.heap.size w wx ∧ wx.heap[w.heap.size]? = some (cells9 id ac sd pr sz lf rk ex st)) → Calls Try.prog 5 #[] wx fun e w' => e = .returned (.bool true) ∧ (Below w.heap.size w w' ∧ w'.heap[w.heap.size]? = some (cells9 id ac sd pr sz lf rk ex st))) := Lib.hid fun wx ⟨h1, h2⟩ =>
    (awake20 wx).mono fun _ _ ⟨e, h⟩ => ⟨e, below_at h1 h, by rw [h.block w.heap.size (heap_lt h2)]; exact h2⟩
  have CH' : Hid (∀ wx, (Below w.heap.size w wx ∧ wx.heap[w.heap.size]? = some (cells9 id ac sd pr sz lf rk ex st)) → Calls Try.prog 6 #[.agg #[.int .u64 id, .int .u64 ac, .int .i64 sd, .int .i64 pr, .int .i64 sz, .int .i64 lf, .int .u64 rk, .int .u64 ex, .int .i64 st]] wx fun e w' => e = .returned (.int .i64 c) ∧ (Below w.heap.size w w' ∧ w'.heap[w.heap.size]? = some (cells9 id ac sd pr sz lf rk ex st))) := Lib.hid fun wx ⟨h1, h2⟩ =>
    (CH.out wx).mono fun _ _ ⟨e, h⟩ => ⟨e, below_at h1 h, by rw [h.block w.heap.size (heap_lt h2)]; exact h2⟩
  by_cases h0 : c = 0
  · obtain ⟨c0, c1⟩ := eq_bb h0
    by_cases hl : lf < 2
    · clear h0
      go_enter Try.func3, Try.ntmps3
      go_wp2_with (first | (go_at_call 5; (with_reducible refine (AW.out _ (by assumption)).mono ?_); rintro e w1 ⟨rfl, S1⟩; obtain ⟨k0, k1, k2, k3, k4, k5, k6, k7, k8⟩ := cells9_of S1.2) | (go_at_call 6; (with_reducible refine (CH'.out _ (by assumption)).mono ?_); rintro e w2 ⟨rfl, S2⟩; obtain ⟨j0, j1, j2, j3, j4, j5, j6, j7, j8⟩ := cells9_of S2.2))
      go_ret
      exact ⟨rfl, S2.1⟩
    · go_enter Try.func3, Try.ntmps3
      go_wp2_with (first | (go_at_call 5; (with_reducible refine (AW.out _ (by assumption)).mono ?_); rintro e w1 ⟨rfl, S1⟩; obtain ⟨k0, k1, k2, k3, k4, k5, k6, k7, k8⟩ := cells9_of S1.2) | (go_at_call 6; (with_reducible refine (CH'.out _ (by assumption)).mono ?_); rintro e w2 ⟨rfl, S2⟩; obtain ⟨j0, j1, j2, j3, j4, j5, j6, j7, j8⟩ := cells9_of S2.2; have n1 := heap_lt S2.2; have n2 := Nat.ne_of_lt n1; have n3 := Nat.ne_of_lt (Nat.lt_succ_of_lt n1)))
      clear k0 k1 k2 k3 k4 k5 k6 k7 k8
      go_cut [5, 6] (fun v5 v6 wc => ∃ A1 A2, v5 = .pointer (some ⟨A1, 0, none⟩) ∧ v6 = .pointer (some ⟨A2, 0, none⟩) ∧ Hid (A1 ≠ A2 ∧ w.heap.size < A1 ∧ w.heap.size < A2 ∧ Below w.heap.size w wc ∧ wc.heap[w.heap.size]? = some (cells9 id ac sd pr sz lf rk ex st) ∧ wc.heap[A1]? = some (cells9 id ac sd pr sz lf rk ex st) ∧ wc.heap[A2]? = some (cells9 id ac sd pr sz lf rk ex st)))
      case first =>
        go_region
        all_goals (go_wp2_with fail; go_meet)
        · exact ⟨_, _, rfl, rfl, Lib.hid ⟨by omega, n1, by omega, by refine below_at S2.1 ?_; exact Below.drew (by (repeat (first | exact Below.refl _ _ | assumption | apply below_drewN | (refine Below.alloc ?_ (by simp; try omega) _)))), two_old _ _ _ _ S2.2, (two_new _ _).1, (two_new _ _).2⟩⟩
        · exact ⟨_, _, rfl, rfl, Lib.hid ⟨by omega, by omega, n1, by refine below_at S2.1 ?_; exact Below.drew (by (repeat (first | exact Below.refl _ _ | assumption | apply below_drewN | (refine Below.alloc ?_ (by simp; try omega) _)))), two_old _ _ _ _ S2.2, (two_new _ _).2, (two_new _ _).1⟩⟩
      case rest =>
        obtain ⟨A1, A2, rfl, rfl, H⟩ := hcut
        obtain ⟨hA, hA1, hA2, hBc, hH0, hH1, hH2⟩ := H.out
        clear j0 j1 j2 j3 j4 j5 j6 j7 j8 n1 n2 n3 S1 S2 S0 H
        obtain ⟨pu, hpu⟩ : ∃ x, IntKind.u64.wrap part = x := ⟨_, rfl⟩
        have pu0 : 0 ≤ pu ∧ pu < 18446744073709551616 := by rw [← hpu, wrap_u64]; omega
        have hl1 : IntKind.u64.wrap (lf - 1) = lf - 1 := by rw [wrap_u64]; have := G.out.left; simp only at this; omega
        have hz : (lf - 1 == 0) = false := (ne_bb (by omega)).1
        obtain ⟨m, hm⟩ : ∃ x, pu % (lf - 1) = x := ⟨_, rfl⟩
        have hm2 : pu.tmod (lf - 1) = m := by rw [Int.tmod_eq_emod_of_nonneg pu0.1]; exact hm
        have m0 : 0 ≤ m := by rw [← hm]; exact Int.emod_nonneg _ (by omega)
        have m1 : m < lf - 1 := by rw [← hm]; exact Int.emod_lt_of_pos _ (by omega)
        obtain ⟨pu0, pu1⟩ := pu0
        have lf0 : lf ≤ 9223372036854775807 := G.out.left.2
        obtain ⟨th, hth⟩ : ∃ x, x = needsThing ⟨id, ac, sd, pr, sz, lf, rk, ex, st⟩ := ⟨_, rfl⟩
        obtain ⟨a0, ha0⟩ : ∃ x, x = needsHeld ⟨id, ac, sd, pr, sz, lf, rk, ex, st⟩ := ⟨_, rfl⟩
        obtain ⟨e0, he0⟩ : ∃ x, x = needsErr ⟨id, ac, sd, pr, sz, lf, rk, ex, st⟩ := ⟨_, rfl⟩
        obtain ⟨a1, ha1⟩ : ∃ x, x = needsHeld ⟨id, ac, sd, pr, sz, 1 + m, rk, ex, st⟩ := ⟨_, rfl⟩
        obtain ⟨e1, he1⟩ : ∃ x, x = needsErr ⟨id, ac, sd, pr, sz, 1 + m, rk, ex, st⟩ := ⟨_, rfl⟩
        obtain ⟨a2, ha2⟩ : ∃ x, x = needsHeld ⟨id, ac, sd, pr, sz, lf - (1 + m), rk, ex, st⟩ := ⟨_, rfl⟩
        obtain ⟨e2, he2⟩ : ∃ x, x = needsErr ⟨id, ac, sd, pr, sz, lf - (1 + m), rk, ex, st⟩ := ⟨_, rfl⟩
        have g1 : OrderR.good ⟨id, ac, sd, pr, sz, 1 + m, rk, ex, st⟩ := { G.out with left := by simp only; omega }
        have g2 : OrderR.good ⟨id, ac, sd, pr, sz, lf - (1 + m), rk, ex, st⟩ := { G.out with left := by simp only; omega }
        have LAW := Lib.hid (needs_law ⟨id, ac, sd, pr, sz, lf, rk, ex, st⟩ G.out (by rw [← HC.out]; exact h0) (by simp only; omega) (1 + m) (by omega) (by simp only; omega))
        simp only at LAW
        rw [← ha0, ← he0, ← ha1, ← he1, ← ha2, ← he2] at LAW
        have N0 : Hid (∀ wx, (Below w.heap.size w wx ∧ wx.heap[w.heap.size]? = some (cells9 id ac sd pr sz lf rk ex st) ∧ wx.heap[A1]? = some (cells9 id ac sd pr sz (1 + m) rk ex st) ∧ wx.heap[A2]? = some (cells9 id ac sd pr sz (lf - (1 + m)) rk ex st)) → Calls Try.prog 7 #[.agg #[.int .u64 id, .int .u64 ac, .int .i64 sd, .int .i64 pr, .int .i64 sz, .int .i64 lf, .int .u64 rk, .int .u64 ex, .int .i64 st]] wx fun e w' => e = .returned (.tuple #[.int .i64 th, .int .i64 a0, .int .i64 e0]) ∧ (Below w.heap.size w w' ∧ w'.heap[w.heap.size]? = some (cells9 id ac sd pr sz lf rk ex st) ∧ w'.heap[A1]? = some (cells9 id ac sd pr sz (1 + m) rk ex st) ∧ w'.heap[A2]? = some (cells9 id ac sd pr sz (lf - (1 + m)) rk ex st))) := Lib.hid fun wx ⟨h1, h2, h3, h4⟩ => by
          have h := order_needs ⟨id, ac, sd, pr, sz, lf, rk, ex, st⟩ wx G.out
          rw [show needsThing ⟨id, ac, sd, pr, sz, lf, rk, ex, st⟩ = th from hth.symm, ← ha0, ← he0] at h
          exact h.mono fun _ _ ⟨g1, g2⟩ => ⟨g1, below_at h1 g2, by rw [g2.block _ (heap_lt h2)]; exact h2, by rw [g2.block _ (heap_lt h3)]; exact h3, by rw [g2.block _ (heap_lt h4)]; exact h4⟩
        have N1 : Hid (∀ wx, (Below w.heap.size w wx ∧ wx.heap[w.heap.size]? = some (cells9 id ac sd pr sz lf rk ex st) ∧ wx.heap[A1]? = some (cells9 id ac sd pr sz (1 + m) rk ex st) ∧ wx.heap[A2]? = some (cells9 id ac sd pr sz (lf - (1 + m)) rk ex st)) → Calls Try.prog 7 #[.agg #[.int .u64 id, .int .u64 ac, .int .i64 sd, .int .i64 pr, .int .i64 sz, .int .i64 (1 + m), .int .u64 rk, .int .u64 ex, .int .i64 st]] wx fun e w' => e = .returned (.tuple #[.int .i64 th, .int .i64 a1, .int .i64 e1]) ∧ (Below w.heap.size w w' ∧ w'.heap[w.heap.size]? = some (cells9 id ac sd pr sz lf rk ex st) ∧ w'.heap[A1]? = some (cells9 id ac sd pr sz (1 + m) rk ex st) ∧ w'.heap[A2]? = some (cells9 id ac sd pr sz (lf - (1 + m)) rk ex st))) := Lib.hid fun wx ⟨h1, h2, h3, h4⟩ => by
          have h := order_needs ⟨id, ac, sd, pr, sz, (1 + m), rk, ex, st⟩ wx g1
          rw [show needsThing ⟨id, ac, sd, pr, sz, (1 + m), rk, ex, st⟩ = th from hth.symm, ← ha1, ← he1] at h
          exact h.mono fun _ _ ⟨g1, g2⟩ => ⟨g1, below_at h1 g2, by rw [g2.block _ (heap_lt h2)]; exact h2, by rw [g2.block _ (heap_lt h3)]; exact h3, by rw [g2.block _ (heap_lt h4)]; exact h4⟩
        have N2 : Hid (∀ wx, (Below w.heap.size w wx ∧ wx.heap[w.heap.size]? = some (cells9 id ac sd pr sz lf rk ex st) ∧ wx.heap[A1]? = some (cells9 id ac sd pr sz (1 + m) rk ex st) ∧ wx.heap[A2]? = some (cells9 id ac sd pr sz (lf - (1 + m)) rk ex st)) → Calls Try.prog 7 #[.agg #[.int .u64 id, .int .u64 ac, .int .i64 sd, .int .i64 pr, .int .i64 sz, .int .i64 (lf - (1 + m)), .int .u64 rk, .int .u64 ex, .int .i64 st]] wx fun e w' => e = .returned (.tuple #[.int .i64 th, .int .i64 a2, .int .i64 e2]) ∧ (Below w.heap.size w w' ∧ w'.heap[w.heap.size]? = some (cells9 id ac sd pr sz lf rk ex st) ∧ w'.heap[A1]? = some (cells9 id ac sd pr sz (1 + m) rk ex st) ∧ w'.heap[A2]? = some (cells9 id ac sd pr sz (lf - (1 + m)) rk ex st))) := Lib.hid fun wx ⟨h1, h2, h3, h4⟩ => by
          have h := order_needs ⟨id, ac, sd, pr, sz, (lf - (1 + m)), rk, ex, st⟩ wx g2
          rw [show needsThing ⟨id, ac, sd, pr, sz, (lf - (1 + m)), rk, ex, st⟩ = th from hth.symm, ← ha2, ← he2] at h
          exact h.mono fun _ _ ⟨g1, g2⟩ => ⟨g1, below_at h1 g2, by rw [g2.block _ (heap_lt h2)]; exact h2, by rw [g2.block _ (heap_lt h3)]; exact h3, by rw [g2.block _ (heap_lt h4)]; exact h4⟩
        clear hth ha0 he0 ha1 he1 ha2 he2 g1 g2 h0
        obtain ⟨k0, k1, k2, k3, k4, k5, k6, k7, k8⟩ := cells9_of hH0
        have f1 : wc.frozen? ⟨A1, 5, none⟩ = false := frozen_of_row _ _ _ _ _ hH1
        have f2 : ∀ v, (wc.setCell ⟨A1, 5, none⟩ v).frozen? ⟨A2, 5, none⟩ = false := fun v => frozen_of_row _ _ _ _ _ (by rw [Below.heap_setCell _ _ _ _ (Ne.symm hA)]; exact hH2)
        obtain ⟨i0, i1, i2, i3, i4, i5, i6, i7, i8⟩ := cells9_of hH1
        obtain ⟨l0, l1, l2, l3, l4, l5, l6, l7, l8⟩ := cells9_of hH2
        have q1 : w.heap.size ≠ A1 := by omega
        have q2 : w.heap.size ≠ A2 := by omega
        have q3 : A1 ≠ w.heap.size := by omega
        have q4 : A2 ≠ w.heap.size := by omega
        have q5 : A2 ≠ A1 := Ne.symm hA
        have S4 : Below w.heap.size w ((wc.setCell ⟨A1, 5, none⟩ (.int .i64 (1 + m))).setCell ⟨A2, 5, none⟩ (.int .i64 (lf - (1 + m)))) ∧ ((wc.setCell ⟨A1, 5, none⟩ (.int .i64 (1 + m))).setCell ⟨A2, 5, none⟩ (.int .i64 (lf - (1 + m)))).heap[w.heap.size]? = some (cells9 id ac sd pr sz lf rk ex st) ∧ ((wc.setCell ⟨A1, 5, none⟩ (.int .i64 (1 + m))).setCell ⟨A2, 5, none⟩ (.int .i64 (lf - (1 + m)))).heap[A1]? = some (cells9 id ac sd pr sz (1 + m) rk ex st) ∧ ((wc.setCell ⟨A1, 5, none⟩ (.int .i64 (1 + m))).setCell ⟨A2, 5, none⟩ (.int .i64 (lf - (1 + m)))).heap[A2]? = some (cells9 id ac sd pr sz (lf - (1 + m)) rk ex st) := by
          refine ⟨(hBc.setCell (show w.heap.size ≤ A1 from by omega) _).setCell (show w.heap.size ≤ A2 from by omega) _, ?_, ?_, ?_⟩
          · rw [Below.heap_setCell _ _ _ _ q2, Below.heap_setCell _ _ _ _ q1]; exact hH0
          · rw [Below.heap_setCell _ _ _ _ hA, heap_setCell_same _ _ _ _ _ _ hH1]; rfl
          · have hx2 : (wc.setCell ⟨A1, 5, none⟩ (.int .i64 (1 + m))).heap[A2]? = some (cells9 id ac sd pr sz lf rk ex st) := by rw [Below.heap_setCell wc ⟨A1, 5, none⟩ (.int .i64 (1 + m)) A2 q5]; exact hH2
            rw [heap_setCell_same _ _ _ _ _ _ hx2]; rfl
        clear hH0 hH1 hH2 hBc hA1 hA2
        by_cases hx : e0 = 24
        · obtain ⟨x0, x1⟩ := eq_bb hx
          obtain ⟨y0, y1⟩ := ne_bb (a := e0) (b := 0) (by omega)
          clear hx
          go_wp2_with (first | (go_at_call 7; (with_reducible refine (N0.out _ (by assumption)).mono ?_); rintro e w5 ⟨rfl, T5⟩; have hB5 := T5.1; obtain ⟨u0, u1, u2, u3, u4, u5, u6, u7, u8⟩ := cells9_of T5.2.1; obtain ⟨v0, v1, v2, v3, v4, v5, v6, v7, v8⟩ := cells9_of T5.2.2.1; obtain ⟨z0, z1, z2, z3, z4, z5, z6, z7, z8⟩ := cells9_of T5.2.2.2) | (go_at_call 7; (with_reducible refine (N1.out _ (by assumption)).mono ?_); rintro e w6 ⟨rfl, T6⟩; have hB6 := T6.1; obtain ⟨u0, u1, u2, u3, u4, u5, u6, u7, u8⟩ := cells9_of T6.2.1; obtain ⟨v0, v1, v2, v3, v4, v5, v6, v7, v8⟩ := cells9_of T6.2.2.1; obtain ⟨z0, z1, z2, z3, z4, z5, z6, z7, z8⟩ := cells9_of T6.2.2.2) | (go_at_call 7; (with_reducible refine (N2.out _ (by assumption)).mono ?_); rintro e w7 ⟨rfl, T7⟩; have hB7 := T7.1; obtain ⟨u0, u1, u2, u3, u4, u5, u6, u7, u8⟩ := cells9_of T7.2.1; obtain ⟨v0, v1, v2, v3, v4, v5, v6, v7, v8⟩ := cells9_of T7.2.2.1; obtain ⟨z0, z1, z2, z3, z4, z5, z6, z7, z8⟩ := cells9_of T7.2.2.2))
          go_ret
          exact ⟨rfl, by assumption⟩
        · obtain ⟨b1, b2, b3, b4, b5, b6, b7, b8⟩ : e0 = 0 ∧ e1 = 0 ∧ e2 = 0 ∧ a1 + a2 = a0 ∧ 0 < a1 ∧ a1 < a0 ∧ a1 ≤ 9223372036854775807 ∧ a0 ≤ 9223372036854775807 := by
            rcases LAW.out with h | h
            · exact absurd h hx
            · exact h
          subst b1 b2 b3
          clear hx LAW
          go_wp2_with (first | (go_at_call 7; (with_reducible refine (N0.out _ (by assumption)).mono ?_); rintro e w5 ⟨rfl, T5⟩; have hB5 := T5.1; obtain ⟨u0, u1, u2, u3, u4, u5, u6, u7, u8⟩ := cells9_of T5.2.1; obtain ⟨v0, v1, v2, v3, v4, v5, v6, v7, v8⟩ := cells9_of T5.2.2.1; obtain ⟨z0, z1, z2, z3, z4, z5, z6, z7, z8⟩ := cells9_of T5.2.2.2) | (go_at_call 7; (with_reducible refine (N1.out _ (by assumption)).mono ?_); rintro e w6 ⟨rfl, T6⟩; have hB6 := T6.1; obtain ⟨u0, u1, u2, u3, u4, u5, u6, u7, u8⟩ := cells9_of T6.2.1; obtain ⟨v0, v1, v2, v3, v4, v5, v6, v7, v8⟩ := cells9_of T6.2.2.1; obtain ⟨z0, z1, z2, z3, z4, z5, z6, z7, z8⟩ := cells9_of T6.2.2.2) | (go_at_call 7; (with_reducible refine (N2.out _ (by assumption)).mono ?_); rintro e w7 ⟨rfl, T7⟩; have hB7 := T7.1; obtain ⟨u0, u1, u2, u3, u4, u5, u6, u7, u8⟩ := cells9_of T7.2.1; obtain ⟨v0, v1, v2, v3, v4, v5, v6, v7, v8⟩ := cells9_of T7.2.2.1; obtain ⟨z0, z1, z2, z3, z4, z5, z6, z7, z8⟩ := cells9_of T7.2.2.2))
          go_ret
          exact ⟨rfl, by assumption⟩
  · obtain ⟨c0, c1⟩ := ne_bb h0
    clear h0
    go_enter Try.func3, Try.ntmps3
    go_wp2_with (first | (go_at_call 5; (with_reducible refine (AW.out _ (by assumption)).mono ?_); rintro e w1 ⟨rfl, S1⟩; obtain ⟨k0, k1, k2, k3, k4, k5, k6, k7, k8⟩ := cells9_of S1.2) | (go_at_call 6; (with_reducible refine (CH'.out _ (by assumption)).mono ?_); rintro e w2 ⟨rfl, S2⟩; obtain ⟨j0, j1, j2, j3, j4, j5, j6, j7, j8⟩ := cells9_of S2.2))
    go_ret
    exact ⟨rfl, S2.1⟩

end Go.Proofs.Ytbhhfdkidpmfeaa
