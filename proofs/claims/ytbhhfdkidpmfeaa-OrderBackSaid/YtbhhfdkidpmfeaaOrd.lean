/-
  Orders: whether one may be, what it holds, by contract.
-/
import Derived.Test.YtbhhfdkidpmfeaaAmtRef
import Derived.Test.YtbhhfdkidpmfeaaRdText
import Derived.Test.YtbhhfdkidpmfeaaRecs
namespace Go.Proofs.Ytbhhfdkidpmfeaa
open Go.RowKit
set_option linter.unusedVariables false
set_option linter.unusedSimpArgs false


def sidedB (n : Int) : Bool := (n == 1) || (n == 2)
def statedB (st left : Int) : Bool := if st = 1 then decide (0 < left) else if st = 2 then left == 0 else (st == 3) || (st == 4)

set_option maxHeartbeats 1000000 in
theorem order_sided (n : Int) (w : World) : Calls Try.prog 15 #[.int .i64 n] w fun e w' => e = .returned (.bool (sidedB n)) ∧ Drew w w' := by
  obtain ⟨b, hb⟩ : ∃ b, b = sidedB n := ⟨_, rfl⟩
  rw [← hb]
  unfold sidedB at hb
  by_cases h1 : n = 1
  · have HB : Hid (b = true) := Lib.hid (by rw [hb, h1]; rfl)
    obtain ⟨x0, x1⟩ := eq_bb h1
    clear hb h1
    go_enter Try.func15, Try.ntmps15
    go_wp2
    go_ret
    exact ⟨by rw [HB.out]; rfl, Drew.refl _⟩
  · obtain ⟨x0, x1⟩ := ne_bb h1
    by_cases h2 : n = 2
    · have HB : Hid (b = true) := Lib.hid (by rw [hb, h2]; rfl)
      obtain ⟨y0, y1⟩ := eq_bb h2
      clear hb h1 h2
      go_enter Try.func15, Try.ntmps15
      go_wp2
      go_ret
      exact ⟨by rw [HB.out]; rfl, Drew.refl _⟩
    · obtain ⟨y0, y1⟩ := ne_bb h2
      have HB : Hid (b = false) := Lib.hid (by rw [hb, x0, y0]; rfl)
      clear hb h1 h2
      go_enter Try.func15, Try.ntmps15
      go_wp2
      go_ret
      exact ⟨by rw [HB.out]; rfl, Drew.refl _⟩

set_option maxHeartbeats 1000000 in
theorem order_stated (st left : Int) (w : World) : Calls Try.prog 17 #[.int .i64 st, .int .i64 left] w fun e w' => e = .returned (.bool (statedB st left)) ∧ Drew w w' := by
  obtain ⟨b, hb⟩ : ∃ b, b = statedB st left := ⟨_, rfl⟩
  rw [← hb]
  unfold statedB at hb
  by_cases h1 : st = 1
  · subst h1
    rw [if_pos rfl] at hb
    have HB := Lib.hid hb
    clear hb
    go_enter Try.func17, Try.ntmps17
    go_wp2
    go_ret
    exact ⟨by rw [HB.out]; rfl, Drew.refl _⟩
  · rw [if_neg h1] at hb
    obtain ⟨x0, x1⟩ := ne_bb h1
    by_cases h2 : st = 2
    · subst h2
      rw [if_pos rfl] at hb
      have HB := Lib.hid hb
      clear hb h1
      go_enter Try.func17, Try.ntmps17
      go_wp2
      go_ret
      exact ⟨by rw [HB.out]; rfl, Drew.refl _⟩
    · rw [if_neg h2] at hb
      obtain ⟨y0, y1⟩ := ne_bb h2
      have HB := Lib.hid hb
      clear hb h1 h2
      by_cases h3 : st = 3
      · subst h3
        have HB' : Hid (b = true) := Lib.hid (by rw [HB.out]; rfl)
        go_enter Try.func17, Try.ntmps17
        go_wp2
        go_ret
        exact ⟨by rw [HB'.out]; rfl, Drew.refl _⟩
      · obtain ⟨z0, z1⟩ := ne_bb h3
        clear h3
        by_cases h4 : st = 4
        · subst h4
          have HB' : Hid (b = true) := Lib.hid (by rw [HB.out]; rfl)
          go_enter Try.func17, Try.ntmps17
          go_wp2
          go_ret
          exact ⟨by rw [HB'.out]; rfl, Drew.refl _⟩
        · obtain ⟨u0, u1⟩ := ne_bb h4
          have HB' : Hid (b = false) := Lib.hid (by rw [HB.out, z0, u0]; rfl)
          clear h4
          go_enter Try.func17, Try.ntmps17
          go_wp2
          go_ret
          exact ⟨by rw [HB'.out]; rfl, Drew.refl _⟩

/-- may an order be? -/
def checkS (o : OrderR) : Int :=
  if o.account = 0 ∨ o.id = 0 then 2
  else if sidedB o.side = false then 27
  else if ¬ rightS o.price o.size = 0 then rightS o.price o.size
  else if o.left < 0 ∨ o.size < o.left then 29
  else if statedB o.state o.left = false then 11
  else 0

set_option maxHeartbeats 2000000 in
theorem order_check (o : OrderR) (w : World) (g : o.good) : Calls Try.prog 6 #[o.val] w fun e w' => e = .returned (.int .i64 (checkS o)) ∧ Below w.heap.size w w' := by
  obtain ⟨t, ht⟩ : ∃ t, t = checkS o := ⟨_, rfl⟩
  rw [← ht]
  unfold checkS at ht
  have gp := (in64_iff _).2 g.price
  have gz := (in64_iff _).2 g.size
  obtain ⟨id, ac, sd, pr, sz, lf, rk, ex, st⟩ := o
  simp only [OrderR.val] at *
  have GP := Lib.hid gp
  have GZ := Lib.hid gz
  clear g gp gz
  have HT := Lib.hid ht
  clear ht
  by_cases h1 : ac = 0
  · obtain ⟨a0, a1⟩ := eq_bb h1
    have E : Hid (t = 2) := Lib.hid (by rw [HT.out, if_pos (.inl h1)])
    clear h1
    go_enter Try.func6, Try.ntmps6
    go_wp2
    go_ret
    exact ⟨by rw [E.out]; rfl, by (repeat (first | exact Below.refl _ _ | assumption | apply below_drewN | (refine Below.alloc ?_ (by simp; try omega) _)))⟩
  obtain ⟨a0, a1⟩ := ne_bb h1
  by_cases h2 : id = 0
  · obtain ⟨b0, b1⟩ := eq_bb h2
    have E : Hid (t = 2) := Lib.hid (by rw [HT.out, if_pos (.inr h2)])
    clear h1 h2
    go_enter Try.func6, Try.ntmps6
    go_wp2
    go_ret
    exact ⟨by rw [E.out]; rfl, by (repeat (first | exact Below.refl _ _ | assumption | apply below_drewN | (refine Below.alloc ?_ (by simp; try omega) _)))⟩
  obtain ⟨b0, b1⟩ := ne_bb h2
  have N1 : Hid (¬ (ac = 0 ∨ id = 0)) := Lib.hid (by simp [h1, h2])
  clear h1 h2
  obtain ⟨sb, hsb⟩ : ∃ b, b = sidedB sd := ⟨_, rfl⟩
  have S : Hid (∀ wx, Calls Try.prog 15 #[.int .i64 sd] wx fun e w' => e = .returned (.bool sb) ∧ Drew wx w') := Lib.hid fun wx => by rw [hsb]; exact order_sided sd wx
  cases sb with
  | false =>
    have E : Hid (t = 27) := Lib.hid (by rw [HT.out, if_neg N1.out, if_pos hsb.symm])
    clear hsb
    go_enter Try.func6, Try.ntmps6
    go_wp2_with (go_at_call 15; refine (S.out _).mono ?_; rintro e w' ⟨rfl, ⟨n1, rfl⟩⟩)
    go_ret
    exact ⟨by rw [E.out]; rfl, by (repeat (first | exact Below.refl _ _ | assumption | apply below_drewN | (refine Below.alloc ?_ (by simp; try omega) _)))⟩
  | true =>
    have N2 : Hid (¬ sidedB sd = false) := Lib.hid (by rw [← hsb]; simp)
    clear hsb
    obtain ⟨rs, hrs⟩ : ∃ r, r = rightS pr sz := ⟨_, rfl⟩
    have R : Hid (∀ wx, Calls Try.prog 16 #[.int .i64 pr, .int .i64 sz] wx fun e w' => e = .returned (.int .i64 rs) ∧ Drew wx w') := Lib.hid fun wx => by rw [hrs]; exact amount_right pr sz wx GP.out GZ.out
    by_cases h3 : rs = 0
    · obtain ⟨c0, c1⟩ := eq_bb h3
      have N3 : Hid (¬ ¬ rightS pr sz = 0) := Lib.hid (by rw [← hrs]; simp [h3])
      clear hrs h3
      by_cases h4 : lf < 0
      · have E : Hid (t = 29) := Lib.hid (by rw [HT.out, if_neg N1.out, if_neg N2.out, if_neg N3.out, if_pos (.inl h4)])
        go_enter Try.func6, Try.ntmps6
        go_wp2_with (first | (go_at_call 15; refine (S.out _).mono ?_; rintro e w' ⟨rfl, ⟨n1, rfl⟩⟩) | (go_at_call 16; refine (R.out _).mono ?_; rintro e w' ⟨rfl, ⟨n2, rfl⟩⟩))
        go_ret
        exact ⟨by rw [E.out]; rfl, by (repeat (first | exact Below.refl _ _ | assumption | apply below_drewN | (refine Below.alloc ?_ (by simp; try omega) _)))⟩
      · by_cases h5 : sz < lf
        · have E : Hid (t = 29) := Lib.hid (by rw [HT.out, if_neg N1.out, if_neg N2.out, if_neg N3.out, if_pos (.inr h5)])
          go_enter Try.func6, Try.ntmps6
          go_wp2_with (first | (go_at_call 15; refine (S.out _).mono ?_; rintro e w' ⟨rfl, ⟨n1, rfl⟩⟩) | (go_at_call 16; refine (R.out _).mono ?_; rintro e w' ⟨rfl, ⟨n2, rfl⟩⟩))
          go_ret
          exact ⟨by rw [E.out]; rfl, by (repeat (first | exact Below.refl _ _ | assumption | apply below_drewN | (refine Below.alloc ?_ (by simp; try omega) _)))⟩
        · have N4 : Hid (¬ (lf < 0 ∨ sz < lf)) := Lib.hid (by omega)
          obtain ⟨tb, htb⟩ : ∃ b, b = statedB st lf := ⟨_, rfl⟩
          have T : Hid (∀ wx, Calls Try.prog 17 #[.int .i64 st, .int .i64 lf] wx fun e w' => e = .returned (.bool tb) ∧ Drew wx w') := Lib.hid fun wx => by rw [htb]; exact order_stated st lf wx
          cases tb with
          | false =>
            have E : Hid (t = 11) := Lib.hid (by rw [HT.out, if_neg N1.out, if_neg N2.out, if_neg N3.out, if_neg N4.out, if_pos htb.symm])
            clear htb
            go_enter Try.func6, Try.ntmps6
            go_wp2_with (first | (go_at_call 15; refine (S.out _).mono ?_; rintro e w' ⟨rfl, ⟨n1, rfl⟩⟩) | (go_at_call 16; refine (R.out _).mono ?_; rintro e w' ⟨rfl, ⟨n2, rfl⟩⟩) | (go_at_call 17; refine (T.out _).mono ?_; rintro e w' ⟨rfl, ⟨n3, rfl⟩⟩))
            go_ret
            exact ⟨by rw [E.out]; rfl, by (repeat (first | exact Below.refl _ _ | assumption | apply below_drewN | (refine Below.alloc ?_ (by simp; try omega) _)))⟩
          | true =>
            have E : Hid (t = 0) := Lib.hid (by rw [HT.out, if_neg N1.out, if_neg N2.out, if_neg N3.out, if_neg N4.out, if_neg (by rw [← htb]; simp)])
            clear htb
            go_enter Try.func6, Try.ntmps6
            go_wp2_with (first | (go_at_call 15; refine (S.out _).mono ?_; rintro e w' ⟨rfl, ⟨n1, rfl⟩⟩) | (go_at_call 16; refine (R.out _).mono ?_; rintro e w' ⟨rfl, ⟨n2, rfl⟩⟩) | (go_at_call 17; refine (T.out _).mono ?_; rintro e w' ⟨rfl, ⟨n3, rfl⟩⟩))
            go_ret
            exact ⟨by rw [E.out]; rfl, by (repeat (first | exact Below.refl _ _ | assumption | apply below_drewN | (refine Below.alloc ?_ (by simp; try omega) _)))⟩
    · obtain ⟨c0, c1⟩ := ne_bb h3
      have E : Hid (t = rs) := Lib.hid (by rw [HT.out, if_neg N1.out, if_neg N2.out, if_pos (by rw [← hrs]; exact h3), hrs])
      clear hrs h3
      go_enter Try.func6, Try.ntmps6
      go_wp2_with (first | (go_at_call 15; refine (S.out _).mono ?_; rintro e w' ⟨rfl, ⟨n1, rfl⟩⟩) | (go_at_call 16; refine (R.out _).mono ?_; rintro e w' ⟨rfl, ⟨n2, rfl⟩⟩))
      go_ret
      exact ⟨by rw [E.out]; rfl, by (repeat (first | exact Below.refl _ _ | assumption | apply below_drewN | (refine Below.alloc ?_ (by simp; try omega) _)))⟩

/-- what an order holds -/
def needsThing (o : OrderR) : Int := if o.side = 1 then 1 else 2
def needsHeld (o : OrderR) : Int := if o.side = 1 then costS (o.price * o.left) else o.left
def needsErr (o : OrderR) : Int := if o.side = 1 then costE (o.price * o.left) else 0

set_option maxHeartbeats 2000000 in
theorem order_needs (o : OrderR) (w : World) (g : o.good) : Calls Try.prog 7 #[o.val] w fun e w' => e = .returned (.tuple #[.int .i64 (needsThing o), .int .i64 (needsHeld o), .int .i64 (needsErr o)]) ∧ Below w.heap.size w w' := by
  have gp := (in64_iff _).2 g.price
  have gz := (in64_iff _).2 g.left
  obtain ⟨id, ac, sd, pr, sz, lf, rk, ex, st⟩ := o
  simp only [OrderR.val, needsThing, needsHeld, needsErr] at *
  have GP := Lib.hid gp
  have GZ := Lib.hid gz
  clear g gp gz
  by_cases h1 : sd = 1
  · subst h1
    simp only [if_true]
    obtain ⟨n, hn⟩ : ∃ n, n = costS (pr * lf) := ⟨_, rfl⟩
    obtain ⟨e, he⟩ : ∃ n, n = costE (pr * lf) := ⟨_, rfl⟩
    rw [← hn, ← he]
    have C : Hid (∀ wx, Calls Try.prog 18 #[.int .i64 pr, .int .i64 lf] wx fun e' w' => e' = .returned (.tuple #[.int .i64 n, .int .i64 e]) ∧ Drew wx w') := Lib.hid fun wx => by rw [hn, he]; exact amount_cost pr lf wx GP.out GZ.out
    clear hn he
    go_enter Try.func7, Try.ntmps7
    go_wp2_with (go_at_call 18; refine (C.out _).mono ?_; rintro e w' ⟨rfl, ⟨n1, rfl⟩⟩)
    go_ret3
    exact ⟨rfl, by (repeat (first | exact Below.refl _ _ | assumption | apply below_drewN | (refine Below.alloc ?_ (by simp; try omega) _)))⟩
  · obtain ⟨c0, c1⟩ := ne_bb h1
    simp only [h1, if_false]
    clear h1
    go_enter Try.func7, Try.ntmps7
    go_wp2
    go_quiet (fail)
    go_wp2
    go_ret3
    exact ⟨rfl, by (repeat (first | exact Below.refl _ _ | assumption | apply below_drewN | (refine Below.alloc ?_ (by simp; try omega) _)))⟩

set_option maxHeartbeats 1000000 in
theorem order_other (n : Int) (w : World) : Calls Try.prog 13 #[.int .i64 n] w fun e w' => e = .returned (.int .i64 (if n = 1 then 2 else 1)) ∧ Drew w w' := by
  by_cases h1 : n = 1
  · obtain ⟨c0, c1⟩ := eq_bb h1
    rw [if_pos h1]
    clear h1
    go_enter Try.func13, Try.ntmps13
    go_wp2
    go_ret
    exact ⟨rfl, Drew.refl _⟩
  · obtain ⟨c0, c1⟩ := ne_bb h1
    rw [if_neg h1]
    clear h1
    go_enter Try.func13, Try.ntmps13
    go_wp2
    go_ret
    exact ⟨rfl, Drew.refl _⟩

set_option maxHeartbeats 2000000 in
theorem order_money (a b : Int) (w : World) (ha : -9223372036854775808 ≤ a ∧ a ≤ 9223372036854775807) (hb : -9223372036854775808 ≤ b ∧ b ≤ 9223372036854775807) :
    Calls Try.prog 11 #[.agg #[.int .i64 a, .int .i64 b]] w fun e w' => e = .returned (.string (str (numL (zz a).toNat ++ numL (zz b).toNat))) ∧ Below w.heap.size w w' := by
  rw [← str_append]
  obtain ⟨x, hx⟩ : ∃ x, x = str (numL (zz a).toNat) := ⟨_, rfl⟩
  obtain ⟨y, hy⟩ : ∃ x, x = str (numL (zz b).toNat) := ⟨_, rfl⟩
  have sx : x.size ≤ 10 := by rw [hx, str_size]; exact numL_len64 _ (by have := zz_bd a ha.1 ha.2; omega)
  have sy : y.size ≤ 10 := by rw [hy, str_size]; exact numL_len64 _ (by have := zz_bd b hb.1 hb.2; omega)
  have C1 : Hid (∀ wx, (wx.cell? ⟨w.heap.size, 0, none⟩ = some (.int .i64 a) ∧ wx.cell? ⟨w.heap.size, 1, none⟩ = some (.int .i64 b) ∧ Below w.heap.size w wx) → Calls Try.prog 25 #[.int .i64 a] wx fun e w' => e = .returned (.string x) ∧ (w'.cell? ⟨w.heap.size, 0, none⟩ = some (.int .i64 a) ∧ w'.cell? ⟨w.heap.size, 1, none⟩ = some (.int .i64 b) ∧ Below w.heap.size w w')) := Lib.hid fun wx ⟨k0, k1, hB⟩ => (varint_signed a wx ha.1 ha.2).mono fun _ _ ⟨h1, h2⟩ => ⟨by rw [h1, hx], cell_stays h2 k0, cell_stays h2 k1, below_at hB h2⟩
  have C2 : Hid (∀ wx, (wx.cell? ⟨w.heap.size, 0, none⟩ = some (.int .i64 a) ∧ wx.cell? ⟨w.heap.size, 1, none⟩ = some (.int .i64 b) ∧ Below w.heap.size w wx) → Calls Try.prog 25 #[.int .i64 b] wx fun e w' => e = .returned (.string y) ∧ (w'.cell? ⟨w.heap.size, 0, none⟩ = some (.int .i64 a) ∧ w'.cell? ⟨w.heap.size, 1, none⟩ = some (.int .i64 b) ∧ Below w.heap.size w w')) := Lib.hid fun wx ⟨k0, k1, hB⟩ => (varint_signed b wx hb.1 hb.2).mono fun _ _ ⟨h1, h2⟩ => ⟨by rw [h1, hy], cell_stays h2 k0, cell_stays h2 k1, below_at hB h2⟩
  have hxy : ∀ wx : World, (Op.stringOp .add x y).run Try.prog wx = .ok (.string (x ++ y)) wx := fun wx => run_string_add_sum wx x y (by omega)
  rw [← hx, ← hy]
  clear hx hy ha hb
  go_enter Try.func11, Try.ntmps11
  go_wp2
  have B0 : Below w.heap.size w (w.alloc (.cells #[.int .i64 a, .int .i64 b] 32)).drew := Below.drew (by (repeat (first | exact Below.refl _ _ | assumption | apply below_drewN | (refine Below.alloc ?_ (by simp; try omega) _))))
  go_region_held3 (fun wx => wx.cell? ⟨w.heap.size, 0, none⟩ = some (.int .i64 a) ∧ wx.cell? ⟨w.heap.size, 1, none⟩ = some (.int .i64 b) ∧ Below w.heap.size w wx) (first | assumption | go_keep)
    (first | (go_at_call 25; (with_reducible refine (C1.out _ (by assumption)).mono ?_); rintro e w' ⟨rfl, hS⟩) | (go_at_call 25; (with_reducible refine (C2.out _ (by assumption)).mono ?_); rintro e w' ⟨rfl, hS⟩))
  go_wp2
  go_ret
  exact ⟨rfl, hS.2.2⟩

end Go.Proofs.Ytbhhfdkidpmfeaa
