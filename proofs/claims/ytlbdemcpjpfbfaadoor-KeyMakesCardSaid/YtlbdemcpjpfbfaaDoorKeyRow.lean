/-
  The law's small functions on rows of parts: light, plain, same, To.
-/
import Derived.Test.YtlbdemcpjpfbfaaDoorKeyLess
import Derived.Test.YtlbdemcpjpfbfaaDoorRow
import Derived.BigQuiet
namespace Go.Proofs.YtlbdemcpjpfbfaaDoor
open Go.RowKit
set_option linter.unusedVariables false
set_option linter.unusedSimpArgs false

theorem PartR.len (p : PartR) : p.row.length = 4 := rfl
theorem info_part3 : (Tryd.prog.info? 25).map (fun i => (i.zero, i.size, i.bytes)) = some (some (.agg (cells4 0 0 0 ByteArray.empty)), 4, 40) := by kernel_rfl
theorem info_rpart3 : (Tryd.prog.info? 50).map (fun i => (i.zero, i.size, i.bytes)) = some (some (.agg (cells4 0 0 0 ByteArray.empty)), 4, 40) := by kernel_rfl

/-- is a row gone through? -/
def lightB (l : List PartR) : Bool := decide (l.length ≤ 30) && l.all fun p => decide (p.s.size ≤ 300)
theorem lightB_drop (l : List PartR) (j : Nat) (hj : j < l.length) : ((l.drop j).all fun p => decide (p.s.size ≤ 300)) = (decide (l[j].s.size ≤ 300) && ((l.drop (j + 1)).all fun p => decide (p.s.size ≤ 300))) := by
  rw [List.drop_eq_getElem_cons hj]; rfl

set_option maxRecDepth 100000 in
set_option maxHeartbeats 2000000 in
theorem law_light (l : List PartR) (A : Option Addr) (c : Nat) (w : World) (hr : RowsAt w A 4 PartR.row l) (hl : l.length ≤ 9223372036854775807) (hs : ∀ p ∈ l, p.s.size ≤ 9223372036854775807) :
    Calls Tryd.prog 16 #[.slice A l.length c] w fun e w' => e = .returned (.bool (lightB l)) ∧ Below w.heap.size w w' := by
  have HR := Lib.hid hr
  have HS := Lib.hid hs
  obtain ⟨t, ht⟩ : ∃ t, t = lightB l := ⟨_, rfl⟩
  rw [← ht]
  have HT := Lib.hid ht
  clear hr ht hs
  go_enter Tryd.func16, Tryd.ntmps16
  go_wp2
  go_loopw [7] (fun v7 wr => ∃ j : Nat, j ≤ l.length ∧ v7 = .int .i64 j ∧ Below w.heap.size w wr ∧ Hid (j = 0 ∨ l.length ≤ 30) ∧ Hid (t = (decide (l.length ≤ 30) && (l.drop j).all fun p => decide (p.s.size ≤ 300)))) (fun v _ => l.length - (intOf v).toNat)
  case atStart => exact ⟨0, Nat.zero_le _, rfl, Below.refl _ _, Lib.hid (.inl rfl), Lib.hid HT.out⟩
  case round =>
    obtain ⟨j, hj, rfl, hB, HJ, HM⟩ := hrel
    by_cases hlt : j < l.length
    · obtain ⟨b, o, rfl, k0, k1, k2, k3⟩ := row4_at (HR.out.moved hB) j hlt
      have hz : l[j].s.size ≤ 9223372036854775807 := HS.out _ (List.getElem_mem hlt)
      have HM2 : Hid (t = (decide (l.length ≤ 30) && (decide (l[j].s.size ≤ 300) && (l.drop (j + 1)).all fun p => decide (p.s.size ≤ 300)))) := Lib.hid (by rw [← lightB_drop l j hlt]; exact HM.out)
      obtain ⟨p, hp⟩ : ∃ p, p = l[j] := ⟨_, rfl⟩
      rw [← hp] at k0 k1 k2 k3 hz HM2
      obtain ⟨a, n, u, s⟩ := p
      simp only at k0 k1 k2 k3 hz HM2
      clear hp HM
      by_cases h30 : 30 < l.length
      · have HF : Hid (t = false) := Lib.hid (by rw [HM2.out]; simp [show ¬ l.length ≤ 30 from by omega])
        go_wp2
        go_ret
        exact ⟨by rw [HF.out]; rfl, hB.alloc hB.size _⟩
      · by_cases h300 : 300 < s.size
        · have HF : Hid (t = false) := Lib.hid (by rw [HM2.out]; simp [show ¬ s.size ≤ 300 from by omega])
          go_wp2
          go_ret
          exact ⟨by rw [HF.out]; rfl, hB.alloc hB.size _⟩
        · have HF : Hid (t = (decide (l.length ≤ 30) && (l.drop (j + 1)).all fun p => decide (p.s.size ≤ 300))) := Lib.hid (by rw [HM2.out]; simp [show s.size ≤ 300 from by omega])
          clear HM2
          go_wp2
          go_roundw
          case rel => exact ⟨j + 1, by omega, by go_num, hB.alloc hB.size _, Lib.hid (.inr (by omega)), HF⟩
          case measure => simp [intOf]; omega
    · have HF : Hid (t = true) := Lib.hid (by
        rw [HM.out, List.drop_of_length_le (by omega)]
        have : l.length ≤ 30 := by rcases HJ.out with h | h <;> omega
        simp [this])
      clear HM
      go_wp2
      go_ret
      exact ⟨by rw [HF.out]; rfl, hB⟩

/-- a part with what counts alone -/
def plainP (p : PartR) : PartR := ⟨p.sort, if p.sort = 105 ∨ p.sort = 100 then p.n else 0, if p.sort = 117 then p.u else 0, if p.sort = 116 then p.s else ByteArray.empty⟩

set_option maxRecDepth 100000 in
set_option maxHeartbeats 4000000 in
theorem law_plain (l : List PartR) (A : Option Addr) (c : Nat) (w : World) (hr : RowsAt w A 4 PartR.row l) (hl : l.length ≤ 1000000) :
    Calls Tryd.prog 17 #[.slice A l.length c] w fun e w' => ∃ a c', e = .returned (.slice a l.length c') ∧ RowsAt w' a 4 PartR.row (l.map plainP) ∧ l.length ≤ c' ∧ c' ≤ maxLen ∧ Below w.heap.size w w' := by
  have HR := Lib.hid hr
  have hz := zero_part
  clear hr
  go_enter Tryd.func17, Tryd.ntmps17
  go_wp2
  go_loopw [9, 3] (fun v9 v3 wr => ∃ j : Nat, j ≤ l.length ∧ v9 = .int .i64 j ∧ Below w.heap.size w wr ∧ Hid (wr.ownsRow w.heap.size 25 4 v3 j (((l.take j).map plainP).flatMap PartR.row))) (fun v _ _ => l.length - (intOf v).toNat)
  case atStart => exact ⟨0, Nat.zero_le _, rfl, Below.refl _ _, Lib.hid (by simpa using own_none)⟩
  case round =>
    obtain ⟨j, hj, rfl, hB, HO⟩ := hrel
    by_cases hlt : j < l.length
    · obtain ⟨b, o, rfl, k0, k1, k2, k3⟩ := row4_at (HR.out.moved hB) j hlt
      have HM2 : Hid (((l.take (j + 1)).map plainP).flatMap PartR.row = ((l.take j).map plainP).flatMap PartR.row ++ PartR.row (plainP l[j])) := Lib.hid (by
        rw [List.take_succ_eq_append_getElem hlt, List.map_append, List.flatMap_append]; congr 1)
      obtain ⟨p, hp⟩ : ∃ p, p = l[j] := ⟨_, rfl⟩
      rw [← hp] at k0 k1 k2 k3 HM2
      obtain ⟨a, n, u, s⟩ := p
      simp only at k0 k1 k2 k3
      clear hp
      have n1 : b < wr.heap.size := cell_lt k0
      have n3 := Nat.ne_of_lt n1
      have hsz := hB.size
      have HW : Hid (∀ x y z, Below w.heap.size w (((wr.alloc x).alloc y).alloc z) ∧ Below wr.heap.size wr (((wr.alloc x).alloc y).alloc z) ∧ (((wr.alloc x).alloc y).alloc z).heap[wr.heap.size + 1 + 1]? = some z ∧ w.heap.size ≤ (((wr.alloc x).alloc y).alloc z).heap.size) := Lib.hid fun x y z =>
        ⟨((hB.alloc hsz _).alloc (by simp; omega) _).alloc (by simp; omega) _, (((Below.refl _ _).alloc (Nat.le_refl _) _).alloc (by simp) _).alloc (by simp; omega) _, heap_new (by simp), by simp; omega⟩
      by_cases h1 : a = 105
      · have HQ : Hid (PartR.row (plainP ⟨a, n, u, s⟩) = (cells4 a n 0 ByteArray.empty).toList) := Lib.hid (by subst h1; rfl)
        rw [HQ.out] at HM2
        obtain ⟨p1, q1⟩ := eq_bb h1
        clear h1
        go_wp2_with (at_builtin; refine wp_append_row rfl (.tmp 34) (.tmp 36) 38 rfl w.heap.size 25 Tryd.underlying38 _ 4 40 info_part3 rfl (by decide) (by decide) _ u3 j _ rfl (own_moved HO.out (HW.out _ _ _).2.1) (cells4 a n 0 ByteArray.empty) (wr.heap.size + 1 + 1) (HW.out _ _ _).2.2.1 rfl (by simp [Value.oneCell']) rfl (by omega) (HW.out _ _ _).2.2.2 ?_; intro v' w1 hown1 hB1; rw [← HM2.out] at hown1; have HO1 := Lib.hid hown1; clear hown1; have hB2 := (HW.out _ _ _).1.trans hB1)
        go_roundw
        case rel => exact ⟨j + 1, by omega, by go_num, hB2, HO1⟩
        case measure => simp [intOf]; omega
      by_cases h2 : a = 100
      · have HQ : Hid (PartR.row (plainP ⟨a, n, u, s⟩) = (cells4 a n 0 ByteArray.empty).toList) := Lib.hid (by subst h2; rfl)
        rw [HQ.out] at HM2
        obtain ⟨p1, q1⟩ := ne_bb h1
        obtain ⟨p2, q2⟩ := eq_bb h2
        clear h1 h2
        go_wp2_with (at_builtin; refine wp_append_row rfl (.tmp 34) (.tmp 36) 38 rfl w.heap.size 25 Tryd.underlying38 _ 4 40 info_part3 rfl (by decide) (by decide) _ u3 j _ rfl (own_moved HO.out (HW.out _ _ _).2.1) (cells4 a n 0 ByteArray.empty) (wr.heap.size + 1 + 1) (HW.out _ _ _).2.2.1 rfl (by simp [Value.oneCell']) rfl (by omega) (HW.out _ _ _).2.2.2 ?_; intro v' w1 hown1 hB1; rw [← HM2.out] at hown1; have HO1 := Lib.hid hown1; clear hown1; have hB2 := (HW.out _ _ _).1.trans hB1)
        go_roundw
        case rel => exact ⟨j + 1, by omega, by go_num, hB2, HO1⟩
        case measure => simp [intOf]; omega
      by_cases h3 : a = 117
      · have HQ : Hid (PartR.row (plainP ⟨a, n, u, s⟩) = (cells4 a 0 u ByteArray.empty).toList) := Lib.hid (by subst h3; rfl)
        rw [HQ.out] at HM2
        obtain ⟨p1, q1⟩ := ne_bb h1
        obtain ⟨p2, q2⟩ := ne_bb h2
        obtain ⟨p3, q3⟩ := eq_bb h3
        clear h1 h2 h3
        go_wp2_with (at_builtin; refine wp_append_row rfl (.tmp 34) (.tmp 36) 38 rfl w.heap.size 25 Tryd.underlying38 _ 4 40 info_part3 rfl (by decide) (by decide) _ u3 j _ rfl (own_moved HO.out (HW.out _ _ _).2.1) (cells4 a 0 u ByteArray.empty) (wr.heap.size + 1 + 1) (HW.out _ _ _).2.2.1 rfl (by simp [Value.oneCell']) rfl (by omega) (HW.out _ _ _).2.2.2 ?_; intro v' w1 hown1 hB1; rw [← HM2.out] at hown1; have HO1 := Lib.hid hown1; clear hown1; have hB2 := (HW.out _ _ _).1.trans hB1)
        go_roundw
        case rel => exact ⟨j + 1, by omega, by go_num, hB2, HO1⟩
        case measure => simp [intOf]; omega
      by_cases h4 : a = 116
      · have HQ : Hid (PartR.row (plainP ⟨a, n, u, s⟩) = (cells4 a 0 0 s).toList) := Lib.hid (by subst h4; rfl)
        rw [HQ.out] at HM2
        obtain ⟨p1, q1⟩ := ne_bb h1
        obtain ⟨p2, q2⟩ := ne_bb h2
        obtain ⟨p3, q3⟩ := ne_bb h3
        obtain ⟨p4, q4⟩ := eq_bb h4
        clear h1 h2 h3 h4
        go_wp2_with (at_builtin; refine wp_append_row rfl (.tmp 34) (.tmp 36) 38 rfl w.heap.size 25 Tryd.underlying38 _ 4 40 info_part3 rfl (by decide) (by decide) _ u3 j _ rfl (own_moved HO.out (HW.out _ _ _).2.1) (cells4 a 0 0 s) (wr.heap.size + 1 + 1) (HW.out _ _ _).2.2.1 rfl (by simp [Value.oneCell']) rfl (by omega) (HW.out _ _ _).2.2.2 ?_; intro v' w1 hown1 hB1; rw [← HM2.out] at hown1; have HO1 := Lib.hid hown1; clear hown1; have hB2 := (HW.out _ _ _).1.trans hB1)
        go_roundw
        case rel => exact ⟨j + 1, by omega, by go_num, hB2, HO1⟩
        case measure => simp [intOf]; omega
      have HQ : Hid (PartR.row (plainP ⟨a, n, u, s⟩) = (cells4 a 0 0 ByteArray.empty).toList) := Lib.hid (by unfold plainP; simp only; rw [if_neg (by simp [h1, h2]), if_neg h3, if_neg h4]; rfl)
      rw [HQ.out] at HM2
      obtain ⟨p1, q1⟩ := ne_bb h1
      obtain ⟨p2, q2⟩ := ne_bb h2
      obtain ⟨p3, q3⟩ := ne_bb h3
      obtain ⟨p4, q4⟩ := ne_bb h4
      clear h1 h2 h3 h4
      go_wp2_with (at_builtin; refine wp_append_row rfl (.tmp 34) (.tmp 36) 38 rfl w.heap.size 25 Tryd.underlying38 _ 4 40 info_part3 rfl (by decide) (by decide) _ u3 j _ rfl (own_moved HO.out (HW.out _ _ _).2.1) (cells4 a 0 0 ByteArray.empty) (wr.heap.size + 1 + 1) (HW.out _ _ _).2.2.1 rfl (by simp [Value.oneCell']) rfl (by omega) (HW.out _ _ _).2.2.2 ?_; intro v' w1 hown1 hB1; rw [← HM2.out] at hown1; have HO1 := Lib.hid hown1; clear hown1; have hB2 := (HW.out _ _ _).1.trans hB1)
      go_roundw
      case rel => exact ⟨j + 1, by omega, by go_num, hB2, HO1⟩
      case measure => simp [intOf]; omega
    · obtain rfl : j = l.length := by omega
      have HT : Hid (wr.ownsRow w.heap.size 25 4 u3 (l.map plainP).length ((l.map plainP).flatMap PartR.row)) := Lib.hid (by
        have h := HO.out
        rw [List.take_length] at h
        rw [List.length_map]; exact h)
      obtain ⟨a, cc, e1, e2, e3, e4⟩ := own_rowsN HT.out PartR.len
      rw [List.length_map] at e1 e3
      have HE1 := Lib.hid e1
      have HE2 := Lib.hid e2
      clear e1 e2 HO HT
      go_wp2
      go_ret
      exact ⟨a, cc, by rw [HE1.out]; rfl, HE2.out, e3, e4, hB⟩

/-- two parts, two rows alike -/
def partEq (p q : PartR) : Bool := decide (p.sort = q.sort) && (decide (p.n = q.n) && (decide (p.u = q.u) && decide (p.s = q.s)))
def sameL : List PartR → List PartR → Bool
  | [], [] => true
  | p :: l, q :: m => partEq p q && sameL l m
  | _, _ => false
theorem sameL_len : ∀ (l m : List PartR), l.length ≠ m.length → sameL l m = false
  | [], [], h => absurd rfl h
  | [], _ :: _, _ => rfl
  | _ :: _, [], _ => rfl
  | p :: l, q :: m, h => by
    rw [sameL, sameL_len l m (by simpa using h), Bool.and_false]
theorem sameL_drop (l m : List PartR) (j : Nat) (h1 : j < l.length) (h2 : j < m.length) : sameL (l.drop j) (m.drop j) = (partEq l[j] m[j] && sameL (l.drop (j + 1)) (m.drop (j + 1))) := by
  rw [List.drop_eq_getElem_cons h1, List.drop_eq_getElem_cons h2]; rfl

set_option maxRecDepth 100000 in
set_option maxHeartbeats 4000000 in
theorem law_same (l m : List PartR) (A A' : Option Addr) (c c' : Nat) (w : World) (hr : RowsAt w A 4 PartR.row l) (hr' : RowsAt w A' 4 PartR.row m) (hl : l.length ≤ 1000000) (hm : m.length ≤ 1000000) :
    Calls Tryd.prog 19 #[.slice A l.length c, .slice A' m.length c'] w fun e w' => e = .returned (.bool (sameL l m)) ∧ Below w.heap.size w w' := by
  have HR := Lib.hid hr
  have HR' := Lib.hid hr'
  obtain ⟨t, ht⟩ : ∃ t, t = sameL l m := ⟨_, rfl⟩
  rw [← ht]
  have HT := Lib.hid ht
  clear hr hr' ht
  by_cases hlen : l.length = m.length
  · have HLM : Hid (m.length = l.length) := Lib.hid hlen.symm
    have i1 : ((l.length : Nat) : Int) = ((m.length : Nat) : Int) := by omega
    obtain ⟨z1, z2⟩ := eq_bb i1
    clear i1
    go_enter Tryd.func19, Tryd.ntmps19
    go_wp2
    go_loopw [13] (fun v13 wr => ∃ j : Nat, j ≤ l.length ∧ v13 = .int .i64 j ∧ Below w.heap.size w wr ∧ Hid (t = sameL (l.drop j) (m.drop j))) (fun v _ => l.length - (intOf v).toNat)
    case atStart => exact ⟨0, Nat.zero_le _, rfl, Below.refl _ _, Lib.hid HT.out⟩
    case round =>
      obtain ⟨j, hj, rfl, hB, HM⟩ := hrel
      by_cases hlt : j < l.length
      · have hlt' : j < m.length := by have := HLM.out; omega
        obtain ⟨b, o, rfl, k0, k1, k2, k3⟩ := row4_at (HR.out.moved hB) j hlt
        obtain ⟨b', o', rfl, i0, i1, i2, i3⟩ := row4_at (HR'.out.moved hB) j hlt'
        have HM2 : Hid (t = (partEq l[j] m[j] && sameL (l.drop (j + 1)) (m.drop (j + 1)))) := Lib.hid (by rw [← sameL_drop l m j hlt hlt']; exact HM.out)
        obtain ⟨p, hp⟩ : ∃ p, p = l[j] := ⟨_, rfl⟩
        obtain ⟨q, hq⟩ : ∃ q, q = m[j] := ⟨_, rfl⟩
        rw [← hp] at k0 k1 k2 k3 HM2
        rw [← hq] at i0 i1 i2 i3 HM2
        obtain ⟨a, n, u, s⟩ := p
        obtain ⟨a', n', u', s'⟩ := q
        simp only at k0 k1 k2 k3 i0 i1 i2 i3
        clear hp hq HM
        by_cases heq : a = a' ∧ n = n' ∧ u = u' ∧ s = s'
        · obtain ⟨rfl, rfl, rfl, rfl⟩ := heq
          have HF : Hid (t = sameL (l.drop (j + 1)) (m.drop (j + 1))) := Lib.hid (by rw [HM2.out]; simp [partEq])
          clear HM2
          go_wp2
          go_quiet (fail)
          go_wp2
          go_roundw
          case rel => exact ⟨j + 1, by omega, by go_num, by (repeat (first | exact Below.refl _ _ | assumption | apply below_drewN | (refine Below.alloc ?_ (by simp; try omega) _))), HF⟩
          case measure => simp [intOf]; omega
        · by_cases e1 : a = a'
          · subst e1
            by_cases e2 : n = n'
            · subst e2
              by_cases e3 : u = u'
              · subst e3
                have e4 : ¬ s = s' := fun h => heq ⟨rfl, rfl, rfl, h⟩
                have HF : Hid (t = false) := Lib.hid (by rw [HM2.out]; simp [partEq, e4])
                obtain ⟨p1, q1⟩ := sne_bb e4
                clear e4 heq
                clear HM2
                go_wp2
                go_quiet (fail)
                go_wp2
                go_ret
                exact ⟨by rw [HF.out]; rfl, by (repeat (first | exact Below.refl _ _ | assumption | apply below_drewN | (refine Below.alloc ?_ (by simp; try omega) _)))⟩
              · have HF : Hid (t = false) := Lib.hid (by rw [HM2.out]; simp [partEq, e3])
                obtain ⟨p1, q1⟩ := ne_bb e3
                clear e3 heq
                clear HM2
                go_wp2
                go_quiet (fail)
                go_wp2
                go_ret
                exact ⟨by rw [HF.out]; rfl, by (repeat (first | exact Below.refl _ _ | assumption | apply below_drewN | (refine Below.alloc ?_ (by simp; try omega) _)))⟩
            · have HF : Hid (t = false) := Lib.hid (by rw [HM2.out]; simp [partEq, e2])
              obtain ⟨p1, q1⟩ := ne_bb e2
              clear e2 heq
              clear HM2
              go_wp2
              go_quiet (fail)
              go_wp2
              go_ret
              exact ⟨by rw [HF.out]; rfl, by (repeat (first | exact Below.refl _ _ | assumption | apply below_drewN | (refine Below.alloc ?_ (by simp; try omega) _)))⟩
          · have HF : Hid (t = false) := Lib.hid (by rw [HM2.out]; simp [partEq, e1])
            obtain ⟨p1, q1⟩ := ne_bb e1
            clear e1 heq
            clear HM2
            go_wp2
            go_quiet (fail)
            go_wp2
            go_ret
            exact ⟨by rw [HF.out]; rfl, by (repeat (first | exact Below.refl _ _ | assumption | apply below_drewN | (refine Below.alloc ?_ (by simp; try omega) _)))⟩
      · have HG : Hid (t = true) := Lib.hid (by
          have h := HLM.out
          rw [HM.out, List.drop_of_length_le (by omega : l.length ≤ j), List.drop_of_length_le (by omega : m.length ≤ j)]; rfl)
        clear HM
        go_wp2
        go_ret
        exact ⟨by rw [HG.out]; rfl, hB⟩
  · have HG : Hid (t = false) := Lib.hid (by rw [HT.out]; exact sameL_len l m hlen)
    have i1 : ¬ ((l.length : Nat) : Int) = ((m.length : Nat) : Int) := by omega
    obtain ⟨z1, z2⟩ := ne_bb i1
    clear i1
    go_enter Tryd.func19, Tryd.ntmps19
    go_wp2
    go_ret
    exact ⟨by rw [HG.out]; rfl, Below.refl _ _⟩

set_option maxRecDepth 100000 in
set_option maxHeartbeats 4000000 in
theorem law_to (l : List PartR) (A : Option Addr) (c : Nat) (w : World) (hr : RowsAt w A 4 PartR.row l) (hl : l.length ≤ 1000000) :
    Calls Tryd.prog 22 #[.slice A l.length c] w fun e w' => ∃ a c', e = .returned (.slice a l.length c') ∧ RowsAt w' a 4 PartR.row l ∧ l.length ≤ c' ∧ c' ≤ maxLen ∧ Below w.heap.size w w' := by
  have HR := Lib.hid hr
  clear hr
  go_enter Tryd.func22, Tryd.ntmps22
  go_wp2
  go_loopw [8, 3] (fun v8 v3 wr => ∃ j : Nat, j ≤ l.length ∧ v8 = .int .i64 j ∧ Below w.heap.size w wr ∧ Hid (wr.ownsRow w.heap.size 50 4 v3 j ((l.take j).flatMap PartR.row))) (fun v _ _ => l.length - (intOf v).toNat)
  case atStart => exact ⟨0, Nat.zero_le _, rfl, Below.refl _ _, Lib.hid (by simpa using own_none)⟩
  case round =>
    obtain ⟨j, hj, rfl, hB, HO⟩ := hrel
    by_cases hlt : j < l.length
    · obtain ⟨b, o, rfl, k0, k1, k2, k3⟩ := row4_at (HR.out.moved hB) j hlt
      have HM2 : Hid ((l.take (j + 1)).flatMap PartR.row = (l.take j).flatMap PartR.row ++ PartR.row l[j]) := Lib.hid (by
        rw [List.take_succ_eq_append_getElem hlt, List.flatMap_append]; simp)
      obtain ⟨p, hp⟩ : ∃ p, p = l[j] := ⟨_, rfl⟩
      rw [← hp] at k0 k1 k2 k3 HM2
      obtain ⟨a, n, u, s⟩ := p
      simp only at k0 k1 k2 k3
      clear hp
      have hsz := hB.size
      have HW : Hid (∀ x y, Below w.heap.size w ((wr.alloc x).alloc y) ∧ Below wr.heap.size wr ((wr.alloc x).alloc y) ∧ ((wr.alloc x).alloc y).heap[wr.heap.size + 1]? = some y ∧ w.heap.size ≤ ((wr.alloc x).alloc y).heap.size) := Lib.hid fun x y =>
        ⟨(hB.alloc hsz _).alloc (by simp; omega) _, ((Below.refl _ _).alloc (Nat.le_refl _) _).alloc (by simp) _, heap_new (by simp), by simp; omega⟩
      go_wp2_with (at_builtin; refine wp_append_row rfl (.tmp 12) (.tmp 14) 46 rfl w.heap.size 50 Tryd.underlying46 _ 4 40 info_rpart3 rfl (by decide) (by decide) _ u3 j _ rfl (own_moved HO.out (HW.out _ _).2.1) (cells4 a n u s) (wr.heap.size + 1) (HW.out _ _).2.2.1 rfl (by simp [Value.oneCell']) rfl (by omega) (HW.out _ _).2.2.2 ?_; intro v' w1 hown1 hB1; rw [show (cells4 a n u s).toList = PartR.row ⟨a, n, u, s⟩ from rfl, ← HM2.out] at hown1; have HO1 := Lib.hid hown1; clear hown1; have hB2 := (HW.out _ _).1.trans hB1)
      go_roundw
      case rel => exact ⟨j + 1, by omega, by go_num, hB2, HO1⟩
      case measure => simp [intOf]; omega
    · obtain rfl : j = l.length := by omega
      have HT : Hid (wr.ownsRow w.heap.size 50 4 u3 l.length (l.flatMap PartR.row)) := Lib.hid (by
        have h := HO.out
        rwa [List.take_length] at h)
      obtain ⟨a, cc, e1, e2, e3, e4⟩ := own_rowsN HT.out PartR.len
      have HE1 := Lib.hid e1
      have HE2 := Lib.hid e2
      clear e1 e2 HO HT
      go_wp2
      go_ret
      exact ⟨a, cc, by rw [HE1.out]; rfl, HE2.out, e3, e4, hB⟩

end Go.Proofs.YtlbdemcpjpfbfaaDoor
