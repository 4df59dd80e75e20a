/-
  The document's After and Less by contract.
-/
import Derived.Test.YtlbdemcpjpfbfaaDoorKeyRefMk
import Derived.Test.YtlbdemcpjpfbfaaDoorKeyAfter
import Derived.Test.YtlbdemcpjpfbfaaDoorKeyPlain
namespace Go.Proofs.YtlbdemcpjpfbfaaDoor
open Go.RowKit
set_option linter.unusedVariables false
set_option linter.unusedSimpArgs false

set_option maxRecDepth 100000 in
set_option maxHeartbeats 2000000 in
theorem ref_after (s : ByteArray) (w : World) (hs : s.size ≤ 1000) :
    Calls Tryd.prog 24 #[.string s] w fun e w' => e = .returned (.tuple #[.string (str ((afterL s.data.toList).getD [])), .bool (afterL s.data.toList).isSome]) ∧ Below w.heap.size w w' := by
  obtain ⟨t, ht⟩ : ∃ t, t = afterL s.data.toList := ⟨_, rfl⟩
  rw [← ht]
  have HT := Lib.hid ht
  clear ht
  go_enter Tryd.func24, Tryd.ntmps24
  go_wp2
  go_loopw [0] (fun v0 wr => ∃ u : ByteArray, v0 = .string u ∧ u.size ≤ 1000 ∧ Hid (afterL u.data.toList = t) ∧ Below w.heap.size w wr) (fun v _ => match v with | .string u => u.size | _ => 0)
  case atStart => exact ⟨s, rfl, hs, Lib.hid HT.out.symm, by (repeat (first | exact Below.refl _ _ | assumption | apply below_drewN | (refine Below.alloc ?_ (by simp; try omega) _)))⟩
  case round =>
    obtain ⟨u, rfl, hu, HA, hB⟩ := hrel
    have hul : u.data.toList.length = u.size := by simp
    by_cases hpos : 0 < u.size
    · obtain ⟨n, hn⟩ : ∃ n, u.size = n + 1 := ⟨u.size - 1, by omega⟩
      have hlt : n < u.size := by omega
      obtain ⟨c, hc⟩ : ∃ c, c = u.data.toList.getD n 0 := ⟨_, rfl⟩
      have hb : u[n] = c := by rw [hc]; exact byte_getD u n hlt
      have HTk : Hid (u.data.toList = u.data.toList.take n ++ [c]) := Lib.hid (by
        have h := take_last u.data.toList n (by rw [hul]; exact hlt)
        rw [List.take_of_length_le (by omega), ← hc] at h
        exact h)
      have hex := extract_take u n
      obtain ⟨U, hU⟩ : ∃ U, U = str (u.data.toList.take n) := ⟨_, rfl⟩
      rw [← hU] at hex
      have hUs : U.size = n := by rw [hU, str_size, List.length_take]; omega
      have HU := Lib.hid hU
      clear hc hul hU
      by_cases h255 : c = 255
      · have HA2 : Hid (afterL U.data.toList = t) := Lib.hid (by
          have e : afterL u.data.toList = afterL (u.data.toList.take n ++ [c]) := congrArg _ HTk.out
          rw [HU.out, str_data, ← HA.out, e, h255, afterL_full])
        have hb2 : ((u[n].toNat : Nat) : Int) = 255 := by rw [hb, h255]; rfl
        clear hb h255 HTk HA
        go_wp2
        go_roundw
        case rel => exact ⟨U, rfl, by omega, HA2, hB⟩
        case measure => simp; omega
      · have HF : Hid (t = some (u.data.toList.take n ++ [c + 1])) := Lib.hid (by
          have e : afterL u.data.toList = afterL (u.data.toList.take n ++ [c]) := congrArg _ HTk.out
          rw [← HA.out, e, afterL_some _ _ h255])
        obtain ⟨x, hx⟩ : ∃ x : Int, ((u[n].toNat : Nat) : Int) = x := ⟨_, rfl⟩
        have hcx : x = ((c.toNat : Nat) : Int) := by rw [← hx, hb]
        have hx0 : 0 ≤ x ∧ x ≤ 255 := by rw [hcx]; have := c.toNat_lt; omega
        have hxn : ¬ x = 255 := by
          intro h
          have h2 : c.toNat = 255 := by omega
          exact h255 (UInt8.toNat_inj.mp h2)
        obtain ⟨hx0, hx1⟩ := hx0
        have hx2 : x < 255 := by omega
        have hcv := conv_byte wr wr.heap.size (by rfl) (x + 1) (c + 1) (by
          rw [hcx, UInt8.toNat_add]; show _ = (((c.toNat + 1) % 256 : Nat) : Int); omega)
        have hz1 : (str [c + 1]).size = 1 := rfl
        clear hb h255 HTk HA hcx hxn
        go_wp2
        go_ret2
        exact ⟨by rw [HF.out]; simp only [Option.getD_some, Option.isSome_some]; rw [← str_append, ← HU.out]; rfl, hB.alloc hB.size _⟩
    · have hnil : u.data.toList = [] := List.length_eq_zero_iff.mp (by omega)
      have HF : Hid (t = none) := Lib.hid (by rw [← HA.out, hnil]; rfl)
      clear hnil hul
      go_wp2
      go_ret2
      exact ⟨by rw [HF.out]; rfl, hB⟩

theorem cmpI_self (a : Int) : cmpI a a = 0 := by unfold cmpI; simp
theorem cmpI_ne {a b : Int} (h : ¬ a = b) : ¬ cmpI a b = 0 := by
  have h2 := cmpI_eq a b
  intro h3
  rw [h3] at h2; simp [h] at h2
theorem cmpI_ne' {a b : Int} (h : ¬ a = b) : ¬ cmpI b a = 0 := cmpI_ne fun e => h e.symm
theorem cmpS_self (a : ByteArray) : cmpS a a = 0 := by
  have h := cmpS_eq a a
  simp at h; exact h
theorem cmpS_ne {a b : ByteArray} (h : ¬ a = b) : ¬ cmpS a b = 0 := by
  have h2 := cmpS_eq a b
  intro h3
  rw [h3] at h2
  simp at h2
  apply h
  apply ByteArray.ext
  exact Array.toList_inj.1 (by simpa using h2)

set_option maxRecDepth 100000 in
set_option maxHeartbeats 8000000 in
theorem ref_less (l m : List PartR) (A A' : Option Addr) (c c' : Nat) (w : World) (hr : RowsAt w A 4 PartR.row l) (hr' : RowsAt w A' 4 PartR.row m) (hl : l.length ≤ 1000000) (hm : m.length ≤ 1000000) :
    Calls Tryd.prog 25 #[.slice A l.length c, .slice A' m.length c'] w fun e w' => e = .returned (.bool (decide (cmpL l m < 0))) ∧ Below w.heap.size w w' := by
  have HR := Lib.hid hr
  have HR' := Lib.hid hr'
  have hz := zero_rpart
  obtain ⟨t, ht⟩ : ∃ t, t = decide (cmpL l m < 0) := ⟨_, rfl⟩
  rw [← ht]
  have HT := Lib.hid ht
  clear hr hr' ht
  go_enter Tryd.func25, Tryd.ntmps25
  go_wp2
  go_loopw [5] (fun v5 wr => ∃ j : Nat, j ≤ l.length ∧ j ≤ m.length ∧ v5 = .int .i64 j ∧ Below w.heap.size w wr ∧ Hid (t = decide (cmpL (l.drop j) (m.drop j) < 0))) (fun v _ => l.length - (intOf v).toNat)
  case atStart => exact ⟨0, Nat.zero_le _, Nat.zero_le _, rfl, Below.refl _ _, Lib.hid HT.out⟩
  case round =>
    obtain ⟨j, hj, hj', rfl, hB, HM⟩ := hrel
    by_cases hlt : j < l.length
    · by_cases hlt' : j < m.length
      · obtain ⟨b, o, rfl, k0, k1, k2, k3⟩ := row4_at (HR.out.moved hB) j hlt
        obtain ⟨b', o', rfl, i0, i1, i2, i3⟩ := row4_at (HR'.out.moved hB) j hlt'
        have HM2 : Hid (t = decide ((if cmpP l[j] m[j] = 0 then cmpL (l.drop (j + 1)) (m.drop (j + 1)) else cmpP l[j] m[j]) < 0)) := Lib.hid (by rw [HM.out, cmpL_take l m j hlt hlt'])
        obtain ⟨p, hp⟩ : ∃ p, p = l[j] := ⟨_, rfl⟩
        obtain ⟨q, hq⟩ : ∃ q, q = m[j] := ⟨_, rfl⟩
        rw [← hp] at k0 k1 k2 k3 HM2
        rw [← hq] at i0 i1 i2 i3 HM2
        obtain ⟨a, n, u, s⟩ := p
        obtain ⟨a', n', u', s'⟩ := q
        simp only at k0 k1 k2 k3 i0 i1 i2 i3
        have n1 : b < wr.heap.size := cell_lt k0
        have n2 : b' < wr.heap.size := cell_lt i0
        have n3 := Nat.ne_of_lt n1
        have n4 := Nat.ne_of_lt n2
        have hsz := hB.size
        have HGO : Hid (cmpP ⟨a, n, u, s⟩ ⟨a', n', u', s'⟩ = 0 → t = decide (cmpL (l.drop (j + 1)) (m.drop (j + 1)) < 0)) := Lib.hid fun h => by rw [HM2.out, if_pos h]
        have HNO : Hid (¬ cmpP ⟨a, n, u, s⟩ ⟨a', n', u', s'⟩ = 0 → t = decide (cmpP ⟨a, n, u, s⟩ ⟨a', n', u', s'⟩ < 0)) := Lib.hid fun h => by rw [HM2.out, if_neg h]
        have hW2 : Hid (∀ x y, Below w.heap.size w ((wr.alloc x).alloc y)) := Lib.hid fun x y => (hB.alloc hB.size _).alloc (by simp; omega) _
        have e1 : (j : Int) < (l.length : Int) := by omega
        have e2 : (j : Int) < (m.length : Int) := by omega
        have e3 : (0 : Int) ≤ (j : Int) := by omega
        clear hp hq HM HM2
        by_cases ha : a = a'
        · subst ha
          have hcmp : ∀ x, (x = if a = 105 then cmpI n n' else if a = 100 then cmpI n' n else if a = 117 then cmpI u u' else if a = 116 then cmpS s s' else 0) → cmpP ⟨a, n, u, s⟩ ⟨a, n', u', s'⟩ = x := fun x hx => by rw [hx]; unfold cmpP; simp
          by_cases c0 : a = 105
          · have hc := hcmp (cmpI n n') (by rw [if_pos c0])
            obtain ⟨p0, q0⟩ := eq_bb c0
            obtain ⟨p1, q1⟩ := ne_bb (show ¬ a = 100 by omega)
            obtain ⟨p2, q2⟩ := ne_bb (show ¬ a = 117 by omega)
            obtain ⟨p3, q3⟩ := ne_bb (show ¬ a = 116 by omega)
            by_cases hx : n = n'
            · have HF := Lib.hid (HGO.out (by rw [hc, hx]; exact cmpI_self _))
              obtain ⟨x0, x1⟩ := eq_bb hx
              clear hc hcmp HGO HNO c0 hx
              go_wp2
              go_region
              all_goals go_wp2
              all_goals go_roundw
              all_goals first | exact ⟨j + 1, by omega, by omega, by go_num, (by first | exact hW2.out _ _ | exact (hW2.out _ _).drew | (repeat (first | exact Below.refl _ _ | assumption | apply below_drewN | (refine Below.alloc ?_ (by simp; try omega) _)))), HF⟩ | (simp [intOf]; omega)
            · have HF : Hid (t = decide (n < n')) := Lib.hid (by rw [HNO.out (by rw [hc]; exact cmpI_ne hx), hc, cmpI_lt])
              obtain ⟨x0, x1⟩ := ne_bb hx
              clear hc hcmp HGO HNO c0 hx
              go_wp2
              go_region
              all_goals go_wp2
              all_goals go_ret
              all_goals exact ⟨by rw [HF.out]; rfl, (by first | exact hW2.out _ _ | exact (hW2.out _ _).drew | (repeat (first | exact Below.refl _ _ | assumption | apply below_drewN | (refine Below.alloc ?_ (by simp; try omega) _))))⟩
          by_cases c1 : a = 100
          · have hc := hcmp (cmpI n' n) (by rw [if_neg c0, if_pos c1])
            obtain ⟨p0, q0⟩ := ne_bb c0
            obtain ⟨p1, q1⟩ := eq_bb c1
            obtain ⟨p2, q2⟩ := ne_bb (show ¬ a = 117 by omega)
            obtain ⟨p3, q3⟩ := ne_bb (show ¬ a = 116 by omega)
            by_cases hx : n = n'
            · have HF := Lib.hid (HGO.out (by rw [hc, hx]; exact cmpI_self _))
              obtain ⟨x0, x1⟩ := eq_bb hx
              clear hc hcmp HGO HNO c0 c1 hx
              go_wp2
              go_region
              all_goals go_wp2
              all_goals go_roundw
              all_goals first | exact ⟨j + 1, by omega, by omega, by go_num, (by first | exact hW2.out _ _ | exact (hW2.out _ _).drew | (repeat (first | exact Below.refl _ _ | assumption | apply below_drewN | (refine Below.alloc ?_ (by simp; try omega) _)))), HF⟩ | (simp [intOf]; omega)
            · have HF : Hid (t = decide (n' < n)) := Lib.hid (by rw [HNO.out (by rw [hc]; exact cmpI_ne' hx), hc, cmpI_lt])
              obtain ⟨x0, x1⟩ := ne_bb hx
              clear hc hcmp HGO HNO c0 c1 hx
              go_wp2
              go_region
              all_goals go_wp2
              all_goals go_ret
              all_goals exact ⟨by rw [HF.out]; rfl, (by first | exact hW2.out _ _ | exact (hW2.out _ _).drew | (repeat (first | exact Below.refl _ _ | assumption | apply below_drewN | (refine Below.alloc ?_ (by simp; try omega) _))))⟩
          by_cases c2 : a = 117
          · have hc := hcmp (cmpI u u') (by rw [if_neg c0, if_neg c1, if_pos c2])
            obtain ⟨p0, q0⟩ := ne_bb c0
            obtain ⟨p1, q1⟩ := ne_bb c1
            obtain ⟨p2, q2⟩ := eq_bb c2
            obtain ⟨p3, q3⟩ := ne_bb (show ¬ a = 116 by omega)
            by_cases hx : u = u'
            · have HF := Lib.hid (HGO.out (by rw [hc, hx]; exact cmpI_self _))
              obtain ⟨x0, x1⟩ := eq_bb hx
              clear hc hcmp HGO HNO c0 c1 c2 hx
              go_wp2
              go_region
              all_goals go_wp2
              all_goals go_roundw
              all_goals first | exact ⟨j + 1, by omega, by omega, by go_num, (by first | exact hW2.out _ _ | exact (hW2.out _ _).drew | (repeat (first | exact Below.refl _ _ | assumption | apply below_drewN | (refine Below.alloc ?_ (by simp; try omega) _)))), HF⟩ | (simp [intOf]; omega)
            · have HF : Hid (t = decide (u < u')) := Lib.hid (by rw [HNO.out (by rw [hc]; exact cmpI_ne hx), hc, cmpI_lt])
              obtain ⟨x0, x1⟩ := ne_bb hx
              clear hc hcmp HGO HNO c0 c1 c2 hx
              go_wp2
              go_region
              all_goals go_wp2
              all_goals go_ret
              all_goals exact ⟨by rw [HF.out]; rfl, (by first | exact hW2.out _ _ | exact (hW2.out _ _).drew | (repeat (first | exact Below.refl _ _ | assumption | apply below_drewN | (refine Below.alloc ?_ (by simp; try omega) _))))⟩
          by_cases c3 : a = 116
          · have hc := hcmp (cmpS s s') (by rw [if_neg c0, if_neg c1, if_neg c2, if_pos c3])
            obtain ⟨p0, q0⟩ := ne_bb c0
            obtain ⟨p1, q1⟩ := ne_bb c1
            obtain ⟨p2, q2⟩ := ne_bb c2
            obtain ⟨p3, q3⟩ := eq_bb c3
            by_cases hx : s = s'
            · have HF := Lib.hid (HGO.out (by rw [hc, hx]; exact cmpS_self _))
              obtain ⟨x0, x1⟩ := seq_bb hx
              clear hc hcmp HGO HNO c0 c1 c2 c3 hx
              go_wp2
              go_region
              all_goals go_wp2
              all_goals go_roundw
              all_goals first | exact ⟨j + 1, by omega, by omega, by go_num, (by first | exact hW2.out _ _ | exact (hW2.out _ _).drew | (repeat (first | exact Below.refl _ _ | assumption | apply below_drewN | (refine Below.alloc ?_ (by simp; try omega) _)))), HF⟩ | (simp [intOf]; omega)
            · have HF : Hid (t = Op.bytesLess s.toList s'.toList) := Lib.hid (by rw [HNO.out (by rw [hc]; exact cmpS_ne hx), hc, cmpS_lt, ByteArray.toList_eq, ByteArray.toList_eq])
              obtain ⟨x0, x1⟩ := sne_bb hx
              clear hc hcmp HGO HNO c0 c1 c2 c3 hx
              go_wp2
              go_region
              all_goals go_wp2
              all_goals go_ret
              all_goals exact ⟨by rw [HF.out]; rfl, (by first | exact hW2.out _ _ | exact (hW2.out _ _).drew | (repeat (first | exact Below.refl _ _ | assumption | apply below_drewN | (refine Below.alloc ?_ (by simp; try omega) _))))⟩
          have hc := hcmp 0 (by rw [if_neg c0, if_neg c1, if_neg c2, if_neg c3])
          have HF := Lib.hid (HGO.out hc)
          obtain ⟨p0, q0⟩ := ne_bb c0
          obtain ⟨p1, q1⟩ := ne_bb c1
          obtain ⟨p2, q2⟩ := ne_bb c2
          obtain ⟨p3, q3⟩ := ne_bb c3
          clear hc hcmp HGO HNO c0 c1 c2 c3
          go_wp2
          go_region
          all_goals go_wp2
          all_goals go_roundw
          all_goals first | exact ⟨j + 1, by omega, by omega, by go_num, (by first | exact hW2.out _ _ | exact (hW2.out _ _).drew | (repeat (first | exact Below.refl _ _ | assumption | apply below_drewN | (refine Below.alloc ?_ (by simp; try omega) _)))), HF⟩ | (simp [intOf]; omega)
        · have hc : cmpP ⟨a, n, u, s⟩ ⟨a', n', u', s'⟩ = cmpI a a' := by unfold cmpP; simp only; rw [if_pos ha]
          have HF : Hid (t = decide (a < a')) := Lib.hid (by rw [HNO.out (by rw [hc]; exact cmpI_ne ha), hc, cmpI_lt])
          obtain ⟨x0, x1⟩ := ne_bb ha
          clear hc HGO HNO ha
          go_wp2
          go_region
          all_goals go_wp2
          all_goals go_ret
          all_goals exact ⟨by rw [HF.out]; rfl, (by first | exact hW2.out _ _ | exact (hW2.out _ _).drew | (repeat (first | exact Below.refl _ _ | assumption | apply below_drewN | (refine Below.alloc ?_ (by simp; try omega) _))))⟩
      · have HF : Hid (t = decide (l.length < m.length)) := Lib.hid (by
          rw [HM.out, List.drop_of_length_le (by omega : m.length ≤ j), List.drop_eq_getElem_cons hlt]
          have : ¬ l.length < m.length := by omega
          simp [cmpL, this])
        clear HM
        have e1 : ¬ l.length < m.length := by omega
        go_wp2
        go_ret
        exact ⟨by rw [HF.out]; simp [e1], hB⟩
    · have HF : Hid (t = decide (l.length < m.length)) := Lib.hid (by
        rw [HM.out, List.drop_of_length_le (by omega : l.length ≤ j)]
        by_cases h : j < m.length
        · have h2 : l.length < m.length := by omega
          rw [List.drop_eq_getElem_cons h]; simp [cmpL, h2]
        · have h2 : ¬ l.length < m.length := by omega
          rw [List.drop_of_length_le (by omega : m.length ≤ j)]; simp [cmpL, h2])
      clear HM
      go_wp2
      go_ret
      exact ⟨by rw [HF.out]; simp, hB⟩

end Go.Proofs.YtlbdemcpjpfbfaaDoor
