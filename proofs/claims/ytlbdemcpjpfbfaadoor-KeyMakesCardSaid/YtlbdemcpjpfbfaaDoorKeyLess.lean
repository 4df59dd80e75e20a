/-
  key.Less by contract; the chapter's example.
-/
import Derived.Test.YtlbdemcpjpfbfaaDoorKeyOrd
import Derived.Test.YtlbdemcpjpfbfaaDoorKeyAfter
namespace Go.Proofs.YtlbdemcpjpfbfaaDoor
open Go.RowKit
set_option linter.unusedVariables false
set_option linter.unusedSimpArgs false

theorem cmpL_take (l m : List PartR) (j : Nat) (h1 : j < l.length) (h2 : j < m.length) : cmpL (l.drop j) (m.drop j) = if cmpP l[j] m[j] = 0 then cmpL (l.drop (j + 1)) (m.drop (j + 1)) else cmpP l[j] m[j] := by
  rw [List.drop_eq_getElem_cons h1, List.drop_eq_getElem_cons h2]; rfl

set_option maxRecDepth 100000 in
set_option maxHeartbeats 4000000 in
theorem key_compare_func (l m : List PartR) (A A' : Option Addr) (c c' : Nat) (w : World) (hr : RowsAt w A 4 PartR.row l) (hr' : RowsAt w A' 4 PartR.row m) (hl : l.length ≤ 9223372036854775807) (hm : m.length ≤ 9223372036854775807) :
    Calls Tryd.prog 32 #[.slice A l.length c, .slice A' m.length c', .func (.func 33) #[] #[]] w fun e w' => e = .returned (.int .i64 (cmpL l m)) ∧ Below w.heap.size w w' := by
  have HR := Lib.hid hr
  have HR' := Lib.hid hr'
  obtain ⟨t, ht⟩ : ∃ t, t = cmpL l m := ⟨_, rfl⟩
  rw [← ht]
  have HT := Lib.hid ht
  clear hr hr' ht
  go_enter Tryd.func32, Tryd.ntmps32
  go_wp2
  go_loopw [13] (fun v13 wr => ∃ j : Nat, j ≤ l.length ∧ j ≤ m.length ∧ v13 = .int .i64 j ∧ Below w.heap.size w wr ∧ Hid (cmpL (l.drop j) (m.drop j) = t)) (fun v _ => l.length - (intOf v).toNat)
  case atStart => exact ⟨0, Nat.zero_le _, Nat.zero_le _, rfl, Below.refl _ _, Lib.hid HT.out.symm⟩
  case round =>
    obtain ⟨j, hj, hj', rfl, hB, HM⟩ := hrel
    by_cases hlt : j < l.length
    · obtain ⟨b, o, rfl, k0, k1, k2, k3⟩ := row4_at (HR.out.moved hB) j hlt
      by_cases hlt' : j < m.length
      · obtain ⟨b', o', rfl, i0, i1, i2, i3⟩ := row4_at (HR'.out.moved hB) j hlt'
        have HM2 : Hid (t = if cmpP l[j] m[j] = 0 then cmpL (l.drop (j + 1)) (m.drop (j + 1)) else cmpP l[j] m[j]) := Lib.hid (by rw [← HM.out]; exact cmpL_take l m j hlt hlt')
        obtain ⟨p, hp⟩ : ∃ p, p = l[j] := ⟨_, rfl⟩
        obtain ⟨q, hq⟩ : ∃ q, q = m[j] := ⟨_, rfl⟩
        rw [← hp] at k0 k1 k2 k3 HM2
        rw [← hq] at i0 i1 i2 i3 HM2
        obtain ⟨a, n, u, s⟩ := p
        obtain ⟨a', n', u', s'⟩ := q
        simp only at k0 k1 k2 k3 i0 i1 i2 i3
        obtain ⟨r, hrr⟩ : ∃ r, r = cmpP ⟨a, n, u, s⟩ ⟨a', n', u', s'⟩ := ⟨_, rfl⟩
        have CF : Hid (∀ wx, Calls Tryd.prog 33 #[.agg (cells4 a n u s), .agg (cells4 a' n' u' s')] wx fun e w' => e = .returned (.int .i64 r) ∧ Below wx.heap.size wx w') := Lib.hid fun wx => by rw [hrr]; exact key_compare a n u s a' n' u' s' wx
        rw [← hrr] at HM2
        have n1 : b < wr.heap.size := cell_lt k0
        have n2 : b' < wr.heap.size := cell_lt i0
        have n3 := Nat.ne_of_lt n1
        have n4 := Nat.ne_of_lt n2
        have hsz := hB.size
        clear hp hq hrr HM
        by_cases h0 : r = 0
        · have HG : Hid (cmpL (l.drop (j + 1)) (m.drop (j + 1)) = t) := Lib.hid (by rw [HM2.out, if_pos h0])
          obtain ⟨z1, z2⟩ := eq_bb h0
          clear h0 HM2
          go_wp2_with (go_at_call 33; (with_reducible refine (CF.out _).mono ?_); rintro e w1 ⟨rfl, hB1⟩)
          go_roundw
          case rel => exact ⟨j + 1, by omega, by omega, by go_num, below_at (by refine (hB.alloc hB.size _).alloc ?_ _; simp; omega) hB1, HG⟩
          case measure => simp [intOf]; omega
        · have HG : Hid (t = r) := Lib.hid (by rw [HM2.out, if_neg h0])
          obtain ⟨z1, z2⟩ := ne_bb h0
          clear h0 HM2
          go_wp2_with (go_at_call 33; (with_reducible refine (CF.out _).mono ?_); rintro e w1 ⟨rfl, hB1⟩)
          go_ret
          exact ⟨by rw [HG.out]; rfl, below_at (by refine (hB.alloc hB.size _).alloc ?_ _; simp; omega) hB1⟩
      · have HG : Hid (t = 1) := Lib.hid (by
          rw [← HM.out, List.drop_of_length_le (by omega : m.length ≤ j), List.drop_eq_getElem_cons hlt]; rfl)
        clear HM
        go_wp2
        go_ret
        exact ⟨by rw [HG.out]; rfl, hB.alloc hB.size _⟩
    · by_cases hlt' : j < m.length
      · have HG : Hid (t = -1) := Lib.hid (by
          rw [← HM.out, List.drop_of_length_le (by omega : l.length ≤ j), List.drop_eq_getElem_cons hlt']; rfl)
        clear HM
        have e1 : l.length < m.length := by omega
        go_wp2
        go_ret
        exact ⟨by rw [HG.out]; rfl, hB⟩
      · have HG : Hid (t = 0) := Lib.hid (by
          rw [← HM.out, List.drop_of_length_le (by omega : l.length ≤ j), List.drop_of_length_le (by omega : m.length ≤ j)]; rfl)
        clear HM
        have e1 : ¬ l.length < m.length := by omega
        go_wp2
        go_ret
        exact ⟨by rw [HG.out]; rfl, hB⟩

set_option maxHeartbeats 1000000 in
theorem key_less (l m : List PartR) (A A' : Option Addr) (c c' : Nat) (w : World) (hr : RowsAt w A 4 PartR.row l) (hr' : RowsAt w A' 4 PartR.row m) (hl : l.length ≤ 9223372036854775807) (hm : m.length ≤ 9223372036854775807) :
    Calls Tryd.prog 20 #[.slice A l.length c, .slice A' m.length c'] w fun e w' => e = .returned (.bool (decide (cmpL l m < 0))) ∧ Below w.heap.size w w' := by
  obtain ⟨t, ht⟩ : ∃ t, t = cmpL l m := ⟨_, rfl⟩
  have CF : Hid (∀ wx, Below w.heap.size w wx → Calls Tryd.prog 32 #[.slice A l.length c, .slice A' m.length c', .func (.func 33) #[] #[]] wx fun e w' => e = .returned (.int .i64 t) ∧ Below w.heap.size w w') := Lib.hid fun wx h => by
    rw [ht]; exact (key_compare_func l m A A' c c' wx (hr.moved h) (hr'.moved h) hl hm).mono fun _ _ ⟨h1, h2⟩ => ⟨h1, below_at h h2⟩
  rw [← ht]
  have W0 : Below w.heap.size w w := Below.refl _ _
  clear hr hr' ht
  go_enter Tryd.func20, Tryd.ntmps20
  go_wp2_with (go_at_call 32; (with_reducible refine (CF.out _ W0).mono ?_); rintro e w1 ⟨rfl, hB1⟩)
  go_ret
  exact ⟨rfl, hB1⟩

end Go.Proofs.YtlbdemcpjpfbfaaDoor
