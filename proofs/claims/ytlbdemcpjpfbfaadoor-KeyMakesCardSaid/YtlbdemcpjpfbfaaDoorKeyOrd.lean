/-
  key's makers of parts, its order, and key.Less by contract.
-/
import Derived.Test.YtlbdemcpjpfbfaaDoorKeyMake
namespace Go.Proofs.YtlbdemcpjpfbfaaDoor
open Go.RowKit
set_option linter.unusedVariables false
set_option linter.unusedSimpArgs false

theorem info_part : (Tryd.prog.info? 25).map (·.size) = some 4 := by kernel_rfl
theorem info_cells4 (a n u : Int) (s : ByteArray) : (Tryd.prog.info? 25).map (·.size) = some (cells4 a n u s).size := info_part

set_option maxHeartbeats 1000000 in
theorem key_up (n : Int) (w : World) :
    Calls Tryd.prog 10 #[.int .i64 n] w fun e w' => e = .returned (.agg (cells4 105 n 0 ByteArray.empty)) ∧ Below w.heap.size w w' := by
  have hz := zero_part
  go_enter Tryd.func10, Tryd.ntmps10
  go_wp2
  refine bodyPost_ret (results_cell_row Tryd.results10 _ _ w.heap.size 25 (cells4 105 n 0 ByteArray.empty) (0, 0) _ rfl (heap_alloc_new _ _) Tryd.underlying25 rfl (info_cells4 _ _ _ _)) rfl ?_
  exact ⟨rfl, by (repeat (first | exact Below.refl _ _ | assumption | apply below_drewN | (refine Below.alloc ?_ (by simp; try omega) _)))⟩

set_option maxHeartbeats 1000000 in
theorem key_down (n : Int) (w : World) :
    Calls Tryd.prog 11 #[.int .i64 n] w fun e w' => e = .returned (.agg (cells4 100 n 0 ByteArray.empty)) ∧ Below w.heap.size w w' := by
  have hz := zero_part
  go_enter Tryd.func11, Tryd.ntmps11
  go_wp2
  refine bodyPost_ret (results_cell_row Tryd.results11 _ _ w.heap.size 25 (cells4 100 n 0 ByteArray.empty) (0, 0) _ rfl (heap_alloc_new _ _) Tryd.underlying25 rfl (info_cells4 _ _ _ _)) rfl ?_
  exact ⟨rfl, by (repeat (first | exact Below.refl _ _ | assumption | apply below_drewN | (refine Below.alloc ?_ (by simp; try omega) _)))⟩

set_option maxHeartbeats 1000000 in
theorem key_count (n : Int) (w : World) :
    Calls Tryd.prog 12 #[.int .u64 n] w fun e w' => e = .returned (.agg (cells4 117 0 n ByteArray.empty)) ∧ Below w.heap.size w w' := by
  have hz := zero_part
  go_enter Tryd.func12, Tryd.ntmps12
  go_wp2
  refine bodyPost_ret (results_cell_row Tryd.results12 _ _ w.heap.size 25 (cells4 117 0 n ByteArray.empty) (0, 0) _ rfl (heap_alloc_new _ _) Tryd.underlying25 rfl (info_cells4 _ _ _ _)) rfl ?_
  exact ⟨rfl, by (repeat (first | exact Below.refl _ _ | assumption | apply below_drewN | (refine Below.alloc ?_ (by simp; try omega) _)))⟩

set_option maxHeartbeats 1000000 in
theorem key_text (s : ByteArray) (w : World) :
    Calls Tryd.prog 13 #[.string s] w fun e w' => e = .returned (.agg (cells4 116 0 0 s)) ∧ Below w.heap.size w w' := by
  have hz := zero_part
  go_enter Tryd.func13, Tryd.ntmps13
  go_wp2
  refine bodyPost_ret (results_cell_row Tryd.results13 _ _ w.heap.size 25 (cells4 116 0 0 s) (0, 0) _ rfl (heap_alloc_new _ _) Tryd.underlying25 rfl (info_cells4 _ _ _ _)) rfl ?_
  exact ⟨rfl, by (repeat (first | exact Below.refl _ _ | assumption | apply below_drewN | (refine Below.alloc ?_ (by simp; try omega) _)))⟩

set_option maxHeartbeats 1000000 in
theorem cmp_u8 (a b : Int) (w : World) : Calls Tryd.prog 43 #[.int .u8 a, .int .u8 b] w fun e w' => e = .returned (.int .i64 (if a < b then -1 else if b < a then 1 else 0)) ∧ Drew w w' := by
  have ha : (a != a) = false := (eq_bb rfl).2
  have hb : (b != b) = false := (eq_bb rfl).2
  by_cases h1 : a < b
  · rw [if_pos h1]
    go_enter Tryd.func43, Tryd.ntmps43
    go_wp2
    go_ret
    exact ⟨rfl, by repeat (first | exact Drew.refl _ | apply Drew.step)⟩
  · rw [if_neg h1]
    by_cases h2 : b < a
    · rw [if_pos h2]
      go_enter Tryd.func43, Tryd.ntmps43
      go_wp2
      go_ret
      exact ⟨rfl, by repeat (first | exact Drew.refl _ | apply Drew.step)⟩
    · rw [if_neg h2]
      go_enter Tryd.func43, Tryd.ntmps43
      go_wp2
      go_ret
      exact ⟨rfl, by repeat (first | exact Drew.refl _ | apply Drew.step)⟩

set_option maxHeartbeats 1000000 in
theorem cmp_i64 (a b : Int) (w : World) : Calls Tryd.prog 44 #[.int .i64 a, .int .i64 b] w fun e w' => e = .returned (.int .i64 (if a < b then -1 else if b < a then 1 else 0)) ∧ Drew w w' := by
  have ha : (a != a) = false := (eq_bb rfl).2
  have hb : (b != b) = false := (eq_bb rfl).2
  by_cases h1 : a < b
  · rw [if_pos h1]
    go_enter Tryd.func44, Tryd.ntmps44
    go_wp2
    go_ret
    exact ⟨rfl, by repeat (first | exact Drew.refl _ | apply Drew.step)⟩
  · rw [if_neg h1]
    by_cases h2 : b < a
    · rw [if_pos h2]
      go_enter Tryd.func44, Tryd.ntmps44
      go_wp2
      go_ret
      exact ⟨rfl, by repeat (first | exact Drew.refl _ | apply Drew.step)⟩
    · rw [if_neg h2]
      go_enter Tryd.func44, Tryd.ntmps44
      go_wp2
      go_ret
      exact ⟨rfl, by repeat (first | exact Drew.refl _ | apply Drew.step)⟩

set_option maxHeartbeats 1000000 in
theorem cmp_u64 (a b : Int) (w : World) : Calls Tryd.prog 45 #[.int .u64 a, .int .u64 b] w fun e w' => e = .returned (.int .i64 (if a < b then -1 else if b < a then 1 else 0)) ∧ Drew w w' := by
  have ha : (a != a) = false := (eq_bb rfl).2
  have hb : (b != b) = false := (eq_bb rfl).2
  by_cases h1 : a < b
  · rw [if_pos h1]
    go_enter Tryd.func45, Tryd.ntmps45
    go_wp2
    go_ret
    exact ⟨rfl, by repeat (first | exact Drew.refl _ | apply Drew.step)⟩
  · rw [if_neg h1]
    by_cases h2 : b < a
    · rw [if_pos h2]
      go_enter Tryd.func45, Tryd.ntmps45
      go_wp2
      go_ret
      exact ⟨rfl, by repeat (first | exact Drew.refl _ | apply Drew.step)⟩
    · rw [if_neg h2]
      go_enter Tryd.func45, Tryd.ntmps45
      go_wp2
      go_ret
      exact ⟨rfl, by repeat (first | exact Drew.refl _ | apply Drew.step)⟩

def cmpS (a b : ByteArray) : Int := if Op.bytesLess a.toList b.toList = true then -1 else if a = b then 0 else 1

set_option maxHeartbeats 1000000 in
theorem cmp_str (a b : ByteArray) (w : World) : Calls Tryd.prog 46 #[.string a, .string b] w fun e w' => e = .returned (.int .i64 (cmpS a b)) ∧ Drew w w' := by
  obtain ⟨ha1, ha2⟩ := seq_bb (rfl : a = a)
  obtain ⟨hb1, hb2⟩ := seq_bb (rfl : b = b)
  cases hl : Op.bytesLess a.toList b.toList
  · by_cases h : a = b
    · have HE : Hid (cmpS a b = 0) := Lib.hid (by unfold cmpS; rw [hl, if_neg (by simp), if_pos h])
      obtain ⟨p1, p2⟩ := seq_bb h
      clear h
      go_enter Tryd.func46, Tryd.ntmps46
      go_wp2
      go_ret
      exact ⟨by rw [HE.out]; rfl, by repeat (first | exact Drew.refl _ | apply Drew.step)⟩
    · have HE : Hid (cmpS a b = 1) := Lib.hid (by unfold cmpS; rw [hl, if_neg (by simp), if_neg h])
      obtain ⟨p1, p2⟩ := sne_bb h
      clear h
      go_enter Tryd.func46, Tryd.ntmps46
      go_wp2
      go_ret
      exact ⟨by rw [HE.out]; rfl, by repeat (first | exact Drew.refl _ | apply Drew.step)⟩
  · have HE : Hid (cmpS a b = -1) := Lib.hid (by unfold cmpS; rw [hl, if_pos rfl])
    go_enter Tryd.func46, Tryd.ntmps46
    go_wp2
    go_ret
    exact ⟨by rw [HE.out]; rfl, by repeat (first | exact Drew.refl _ | apply Drew.step)⟩

def cmpI (a b : Int) : Int := if a < b then -1 else if b < a then 1 else 0
/-- which of two parts stands ahead -/
def cmpP (a b : PartR) : Int :=
  if ¬ a.sort = b.sort then cmpI a.sort b.sort
  else if a.sort = 105 then cmpI a.n b.n
  else if a.sort = 100 then cmpI b.n a.n
  else if a.sort = 117 then cmpI a.u b.u
  else if a.sort = 116 then cmpS a.s b.s
  else 0

set_option maxRecDepth 100000 in
set_option maxHeartbeats 4000000 in
theorem key_compare (a n u : Int) (s : ByteArray) (a' n' u' : Int) (s' : ByteArray) (w : World) :
    Calls Tryd.prog 33 #[.agg (cells4 a n u s), .agg (cells4 a' n' u' s')] w fun e w' => e = .returned (.int .i64 (cmpP ⟨a, n, u, s⟩ ⟨a', n', u', s'⟩)) ∧ Below w.heap.size w w' := by
  obtain ⟨t, ht⟩ : ∃ t, t = cmpP ⟨a, n, u, s⟩ ⟨a', n', u', s'⟩ := ⟨_, rfl⟩
  rw [← ht]
  unfold cmpP at ht
  simp only at ht
  have CB := Lib.hid fun wx => cmp_u8 a a' wx
  have CN := Lib.hid fun wx => cmp_i64 n n' wx
  have CN2 := Lib.hid fun wx => cmp_i64 n' n wx
  have CU := Lib.hid fun wx => cmp_u64 u u' wx
  have CS := Lib.hid fun wx => cmp_str s s' wx
  have D0 : ∀ x y : Int, (if x < y then (-1 : Int) else if y < x then 1 else 0) = cmpI x y := fun _ _ => rfl
  simp only [D0] at CB CN CN2 CU
  clear D0
  by_cases h0 : a = a'
  · rw [if_neg (by simp [h0])] at ht
    obtain ⟨z1, z2⟩ := eq_bb h0
    by_cases h1 : a = 105
    · rw [if_pos h1] at ht
      obtain ⟨p1, q1⟩ := eq_bb h1
      have HT := Lib.hid ht
      clear h0 h1 ht
      go_enter Tryd.func33, Tryd.ntmps33
      go_wp2_with (go_at_call 44; (with_reducible refine (CN.out _).mono ?_); rw [← HT.out]; rintro e w1 ⟨rfl, ⟨d, rfl⟩⟩)
      go_ret
      exact ⟨rfl, by (repeat (first | exact Below.refl _ _ | assumption | apply below_drewN | (refine Below.alloc ?_ (by simp; try omega) _)))⟩
    rw [if_neg h1] at ht
    obtain ⟨p1, q1⟩ := ne_bb h1
    by_cases h2 : a = 100
    · rw [if_pos h2] at ht
      obtain ⟨p2, q2⟩ := eq_bb h2
      have HT := Lib.hid ht
      clear h0 h1 h2 ht
      go_enter Tryd.func33, Tryd.ntmps33
      go_wp2_with (go_at_call 44; (with_reducible refine (CN2.out _).mono ?_); rw [← HT.out]; rintro e w1 ⟨rfl, ⟨d, rfl⟩⟩)
      go_ret
      exact ⟨rfl, by (repeat (first | exact Below.refl _ _ | assumption | apply below_drewN | (refine Below.alloc ?_ (by simp; try omega) _)))⟩
    rw [if_neg h2] at ht
    obtain ⟨p2, q2⟩ := ne_bb h2
    by_cases h3 : a = 117
    · rw [if_pos h3] at ht
      obtain ⟨p3, q3⟩ := eq_bb h3
      have HT := Lib.hid ht
      clear h0 h1 h2 h3 ht
      go_enter Tryd.func33, Tryd.ntmps33
      go_wp2_with (go_at_call 45; (with_reducible refine (CU.out _).mono ?_); rw [← HT.out]; rintro e w1 ⟨rfl, ⟨d, rfl⟩⟩)
      go_ret
      exact ⟨rfl, by (repeat (first | exact Below.refl _ _ | assumption | apply below_drewN | (refine Below.alloc ?_ (by simp; try omega) _)))⟩
    rw [if_neg h3] at ht
    obtain ⟨p3, q3⟩ := ne_bb h3
    by_cases h4 : a = 116
    · rw [if_pos h4] at ht
      obtain ⟨p4, q4⟩ := eq_bb h4
      have HT := Lib.hid ht
      clear h0 h1 h2 h3 h4 ht
      go_enter Tryd.func33, Tryd.ntmps33
      go_wp2_with (go_at_call 46; (with_reducible refine (CS.out _).mono ?_); rw [← HT.out]; rintro e w1 ⟨rfl, ⟨d, rfl⟩⟩)
      go_ret
      exact ⟨rfl, by (repeat (first | exact Below.refl _ _ | assumption | apply below_drewN | (refine Below.alloc ?_ (by simp; try omega) _)))⟩
    rw [if_neg h4] at ht
    obtain ⟨p4, q4⟩ := ne_bb h4
    have HT := Lib.hid ht
    clear h0 h1 h2 h3 h4 ht
    go_enter Tryd.func33, Tryd.ntmps33
    go_wp2
    go_ret
    exact ⟨by rw [HT.out]; rfl, by (repeat (first | exact Below.refl _ _ | assumption | apply below_drewN | (refine Below.alloc ?_ (by simp; try omega) _)))⟩
  · rw [if_pos h0] at ht
    obtain ⟨z1, z2⟩ := ne_bb h0
    have HT := Lib.hid ht
    clear h0 ht
    go_enter Tryd.func33, Tryd.ntmps33
    go_wp2_with (go_at_call 43; (with_reducible refine (CB.out _).mono ?_); rw [← HT.out]; rintro e w1 ⟨rfl, ⟨d, rfl⟩⟩)
    go_ret
    exact ⟨rfl, by (repeat (first | exact Below.refl _ _ | assumption | apply below_drewN | (refine Below.alloc ?_ (by simp; try omega) _)))⟩

/-- which of two rows stands ahead -/
def cmpL : List PartR → List PartR → Int
  | [], [] => 0
  | [], _ :: _ => -1
  | _ :: _, [] => 1
  | a :: l, b :: m => if cmpP a b = 0 then cmpL l m else cmpP a b

end Go.Proofs.YtlbdemcpjpfbfaaDoor
