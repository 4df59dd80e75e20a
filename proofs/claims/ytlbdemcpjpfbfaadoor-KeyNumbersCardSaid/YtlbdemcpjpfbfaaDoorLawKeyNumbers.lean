/-
  The walk of KeyNumbers: rising, falling and counting numbers' and texts' keys stand as they do.
-/
import Derived.Test.YtlbdemcpjpfbfaaDoorKeyAwake
import Derived.Test.YtlbdemcpjpfbfaaDoorKeyEsc
namespace Go.Proofs.YtlbdemcpjpfbfaaDoor
open Go.RowKit
set_option linter.unusedVariables false
set_option linter.unusedSimpArgs false

set_option maxRecDepth 100000 in
set_option maxHeartbeats 2000000 in
theorem key_one (a n u : Int) (s : ByteArray) (L : List UInt8) (w : World) (hB : partB ⟨a, n, u, s⟩ = some L) (hL : L.length ≤ 200)
    (PB : ∀ wx, Below w.heap.size w wx → Calls Tryd.prog 26 #[.agg (cells4 a n u s)] wx fun e w' => e = .returned (.tuple #[.string (str L), .bool true]) ∧ Below wx.heap.size wx w') :
    Calls Tryd.prog 8 #[.agg (cells4 a n u s)] w fun e w' => e = .returned (.string (str L)) ∧ Below w.heap.size w w' := by
  have e1 : partS ⟨a, n, u, s⟩ = str L := by unfold partS; rw [hB]; rfl
  have e2 : partOk ⟨a, n, u, s⟩ = true := by unfold partOk; rw [hB]; rfl
  have KM : Hid (∀ wx b, Below w.heap.size w wx → wx.heap[b]? = some (.cells (cells4 a n u s) 25 (0, 0)) → Calls Tryd.prog 9 #[.slice (some ⟨b, 0, none⟩) 1 1] wx fun e w' => e = .returned (.tuple #[.string (str L), .int .i64 0]) ∧ Below w.heap.size w w') := Lib.hid fun wx b h hb => by
    have h2 := key_make [⟨a, n, u, s⟩] (some ⟨b, 0, none⟩) 1 wx (rowsAt_part ⟨a, n, u, s⟩ hb) (by simp) (by
      intro p hp wy hy
      simp at hp
      subst hp
      rw [e1, e2]
      exact PB wy (below_at h hy)) (by
      intro p hp
      simp at hp
      subst hp
      rw [e1, str_size]; omega)
    have e : makeGo [⟨a, n, u, s⟩] [] = (L, 0) := by
      simp only [makeGo, hB]
      rw [List.nil_append, if_neg (by omega)]
    rw [e] at h2
    exact h2.mono fun _ _ ⟨h3, h4⟩ => ⟨h3, below_at h h4⟩
  clear e1 e2 hB hL PB
  have W0 : Below w.heap.size w w := Below.refl _ _
  have hz := zero_part
  have HB2 : Hid (∀ x y, Below w.heap.size w ((w.alloc x).alloc y)) := Lib.hid fun x y => (W0.alloc (Nat.le_refl _) _).alloc (by simp) _
  have HH2 : Hid (∀ x y, ((w.alloc x).alloc y).heap[w.heap.size + 1]? = some y) := Lib.hid fun x y => by
    have h := heap_alloc_new (w.alloc x) y
    have e : (w.alloc x).heap.size = w.heap.size + 1 := by simp
    rwa [e] at h
  go_enter Tryd.func8, Tryd.ntmps8
  go_wp2_with (go_at_call 9; refine (KM.out _ _ (HB2.out _ _) (HH2.out _ _)).mono ?_; rintro e w2 ⟨rfl, hB2⟩)
  go_ret
  exact ⟨rfl, hB2⟩

theorem up_some (n : Int) : partB ⟨105, n, 0, ByteArray.empty⟩ = some (105 :: beL (liftI n).toNat) := by unfold partB; rw [if_pos rfl]
theorem down_some (n : Int) : partB ⟨100, n, 0, ByteArray.empty⟩ = some (100 :: beL (18446744073709551615 - liftI n).toNat) := by unfold partB; rw [if_neg (by simp), if_pos rfl]
theorem count_some (n : Int) : partB ⟨117, 0, n, ByteArray.empty⟩ = some (117 :: beL n.toNat) := by unfold partB; rw [if_neg (by simp), if_neg (by simp), if_pos rfl]
theorem text_some (s : ByteArray) : partB ⟨116, 0, 0, s⟩ = some (116 :: (escL s.data.toList ++ [0, 0])) := by unfold partB; rw [if_neg (by simp), if_neg (by simp), if_neg (by simp), if_pos rfl]

theorem str_toList (l : List UInt8) : (str l).toList = l := by rw [ByteArray.toList_eq, str_data]
theorem num_less (c : UInt8) (x y : Nat) (hx : x < 18446744073709551616) (hy : y < 18446744073709551616) : Op.bytesLess (str (c :: beL x)).toList (str (c :: beL y)).toList = decide (x < y) := by
  rw [str_toList, str_toList, bl_same]
  have h := beL_less x y [] [] hx hy
  rw [List.append_nil, List.append_nil] at h
  rw [h, bl_nil_right]; simp
theorem text_less (c : UInt8) (s t : List UInt8) : Op.bytesLess (str (c :: (escL s ++ [0, 0]))).toList (str (c :: (escL t ++ [0, 0]))).toList = Op.bytesLess s t := by
  rw [str_toList, str_toList, bl_same, escL_less, bl_nil_right]; simp

/-- a closed fact on two strings, hidden -/
structure Lt2 (x y : ByteArray) (b : Bool) : Prop where mk :: (out : Op.bytesLess x.toList y.toList = b)

set_option maxRecDepth 100000 in
set_option maxHeartbeats 4000000 in
theorem KeyNumbers_walk (a b c d : Int) (s t : ByteArray) (m : Int) (w : World) (wa0 : (Lit.int .i64 a).wf = true) (wb0 : (Lit.int .i64 b).wf = true)
    (wc0 : (Lit.int .u64 c).wf = true) (wd0 : (Lit.int .u64 d).wf = true) (ws : s.size ≤ 140737488351232) (wt : t.size ≤ 140737488351232) (hm : w.cell? ⟨0, 0, none⟩ = some (.int .i64 m)) :
    Calls Tryd.prog 3 #[.int .i64 a, .int .i64 b, .int .u64 c, .int .u64 d, .string s, .string t] w fun e w' => e = .returned (.bool true) ∧ Below w.heap.size w w' := by
  have W0 : Below w.heap.size w w := Below.refl _ _
  have wa := wf_i64' wa0
  have wb := wf_i64' wb0
  have wc := wf_u64 wc0
  have wd := wf_u64 wd0
  clear wa0 wb0 wc0 wd0
  have AW : Hid (∀ wx, Below w.heap.size w wx → Calls Tryd.prog 7 #[] wx fun e w' => e = .returned (.bool true) ∧ Below w.heap.size w w') := Lib.hid fun wx h => (awake04 wx).mono fun _ _ ⟨h1, h2⟩ => ⟨h1, below_at h h2⟩
  by_cases hbad : 90 < s.size ∨ 90 < t.size
  · have hcase : 90 < s.size ∨ (¬ 90 < s.size ∧ 90 < t.size) := by omega
    clear hbad hm
    rcases hcase with h | ⟨h, h2⟩ <;>
    · go_enter Tryd.func3, Tryd.ntmps3
      go_wp2_with (go_at_call 7; (with_reducible refine (AW.out _ (by assumption)).mono ?_); rintro e w1 ⟨rfl, hB1⟩)
      go_ret
      exact ⟨rfl, hB1⟩
  · have hs : ¬ 90 < s.size := fun h => hbad (.inl h)
    have ht : ¬ 90 < t.size := fun h => hbad (.inr h)
    clear hbad
    have hcell : ∀ wx, Below w.heap.size w wx → wx.cell? ⟨0, 0, none⟩ = some (.int .i64 m) := fun wx h => by
      have h0 : 0 < w.heap.size := cell_lt hm
      rw [h.cell (p := ⟨0, 0, none⟩) h0]; exact hm
    have CU : ∀ n : Int, Hid (∀ wx, Below w.heap.size w wx → Calls Tryd.prog 10 #[.int .i64 n] wx fun e w' => e = .returned (.agg (cells4 105 n 0 ByteArray.empty)) ∧ Below w.heap.size w w') := fun n => Lib.hid fun wx h => (key_up n wx).mono fun _ _ ⟨h1, h2⟩ => ⟨h1, below_at h h2⟩
    have CD : ∀ n : Int, Hid (∀ wx, Below w.heap.size w wx → Calls Tryd.prog 11 #[.int .i64 n] wx fun e w' => e = .returned (.agg (cells4 100 n 0 ByteArray.empty)) ∧ Below w.heap.size w w') := fun n => Lib.hid fun wx h => (key_down n wx).mono fun _ _ ⟨h1, h2⟩ => ⟨h1, below_at h h2⟩
    have CC : ∀ n : Int, Hid (∀ wx, Below w.heap.size w wx → Calls Tryd.prog 12 #[.int .u64 n] wx fun e w' => e = .returned (.agg (cells4 117 0 n ByteArray.empty)) ∧ Below w.heap.size w w') := fun n => Lib.hid fun wx h => (key_count n wx).mono fun _ _ ⟨h1, h2⟩ => ⟨h1, below_at h h2⟩
    have CT : ∀ x : ByteArray, Hid (∀ wx, Below w.heap.size w wx → Calls Tryd.prog 13 #[.string x] wx fun e w' => e = .returned (.agg (cells4 116 0 0 x)) ∧ Below w.heap.size w w') := fun x => Lib.hid fun wx h => (key_text x wx).mono fun _ _ ⟨h1, h2⟩ => ⟨h1, below_at h h2⟩
    have OU : ∀ n : Int, (-9223372036854775808 ≤ n ∧ n ≤ 9223372036854775807) → ∃ X, X = str (105 :: beL (liftI n).toNat) ∧ Hid (∀ wx, Below w.heap.size w wx → Calls Tryd.prog 8 #[.agg (cells4 105 n 0 ByteArray.empty)] wx fun e w' => e = .returned (.string X) ∧ Below w.heap.size w w') := fun n hn => ⟨_, rfl, Lib.hid fun wx h =>
      (key_one 105 n 0 ByteArray.empty _ wx (up_some n) (by simp [beL_length]) (fun wy hy => part_up n 0 ByteArray.empty wy hn)).mono fun _ _ ⟨h1, h2⟩ => ⟨h1, below_at h h2⟩⟩
    have OD : ∀ n : Int, (-9223372036854775808 ≤ n ∧ n ≤ 9223372036854775807) → ∃ X, X = str (100 :: beL (18446744073709551615 - liftI n).toNat) ∧ Hid (∀ wx, Below w.heap.size w wx → Calls Tryd.prog 8 #[.agg (cells4 100 n 0 ByteArray.empty)] wx fun e w' => e = .returned (.string X) ∧ Below w.heap.size w w') := fun n hn => ⟨_, rfl, Lib.hid fun wx h =>
      (key_one 100 n 0 ByteArray.empty _ wx (down_some n) (by simp [beL_length]) (fun wy hy => part_down n 0 ByteArray.empty wy hn)).mono fun _ _ ⟨h1, h2⟩ => ⟨h1, below_at h h2⟩⟩
    have OC : ∀ n : Int, (0 ≤ n ∧ n < 18446744073709551616) → ∃ X, X = str (117 :: beL n.toNat) ∧ Hid (∀ wx, Below w.heap.size w wx → Calls Tryd.prog 8 #[.agg (cells4 117 0 n ByteArray.empty)] wx fun e w' => e = .returned (.string X) ∧ Below w.heap.size w w') := fun n hn => ⟨_, rfl, Lib.hid fun wx h =>
      (key_one 117 0 n ByteArray.empty _ wx (count_some n) (by simp [beL_length]) (fun wy hy => part_count 0 n ByteArray.empty wy hn)).mono fun _ _ ⟨h1, h2⟩ => ⟨h1, below_at h h2⟩⟩
    have OT : ∀ x : ByteArray, ¬ 90 < x.size → ∃ X, X = str (116 :: (escL x.data.toList ++ [0, 0])) ∧ Hid (∀ wx, Below w.heap.size w wx → Calls Tryd.prog 8 #[.agg (cells4 116 0 0 x)] wx fun e w' => e = .returned (.string X) ∧ Below w.heap.size w w') := fun x hx => ⟨_, rfl, Lib.hid fun wx h =>
      (key_one 116 0 0 x _ wx (text_some x) (by
        have h1 := escL_size x.data.toList
        have h2 : x.data.toList.length = x.size := by simp
        simp; omega) (fun wy hy => part_text 0 0 m x wy (by omega) (hcell wy (below_at h hy)))).mono fun _ _ ⟨h1, h2⟩ => ⟨h1, below_at h h2⟩⟩
    obtain ⟨x1, e1, K1⟩ := OU a wa
    obtain ⟨x2, e2, K2⟩ := OU b wb
    obtain ⟨x3, e3, K3⟩ := OD a wa
    obtain ⟨x4, e4, K4⟩ := OD b wb
    obtain ⟨x5, e5, K5⟩ := OC c wc
    obtain ⟨x6, e6, K6⟩ := OC d wd
    obtain ⟨x7, e7, K7⟩ := OT s hs
    obtain ⟨x8, e8, K8⟩ := OT t ht
    have U1 := CU a
    have U2 := CU b
    have D1 := CD a
    have D2 := CD b
    have C1 := CC c
    have C2 := CC d
    have T1 := CT s
    have T2 := CT t
    have la := liftI_bd a wa
    have lb := liftI_bd b wb
    have L1 : Op.bytesLess x1.toList x2.toList = decide (a < b) := by
      rw [e1, e2, num_less 105 _ _ (by omega) (by omega)]
      unfold liftI at la lb ⊢
      apply decide_eq_decide.2; omega
    have L2 : Op.bytesLess x3.toList x4.toList = decide (b < a) := by
      rw [e3, e4, num_less 100 _ _ (by omega) (by omega)]
      unfold liftI at la lb ⊢
      apply decide_eq_decide.2; omega
    have L3 : Op.bytesLess x5.toList x6.toList = decide (c < d) := by
      rw [e5, e6, num_less 117 _ _ (by omega) (by omega)]
      apply decide_eq_decide.2; omega
    have L4 : Op.bytesLess x7.toList x8.toList = Op.bytesLess s.toList t.toList := by
      rw [e7, e8, text_less, ← ByteArray.toList_eq, ← ByteArray.toList_eq]
    clear e1 e2 e3 e4 e5 e6 e7 e8 la lb CU CD CC CT OU OD OC OT wa wb wc wd hcell hm
    go_enter Tryd.func3, Tryd.ntmps3
    go_wp2_with (first
      | (go_at_call 7; (with_reducible refine (AW.out _ (by assumption)).mono ?_); rintro e w1 ⟨rfl, hB1⟩)
      | (go_at_call 10; first | (with_reducible refine (U1.out _ (by assumption)).mono ?_) | (with_reducible refine (U2.out _ (by assumption)).mono ?_)) <;> rintro e w1 ⟨rfl, hB1⟩
      | (go_at_call 11; first | (with_reducible refine (D1.out _ (by assumption)).mono ?_) | (with_reducible refine (D2.out _ (by assumption)).mono ?_)) <;> rintro e w1 ⟨rfl, hB1⟩
      | (go_at_call 12; first | (with_reducible refine (C1.out _ (by assumption)).mono ?_) | (with_reducible refine (C2.out _ (by assumption)).mono ?_)) <;> rintro e w1 ⟨rfl, hB1⟩
      | (go_at_call 13; first | (with_reducible refine (T1.out _ (by assumption)).mono ?_) | (with_reducible refine (T2.out _ (by assumption)).mono ?_)) <;> rintro e w1 ⟨rfl, hB1⟩
      | (go_at_call 8; first | (with_reducible refine (K1.out _ (by assumption)).mono ?_) | (with_reducible refine (K2.out _ (by assumption)).mono ?_) | (with_reducible refine (K3.out _ (by assumption)).mono ?_) | (with_reducible refine (K4.out _ (by assumption)).mono ?_) | (with_reducible refine (K5.out _ (by assumption)).mono ?_) | (with_reducible refine (K6.out _ (by assumption)).mono ?_) | (with_reducible refine (K7.out _ (by assumption)).mono ?_) | (with_reducible refine (K8.out _ (by assumption)).mono ?_)) <;> rintro e w1 ⟨rfl, hB1⟩)
    go_ret
    exact ⟨by simp, by assumption⟩

end Go.Proofs.YtlbdemcpjpfbfaaDoor
