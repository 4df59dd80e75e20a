/-
  The order of keys' bytes: numbers of eight bytes, escaped texts; a text part's bytes by contract.
-/
import Derived.Test.YtafdjgmdkbimoaaDoorKeyMake
import Derived.Test.YtafdjgmdkbimoaaDoorShelf
namespace Go.Proofs.YtafdjgmdkbimoaaDoor
open Go.RowKit
set_option linter.unusedVariables false
set_option linter.unusedSimpArgs false

theorem wf_u64 {n : Int} (h : (Lit.int .u64 n).wf = true) : 0 ≤ n ∧ n < 18446744073709551616 := by
  simp only [Lit.wf, Bool.and_eq_true, decide_eq_true_eq] at h
  have e : IntKind.u64.max = 18446744073709551615 := by decide
  have e2 : IntKind.u64.min = 0 := by decide
  omega
theorem wf_i64' {n : Int} (h : (Lit.int .i64 n).wf = true) : -9223372036854775808 ≤ n ∧ n ≤ 9223372036854775807 := by
  simp only [Lit.wf, Bool.and_eq_true, decide_eq_true_eq] at h
  exact h

set_option maxHeartbeats 2000000 in

theorem bl_cons (a b : UInt8) (l m : List UInt8) : Op.bytesLess (a :: l) (b :: m) = (decide (a < b) || (a == b && Op.bytesLess l m)) := by
  rw [Op.bytesLess]
theorem bl_same (a : UInt8) (l m : List UInt8) : Op.bytesLess (a :: l) (a :: m) = Op.bytesLess l m := by
  rw [bl_cons]; simp
theorem bl_nil_right (l : List UInt8) : Op.bytesLess l [] = false := by cases l <;> rfl

theorem leL_less (k : Nat) : ∀ (a b : Nat) (x y : List UInt8), a < 256 ^ k → b < 256 ^ k → Op.bytesLess ((leL k a).reverse ++ x) ((leL k b).reverse ++ y) = (decide (a < b) || (a == b && Op.bytesLess x y)) := by
  induction k with
  | zero =>
    intro a b x y ha hb
    have ha0 : a = 0 := by simpa using ha
    have hb0 : b = 0 := by simpa using hb
    subst ha0 hb0
    simp [leL]
  | succ k ih =>
    intro a b x y ha hb
    rw [Nat.pow_succ] at ha hb
    rw [leL, leL, List.reverse_cons, List.reverse_cons, List.append_assoc, List.append_assoc, ih _ _ _ _ (by omega) (by omega)]
    rw [List.singleton_append, List.singleton_append, bl_cons]
    have e1 : (UInt8.ofNat (a % 256) < UInt8.ofNat (b % 256)) = (a % 256 < b % 256) := by
      rw [UInt8.lt_iff_toNat_lt, UInt8.toNat_ofNat', UInt8.toNat_ofNat']
      simp
    have e2 : (UInt8.ofNat (a % 256) == UInt8.ofNat (b % 256)) = decide (a % 256 = b % 256) := by
      rw [Bool.eq_iff_iff, beq_iff_eq, decide_eq_true_iff]
      constructor
      · intro h
        have h2 := congrArg UInt8.toNat h
        rw [UInt8.toNat_ofNat', UInt8.toNat_ofNat'] at h2
        omega
      · intro h; rw [h]
    simp only [e1, e2]
    rw [Bool.eq_iff_iff]
    simp only [Bool.or_eq_true, Bool.and_eq_true, decide_eq_true_iff, beq_iff_eq]
    constructor
    · rintro (h | ⟨h1, h | ⟨h2, h3⟩⟩)
      · left; omega
      · left; omega
      · right; exact ⟨by omega, h3⟩
    · rintro (h | ⟨h1, h3⟩)
      · by_cases h4 : a / 256 < b / 256
        · left; exact h4
        · right; exact ⟨by omega, .inl (by omega)⟩
      · right; exact ⟨by omega, .inr ⟨by omega, h3⟩⟩
theorem beL_less (a b : Nat) (x y : List UInt8) (ha : a < 18446744073709551616) (hb : b < 18446744073709551616) : Op.bytesLess (beL a ++ x) (beL b ++ y) = (decide (a < b) || (a == b && Op.bytesLess x y)) :=
  leL_less 8 a b x y ha hb

theorem escL_nil : escL [] = [] := rfl
theorem escL_zero (l : List UInt8) : escL (0 :: l) = 0 :: 255 :: escL l := rfl
theorem escL_cons (b : UInt8) (l : List UInt8) (h : b ≠ 0) : escL (b :: l) = b :: escL l := by
  unfold escL
  rw [List.flatMap_cons, if_neg h]; rfl
theorem escL_size (l : List UInt8) : (escL l).length ≤ 2 * l.length := by
  induction l with
  | nil => simp [escL_nil]
  | cons b l ih =>
    by_cases h : b = 0
    · subst h; rw [escL_zero]; simp; omega
    · rw [escL_cons b l h]; simp; omega
theorem u8_pos {b : UInt8} (h : b ≠ 0) : 0 < b := by
  rw [UInt8.lt_iff_toNat_lt]
  have : b.toNat ≠ 0 := fun e => h (UInt8.toNat_inj.mp e)
  show 0 < b.toNat
  omega
theorem escL_less (s : List UInt8) : ∀ (t x y : List UInt8), Op.bytesLess (escL s ++ 0 :: 0 :: x) (escL t ++ 0 :: 0 :: y) = (Op.bytesLess s t || (s == t && Op.bytesLess x y)) := by
  induction s with
  | nil =>
    intro t x y
    cases t with
    | nil => simp [escL_nil, bl_same, Op.bytesLess]
    | cons d t =>
      by_cases hd : d = 0
      · subst hd
        rw [escL_nil, escL_zero, List.nil_append, List.cons_append, bl_same, List.cons_append, bl_cons]
        simp [Op.bytesLess]
      · rw [escL_nil, escL_cons d t hd, List.nil_append, List.cons_append, bl_cons]
        simp [Op.bytesLess, u8_pos hd]
  | cons c s ih =>
    intro t x y
    cases t with
    | nil =>
      by_cases hc : c = 0
      · subst hc
        rw [escL_nil, escL_zero, List.nil_append, List.cons_append, bl_same, List.cons_append, bl_cons]
        simp [Op.bytesLess]
      · rw [escL_nil, escL_cons c s hc, List.nil_append, List.cons_append, bl_cons]
        have h1 : ¬ c < 0 := by rw [UInt8.lt_iff_toNat_lt]; exact Nat.not_lt_zero _
        simp [Op.bytesLess, h1, hc]
    | cons d t =>
      by_cases hc : c = 0 <;> by_cases hd : d = 0
      · subst hc hd
        rw [escL_zero, escL_zero, List.cons_append, List.cons_append, bl_same, List.cons_append, List.cons_append, bl_same, bl_same, ih]
        simp
      · subst hc
        rw [escL_zero, escL_cons d t hd, List.cons_append, List.cons_append, List.cons_append, bl_cons, bl_cons]
        simp [u8_pos hd]
      · subst hd
        rw [escL_zero, escL_cons c s hc, List.cons_append, List.cons_append, List.cons_append, bl_cons, bl_cons]
        have h1 : ¬ c < 0 := by rw [UInt8.lt_iff_toNat_lt]; exact Nat.not_lt_zero _
        have h2 : (c == 0) = false := by simp [hc]
        simp [h1, h2]
      · rw [escL_cons c s hc, escL_cons d t hd, List.cons_append, List.cons_append, bl_cons, bl_cons, ih]
        by_cases e : c = d
        · subst e; simp
        · have h2 : (c == d) = false := by simp [e]
          simp [h2]

theorem replaceK_none (k : Nat) (s old new : List UInt8) (h : Lib.index s old = -1) : Lib.replaceK old new k s = s := by
  cases k with
  | zero => rfl
  | succ k => rw [Lib.replaceK, if_pos (by rw [h]; rfl)]
theorem replaceK_ne (k : Nat) (b : UInt8) (l new : List UInt8) (hb : b ≠ 0) : Lib.replaceK [0] new k (b :: l) = b :: Lib.replaceK [0] new k l := by
  cases k with
  | zero => rfl
  | succ k =>
    have hp : ([0] : List UInt8).isPrefixOf (b :: l) = false := by simp [List.isPrefixOf, Ne.symm hb]
    have hix : Lib.index (b :: l) [0] = if Lib.index l [0] == -1 then -1 else Lib.index l [0] + 1 := by rw [Lib.index, hp]; simp
    by_cases hm : Lib.index l [0] = -1
    · rw [replaceK_none _ l _ _ hm, replaceK_none _ (b :: l) _ _ (by rw [hix, if_pos (beq_iff_eq.2 hm)])]
    · have hge := Lib.index_ge l [0]
      obtain ⟨j, hj⟩ : ∃ j : Nat, Lib.index l [0] = j := ⟨(Lib.index l [0]).toNat, by omega⟩
      have hix' : Lib.index (b :: l) [0] = ((j + 1 : Nat) : Int) := by rw [hix, if_neg (fun e => hm (beq_iff_eq.1 e)), hj]; omega
      rw [Lib.replaceK_hit _ _ _ _ _ hix', Lib.replaceK_hit _ _ _ _ _ hj]
      simp
theorem replaceK_eq (k : Nat) (l new : List UInt8) : Lib.replaceK [0] new (k + 1) (0 :: l) = new ++ Lib.replaceK [0] new k l := by
  have hix : Lib.index (0 :: l) [0] = ((0 : Nat) : Int) := by rw [Lib.index]; simp [List.isPrefixOf]
  rw [Lib.replaceK_hit _ _ _ _ _ hix]
  simp
theorem replace_esc (s : List UInt8) : Lib.replaceAll s [0] [0, 255] = escL s := by
  have h : ∀ l : List UInt8, Lib.replaceK [0] [0, 255] (l.count 0) l = escL l := by
    intro l
    induction l with
    | nil => rfl
    | cons b l ih =>
      by_cases hb : b = 0
      · subst hb
        rw [List.count_cons_self, replaceK_eq, ih, escL_zero]; rfl
      · rw [List.count_cons_of_ne (by simpa using hb), replaceK_ne _ _ _ _ hb, ih, escL_cons b l hb]
  have h2 := h s
  rw [← Lib.count_one] at h2
  unfold Lib.replaceAll Lib.replace
  rw [if_neg (by decide)]
  unfold Lib.replaceNum
  rw [if_pos (by left; decide)]
  exact h2

set_option maxRecDepth 100000 in
set_option maxHeartbeats 2000000 in
theorem part_text (n u m : Int) (s : ByteArray) (w : World) (hs : s.size ≤ 1000) (hm : w.cell? ⟨0, 0, none⟩ = some (.int .i64 m)) :
    Calls Tryd.prog 42 #[.agg (cells4 116 n u s)] w fun e w' => e = .returned (.tuple #[.string (str (116 :: (escL s.data.toList ++ [0, 0]))), .bool true]) ∧ Below w.heap.size w w' := by
  have HT : Hid (str [116] ++ str (escL s.data.toList) ++ ⟨#[0, 0]⟩ = str (116 :: (escL s.data.toList ++ [0, 0]))) := Lib.hid (by
    rw [show (⟨#[0, 0]⟩ : ByteArray) = str [0, 0] from rfl, str_append, str_append]; rfl)
  have hc1 : Lib.countB s ⟨#[0]⟩ ≤ s.size := Lib.countB_le ⟨#[0]⟩ (by decide) s.size s (Nat.le_refl _)
  have hcell : Hid (∀ wx, Below w.heap.size w wx → wx.cell? ⟨0, 0, none⟩ = some (.int .i64 m)) := Lib.hid fun wx h => by
    have h0 : 0 < w.heap.size := cell_lt hm
    rw [h.cell (p := ⟨0, 0, none⟩) h0]; exact hm
  have KR : Hid (∀ wx, Below w.heap.size w wx → Calls Tryd.prog 51 #[.string s, .string ⟨#[0]⟩, .string ⟨#[0, 255]⟩] wx fun e w' => e = .returned (.string (str (escL s.data.toList))) ∧ Below w.heap.size w w') := Lib.hid fun wx h => by
    refine (Tryd.strings_ReplaceAll s ⟨#[0]⟩ ⟨#[0, 255]⟩ m wx (by omega) (hcell.out wx h) (by decide) (by have e : (⟨#[0, 255]⟩ : ByteArray).size = 2 := rfl; rw [e]; omega)).mono fun e w' ⟨h1, h2⟩ => ⟨?_, below_at h h2⟩
    rw [h1, replace_esc]; rfl
  have hz : (str (escL s.data.toList)).size ≤ 2000 := by
    rw [str_size]
    have h1 := escL_size s.data.toList
    have h2 : s.data.toList.length = s.size := by simp
    omega
  have hz2 : (str [116]).size = 1 := rfl
  obtain ⟨t, ht⟩ : ∃ t, t = str (escL s.data.toList) := ⟨_, rfl⟩
  rw [← ht] at KR HT hz
  have hc := conv_byte (w.alloc (.cells (cells4 116 n u s) 51)) (w.heap.size + 1) (by simp) 116 116 (by decide)
  clear ht hm hc1
  go_enter Tryd.func42, Tryd.ntmps42
  go_wp2_with (go_at_call 51; (with_reducible refine (KR.out _ (by (repeat (first | exact Below.refl _ _ | assumption | apply below_drewN | (refine Below.alloc ?_ (by first | assumption | omega | (simp; try omega)) _))))).mono ?_); rintro e w1 ⟨rfl, hB1⟩)
  go_ret2
  exact ⟨by rw [← HT.out]; rfl, hB1⟩

end Go.Proofs.YtafdjgmdkbimoaaDoor
