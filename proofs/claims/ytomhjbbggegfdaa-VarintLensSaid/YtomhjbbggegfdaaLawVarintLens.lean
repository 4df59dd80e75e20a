/-
  The walk of VarintLens: a greater number has no fewer bytes; the bytes of one don't begin another one's; signed numbers near 0 have few.
-/
import Derived.Test.YtomhjbbggegfdaaLawVarintWrites
namespace Go.Proofs.Ytomhjbbggegfdaa
open Go.RowKit
set_option linter.unusedVariables false
set_option linter.unusedSimpArgs false

theorem numL_mono : ∀ (b a : Nat), a ≤ b → (numL a).length ≤ (numL b).length := by
  intro b
  induction b using Nat.strongRecOn with
  | _ b ih =>
    intro a h
    by_cases ha : a < 128
    · rw [numL_low ha]
      have := List.length_pos_iff.mpr (numL_ne b)
      simp only [List.length_cons, List.length_nil]; omega
    · rw [numL_high ha, numL_high (n := b) (by omega)]
      have := ih (b / 128) (by omega) (a / 128) (by omega)
      simpa using this

/-- no number's bytes begin another one's -/
theorem numL_free : ∀ (a b : Nat) (r t : List UInt8), numL a ++ r = numL b ++ t → a = b ∧ r = t := by
  intro a
  induction a using Nat.strongRecOn with
  | _ a ih =>
    intro b r t h
    by_cases ha : a < 128
    · by_cases hb : b < 128
      · rw [numL_low ha, numL_low hb] at h
        simp only [List.cons_append, List.nil_append, List.cons.injEq] at h
        have h1 := congrArg UInt8.toNat h.1
        rw [UInt8.toNat_ofNat', UInt8.toNat_ofNat'] at h1
        exact ⟨by omega, h.2⟩
      · rw [numL_low ha, numL_high hb] at h
        simp only [List.cons_append, List.nil_append, List.cons.injEq] at h
        have h1 := congrArg UInt8.toNat h.1
        rw [UInt8.toNat_ofNat', UInt8.toNat_ofNat'] at h1
        omega
    · by_cases hb : b < 128
      · rw [numL_high ha, numL_low hb] at h
        simp only [List.cons_append, List.nil_append, List.cons.injEq] at h
        have h1 := congrArg UInt8.toNat h.1
        rw [UInt8.toNat_ofNat', UInt8.toNat_ofNat'] at h1
        omega
      · rw [numL_high ha, numL_high hb] at h
        simp only [List.cons_append, List.cons.injEq] at h
        have h1 := congrArg UInt8.toNat h.1
        rw [UInt8.toNat_ofNat', UInt8.toNat_ofNat'] at h1
        obtain ⟨h2, h3⟩ := ih (a / 128) (by omega) (b / 128) r t h.2
        exact ⟨by omega, h3⟩
theorem numL_inj {a b : Nat} (h : numL a = numL b) : a = b := (numL_free a b [] [] (by rw [h])).1

theorem str_extract (l : List UInt8) (n : Nat) : (str l).extract 0 n = str (l.take n) := by
  apply ByteArray.ext
  simp [str]

theorem zz_few (c : Int) (h0 : -9223372036854775808 ≤ c) (h1 : c ≤ 9223372036854775807) : (numL (zz c).toNat).length = 1 ↔ (-64 ≤ c ∧ c < 64) := by
  have hz : (zz c).toNat < 128 ↔ (-64 ≤ c ∧ c < 64) := by unfold zz; split <;> omega
  rw [← hz]
  constructor
  · intro h
    apply Classical.byContradiction
    intro hn
    rw [numL_high hn] at h
    have := List.length_pos_iff.mpr (numL_ne ((zz c).toNat / 128))
    simp only [List.length_cons] at h
    omega
  · intro h; rw [numL_low h]; rfl

set_option maxHeartbeats 2000000 in
theorem VarintLens_walk (a b c : Int) (w : World) (wa : (Lit.int .u64 a).wf = true) (wb : (Lit.int .u64 b).wf = true) (wc : (Lit.int .i64 c).wf = true) :
    Calls Try.prog 3 #[.int .u64 a, .int .u64 b, .int .i64 c] w fun e w' => e = .returned (.bool true) ∧ Below w.heap.size w w' := by
  obtain ⟨a0, a1⟩ := wf_u64 wa
  obtain ⟨b0, b1⟩ := wf_u64 wb
  obtain ⟨c0, c1⟩ := wf_i64' wc
  clear wa wb wc
  obtain ⟨x, hx⟩ : ∃ x, x = str (numL a.toNat) := ⟨_, rfl⟩
  obtain ⟨y, hy⟩ : ∃ y, y = str (numL b.toNat) := ⟨_, rfl⟩
  obtain ⟨z, hz⟩ : ∃ z, z = str (numL (zz c).toNat) := ⟨_, rfl⟩
  have hxs : x.size ≤ 10 := by rw [hx, str_size]; exact numL_len64 _ (by omega)
  have hys : y.size ≤ 10 := by rw [hy, str_size]; exact numL_len64 _ (by omega)
  have N : Hid (∀ wx, Below w.heap.size w wx → Calls Try.prog 9 #[.int .u64 a] wx fun e w' => e = .returned (.string x) ∧ Below w.heap.size w w') := Lib.hid fun wx hB => (by have h := varint_num a wx a0 a1; rw [← hx] at h; exact h : Calls Try.prog 9 #[.int .u64 a] wx fun e w' => e = .returned (.string x) ∧ Below wx.heap.size wx w').mono fun _ _ ⟨h1, h2⟩ => ⟨h1, below_at hB h2⟩
  have M : Hid (∀ wx, Below w.heap.size w wx → Calls Try.prog 9 #[.int .u64 b] wx fun e w' => e = .returned (.string y) ∧ Below w.heap.size w w') := Lib.hid fun wx hB => (by have h := varint_num b wx b0 b1; rw [← hy] at h; exact h : Calls Try.prog 9 #[.int .u64 b] wx fun e w' => e = .returned (.string y) ∧ Below wx.heap.size wx w').mono fun _ _ ⟨h1, h2⟩ => ⟨h1, below_at hB h2⟩
  have S : Hid (∀ wx, Below w.heap.size w wx → Calls Try.prog 11 #[.int .i64 c] wx fun e w' => e = .returned (.string z) ∧ Below w.heap.size w w') := Lib.hid fun wx hB => (by have h := varint_signed c wx c0 c1; rw [← hz] at h; exact h : Calls Try.prog 11 #[.int .i64 c] wx fun e w' => e = .returned (.string z) ∧ Below wx.heap.size wx w').mono fun _ _ ⟨h1, h2⟩ => ⟨h1, below_at hB h2⟩
  have L : Hid (∀ wx, Below w.heap.size w wx → Calls Try.prog 10 #[.int .u64 a] wx fun e w' => e = .returned (.int .i64 (x.size : Int)) ∧ Below w.heap.size w w') := Lib.hid fun wx hB => (by have h := varint_len a wx a0 a1; rw [← str_size, ← hx] at h; exact h : Calls Try.prog 10 #[.int .u64 a] wx fun e w' => e = .returned (.int .i64 (x.size : Int)) ∧ Below wx.heap.size wx w').mono fun _ _ ⟨h1, h2⟩ => ⟨h1, below_at hB h2⟩
  have K : Hid (∀ wx, Below w.heap.size w wx → Calls Try.prog 10 #[.int .u64 b] wx fun e w' => e = .returned (.int .i64 (y.size : Int)) ∧ Below w.heap.size w w') := Lib.hid fun wx hB => (by have h := varint_len b wx b0 b1; rw [← str_size, ← hy] at h; exact h : Calls Try.prog 10 #[.int .u64 b] wx fun e w' => e = .returned (.int .i64 (y.size : Int)) ∧ Below wx.heap.size wx w').mono fun _ _ ⟨h1, h2⟩ => ⟨h1, below_at hB h2⟩
  have few : Hid (((z.size : Int) = 1) ↔ (-64 ≤ c ∧ c < 64)) := Lib.hid (by rw [hz, str_size, ← zz_few c c0 c1]; omega)
  have hcs : (c < -64 ∧ ((z.size : Int) == 1) = false) ∨ (64 ≤ c ∧ ((z.size : Int) == 1) = false) ∨ (-64 ≤ c ∧ c < 64 ∧ ((z.size : Int) == 1) = true) := by
    rcases Int.lt_or_le c (-64) with h | h
    · exact .inl ⟨h, (ne_bb (fun h2 => by have := few.out.mp h2; omega)).1⟩
    · rcases Int.lt_or_le c 64 with h2 | h2
      · exact .inr (.inr ⟨h, h2, (eq_bb (few.out.mpr ⟨h, h2⟩)).1⟩)
      · exact .inr (.inl ⟨h2, (ne_bb (fun h3 => by have := few.out.mp h3; omega)).1⟩)
  rcases Int.lt_trichotomy a b with hab | hab | hab
  · have hle : x.size ≤ y.size := by rw [hx, hy, str_size, str_size]; exact numL_mono b.toNat a.toNat (by omega)
    have hne : ¬ x = y := fun h => by rw [hx, hy] at h; have := numL_inj (str_inj h); omega
    have hpre : ¬ y.extract 0 x.size = x := fun h => by
      rw [hx, hy, str_extract, str_size] at h
      have h2 := str_inj h
      have h3 : numL a.toNat ++ (numL b.toNat).drop (numL a.toNat).length = numL b.toNat ++ [] := by
        conv => lhs; arg 1; rw [← h2]
        rw [List.take_append_drop, List.append_nil]
      have := (numL_free _ _ _ _ h3).1
      omega
    obtain ⟨p0, p1⟩ := ne_bb (a := a) (b := b) (by omega)
    obtain ⟨q0, q1⟩ := sne_bb hne
    obtain ⟨r0, r1⟩ := sne_bb hpre
    clear hx hy hz hne hpre few
    rcases hcs with ⟨k1, k2⟩ | ⟨k1, k2⟩ | ⟨k1, k2, k3⟩
    all_goals
      go_enter Try.func3, Try.ntmps3
      go_wp2_with (first | (go_at_call 8; refine (awake03 _).mono ?_; rintro e w1 ⟨rfl, hB1⟩) | (go_at_call 9; (with_reducible refine (N.out _ (by assumption)).mono ?_); rintro e w2 ⟨rfl, hBx⟩) | (go_at_call 9; (with_reducible refine (M.out _ (by assumption)).mono ?_); rintro e w2 ⟨rfl, hBx⟩) | (go_at_call 11; (with_reducible refine (S.out _ (by assumption)).mono ?_); rintro e w2 ⟨rfl, hBx⟩) | (go_at_call 10; (with_reducible refine (L.out _ (by assumption)).mono ?_); rintro e w2 ⟨rfl, hBx⟩) | (go_at_call 10; (with_reducible refine (K.out _ (by assumption)).mono ?_); rintro e w2 ⟨rfl, hBx⟩))
      go_ret
      exact ⟨by first | rfl | (simp; omega), by assumption⟩
  · subst hab
    obtain rfl : x = y := by rw [hx, hy]
    have q0 : (x.toList == x.toList) = true := by simp
    have p0 : (a == a) = true := by simp
    clear hx hy hz few
    rcases hcs with ⟨k1, k2⟩ | ⟨k1, k2⟩ | ⟨k1, k2, k3⟩
    all_goals
      go_enter Try.func3, Try.ntmps3
      go_wp2_with (first | (go_at_call 8; refine (awake03 _).mono ?_; rintro e w1 ⟨rfl, hB1⟩) | (go_at_call 9; (with_reducible refine (N.out _ (by assumption)).mono ?_); rintro e w2 ⟨rfl, hBx⟩) | (go_at_call 9; (with_reducible refine (M.out _ (by assumption)).mono ?_); rintro e w2 ⟨rfl, hBx⟩) | (go_at_call 11; (with_reducible refine (S.out _ (by assumption)).mono ?_); rintro e w2 ⟨rfl, hBx⟩) | (go_at_call 10; (with_reducible refine (L.out _ (by assumption)).mono ?_); rintro e w2 ⟨rfl, hBx⟩) | (go_at_call 10; (with_reducible refine (K.out _ (by assumption)).mono ?_); rintro e w2 ⟨rfl, hBx⟩))
      go_ret
      exact ⟨by first | rfl | (simp; omega), by assumption⟩
  · have hne : ¬ x = y := fun h => by rw [hx, hy] at h; have := numL_inj (str_inj h); omega
    have hle : y.size ≤ x.size := by rw [hx, hy, str_size, str_size]; exact numL_mono a.toNat b.toNat (by omega)
    obtain ⟨p0, p1⟩ := ne_bb (a := a) (b := b) (by omega)
    obtain ⟨q0, q1⟩ := sne_bb hne
    by_cases hs : y.size < x.size
    · clear hx hy hz hne few
      rcases hcs with ⟨k1, k2⟩ | ⟨k1, k2⟩ | ⟨k1, k2, k3⟩
      all_goals
        go_enter Try.func3, Try.ntmps3
        go_wp2_with (first | (go_at_call 8; refine (awake03 _).mono ?_; rintro e w1 ⟨rfl, hB1⟩) | (go_at_call 9; (with_reducible refine (N.out _ (by assumption)).mono ?_); rintro e w2 ⟨rfl, hBx⟩) | (go_at_call 9; (with_reducible refine (M.out _ (by assumption)).mono ?_); rintro e w2 ⟨rfl, hBx⟩) | (go_at_call 11; (with_reducible refine (S.out _ (by assumption)).mono ?_); rintro e w2 ⟨rfl, hBx⟩) | (go_at_call 10; (with_reducible refine (L.out _ (by assumption)).mono ?_); rintro e w2 ⟨rfl, hBx⟩) | (go_at_call 10; (with_reducible refine (K.out _ (by assumption)).mono ?_); rintro e w2 ⟨rfl, hBx⟩))
        go_ret
        exact ⟨by first | rfl | (simp; omega), by assumption⟩
    · have hs2 : x.size ≤ y.size := by omega
      have hpre : ¬ y.extract 0 x.size = x := fun h => by
        apply hne
        rw [← h, hx, hy, str_extract, List.take_of_length_le (by have h3 := hs2; rw [hx, hy, str_size, str_size] at h3; rw [str_size]; have h4 := hle; rw [hx, hy, str_size, str_size] at h4; exact h4)]
      obtain ⟨r0, r1⟩ := sne_bb hpre
      clear hx hy hz hne few hpre
      rcases hcs with ⟨k1, k2⟩ | ⟨k1, k2⟩ | ⟨k1, k2, k3⟩
      all_goals
        go_enter Try.func3, Try.ntmps3
        go_wp2_with (first | (go_at_call 8; refine (awake03 _).mono ?_; rintro e w1 ⟨rfl, hB1⟩) | (go_at_call 9; (with_reducible refine (N.out _ (by assumption)).mono ?_); rintro e w2 ⟨rfl, hBx⟩) | (go_at_call 9; (with_reducible refine (M.out _ (by assumption)).mono ?_); rintro e w2 ⟨rfl, hBx⟩) | (go_at_call 11; (with_reducible refine (S.out _ (by assumption)).mono ?_); rintro e w2 ⟨rfl, hBx⟩) | (go_at_call 10; (with_reducible refine (L.out _ (by assumption)).mono ?_); rintro e w2 ⟨rfl, hBx⟩) | (go_at_call 10; (with_reducible refine (K.out _ (by assumption)).mono ?_); rintro e w2 ⟨rfl, hBx⟩))
        go_ret
        exact ⟨by first | rfl | (simp; omega), by assumption⟩

end Go.Proofs.Ytomhjbbggegfdaa
