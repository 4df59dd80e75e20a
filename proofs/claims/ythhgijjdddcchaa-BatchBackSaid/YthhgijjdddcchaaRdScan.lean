/-
  The reader's scan by contract.
-/
import Derived.Test.YthhgijjdddcchaaRd
namespace Go.Proofs.Ythhgijjdddcchaa
open Go.RowKit
set_option linter.unusedVariables false
set_option linter.unusedSimpArgs false

theorem rest_none (r : RS) (i : Nat) (h : r.s.size ≤ r.at_ + i) : r.rest.drop i = [] := by
  unfold RS.rest; rw [List.drop_drop]; apply List.drop_of_length_le; rw [Array.length_toList]; exact h
theorem rest_some (r : RS) (i : Nat) (h : r.at_ + i < r.s.size) : r.rest.drop i = r.s[r.at_ + i] :: r.rest.drop (i + 1) := by
  have hl : r.at_ + i < r.s.data.toList.length := by rw [Array.length_toList]; exact h
  unfold RS.rest; rw [List.drop_drop, List.drop_drop, List.drop_eq_getElem_cons hl]; rfl

theorem or64' (k : Nat) (x y : Int) (hx0 : 0 ≤ x) (hx : x % 2 ^ k = 0) (hx1 : x < 18446744073709551616) (hy0 : 0 ≤ y) (hy : y < 2 ^ k) (hy1 : y < 18446744073709551616) : Go.bits .or .u64 y x = x + y := by
  have h0 : ∀ a b : Int, Go.bits .or .u64 a b = Go.IntKind.u64.wrap ((BitVec.ofInt 64 a ||| BitVec.ofInt 64 b : BitVec 64).toNat : Int) := fun _ _ => rfl
  have h : Go.bits .or .u64 y x = Go.bits .or .u64 x y := by rw [h0, h0, BitVec.or_comm]
  rw [h]
  exact bits_join .u64 64 (by decide) (fun n h0 h1 => by rw [wrap_u64]; omega) k x y hx0 hx (by simpa using hx1) hy0 hy (by simpa using hy1)

theorem pow128 (i : Nat) : ((2 : Int) ^ (7 * i)) = ((128 ^ i : Nat) : Int) := by
  rw [show (128 : Nat) = 2 ^ 7 from rfl, ← Nat.pow_mul]; simp

/-- what a byte adds -/
theorem scan_words (N m i : Nat) (hN : N < 128 ^ i) (hm : m < 128) (hi : i ≤ 9) (h9 : i = 9 → m ≤ 1) :
    ∃ M N' : Nat, IntKind.u64.wrap ((m : Int) * (2 : Int) ^ (7 * i)) = (M : Int) ∧ Go.bits .or .u64 (N : Int) (M : Int) = (N' : Int) ∧ N' = N + m * 128 ^ i ∧ N' < 128 ^ (i + 1) := by
  have hb : m * 128 ^ i < 18446744073709551616 ∧ 128 ^ i ≤ 9223372036854775808 := by
    rcases Nat.lt_or_ge i 9 with h | h
    · have h1 : 128 ^ i ≤ 128 ^ 8 := Nat.pow_le_pow_right (by omega) (by omega)
      have e : (128 : Nat) ^ 8 = 72057594037927936 := by decide
      have h2 : m * 128 ^ i ≤ 127 * 128 ^ 8 := Nat.mul_le_mul (by omega) h1
      omega
    · obtain rfl : i = 9 := by omega
      have e : (128 : Nat) ^ 9 = 9223372036854775808 := by decide
      have h2 : m * 128 ^ 9 ≤ 1 * 128 ^ 9 := Nat.mul_le_mul_right _ (h9 rfl)
      omega
  refine ⟨m * 128 ^ i, N + m * 128 ^ i, ?_, ?_, rfl, ?_⟩
  · rw [pow128, wrap_u64, ← Int.natCast_mul]; omega
  · rw [or64' (7 * i) _ _ (by omega) (by rw [pow128, ← Int.natCast_emod, Nat.mul_mod_left]; rfl) (by omega) (by omega) (by rw [pow128]; omega) (by omega)]
    omega
  · have h3 : m * 128 ^ i ≤ 127 * 128 ^ i := Nat.mul_le_mul_right _ (by omega)
    rw [Nat.pow_succ]; omega

set_option maxRecDepth 100000 in
set_option maxHeartbeats 4000000 in
theorem rd_scan (b : Nat) (r : RS) (w : World) (h : RdAt TR w b r) (hk : r.ok) (hs : r.s.size ≤ 140737488351232) :
    Calls Try.prog 30 #[.pointer (some ⟨b, 0, none⟩)] w fun e w' => e = .returned (.tuple #[.int .u64 ((scanL r.rest 0 0).1 : Int), .int .i64 (if (scanL r.rest 0 0).2.2 = 0 then ((r.at_ + (scanL r.rest 0 0).2.1 : Nat) : Int) else 0), .int .i64 (scanL r.rest 0 0).2.2]) ∧ Drew w w' := by
  have hk' : r.at_ ≤ r.s.size := hk
  have c0 := h.c0
  have c1 := h.c1
  clear hk h
  obtain ⟨t, ht⟩ : ∃ t, t = scanL r.rest 0 0 := ⟨_, rfl⟩
  rw [← ht]
  have HT := Lib.hid ht
  clear ht
  go_enter Try.func30, Try.ntmps30
  go_wp2
  refine wp_scope_pass 0 (fun a' w' => ∃ (N i : Nat) (y7 y8 y9 y10 y11 y12 y13 y14 y15 y16 y17 y18 y19 y20 y21 y22 y23 y24 y25 y26 y27 y28 y29 y30 y31 y32 y33 y34 y35 y36 y37 y38 y39 y40 y41 y42 y43 y44 y45 y46 y47 y48 y49 y50 y51 y52 y53 y54 y55 y56 y57 y58 y59 y60 y61 : Value), a' = { tmps := #[.pointer (some ⟨b, 0, none⟩), undef, .int .u64 0, .int .i64 0, .int .i64 0, .int .u64 (N : Int), .int .i64 (i : Int), y7, y8, y9, y10, y11, y12, y13, y14, y15, y16, y17, y18, y19, y20, y21, y22, y23, y24, y25, y26, y27, y28, y29, y30, y31, y32, y33, y34, y35, y36, y37, y38, y39, y40, y41, y42, y43, y44, y45, y46, y47, y48, y49, y50, y51, y52, y53, y54, y55, y56, y57, y58, y59, y60, y61], defers := [] } ∧ Drew w w' ∧ i ≤ 9 ∧ Hid (N < 128 ^ i) ∧ Hid (scanL (r.rest.drop i) i N = t) ∧ r.at_ + i ≤ r.s.size) (fun a' _ => 10 - (intOf (a'.tmps.getD 6 undef)).toNat) rfl ?_ ?_
  · rintro a' wr ⟨N, i, y7, y8, y9, y10, y11, y12, y13, y14, y15, y16, y17, y18, y19, y20, y21, y22, y23, y24, y25, y26, y27, y28, y29, y30, y31, y32, y33, y34, y35, y36, y37, y38, y39, y40, y41, y42, y43, y44, y45, y46, y47, y48, y49, y50, y51, y52, y53, y54, y55, y56, y57, y58, y59, y60, y61, rfl, ⟨⟨d, rfl⟩⟩, hi9, hN, hS, hle⟩
    have hw1 : IntKind.i64.wrap ((r.at_ : Int) + (i : Int)) = (r.at_ : Int) + (i : Int) := IntWalk.i64_in _ (by omega)
    have hw2 : ((r.at_ : Int) + (i : Int)).toNat = r.at_ + i := by omega
    have hw3 : 0 ≤ (r.at_ : Int) + (i : Int) := by omega
    go_wp2
    by_cases hend : r.s.size ≤ r.at_ + i
    · have hE : Hid (t = (0, 0, 3)) := Lib.hid (by rw [← hS.out, rest_none r i hend, scanL])
      go_quiet (fail)
      go_wp2
      simp only [Exit.jump]
      refine bodyPost_ret (v := .tuple #[.int .u64 0, .int .i64 0, .int .i64 3]) (by simp [results, Try.results30, go_sem]) rfl ?_
      exact ⟨by rw [hE.out]; rfl, by repeat (first | exact Drew.refl _ | apply Drew.step)⟩
    · have hin : r.at_ + i < r.s.size := by omega
      obtain ⟨c, hc⟩ : ∃ c, r.s[r.at_ + i] = c := ⟨_, rfl⟩
      have hS2 : Hid (scanL (c :: r.rest.drop (i + 1)) i N = t) := Lib.hid (by rw [← hS.out, rest_some r i hin, hc])
      have hc256 : c.toNat < 256 := c.toNat_lt
      have hc0 : 0 ≤ ((c.toNat : Nat) : Int) := by omega
      obtain ⟨m, hm⟩ : ∃ m : Nat, m = c.toNat % 128 := ⟨_, rfl⟩
      have e1 : Go.bits .and .u8 ((c.toNat : Nat) : Int) 127 = (m : Int) := by
        have h := bits_mask .u8 8 (by decide) wraps_u8 7 (by decide) ((c.toNat : Nat) : Int) (by omega) (by simp; omega)
        rw [show ((2 : Int) ^ 7 - 1) = 127 from by decide] at h
        rw [h, hm]; omega
      have hm1 : m < 128 := by omega
      have HM := Lib.hid hm
      clear hm
      have hc128 : 128 ≤ c.toNat ∨ ((m : Int) = ((c.toNat : Nat) : Int)) := by have := HM.out; omega
      by_cases h91 : i = 9 ∧ 1 < c.toNat
      · have hE : Hid (t = (0, 0, 8)) := Lib.hid (by rw [← hS2.out, scanL, if_pos h91])
        obtain ⟨n0, n1⟩ := eq_bb (a := (i : Int)) (b := 9) (by omega)
        have n2 : decide (1 < ((c.toNat : Nat) : Int)) = true := decide_eq_true (by omega)
        clear h91 hc128
        go_quiet (fail)
        go_wp2
        go_quiet (fail)
        go_wp2
        simp only [Exit.jump]
        refine bodyPost_ret (v := .tuple #[.int .u64 0, .int .i64 0, .int .i64 8]) (by simp [results, Try.results30, go_sem]) rfl ?_
        exact ⟨by rw [hE.out]; rfl, by repeat (first | exact Drew.refl _ | apply Drew.step)⟩
      · have hm9 : i = 9 → m ≤ 1 := fun h => by have := HM.out; omega
        obtain ⟨M, N', e2, e3, hN', hN2⟩ := scan_words N m i hN.out hm1 hi9 hm9
        have HN' := Lib.hid hN'
        have HN2 := Lib.hid hN2
        clear hN' hN2 hm9
        have hg : Hid (¬ (i = 9 ∧ 1 < c.toNat)) := Lib.hid h91
        have hguard : (((i : Int) == 9) && decide (1 < ((c.toNat : Nat) : Int))) = false := by
          have := hg.out
          by_cases h : (i : Int) = 9
          · have : ¬ (1 < ((c.toNat : Nat) : Int)) := fun h2 => this ⟨by omega, by omega⟩
            simp [this]
          · simp [h]
        clear h91
        by_cases h128 : 128 ≤ c.toNat
        · have hi8 : i ≤ 8 := by
            have := hg.out
            rcases Nat.lt_or_ge i 9 with h | h
            · omega
            · exact absurd ⟨by omega, by omega⟩ this
          have hS3 : Hid (scanL (r.rest.drop (i + 1)) (i + 1) N' = t) := Lib.hid (by
            rw [← hS2.out, scanL, if_neg hg.out, if_pos h128, HN'.out, HM.out])
          obtain ⟨n0, n1⟩ := ne_bb (a := (i : Int)) (b := 9) (by omega)
          clear hguard hc128
          go_quiet (fail)
          go_wp2
          go_quiet (fail)
          go_wp2
          go_step3
          exact ⟨rfl, ⟨N', i + 1, _, _, _, _, _, _, _, _, _, _, _, _, _, _, _, _, _, _, _, _, _, _, _, _, _, _, _, _, _, _, _, _, _, _, _, _, _, _, _, _, _, _, _, _, _, _, _, _, _, _, _, _, _, _, _, rfl, by repeat (first | exact Drew.refl _ | apply Drew.step), by omega, HN2, hS3, by omega⟩, by simp [intOf]; omega⟩
        · have hw4 : IntKind.i64.wrap ((r.at_ : Int) + ((i : Int) + 1)) = (r.at_ : Int) + ((i : Int) + 1) := IntWalk.i64_in _ (by omega)
          by_cases hz : c.toNat = 0 ∧ 0 < i
          · have hE : Hid (t = (0, 0, 4)) := Lib.hid (by rw [← hS2.out, scanL, if_neg hg.out, if_neg h128, if_pos hz])
            obtain ⟨hz1, hz2⟩ := hz
            obtain ⟨z0, z1⟩ := eq_bb (a := ((c.toNat : Nat) : Int)) (b := 0) (by omega)
            have z2 : decide (1 < (i : Int) + 1) = true := decide_eq_true (by omega)
            clear hz1 hc128
            by_cases h9 : i = 9
            · obtain ⟨n0, n1⟩ := eq_bb (a := (i : Int)) (b := 9) (by omega)
              have n2 : decide (1 < ((c.toNat : Nat) : Int)) = false := decide_eq_false (fun h => hg.out ⟨h9, by omega⟩)
              clear h9 hguard
              go_quiet (fail)
              go_wp2
              go_quiet (fail)
              go_wp2
              simp only [Exit.jump]
              refine bodyPost_ret (v := .tuple #[.int .u64 0, .int .i64 0, .int .i64 4]) (by simp [results, Try.results30, go_sem]) rfl ?_
              exact ⟨by rw [hE.out]; rfl, by repeat (first | exact Drew.refl _ | apply Drew.step)⟩
            · obtain ⟨n0, n1⟩ := ne_bb (a := (i : Int)) (b := 9) (by omega)
              clear h9 hguard
              go_quiet (fail)
              go_wp2
              go_quiet (fail)
              go_wp2
              simp only [Exit.jump]
              refine bodyPost_ret (v := .tuple #[.int .u64 0, .int .i64 0, .int .i64 4]) (by simp [results, Try.results30, go_sem]) rfl ?_
              exact ⟨by rw [hE.out]; rfl, by repeat (first | exact Drew.refl _ | apply Drew.step)⟩
          · have hE : Hid (t = (N', i + 1, 0)) := Lib.hid (by rw [← hS2.out, scanL, if_neg hg.out, if_neg h128, if_neg hz, HN'.out, HM.out])
            have HZ := Lib.hid hz
            clear hz hc128
            by_cases hcz : c.toNat = 0
            · obtain ⟨z0, z1⟩ := eq_bb (a := ((c.toNat : Nat) : Int)) (b := 0) (by omega)
              have hi0 : i ≤ 0 := by
                have := HZ.out
                rcases Nat.eq_zero_or_pos i with h | h
                · omega
                · exact absurd ⟨hcz, h⟩ this
              obtain ⟨n0, n1⟩ := ne_bb (a := (i : Int)) (b := 9) (by omega)
              have z2 : decide (1 < (i : Int) + 1) = false := decide_eq_false (by omega)
              clear hcz hguard
              go_quiet (fail)
              go_wp2
              go_quiet (fail)
              go_wp2
              go_quiet (fail)
              go_wp2
              simp only [Exit.jump]
              refine bodyPost_ret (v := .tuple #[.int .u64 (N' : Int), .int .i64 ((r.at_ : Int) + ((i : Int) + 1)), .int .i64 0]) (by simp [results, Try.results30, go_sem]) rfl ?_
              exact ⟨by rw [hE.out]; simp, by repeat (first | exact Drew.refl _ | apply Drew.step)⟩
            · obtain ⟨z0, z1⟩ := ne_bb (a := ((c.toNat : Nat) : Int)) (b := 0) (by omega)
              clear hcz
              by_cases h9 : i = 9
              · obtain ⟨n0, n1⟩ := eq_bb (a := (i : Int)) (b := 9) (by omega)
                have n2 : decide (1 < ((c.toNat : Nat) : Int)) = false := decide_eq_false (fun h => hg.out ⟨h9, by omega⟩)
                clear h9 hguard
                go_quiet (fail)
                go_wp2
                go_quiet (fail)
                go_wp2
                go_quiet (fail)
                go_wp2
                simp only [Exit.jump]
                refine bodyPost_ret (v := .tuple #[.int .u64 (N' : Int), .int .i64 ((r.at_ : Int) + ((i : Int) + 1)), .int .i64 0]) (by simp [results, Try.results30, go_sem]) rfl ?_
                exact ⟨by rw [hE.out]; simp, by repeat (first | exact Drew.refl _ | apply Drew.step)⟩
              · obtain ⟨n0, n1⟩ := ne_bb (a := (i : Int)) (b := 9) (by omega)
                clear h9 hguard
                go_quiet (fail)
                go_wp2
                go_quiet (fail)
                go_wp2
                go_quiet (fail)
                go_wp2
                simp only [Exit.jump]
                refine bodyPost_ret (v := .tuple #[.int .u64 (N' : Int), .int .i64 ((r.at_ : Int) + ((i : Int) + 1)), .int .i64 0]) (by simp [results, Try.results30, go_sem]) rfl ?_
                exact ⟨by rw [hE.out]; simp, by repeat (first | exact Drew.refl _ | apply Drew.step)⟩
  · intro hgo
    go_wp2
    go_step3
    rename_i hK
    refine hK _ _ (hgo _ _ ?_)
    exact ⟨0, 0, _, _, _, _, _, _, _, _, _, _, _, _, _, _, _, _, _, _, _, _, _, _, _, _, _, _, _, _, _, _, _, _, _, _, _, _, _, _, _, _, _, _, _, _, _, _, _, _, _, _, _, _, _, _, _, rfl, Drew.refl _, by omega, Lib.hid (by decide), Lib.hid HT.out.symm, hk'⟩

end Go.Proofs.Ythhgijjdddcchaa
