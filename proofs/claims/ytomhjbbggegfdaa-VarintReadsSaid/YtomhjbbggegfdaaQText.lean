/-
  The document's reader of signed numbers, texts, numbers of so many bytes by contract.
-/
import Derived.Test.YtomhjbbggegfdaaQNum
namespace Go.Proofs.Ytomhjbbggegfdaa
open Go.RowKit
set_option linter.unusedVariables false
set_option linter.unusedSimpArgs false

set_option maxHeartbeats 1000000 in
theorem q_signed (b : Nat) (r : RS) (w : World) (h : RdAt QR w b r) (hk : r.ok) (hs : r.s.size ≤ 140737488351232) :
    Calls Try.prog 21 #[.pointer (some ⟨b, 0, none⟩)] w fun e w' => e = .returned (.int .i64 r.signed.1) ∧ RdAt QR w' b r.signed.2 ∧ Chg b w w' := by
  have H := Lib.hid h
  have HK := Lib.hid hk
  obtain ⟨n, hn⟩ : ∃ n, n = r.num.1 := ⟨_, rfl⟩
  have hlt : n < 18446744073709551616 := by rw [hn]; exact r.num_lt
  have HN := Lib.hid hn
  have hw1 : IntKind.i64.wrap ((n : Int) / 2) = (n : Int) / 2 := IntWalk.i64_in _ (by omega)
  have hw2 : IntKind.i64.wrap (-((n : Int) / 2)) = -((n : Int) / 2) := IntWalk.i64_in _ (by omega)
  rcases Nat.mod_two_eq_zero_or_one n with hp | hp
  · have e1 : (n : Int) % 2 = 0 := by omega
    have E : Hid (r.signed.1 = (n : Int) / 2) := Lib.hid (by unfold RS.signed unzz; rw [← hn, if_neg (by omega)]; simp)
    clear h hk hn hp
    go_enter Try.func21, Try.ntmps21
    go_wp2_with (go_at_call 34; refine (q_num b r _ H.out HK.out hs).mono ?_; rw [← HN.out]; rintro e w1 ⟨rfl, hR, hC⟩)
    go_ret
    exact ⟨by rw [E.out]; rfl, hR, hC⟩
  · have e1 : (n : Int) % 2 = 1 := by omega
    have E : Hid (r.signed.1 = -((n : Int) / 2) - 1) := Lib.hid (by unfold RS.signed unzz; rw [← hn, if_pos hp]; simp)
    clear h hk hn hp
    go_enter Try.func21, Try.ntmps21
    go_wp2_with (go_at_call 34; refine (q_num b r _ H.out HK.out hs).mono ?_; rw [← HN.out]; rintro e w1 ⟨rfl, hR, hC⟩)
    go_ret
    exact ⟨by rw [E.out]; rfl, hR, hC⟩

set_option maxHeartbeats 1000000 in
theorem q_text (b : Nat) (r : RS) (most : Int) (w : World) (h : RdAt QR w b r) (hk : r.ok) (hs : r.s.size ≤ 140737488351232) (m0 : -9223372036854775808 ≤ most) (m1 : most ≤ 9223372036854775807) :
    Calls Try.prog 23 #[.pointer (some ⟨b, 0, none⟩), .int .i64 most] w fun e w' => e = .returned (.string (r.text most).1) ∧ RdAt QR w' b (r.text most).2 ∧ Chg b w w' := by
  have H := Lib.hid h
  have HK := Lib.hid hk
  obtain ⟨n, hn⟩ : ∃ n, n = r.num.1 := ⟨_, rfl⟩
  have hlt : n < 18446744073709551616 := by rw [hn]; exact r.num_lt
  have HN := Lib.hid hn
  obtain ⟨q, hq⟩ : ∃ q, q = r.num.2 := ⟨_, rfl⟩
  have HQ := Lib.hid hq
  have QK : Hid q.ok := Lib.hid (by rw [hq]; exact r.num_ok hk)
  have QS : Hid (q.s.size ≤ 140737488351232) := Lib.hid (by rw [hq, r.num_s]; exact hs)
  by_cases hm : most < 0
  · by_cases hn0 : 0 < (n : Int)
    · have E : Hid (r.text most = (str [], q.fail 5)) := Lib.hid (by unfold RS.text; rw [← hn, ← hq, if_pos (by omega)])
      have hn2 : 0 < n := by omega
      clear h hk hn hq
      go_enter Try.func23, Try.ntmps23
      go_wp2_with (first | (go_at_call 34; refine (q_num b r _ H.out HK.out hs).mono ?_; rw [← HN.out, ← HQ.out]; rintro e w1 ⟨rfl, hR, hC⟩) | (go_at_call 30; refine (q_fail b q 5 _ hR).mono ?_; rintro e w2 ⟨rfl, hR2, hC2⟩))
      go_ret
      exact ⟨by rw [E.out]; rfl, by rw [E.out]; exact hR2, hC.trans hC2⟩
    · have E : Hid (r.text most = q.take (n : Int)) := Lib.hid (by unfold RS.text; rw [← hn, ← hq, if_neg (by omega)])
      have hn2 : ¬ 0 < n := by omega
      have hn3 : IntKind.i64.wrap (n : Int) = n := IntWalk.i64_in _ (by omega)
      clear h hk hn hq
      go_enter Try.func23, Try.ntmps23
      go_wp2_with (first | (go_at_call 34; refine (q_num b r _ H.out HK.out hs).mono ?_; rw [← HN.out, ← HQ.out]; rintro e w1 ⟨rfl, hR, hC⟩) | (go_at_call 28; refine (q_take b q (n : Int) _ hR QK.out QS.out).mono ?_; rintro e w2 ⟨rfl, hR2, hC2⟩))
      go_ret
      exact ⟨by rw [E.out]; rfl, by rw [E.out]; exact hR2, hC.trans hC2⟩
  · have hm3 : IntKind.u64.wrap most = most := by rw [wrap_u64]; omega
    by_cases hn0 : most < (n : Int)
    · have E : Hid (r.text most = (str [], q.fail 5)) := Lib.hid (by unfold RS.text; rw [← hn, ← hq, if_pos (by omega)])
      clear h hk hn hq
      go_enter Try.func23, Try.ntmps23
      go_wp2_with (first | (go_at_call 34; refine (q_num b r _ H.out HK.out hs).mono ?_; rw [← HN.out, ← HQ.out]; rintro e w1 ⟨rfl, hR, hC⟩) | (go_at_call 30; refine (q_fail b q 5 _ hR).mono ?_; rintro e w2 ⟨rfl, hR2, hC2⟩))
      go_ret
      exact ⟨by rw [E.out]; rfl, by rw [E.out]; exact hR2, hC.trans hC2⟩
    · have E : Hid (r.text most = q.take (n : Int)) := Lib.hid (by unfold RS.text; rw [← hn, ← hq, if_neg (by omega)])
      have hn3 : IntKind.i64.wrap (n : Int) = n := IntWalk.i64_in _ (by omega)
      clear h hk hn hq
      go_enter Try.func23, Try.ntmps23
      go_wp2_with (first | (go_at_call 34; refine (q_num b r _ H.out HK.out hs).mono ?_; rw [← HN.out, ← HQ.out]; rintro e w1 ⟨rfl, hR, hC⟩) | (go_at_call 28; refine (q_take b q (n : Int) _ hR QK.out QS.out).mono ?_; rintro e w2 ⟨rfl, hR2, hC2⟩))
      go_ret
      exact ⟨by rw [E.out]; rfl, by rw [E.out]; exact hR2, hC.trans hC2⟩

set_option maxHeartbeats 1000000 in
theorem q_little (b : Nat) (r : RS) (k : Nat) (w : World) (h : RdAt QR w b r) (hk : r.ok) (hs : r.s.size ≤ 140737488351232) (h8 : k ≤ 8) :
    Calls Try.prog 25 #[.pointer (some ⟨b, 0, none⟩), .int .i64 (k : Int)] w fun e w' => e = .returned (.int .u64 ((r.little k).1 : Int)) ∧ RdAt QR w' b (r.little k).2 ∧ Chg b w w' := by
  have H := Lib.hid h
  have HK := Lib.hid hk
  obtain ⟨s, hs1⟩ : ∃ s, s = (r.take (k : Int)).1 := ⟨_, rfl⟩
  have hsz : s.size ≤ 8 := by rw [hs1]; have := r.take_size (k : Int); omega
  have HS := Lib.hid hs1
  obtain ⟨t, ht⟩ : ∃ t, t = (r.little k).1 := ⟨_, rfl⟩
  have HT : Hid (t = leN s.data.toList) := Lib.hid (by rw [ht, hs1]; rfl)
  obtain ⟨q, hq⟩ : ∃ q, q = (r.little k).2 := ⟨_, rfl⟩
  have HQ : Hid (q = (r.take (k : Int)).2) := Lib.hid (by rw [hq]; rfl)
  rw [← ht, ← hq]
  clear h hk hs1 ht hq
  go_enter Try.func25, Try.ntmps25
  go_wp2_with (go_at_call 28; refine (q_take b r (k : Int) _ H.out HK.out hs).mono ?_; rw [← HS.out, ← HQ.out]; rintro e w1 ⟨rfl, hR, hC⟩)
  have HR := Lib.hid hR
  have HC := Lib.hid hC
  clear hR hC
  go_loopw [6, 7] (fun v6 v7 wr => ∃ (i N : Nat), i ≤ s.size ∧ v7 = .int .i64 ((i : Int) - 1) ∧ v6 = .int .u64 (N : Int) ∧ Hid (N = leN (s.data.toList.drop i)) ∧ Drew w1 wr) (fun _ v _ => (intOf v + 1).toNat)
  case atStart => exact ⟨s.size, 0, Nat.le_refl _, rfl, rfl, Lib.hid (by rw [List.drop_of_length_le (by rw [Array.length_toList]; exact Nat.le_refl _)]; rfl), Drew.refl _⟩
  case round =>
    obtain ⟨i, N, hi, rfl, rfl, HN, ⟨⟨d, rfl⟩⟩⟩ := hrel
    rcases Nat.eq_zero_or_pos i with h0 | h0
    · subst h0
      have E : Hid (N = t) := Lib.hid (by rw [HN.out, HT.out]; rfl)
      go_wp2
      go_ret
      exact ⟨by rw [E.out]; rfl, HR.out.drewN d, HC.out.drewN d⟩
    · obtain ⟨j, rfl⟩ : ∃ j, i = j + 1 := ⟨i - 1, by omega⟩
      have hlt : j < s.size := by omega
      have hl : j < s.data.toList.length := by rw [Array.length_toList]; exact hlt
      obtain ⟨c, hc⟩ : ∃ c, s[j] = c := ⟨_, rfl⟩
      have hdr : Hid (s.data.toList.drop j = c :: s.data.toList.drop (j + 1)) := Lib.hid (by rw [List.drop_eq_getElem_cons hl, ← hc]; rfl)
      have hc1 := c.toNat_lt
      have hc2 : 0 ≤ ((c.toNat : Nat) : Int) := by omega
      have hN : N < 72057594037927936 := by
        have h := leN_lt (s.data.toList.drop (j + 1))
        rw [← HN.out, List.length_drop] at h
        have h1 : 256 ^ (s.data.toList.length - (j + 1)) ≤ 256 ^ 7 := Nat.pow_le_pow_right (by omega) (by rw [Array.length_toList]; have : s.data.size = s.size := rfl; omega)
        have e : (256 : Nat) ^ 7 = 72057594037927936 := by decide
        omega
      have E3 : Hid (N * 256 + c.toNat = leN (s.data.toList.drop j)) := Lib.hid (by rw [hdr.out, leN, ← HN.out]; omega)
      have hj : ((j + 1 : Nat) : Int) - 1 = (j : Int) := by omega
      rw [hj]
      clear hj
      go_wp2
      go_roundw
      case rel => exact ⟨j, N * 256 + c.toNat, by omega, by go_num, by first | rfl | (simp; done) | (congr 1; omega), E3, by repeat (first | exact Drew.refl _ | apply Drew.step)⟩
      case measure => first | (simp [intOf]; done) | (simp [intOf]; omega)

end Go.Proofs.Ytomhjbbggegfdaa
