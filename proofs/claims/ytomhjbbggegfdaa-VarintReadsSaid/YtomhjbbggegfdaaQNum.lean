/-
  The document's reader of numbers by contract.
-/
import Derived.Test.YtomhjbbggegfdaaQRd
namespace Go.Proofs.Ytomhjbbggegfdaa
open Go.RowKit
set_option linter.unusedVariables false
set_option linter.unusedSimpArgs false

/-- what a byte adds, in the document's words -/
theorem q_words (N m i : Nat) (hN : N < 128 ^ i) (hm : m < 128) (hi : i ≤ 9) (h9 : i = 9 → m ≤ 1) :
    ∃ M N' : Nat, IntKind.u64.wrap (((128 ^ i : Nat) : Int) * (m : Int)) = (M : Int) ∧ IntKind.u64.wrap ((N : Int) + (M : Int)) = (N' : Int) ∧ N' = N + m * 128 ^ i ∧ N' < 128 ^ (i + 1) ∧ M < 18446744073709551616 ∧ N < 18446744073709551616 ∧ N + M < 18446744073709551616 := by
  have hb : m * 128 ^ i < 18446744073709551616 ∧ 128 ^ i ≤ 9223372036854775808 ∧ N + m * 128 ^ i < 18446744073709551616 := by
    rcases Nat.lt_or_ge i 9 with h | h
    · have h1 : 128 ^ i ≤ 128 ^ 8 := Nat.pow_le_pow_right (by omega) (by omega)
      have e : (128 : Nat) ^ 8 = 72057594037927936 := by decide
      have h2 : m * 128 ^ i ≤ 127 * 128 ^ 8 := Nat.mul_le_mul (by omega) h1
      omega
    · obtain rfl : i = 9 := by omega
      have e : (128 : Nat) ^ 9 = 9223372036854775808 := by decide
      have h2 : m * 128 ^ 9 ≤ 1 * 128 ^ 9 := Nat.mul_le_mul_right _ (h9 rfl)
      omega
  refine ⟨m * 128 ^ i, N + m * 128 ^ i, ?_, ?_, rfl, ?_, by omega, by omega, by omega⟩
  · rw [wrap_u64, ← Int.natCast_mul, Nat.mul_comm]; omega
  · rw [wrap_u64]; omega
  · have h3 : m * 128 ^ i ≤ 127 * 128 ^ i := Nat.mul_le_mul_right _ (by omega)
    rw [Nat.pow_succ]; omega

set_option maxRecDepth 100000 in
set_option maxHeartbeats 4000000 in
theorem q_num (b : Nat) (r : RS) (w : World) (h : RdAt QR w b r) (hk : r.ok) (hs : r.s.size ≤ 140737488351232) :
    Calls Try.prog 34 #[.pointer (some ⟨b, 0, none⟩)] w fun e w' => e = .returned (.int .u64 (r.num.1 : Int)) ∧ RdAt QR w' b r.num.2 ∧ Chg b w w' := by
  have H := Lib.hid h
  have hk' : r.at_ ≤ r.s.size := hk
  have c0 := h.c0
  have c1 := h.c1
  have c2 := h.c2
  have f1 := h.fz 1
  have f2 := h.fz 2
  by_cases hz : r.e = 0
  · obtain ⟨z0, z1⟩ := eq_bb hz
    have HZ := Lib.hid hz
    obtain ⟨t, ht⟩ : ∃ t, t = scanL r.rest 0 0 := ⟨_, rfl⟩
    have E : Hid (r.num = if t.2.2 = 0 then (t.1, ⟨r.s, r.at_ + t.2.1, 0⟩) else (0, ⟨r.s, r.at_, t.2.2⟩)) := Lib.hid (by unfold RS.num; rw [if_neg (by simp [hz]), ← ht])
    obtain ⟨rn, hrn⟩ : ∃ x, x = r.num := ⟨_, rfl⟩
    rw [← hrn]
    have E' : Hid (rn = if t.2.2 = 0 then (t.1, ⟨r.s, r.at_ + t.2.1, 0⟩) else (0, ⟨r.s, r.at_, t.2.2⟩)) := Lib.hid (by rw [hrn, E.out])
    have HT := Lib.hid ht
    clear hz h hk ht E hrn
    go_enter Try.func34, Try.ntmps34
    go_wp2
    go_loopw [3, 4, 5] (fun v3 v4 v5 wr => ∃ (N i U : Nat), v3 = .int .u64 (N : Int) ∧ v4 = .int .u64 (U : Int) ∧ v5 = .int .i64 (i : Int) ∧ i ≤ 9 ∧ Hid (U = 128 ^ i) ∧ Hid (N < 128 ^ i) ∧ Hid (scanL (r.rest.drop i) i N = t) ∧ r.at_ + i ≤ r.s.size ∧ Drew w wr) (fun _ _ v _ => 10 - (intOf v).toNat)
    case atStart => exact ⟨0, 0, 1, rfl, rfl, rfl, by omega, Lib.hid rfl, Lib.hid (by decide), Lib.hid HT.out.symm, hk', Drew.refl _⟩
    case round =>
      obtain ⟨N, i, U, rfl, rfl, rfl, hi9, HU, hN, hS, hle, ⟨⟨d, rfl⟩⟩⟩ := hrel
      have hw1 : IntKind.i64.wrap ((r.at_ : Int) + (i : Int)) = (r.at_ : Int) + (i : Int) := IntWalk.i64_in _ (by omega)
      have hw2 : ((r.at_ : Int) + (i : Int)).toNat = r.at_ + i := by omega
      have hw3 : 0 ≤ (r.at_ : Int) + (i : Int) := by omega
      go_wp2
      by_cases hend : r.s.size ≤ r.at_ + i
      · have hE : Hid (rn = (0, ⟨r.s, r.at_, 3⟩)) := Lib.hid (by rw [E'.out, ← hS.out, rest_none r i hend, scanL]; rfl)
        have hd : decide ((r.s.size : Int) ≤ (r.at_ : Int) + (i : Int)) = true := decide_eq_true (by omega)
        go_quiet (fail)
        go_wp2
        go_ret
        refine ⟨by rw [hE.out]; rfl, ?_, ?_⟩
        · rw [hE.out]; exact (H.out.drewN _).set2 3
        · exact ((Chg.refl b w).drewN _).setCell 2 _
      · have hin : r.at_ + i < r.s.size := by omega
        have hd : decide ((r.s.size : Int) ≤ (r.at_ : Int) + (i : Int)) = false := decide_eq_false (by omega)
        obtain ⟨c, hc⟩ : ∃ c, r.s[r.at_ + i] = c := ⟨_, rfl⟩
        have hS2 : Hid (scanL (c :: r.rest.drop (i + 1)) i N = t) := Lib.hid (by rw [← hS.out, rest_some r i hin, hc])
        have hc256 : c.toNat < 256 := c.toNat_lt
        have hc0 : 0 ≤ ((c.toNat : Nat) : Int) := by omega
        by_cases h91 : i = 9 ∧ 1 < c.toNat
        · have hE : Hid (rn = (0, ⟨r.s, r.at_, 8⟩)) := Lib.hid (by rw [E'.out, ← hS2.out, scanL, if_pos h91]; rfl)
          obtain ⟨n0, n1⟩ := eq_bb (a := (i : Int)) (b := 9) (by omega)
          have n2 : decide (1 < ((c.toNat : Nat) : Int)) = true := decide_eq_true (by omega)
          clear h91
          go_quiet (fail)
          go_wp2
          go_quiet (fail)
          go_wp2
          go_ret
          refine ⟨by rw [hE.out]; rfl, ?_, ?_⟩
          · rw [hE.out]; exact (H.out.drewN _).set2 8
          · exact ((Chg.refl b w).drewN _).setCell 2 _
        · obtain ⟨m, hm⟩ : ∃ m : Nat, m = c.toNat % 128 := ⟨_, rfl⟩
          have e1 : ((c.toNat : Nat) : Int) % 128 = (m : Int) := by omega
          have HM := Lib.hid hm
          have hm1 : m < 128 := by omega
          clear hm
          have hm9 : i = 9 → m ≤ 1 := fun h => by have := HM.out; omega
          obtain ⟨M, N', e2, e3, hN', hN2, b1, b2, b3⟩ := q_words N m i hN.out hm1 hi9 hm9
          rw [← HU.out] at e2
          have HN' := Lib.hid hN'
          have HN2 := Lib.hid hN2
          obtain ⟨U', eU⟩ : ∃ u : Nat, IntKind.u64.wrap ((U : Int) * 128) = (u : Int) := by
            refine ⟨(IntKind.u64.wrap ((U : Int) * 128)).toNat, ?_⟩
            rw [wrap_u64]; omega
          have HU' : Hid (i < 9 → U' = 128 ^ (i + 1)) := Lib.hid (fun h9 => by
            have h1 : 128 ^ i ≤ 128 ^ 8 := Nat.pow_le_pow_right (by omega) (by omega)
            have e : (128 : Nat) ^ 8 = 72057594037927936 := by decide
            rw [HU.out, wrap_u64] at eU
            rw [Nat.pow_succ]; omega)
          have hg : Hid (¬ (i = 9 ∧ 1 < c.toNat)) := Lib.hid h91
          have G : (((i : Int) == 9) = true ∧ ((i : Int) != 9) = false ∧ decide (1 < ((c.toNat : Nat) : Int)) = false) ∨ (((i : Int) == 9) = false ∧ ((i : Int) != 9) = true ∧ True) := by
            by_cases h9 : i = 9
            · obtain ⟨n0, n1⟩ := eq_bb (a := (i : Int)) (b := 9) (by omega)
              exact .inl ⟨n0, n1, decide_eq_false (fun h => h91 ⟨h9, by omega⟩)⟩
            · obtain ⟨n0, n1⟩ := ne_bb (a := (i : Int)) (b := 9) (by omega)
              exact .inr ⟨n0, n1, trivial⟩
          clear h91 hN' hN2 hm9
          by_cases h128 : 128 ≤ c.toNat
          · have hi8 : i ≤ 8 := by
              have := hg.out
              rcases Nat.lt_or_ge i 9 with h | h
              · omega
              · exact absurd ⟨by omega, by omega⟩ this
            have hS3 : Hid (scanL (r.rest.drop (i + 1)) (i + 1) N' = t) := Lib.hid (by
              rw [← hS2.out, scanL, if_neg hg.out, if_pos h128, HN'.out, HM.out])
            obtain ⟨n0, n1⟩ := ne_bb (a := (i : Int)) (b := 9) (by omega)
            have hd2 : decide (127 < ((c.toNat : Nat) : Int)) = true := decide_eq_true (by omega)
            clear G
            go_quiet (fail)
            go_wp2
            go_quiet (fail)
            go_wp2
            go_roundw
            case rel => exact ⟨N', i + 1, U', by go_num, by go_num, by go_num, by omega, Lib.hid (HU'.out (by omega)), HN2, hS3, by omega, by repeat (first | exact Drew.refl _ | apply Drew.step)⟩
            case measure => simp [intOf]; omega
          · have hd2 : decide (127 < ((c.toNat : Nat) : Int)) = false := decide_eq_false (by omega)
            by_cases hz : c.toNat = 0 ∧ 0 < i
            · have hE : Hid (rn = (0, ⟨r.s, r.at_, 4⟩)) := Lib.hid (by rw [E'.out, ← hS2.out, scanL, if_neg hg.out, if_neg h128, if_pos hz]; rfl)
              obtain ⟨z3, z4⟩ := eq_bb (a := ((c.toNat : Nat) : Int)) (b := 0) (by omega)
              have z5 : decide (0 < (i : Int)) = true := decide_eq_true (by omega)
              have z6 : 0 < i := by omega
              clear hz
              rcases G with ⟨n0, n1, n2⟩ | ⟨n0, n1, n2⟩ <;>
              · go_quiet (fail)
                go_wp2
                go_quiet (fail)
                go_wp2
                go_ret
                refine ⟨by rw [hE.out]; rfl, ?_, ?_⟩
                · rw [hE.out]; exact (H.out.drewN _).set2 4
                · exact ((Chg.refl b w).drewN _).setCell 2 _
            · have hE : Hid (rn = (N', ⟨r.s, r.at_ + (i + 1), 0⟩)) := Lib.hid (by rw [E'.out, ← hS2.out, scanL, if_neg hg.out, if_neg h128, if_neg hz, HN'.out, HM.out]; rfl)
              have hw4 : IntKind.i64.wrap ((r.at_ : Int) + (i : Int) + 1) = (r.at_ : Int) + (i : Int) + 1 := IntWalk.i64_in _ (by omega)
              have Z : ((((c.toNat : Nat) : Int) == 0) = true ∧ (((c.toNat : Nat) : Int) != 0) = false ∧ ¬ 0 < i) ∨ ((((c.toNat : Nat) : Int) == 0) = false ∧ (((c.toNat : Nat) : Int) != 0) = true ∧ True) := by
                by_cases hc : c.toNat = 0
                · obtain ⟨n0, n1⟩ := eq_bb (a := ((c.toNat : Nat) : Int)) (b := 0) (by omega)
                  exact .inl ⟨n0, n1, fun h => hz ⟨hc, by omega⟩⟩
                · obtain ⟨n0, n1⟩ := ne_bb (a := ((c.toNat : Nat) : Int)) (b := 0) (by omega)
                  exact .inr ⟨n0, n1, trivial⟩
              clear hz
              rcases G with ⟨n0, n1, n2⟩ | ⟨n0, n1, n2⟩ <;> rcases Z with ⟨z3, z4, z5⟩ | ⟨z3, z4, z5⟩ <;>
              · go_quiet (fail)
                go_wp2
                go_quiet (fail)
                go_wp2
                go_ret
                refine ⟨by rw [hE.out]; rfl, ?_, ?_⟩
                · rw [hE.out]; refine ((H.out.drewN _).set1 (r.at_ + (i + 1)) _ (by omega)).to ?_; rw [HZ.out]
                · exact ((Chg.refl b w).drewN _).setCell 1 _
  · obtain ⟨z0, z1⟩ := ne_bb hz
    have E : Hid (r.num = (0, r)) := Lib.hid (by unfold RS.num; rw [if_pos hz])
    clear hz h
    go_enter Try.func34, Try.ntmps34
    go_wp2
    go_ret
    refine ⟨?_, ?_, ?_⟩
    · rw [E.out]; rfl
    · rw [E.out]; exact H.out
    · exact Chg.refl b w

end Go.Proofs.Ytomhjbbggegfdaa
