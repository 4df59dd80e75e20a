/-
  The document's reader by contract.
-/
import Derived.Test.YtomhjbbggegfdaaRdText
namespace Go.Proofs.Ytomhjbbggegfdaa
open Go.RowKit
set_option linter.unusedVariables false
set_option linter.unusedSimpArgs false

abbrev QR : TypeId := 38

set_option maxHeartbeats 1000000 in
theorem q_fail (b : Nat) (r : RS) (x : Int) (w : World) (h : RdAt QR w b r) :
    Calls Try.prog 30 #[.pointer (some ⟨b, 0, none⟩), .int .i64 x] w fun e w' => e = .returned (.tuple #[]) ∧ RdAt QR w' b (r.fail x) ∧ Chg b w w' := by
  have h2 := h.c2
  have hf := h.fz 2
  have H := Lib.hid h
  by_cases hz : r.e = 0
  · obtain ⟨z0, z1⟩ := eq_bb hz
    have E : Hid (r.fail x = ⟨r.s, r.at_, x⟩) := Lib.hid (by unfold RS.fail; rw [if_pos hz])
    clear hz h
    go_enter Try.func30, Try.ntmps30
    go_wp2
    go_end0
    refine ⟨rfl, ?_, ?_⟩
    · rw [E.out]; exact H.out.set2 x
    · exact (Chg.refl b w).setCell 2 _
  · obtain ⟨z0, z1⟩ := ne_bb hz
    have E : Hid (r.fail x = r) := Lib.hid (by unfold RS.fail; rw [if_neg hz])
    clear hz h
    go_enter Try.func30, Try.ntmps30
    go_wp2
    go_end0
    refine ⟨rfl, ?_, ?_⟩
    · rw [E.out]; exact H.out
    · exact Chg.refl b w

set_option maxHeartbeats 2000000 in
theorem q_take (b : Nat) (r : RS) (n : Int) (w : World) (h : RdAt QR w b r) (hk : r.ok) (hs : r.s.size ≤ 140737488351232) :
    Calls Try.prog 28 #[.pointer (some ⟨b, 0, none⟩), .int .i64 n] w fun e w' => e = .returned (.string (r.take n).1) ∧ RdAt QR w' b (r.take n).2 ∧ Chg b w w' := by
  have H := Lib.hid h
  have hk' : r.at_ ≤ r.s.size := hk
  clear hk
  have c0 := h.c0
  have c1 := h.c1
  have c2 := h.c2
  have f1 := h.fz 1
  have f2 := h.fz 2
  by_cases hz : r.e = 0
  · obtain ⟨z0, z1⟩ := eq_bb hz
    have hw : IntKind.i64.wrap ((r.s.size : Int) - (r.at_ : Int)) = (r.s.size : Int) - (r.at_ : Int) := IntWalk.i64_in _ (by omega)
    by_cases hn : n < 0
    · have E : Hid (r.take n = (str [], ⟨r.s, r.at_, 3⟩)) := Lib.hid (by unfold RS.take; rw [if_neg (by simp [hz]), if_pos (.inl hn)])
      have hd : decide (n < 0) = true := decide_eq_true hn
      clear hz h
      go_enter Try.func28, Try.ntmps28
      go_wp2
      go_quiet (fail)
      go_wp2
      go_ret
      refine ⟨?_, ?_, ?_⟩
      · rw [E.out]; rfl
      · rw [E.out]; exact (H.out.drewN _).set2 3
      · exact ((Chg.refl b w).drewN _).setCell 2 _
    · have hd : decide (n < 0) = false := decide_eq_false hn
      by_cases hl : (r.s.size : Int) - r.at_ < n
      · have E : Hid (r.take n = (str [], ⟨r.s, r.at_, 3⟩)) := Lib.hid (by unfold RS.take; rw [if_neg (by simp [hz]), if_pos (.inr hl)])
        have hd2 : decide ((r.s.size : Int) - r.at_ < n) = true := decide_eq_true hl
        clear hz h
        go_enter Try.func28, Try.ntmps28
        go_wp2
        go_quiet (fail)
        go_wp2
        go_ret
        refine ⟨?_, ?_, ?_⟩
        · rw [E.out]; rfl
        · rw [E.out]; exact (H.out.drewN _).set2 3
        · exact ((Chg.refl b w).drewN _).setCell 2 _
      · have E : Hid (r.take n = (r.s.extract r.at_ (r.at_ + n.toNat), ⟨r.s, r.at_ + n.toNat, 0⟩)) := Lib.hid (by unfold RS.take; rw [if_neg (by simp [hz]), if_neg (by omega)])
        have hd2 : decide ((r.s.size : Int) - r.at_ < n) = false := decide_eq_false hl
        obtain ⟨m, rfl⟩ := Int.eq_ofNat_of_zero_le (show 0 ≤ n by omega)
        have HZ := Lib.hid hz
        have hw2 : IntKind.i64.wrap ((r.at_ : Int) + (m : Int)) = (r.at_ : Int) + (m : Int) := IntWalk.i64_in _ (by omega)
        have hsum : ((r.at_ : Int) + (m : Int)).toNat = r.at_ + m := by omega
        have hp : 0 ≤ (r.at_ : Int) + (m : Int) := by omega
        clear hz h
        go_enter Try.func28, Try.ntmps28
        go_wp2
        go_quiet (fail)
        go_wp2
        go_quiet (fail)
        go_wp2
        go_ret
        refine ⟨?_, ?_, ?_⟩
        · rw [E.out]; rfl
        · rw [E.out]; refine ((H.out.drewN _).set1 (r.at_ + m) _ (by omega)).to ?_; rw [HZ.out]; rfl
        · exact ((Chg.refl b w).drewN _).setCell 1 _
  · obtain ⟨z0, z1⟩ := ne_bb hz
    have E : Hid (r.take n = (str [], r)) := Lib.hid (by unfold RS.take; rw [if_pos hz])
    clear hz h
    go_enter Try.func28, Try.ntmps28
    go_wp2
    go_ret
    refine ⟨?_, ?_, ?_⟩
    · rw [E.out]; rfl
    · rw [E.out]; exact H.out
    · exact Chg.refl b w

set_option maxHeartbeats 1000000 in
theorem q_end (b : Nat) (r : RS) (w : World) (h : RdAt QR w b r) :
    Calls Try.prog 32 #[.pointer (some ⟨b, 0, none⟩)] w fun e w' => e = .returned (.int .i64 r.end_) ∧ Drew w w' := by
  have c0 := h.c0
  have c1 := h.c1
  have c2 := h.c2
  by_cases hz : r.e = 0
  · obtain ⟨z0, z1⟩ := eq_bb hz
    have hz' := Lib.hid hz
    by_cases hl : r.at_ < r.s.size
    · have E : Hid (r.end_ = 4) := Lib.hid (by unfold RS.end_; rw [if_neg (by simp [hz]), if_pos hl])
      have d : decide ((r.at_ : Int) < (r.s.size : Int)) = true := decide_eq_true (by omega)
      clear h hz
      go_enter Try.func32, Try.ntmps32
      go_wp2
      go_quiet (fail)
      go_wp2
      go_ret
      exact ⟨by rw [E.out]; rfl, by repeat (first | exact Drew.refl _ | apply Drew.step)⟩
    · have E : Hid (r.end_ = r.e) := Lib.hid (by unfold RS.end_; rw [if_neg (by simp [hz]), if_neg hl, hz])
      have d : decide ((r.at_ : Int) < (r.s.size : Int)) = false := decide_eq_false (by omega)
      clear h hz
      go_enter Try.func32, Try.ntmps32
      go_wp2
      go_quiet (fail)
      go_wp2
      go_ret
      exact ⟨by rw [E.out]; rfl, by repeat (first | exact Drew.refl _ | apply Drew.step)⟩
  · obtain ⟨z0, z1⟩ := ne_bb hz
    have E : Hid (r.end_ = r.e) := Lib.hid (by unfold RS.end_; rw [if_pos hz])
    clear h hz
    go_enter Try.func32, Try.ntmps32
    go_wp2
    go_quiet (fail)
    go_wp2
    go_ret
    exact ⟨by rw [E.out]; rfl, by repeat (first | exact Drew.refl _ | apply Drew.step)⟩

end Go.Proofs.Ytomhjbbggegfdaa
