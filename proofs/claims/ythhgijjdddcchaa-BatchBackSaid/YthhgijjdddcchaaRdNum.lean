/-
  The reader's readers by contract.
-/
import Derived.Test.YthhgijjdddcchaaRdScan
namespace Go.Proofs.Ythhgijjdddcchaa
open Go.RowKit
set_option linter.unusedVariables false
set_option linter.unusedSimpArgs false

set_option maxHeartbeats 2000000 in
theorem rd_num (b : Nat) (r : RS) (w : World) (h : RdAt TR w b r) (hk : r.ok) (hs : r.s.size ≤ 140737488351232) :
    Calls Try.prog 18 #[.pointer (some ⟨b, 0, none⟩)] w fun e w' => e = .returned (.int .u64 (r.num.1 : Int)) ∧ RdAt TR w' b r.num.2 ∧ Chg b w w' := by
  have H := Lib.hid h
  have HK := Lib.hid hk
  have c1 := h.c1
  have c2 := h.c2
  have f1 := h.fz 1
  have f2 := h.fz 2
  by_cases hz : r.e = 0
  · obtain ⟨z0, z1⟩ := eq_bb hz
    have HZ := Lib.hid hz
    obtain ⟨⟨n, k, e⟩, ht⟩ : ∃ t, t = scanL r.rest 0 0 := ⟨_, rfl⟩
    by_cases he : e = 0
    · subst he
      have S : Hid (∀ wx, RdAt TR wx b r → Calls Try.prog 30 #[.pointer (some ⟨b, 0, none⟩)] wx fun e w' => e = .returned (.tuple #[.int .u64 (n : Int), .int .i64 ((r.at_ + k : Nat) : Int), .int .i64 0]) ∧ Drew wx w') := Lib.hid fun wx hx => by
        have h := rd_scan b r wx hx hk hs
        rw [← ht] at h
        exact h
      have E : Hid (r.num = (n, ⟨r.s, r.at_ + k, 0⟩)) := Lib.hid (by unfold RS.num; rw [if_neg (by simp [hz]), ← ht]; rfl)
      clear hz h hk ht
      go_enter Try.func18, Try.ntmps18
      go_wp2_with (first | (go_at_call 29; refine (rd_ok b r _ H.out).mono ?_; rw [z0]; rintro e w' ⟨rfl, ⟨d, rfl⟩⟩) | (go_at_call 30; refine (S.out _ (by exact H.out.drewN _)).mono ?_; rintro e w' ⟨rfl, ⟨d2, rfl⟩⟩))
      go_ret
      refine ⟨?_, ?_, ?_⟩
      · rw [E.out]; rfl
      · rw [E.out]; refine ((H.out.drewN _).set1 (r.at_ + k) _ (by simp)).to ?_; rw [HZ.out]
      · exact ((Chg.refl b w).drewN _).setCell 1 _
    · have S : Hid (∀ wx, RdAt TR wx b r → Calls Try.prog 30 #[.pointer (some ⟨b, 0, none⟩)] wx fun e' w' => e' = .returned (.tuple #[.int .u64 (n : Int), .int .i64 0, .int .i64 e]) ∧ Drew wx w') := Lib.hid fun wx hx => by
        have h := rd_scan b r wx hx hk hs
        rw [← ht] at h
        simp only [he, if_false] at h
        exact h
      have E : Hid (r.num = (0, ⟨r.s, r.at_, e⟩)) := Lib.hid (by unfold RS.num; rw [if_neg (by simp [hz]), ← ht, if_neg he])
      obtain ⟨e0, e1⟩ := ne_bb he
      clear hz h hk ht he
      go_enter Try.func18, Try.ntmps18
      go_wp2_with (first | (go_at_call 29; refine (rd_ok b r _ H.out).mono ?_; rw [z0]; rintro e w' ⟨rfl, ⟨d, rfl⟩⟩) | (go_at_call 30; refine (S.out _ (by exact H.out.drewN _)).mono ?_; rintro e w' ⟨rfl, ⟨d2, rfl⟩⟩))
      go_ret
      refine ⟨?_, ?_, ?_⟩
      · rw [E.out]; rfl
      · rw [E.out]; exact (H.out.drewN _).set2 e
      · exact ((Chg.refl b w).drewN _).setCell 2 _
  · obtain ⟨z0, z1⟩ := ne_bb hz
    have E : Hid (r.num = (0, r)) := Lib.hid (by unfold RS.num; rw [if_pos hz])
    clear hz h
    go_enter Try.func18, Try.ntmps18
    go_wp2_with (go_at_call 29; refine (rd_ok b r _ H.out).mono ?_; rw [z0]; rintro e w' ⟨rfl, ⟨d, rfl⟩⟩)
    go_ret
    refine ⟨?_, ?_, ?_⟩
    · rw [E.out]; rfl
    · rw [E.out]; exact H.out.drewN _
    · exact (Chg.refl b w).drewN _

set_option maxHeartbeats 1000000 in
theorem rd_err (b : Nat) (r : RS) (w : World) (h : RdAt TR w b r) :
    Calls Try.prog 20 #[.pointer (some ⟨b, 0, none⟩)] w fun e w' => e = .returned (.int .i64 r.e) ∧ Drew w w' := by
  have c2 := h.c2
  clear h
  go_enter Try.func20, Try.ntmps20
  go_wp2
  go_ret
  exact ⟨rfl, by repeat (first | exact Drew.refl _ | apply Drew.step)⟩

set_option maxHeartbeats 1000000 in
theorem rd_left (b : Nat) (r : RS) (w : World) (h : RdAt TR w b r) (hk : r.ok) (hs : r.s.size ≤ 140737488351232) :
    Calls Try.prog 32 #[.pointer (some ⟨b, 0, none⟩)] w fun e w' => e = .returned (.int .i64 ((r.s.size : Int) - (r.at_ : Int))) ∧ Drew w w' := by
  have c0 := h.c0
  have c1 := h.c1
  have hk' : r.at_ ≤ r.s.size := hk
  have hw : IntKind.i64.wrap ((r.s.size : Int) - (r.at_ : Int)) = (r.s.size : Int) - (r.at_ : Int) := IntWalk.i64_in _ (by omega)
  clear h hk
  go_enter Try.func32, Try.ntmps32
  go_wp2
  go_quiet (fail)
  go_wp2
  go_ret
  exact ⟨rfl, by repeat (first | exact Drew.refl _ | apply Drew.step)⟩

set_option maxHeartbeats 1000000 in
theorem rd_end (b : Nat) (r : RS) (w : World) (h : RdAt TR w b r) (hk : r.ok) (hs : r.s.size ≤ 140737488351232) :
    Calls Try.prog 22 #[.pointer (some ⟨b, 0, none⟩)] w fun e w' => e = .returned (.int .i64 r.end_) ∧ Drew w w' := by
  have H := Lib.hid h
  have HK := Lib.hid hk
  by_cases hz : r.e = 0
  · obtain ⟨z0, z1⟩ := eq_bb hz
    by_cases hl : r.at_ < r.s.size
    · have E : Hid (r.end_ = 4) := Lib.hid (by unfold RS.end_; rw [if_neg (by simp [hz]), if_pos hl])
      have d : 0 < (r.s.size : Int) - (r.at_ : Int) := by omega
      clear h hk hz
      go_enter Try.func22, Try.ntmps22
      go_wp2_with (first | (go_at_call 20; refine (rd_err b r _ H.out).mono ?_; rintro e w' ⟨rfl, ⟨d, rfl⟩⟩) | (go_at_call 32; refine (rd_left b r _ (by exact H.out.drewN _) HK.out hs).mono ?_; rintro e w' ⟨rfl, ⟨d2, rfl⟩⟩))
      go_ret
      exact ⟨by rw [E.out]; rfl, by repeat (first | exact Drew.refl _ | apply Drew.step)⟩
    · have E : Hid (r.end_ = 0) := Lib.hid (by unfold RS.end_; rw [if_neg (by simp [hz]), if_neg hl])
      have d : (r.s.size : Int) - (r.at_ : Int) ≤ 0 := by omega
      clear h hk hz
      go_enter Try.func22, Try.ntmps22
      go_wp2_with (first | (go_at_call 20; refine (rd_err b r _ H.out).mono ?_; rintro e w' ⟨rfl, ⟨d, rfl⟩⟩) | (go_at_call 32; refine (rd_left b r _ (by exact H.out.drewN _) HK.out hs).mono ?_; rintro e w' ⟨rfl, ⟨d2, rfl⟩⟩))
      go_ret
      exact ⟨by rw [E.out]; rfl, by repeat (first | exact Drew.refl _ | apply Drew.step)⟩
  · obtain ⟨z0, z1⟩ := ne_bb hz
    have E : Hid (r.end_ = r.e) := Lib.hid (by unfold RS.end_; rw [if_pos hz])
    clear h hk hz
    go_enter Try.func22, Try.ntmps22
    go_wp2_with (go_at_call 20; refine (rd_err b r _ H.out).mono ?_; rintro e w' ⟨rfl, ⟨d, rfl⟩⟩)
    go_ret
    exact ⟨by rw [E.out]; rfl, by repeat (first | exact Drew.refl _ | apply Drew.step)⟩

set_option maxHeartbeats 1000000 in
theorem rd_over (s : ByteArray) (w : World) :
    Calls Try.prog 16 #[.string s] w fun e w' => ∃ b, e = .returned (.pointer (some ⟨b, 0, none⟩)) ∧ RdAt TR w' b ⟨s, 0, 0⟩ ∧ w.heap.size ≤ b ∧ Below w.heap.size w w' := by
  go_enter Try.func16, Try.ntmps16
  go_wp2
  go_ret
  exact ⟨w.heap.size, rfl, heap_alloc_new _ _, Nat.le_refl _, (Below.refl _ _).alloc (Nat.le_refl _) _⟩

end Go.Proofs.Ythhgijjdddcchaa
