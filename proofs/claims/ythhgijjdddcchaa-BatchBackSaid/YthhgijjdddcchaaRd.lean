/-
  The reader's methods by contract.
-/
import Derived.Test.YthhgijjdddcchaaRdMath
namespace Go.Proofs.Ythhgijjdddcchaa
open Go.RowKit
set_option linter.unusedVariables false
set_option linter.unusedSimpArgs false

/-- block b is a reader (of type T) -/
def RdAt (T : TypeId) (w : World) (b : Nat) (r : RS) : Prop := w.heap[b]? = some (.cells #[.string r.s, .int .i64 (r.at_ : Int), .int .i64 r.e] T (0, 0))
theorem RdAt.c0 {T : TypeId} {w : World} {b : Nat} {r : RS} (h : RdAt T w b r) : w.cell? ⟨b, 0, none⟩ = some (.string r.s) := by rw [cell_of_row _ _ _ _ _ _ h]; rfl
theorem RdAt.c1 {T : TypeId} {w : World} {b : Nat} {r : RS} (h : RdAt T w b r) : w.cell? ⟨b, 1, none⟩ = some (.int .i64 (r.at_ : Int)) := by rw [cell_of_row _ _ _ _ _ _ h]; rfl
theorem RdAt.c2 {T : TypeId} {w : World} {b : Nat} {r : RS} (h : RdAt T w b r) : w.cell? ⟨b, 2, none⟩ = some (.int .i64 r.e) := by rw [cell_of_row _ _ _ _ _ _ h]; rfl
theorem RdAt.fz {T : TypeId} {w : World} {b : Nat} {r : RS} (h : RdAt T w b r) (j : Nat) : w.frozen? ⟨b, j, none⟩ = false := frozen_of_row _ _ _ _ _ h
theorem RdAt.lt {T : TypeId} {w : World} {b : Nat} {r : RS} (h : RdAt T w b r) : b < w.heap.size := by
  rcases Nat.lt_or_ge b w.heap.size with h' | h'
  · exact h'
  · unfold RdAt at h; simp [Array.getElem?_eq_none h'] at h
theorem RdAt.set1 {T : TypeId} {w : World} {b : Nat} {r : RS} (h : RdAt T w b r) (n : Nat) (x : Int) (hx : x = (n : Int)) : RdAt T (w.setCell ⟨b, 1, none⟩ (.int .i64 x)) b ⟨r.s, n, r.e⟩ := by
  unfold RdAt; rw [heap_setCell_same _ _ _ _ _ _ h, hx]; rfl
theorem RdAt.set2 {T : TypeId} {w : World} {b : Nat} {r : RS} (h : RdAt T w b r) (x : Int) : RdAt T (w.setCell ⟨b, 2, none⟩ (.int .i64 x)) b ⟨r.s, r.at_, x⟩ := by
  unfold RdAt; rw [heap_setCell_same _ _ _ _ _ _ h]; rfl
theorem RdAt.drewN {T : TypeId} {w : World} {b : Nat} {r : RS} (h : RdAt T w b r) (n : Nat) : RdAt T (w.drewN n) b r := h
theorem RdAt.to {T : TypeId} {w : World} {b : Nat} {r r' : RS} (h : RdAt T w b r) (e : r = r') : RdAt T w b r' := e ▸ h

theorem RdAt.below {T : TypeId} {w w' : World} {b : Nat} {r : RS} (h : RdAt T w b r) (hB : Below w.heap.size w w') : RdAt T w' b r := by
  unfold RdAt; rw [hB.block b h.lt]; exact h
theorem RdAt.chg {T : TypeId} {w w' : World} {b c : Nat} {r : RS} (h : RdAt T w b r) (hC : Chg c w w') (hn : b ≠ c) : RdAt T w' b r := hC.heap hn h

abbrev TR : TypeId := 60

set_option maxHeartbeats 1000000 in
theorem rd_ok (b : Nat) (r : RS) (w : World) (h : RdAt TR w b r) :
    Calls Try.prog 29 #[.pointer (some ⟨b, 0, none⟩)] w fun e w' => e = .returned (.bool (r.e == 0)) ∧ Drew w w' := by
  have h2 := h.c2
  go_enter Try.func29, Try.ntmps29
  go_wp2
  go_ret
  exact ⟨rfl, by repeat (first | exact Drew.refl _ | apply Drew.step)⟩

set_option maxHeartbeats 1000000 in
theorem rd_fail (b : Nat) (r : RS) (x : Int) (w : World) (h : RdAt TR w b r) :
    Calls Try.prog 19 #[.pointer (some ⟨b, 0, none⟩), .int .i64 x] w fun e w' => e = .returned (.tuple #[]) ∧ RdAt TR w' b (r.fail x) ∧ Chg b w w' := by
  have h2 := h.c2
  have hf := h.fz 2
  have H := Lib.hid h
  by_cases hz : r.e = 0
  · obtain ⟨z0, z1⟩ := eq_bb hz
    have E : Hid (r.fail x = ⟨r.s, r.at_, x⟩) := Lib.hid (by unfold RS.fail; rw [if_pos hz])
    clear hz h
    go_enter Try.func19, Try.ntmps19
    go_wp2_with (go_at_call 29; refine (rd_ok b r _ H.out).mono ?_; rw [z0]; rintro e w' ⟨rfl, ⟨n, rfl⟩⟩)
    go_end0
    refine ⟨rfl, ?_, ?_⟩
    · rw [E.out]; exact (H.out.drewN n).set2 x
    · exact ((Chg.refl b w).drewN n).setCell 2 _
  · obtain ⟨z0, z1⟩ := ne_bb hz
    have E : Hid (r.fail x = r) := Lib.hid (by unfold RS.fail; rw [if_neg hz])
    clear hz h
    go_enter Try.func19, Try.ntmps19
    go_wp2_with (go_at_call 29; refine (rd_ok b r _ H.out).mono ?_; rw [z0]; rintro e w' ⟨rfl, ⟨n, rfl⟩⟩)
    go_end0
    refine ⟨rfl, ?_, ?_⟩
    · rw [E.out]; exact H.out.drewN n
    · exact (Chg.refl b w).drewN n

set_option maxHeartbeats 2000000 in
theorem rd_take (b : Nat) (r : RS) (n : Int) (w : World) (h : RdAt TR w b r) (hk : r.ok) (hs : r.s.size ≤ 140737488351232) :
    Calls Try.prog 28 #[.pointer (some ⟨b, 0, none⟩), .int .i64 n] w fun e w' => e = .returned (.string (r.take n).1) ∧ RdAt TR w' b (r.take n).2 ∧ Chg b w w' := by
  have H := Lib.hid h
  have hk' : r.at_ ≤ r.s.size := hk
  clear hk
  have c0 := h.c0
  have c1 := h.c1
  have c2 := h.c2
  have f1 := h.fz 1
  have f2 := h.fz 2
  by_cases hz : r.e = 0
  · obtain ⟨z0, z1⟩ := eq_bb hz
    by_cases hn : n < 0
    · have E : Hid (r.take n = (str [], ⟨r.s, r.at_, 3⟩)) := Lib.hid (by unfold RS.take; rw [if_neg (by simp [hz]), if_pos (.inl hn)])
      clear hz h
      go_enter Try.func28, Try.ntmps28
      go_wp2_with (go_at_call 29; refine (rd_ok b r _ H.out).mono ?_; rw [z0]; rintro e w' ⟨rfl, ⟨d, rfl⟩⟩)
      go_quiet (fail)
      go_wp2
      go_ret
      refine ⟨?_, ?_, ?_⟩
      · rw [E.out]; rfl
      · rw [E.out]; exact (H.out.drewN _).set2 3
      · exact ((Chg.refl b w).drewN _).setCell 2 _
    · have hw : IntKind.i64.wrap ((r.s.size : Int) - (r.at_ : Int)) = (r.s.size : Int) - (r.at_ : Int) := IntWalk.i64_in _ (by omega)
      by_cases hl : (r.s.size : Int) - r.at_ < n
      · have E : Hid (r.take n = (str [], ⟨r.s, r.at_, 3⟩)) := Lib.hid (by unfold RS.take; rw [if_neg (by simp [hz]), if_pos (.inr hl)])
        clear hz h
        go_enter Try.func28, Try.ntmps28
        go_wp2_with (go_at_call 29; refine (rd_ok b r _ H.out).mono ?_; rw [z0]; rintro e w' ⟨rfl, ⟨d, rfl⟩⟩)
        go_quiet (fail)
        go_wp2
        go_ret
        refine ⟨?_, ?_, ?_⟩
        · rw [E.out]; rfl
        · rw [E.out]; exact (H.out.drewN _).set2 3
        · exact ((Chg.refl b w).drewN _).setCell 2 _
      · have E : Hid (r.take n = (r.s.extract r.at_ (r.at_ + n.toNat), ⟨r.s, r.at_ + n.toNat, 0⟩)) := Lib.hid (by unfold RS.take; rw [if_neg (by simp [hz]), if_neg (by omega)])
        obtain ⟨m, rfl⟩ := Int.eq_ofNat_of_zero_le (show 0 ≤ n by omega)
        have HZ := Lib.hid hz
        have hw2 : IntKind.i64.wrap ((r.at_ : Int) + (m : Int)) = (r.at_ : Int) + (m : Int) := IntWalk.i64_in _ (by omega)
        have hsum : ((r.at_ : Int) + (m : Int)).toNat = r.at_ + m := by omega
        have hp : 0 ≤ (r.at_ : Int) + (m : Int) := by omega
        clear hz h
        go_enter Try.func28, Try.ntmps28
        go_wp2_with (go_at_call 29; refine (rd_ok b r _ H.out).mono ?_; rw [z0]; rintro e w' ⟨rfl, ⟨d, rfl⟩⟩)
        go_quiet (fail)
        go_wp2
        go_quiet (fail)
        go_wp2
        go_ret
        refine ⟨?_, ?_, ?_⟩
        · rw [E.out]; rfl
        · rw [E.out]; refine ((H.out.drewN _).set1 (r.at_ + m) _ (by omega)).to ?_; rw [HZ.out]; rfl
        · exact ((Chg.refl b w).drewN _).setCell 1 _
  · obtain ⟨z0, z1⟩ := ne_bb hz
    have E : Hid (r.take n = (str [], r)) := Lib.hid (by unfold RS.take; rw [if_pos hz])
    clear hz h
    go_enter Try.func28, Try.ntmps28
    go_wp2_with (go_at_call 29; refine (rd_ok b r _ H.out).mono ?_; rw [z0]; rintro e w' ⟨rfl, ⟨d, rfl⟩⟩)
    go_ret
    refine ⟨?_, ?_, ?_⟩
    · rw [E.out]; rfl
    · rw [E.out]; exact H.out.drewN d
    · exact (Chg.refl b w).drewN d

end Go.Proofs.Ythhgijjdddcchaa
