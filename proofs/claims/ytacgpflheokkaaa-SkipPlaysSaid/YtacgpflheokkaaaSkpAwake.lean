/-
  The chapter's example of skip lists holds.
-/
import Derived.Test.YtacgpflheokkaaaSkpNil
namespace Go.Proofs.Ytacgpflheokkaaa
open Go.RowKit Go.Shelf
set_option linter.unusedVariables false
set_option linter.unusedSimpArgs false

theorem row_below {w A B : World} {n : Nat} (h : ChgQ (fun k => k = n) A B) (hw : w.heap.size ≤ n) (hA : w.heap.size ≤ A.heap.size) : Below w.heap.size A B := h.below hA (by rintro k rfl; exact hw)
theorem put_below {F : Nat → Prop} {n : Nat} {A B : World} (h : ChgQ F A B) (hF : ∀ k, F k → n ≤ k) (hA : n ≤ A.heap.size) : Below n A B := h.below hA hF

set_option maxRecDepth 100000 in
set_option maxHeartbeats 4000000 in
theorem awake07 (w : World) : Calls Try.prog 7 #[] w fun e w' => e = .returned (.bool true) ∧ Below w.heap.size w w' := by
  go_enter Try.func7, Try.ntmps7
  go_upto_region 4 with (first | (go_at_call 8; refine (skl_new _).mono ?_; rintro e w1 ⟨b, F, rfl, hS, hB, hF⟩))
  have HS1 := Lib.hid hS
  have HB1 := Lib.hid hB
  have HF1 := Lib.hid hF
  clear hS hB hF
  go_upto_region 5 with (first | (go_at_call 9; (first | (refine (skl_put _ _ _ _ _ _ HS2.out _ _ _ (by decide) (by decide) (by decide) (by decide) (by decide)).mono ?_; rintro e w3 ⟨rfl, F3, st3, hS, h30, h31, hF, hC⟩; have HS3 := Lib.hid hS; have HF3 := Lib.hid hF; have HC3 := Lib.hid hC; clear hS hF hC) | (refine (skl_put _ _ _ _ _ _ HS1.out _ _ _ (by decide) (by decide) (by decide) (by decide) (by decide)).mono ?_; rintro e w2 ⟨rfl, F2, st2, hS, h20, h21, hF, hC⟩; have HS2 := Lib.hid hS; have HF2 := Lib.hid hF; have HC2 := Lib.hid hC; clear hS hF hC))))
  have hB3 : Hid (Below w.heap.size w w3) := Lib.hid (by
    have h1 := HB1.out
    have h2 := put_below HC2.out (fun k hk => (HF1.out k hk).1) h1.size
    have h3 := put_below HC3.out (n := w.heap.size) (fun k hk => by
      rcases (HF2.out k hk).1 with h | h
      · exact (HF1.out k h).1
      · exact Nat.le_trans h1.size h) (Nat.le_trans h1.size h2.size)
    exact (h1.trans h2).trans h3)
  have hb3 : Hid (w.heap.size ≤ b) := Lib.hid ((HF1.out b HS1.out.root.1).1)
  clear HS1 HB1 HF1 HS2 HF2 HC2 HF3 HC3
  have hP : putP (putP [] (⟨#[98]⟩, ⟨#[]⟩)) (⟨#[97]⟩, ⟨#[]⟩) = [(⟨#[97]⟩, ⟨#[]⟩), (⟨#[98]⟩, ⟨#[]⟩)] := by simp [putP, bLt, ByteArray.toList_eq, Op.bytesLess]
  have hf : fromP [(⟨#[97]⟩, ⟨#[]⟩), (⟨#[98]⟩, ⟨#[]⟩)] ByteArray.empty = [(⟨#[97]⟩, ⟨#[]⟩), (⟨#[98]⟩, ⟨#[]⟩)] := by simp [fromP, bLt, ByteArray.toList_eq, Op.bytesLess]
  rw [hP] at HS3
  have HF := Lib.hid hf
  clear hP hf
  go_wp2_with (first | (go_at_call 11; refine (skl_len _ _ _ _ _ _ HS3.out).mono ?_; rintro e w4 ⟨rfl, rfl⟩) | (go_at_call 10; refine (from_make _ _ _).mono ?_; rintro e w5 ⟨rfl, rfl⟩) | (go_at_call 16; refine (skl_from_row _ _ _ _ _ _ (HS3.out.moved (by (repeat (first | exact Below.refl _ _ | assumption | apply below_drewN | (refine Below.setCell ?_ (by first | assumption | omega | (simp; try omega)) _) | (refine Below.alloc ?_ (by first | assumption | omega | (simp; try omega)) _))))) ByteArray.empty _ _ 9 (by decide) (by decide) (heap_alloc2_old _ _ _) (heap_alloc2_new _ _ _)).mono ?_; rw [HF.out]; rintro e w6 ⟨a, c, rfl, hR, hS, hC⟩; obtain ⟨B, o, rfl, c0, -⟩ := pair_cells (l := [(⟨#[97]⟩, ⟨#[]⟩), (⟨#[98]⟩, ⟨#[]⟩)]) hR 0 (by decide); have c0' : w6.cell? ⟨B, o, none⟩ = some (.string ⟨#[97]⟩) := (by simpa using c0); have HC6 := Lib.hid hC; have hz6 := hC.size; clear c0 hR hS hC))
  go_ret
  have hz := hB3.out.size
  exact ⟨rfl, ((hB3.out.alloc hz _).alloc (by simp; omega) _).trans (row_below HC6.out hb3.out (by simp; omega))⟩
end Go.Proofs.Ytacgpflheokkaaa
