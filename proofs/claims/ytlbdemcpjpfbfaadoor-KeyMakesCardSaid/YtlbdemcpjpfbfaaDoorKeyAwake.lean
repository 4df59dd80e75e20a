/-
  key: the chapter's example.
-/
import Derived.Test.YtlbdemcpjpfbfaaDoorKeyLess
namespace Go.Proofs.YtlbdemcpjpfbfaaDoor
open Go.RowKit
set_option linter.unusedVariables false
set_option linter.unusedSimpArgs false

theorem rowsAt_part {w : World} {b : Nat} {t : TypeId} (p : PartR) (h : w.heap[b]? = some (.cells (cells4 p.sort p.n p.u p.s) t (0, 0))) : RowsAt w (some ⟨b, 0, none⟩) 4 PartR.row [p] := by
  refine ⟨.inr ⟨b, 0, rfl, fun i r hi j u hu => ?_⟩⟩
  have hi0 : i = 0 := by
    have := (List.getElem?_eq_some_iff.1 hi).1
    simpa using this
  subst hi0
  simp at hi
  subst hi
  rw [cell_of_row _ _ _ _ _ _ h]
  have e : (cells4 p.sort p.n p.u p.s)[0 + (0 * 4 + j)]? = (PartR.row p)[j]? := by
    rw [show 0 + (0 * 4 + j) = j from by omega]
    simp [PartR.row]
  rw [e, hu]
theorem rowsAt_nil {ρ : Type} {w : World} {m : Nat} {enc : ρ → List Value} : RowsAt w none m enc ([] : List ρ) := ⟨.inl rfl⟩

theorem up_row : partB ⟨105, -1, 0, ByteArray.empty⟩ = some [105, 127, 255, 255, 255, 255, 255, 255, 255] := by
  unfold partB
  rw [if_pos rfl]
  congr 1

set_option maxRecDepth 100000 in
set_option maxHeartbeats 2000000 in
theorem awake04 (w : World) :
    Calls Tryd.prog 7 #[] w fun e w' => e = .returned (.bool true) ∧ Below w.heap.size w w' := by
  have KU : Hid (∀ wx, Below w.heap.size w wx → Calls Tryd.prog 10 #[.int .i64 (-1)] wx fun e w' => e = .returned (.agg (cells4 105 (-1) 0 ByteArray.empty)) ∧ Below w.heap.size w w') := Lib.hid fun wx h => (key_up (-1) wx).mono fun _ _ ⟨h1, h2⟩ => ⟨h1, below_at h h2⟩
  have KM : Hid (∀ wx b, Below w.heap.size w wx → wx.heap[b]? = some (.cells (cells4 105 (-1) 0 ByteArray.empty) 25 (0, 0)) → Calls Tryd.prog 9 #[.slice (some ⟨b, 0, none⟩) 1 1] wx fun e w' => e = .returned (.tuple #[.string ⟨#[105, 127, 255, 255, 255, 255, 255, 255, 255]⟩, .int .i64 0]) ∧ Below w.heap.size w w') := Lib.hid fun wx b h hb => by
    have h2 := key_make [⟨105, -1, 0, ByteArray.empty⟩] (some ⟨b, 0, none⟩) 1 wx (rowsAt_part ⟨105, -1, 0, ByteArray.empty⟩ hb) (by simp) (by
      intro p hp wy hy
      simp at hp
      subst hp
      have h := part_up (-1) 0 ByteArray.empty wy (by omega)
      have e1 : partS ⟨105, -1, 0, ByteArray.empty⟩ = str (105 :: beL (liftI (-1)).toNat) := by unfold partS partB; rw [if_pos rfl]; rfl
      have e2 : partOk ⟨105, -1, 0, ByteArray.empty⟩ = true := by unfold partOk partB; rw [if_pos rfl]; rfl
      rw [e1, e2]; exact h) (by
      intro p hp
      simp at hp
      subst hp
      unfold partS; rw [up_row]; decide)
    have e : makeGo [⟨105, -1, 0, ByteArray.empty⟩] [] = ([105, 127, 255, 255, 255, 255, 255, 255, 255], 0) := by
      simp only [makeGo, up_row]; rfl
    rw [e] at h2
    exact h2.mono fun _ _ ⟨h3, h4⟩ => ⟨h3, below_at h h4⟩
  have KL : Hid (∀ wx b, Below w.heap.size w wx → wx.heap[b]? = some (.cells (cells4 0 0 0 ByteArray.empty) 25 (0, 0)) → Calls Tryd.prog 20 #[.slice none 0 0, .slice (some ⟨b, 0, none⟩) 1 1] wx fun e w' => e = .returned (.bool true) ∧ Below w.heap.size w w') := Lib.hid fun wx b h hb =>
    (key_less [] [⟨0, 0, 0, ByteArray.empty⟩] none (some ⟨b, 0, none⟩) 0 1 wx rowsAt_nil (rowsAt_part ⟨0, 0, 0, ByteArray.empty⟩ hb) (by simp) (by simp)).mono fun _ _ ⟨h3, h4⟩ => ⟨h3, below_at h h4⟩
  have W0 : Below w.heap.size w w := Below.refl _ _
  have hz := zero_part
  go_enter Tryd.func7, Tryd.ntmps7
  go_wp2_with (first | (go_at_call 10; (with_reducible refine (KU.out _ W0).mono ?_); rintro e w1 ⟨rfl, hB1⟩) | (go_at_call 9; refine (KM.out _ _ (hB1.alloc hB1.size _) (heap_alloc_new _ _)).mono ?_; rintro e w2 ⟨rfl, hB2⟩) | (go_at_call 20; refine (KL.out _ _ (hB2.alloc hB2.size _) (heap_alloc_new _ _)).mono ?_; rintro e w3 ⟨rfl, hB3⟩))
  go_ret
  exact ⟨rfl, hB3⟩

end Go.Proofs.YtlbdemcpjpfbfaaDoor
