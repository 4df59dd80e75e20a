/-
  The walk of SkipNil: a list that is none.
-/
import Derived.Test.YtacgpflheokkaaaSkpAwake
namespace Go.Proofs.Ytacgpflheokkaaa
open Go.RowKit Go.Shelf
set_option linter.unusedVariables false
set_option linter.unusedSimpArgs false

set_option maxRecDepth 100000 in
set_option maxHeartbeats 4000000 in
theorem SkipNil_walk (w : World) : Calls Try.prog 6 #[] w fun e w' => e = .returned (.bool true) ∧ Below w.heap.size w w' := by
  have HRF : Hid (∀ wx, w.heap.size ≤ wx.heap.size → Calls Try.prog 16 #[.func (.func 27) #[] #[.pointer (some ⟨wx.heap.size, 0, none⟩), .pointer (some ⟨wx.heap.size + 1, 0, none⟩)], .int .i64 1] ((wx.alloc (.cells #[.pointer none] 24)).alloc (.cells #[.string ⟨#[]⟩] 9)) fun e w' => ∃ a c, e = .returned (.slice a 0 c) ∧ Below w.heap.size wx w') := Lib.hid fun wx hx =>
    (nil_row _ _ 1 wx.heap.size _ (by simp; omega) (by decide) (fun _ _ => rfl) (fun Kp W0 hB => nil_from wx.heap.size _ _ Kp W0 ((hB.block _ (heap_lt (heap_alloc2_old _ _ _))).trans (heap_alloc2_old _ _ _)))).mono fun _ _ ⟨a, c, h1, h2⟩ => ⟨a, c, h1, (((Below.refl _ _).alloc hx _).alloc (by simp; omega) _).trans (row_below h2 hx (by simp; omega))⟩
  have HRD : Hid (∀ wx, w.heap.size ≤ wx.heap.size → Calls Try.prog 16 #[.func (.func 28) #[] #[.pointer (some ⟨wx.heap.size, 0, none⟩), .pointer (some ⟨wx.heap.size + 1, 0, none⟩)], .int .i64 1] ((wx.alloc (.cells #[.pointer none] 24)).alloc (.cells #[.string ⟨#[]⟩] 9)) fun e w' => ∃ a c, e = .returned (.slice a 0 c) ∧ Below w.heap.size wx w') := Lib.hid fun wx hx =>
    (nil_row _ _ 1 wx.heap.size _ (by simp; omega) (by decide) (fun _ _ => rfl) (fun Kp W0 hB => nil_down wx.heap.size _ _ Kp W0 ((hB.block _ (heap_lt (heap_alloc2_old _ _ _))).trans (heap_alloc2_old _ _ _)))).mono fun _ _ ⟨a, c, h1, h2⟩ => ⟨a, c, h1, (((Below.refl _ _).alloc hx _).alloc (by simp; omega) _).trans (row_below h2 hx (by simp; omega))⟩
  go_enter Try.func6, Try.ntmps6
  go_wp2_with (first | (go_at_call 14; refine (nil_get _ _).mono ?_; rintro e w2 ⟨rfl, rfl⟩) | (go_at_call 7; refine (awake07 _).mono ?_; rintro e w1 ⟨rfl, hB1⟩) | (go_at_call 9; refine (nil_put _ _ _ _).mono ?_; rintro e w2 ⟨rfl, rfl⟩) | (go_at_call 11; refine (nil_len _).mono ?_; rintro e w2 ⟨rfl, rfl⟩) | (go_at_call 12; refine (nil_bytes _).mono ?_; rintro e w2 ⟨rfl, rfl⟩) | (go_at_call 22; refine (nil_height _ _).mono ?_; rintro e w2 ⟨rfl, rfl⟩) | (go_at_call 20; refine (nil_steps _).mono ?_; rintro e w2 ⟨rfl, rfl⟩) | (go_at_call 10; refine (from_make _ _ _).mono ?_; rintro e w5 ⟨rfl, rfl⟩) | (go_at_call 17; refine (down_make _ _ _).mono ?_; rintro e w5 ⟨rfl, rfl⟩) | (go_at_call 16; (first | ((with_reducible refine (HRD.out _ (hB1.trans hB7).size).mono ?_); rintro e w8 ⟨a8, c8, rfl, hB8⟩) | ((with_reducible refine (HRF.out _ hB1.size).mono ?_); rintro e w7 ⟨a7, c7, rfl, hB7⟩))))
  go_ret
  exact ⟨rfl, (hB1.trans hB7).trans hB8⟩
end Go.Proofs.Ytacgpflheokkaaa
