/-
  The row of SchemaBounds: the frame round its walk.
-/
import Derived.Test.YtafdjgmdkbimoaaDoorRows
import Derived.Test.YtafdjgmdkbimoaaDoorLawSchemaBounds
import Derived.Test.YtafdjgmdkbimoaaDoorCards
import Derived.Test.YtafdjgmdkbimoaaDoorTie
import Derived.Test.YtafdjgmdkbimoaaDoorShaped
import Derived.Test.YtafdjgmdkbimoaaDoorCap
import Derived.WalkKit
import Derived.ProofKit
import Derived.OpenShut
import Derived.ShutString
import Derived.ChangeOld
import Derived.Below
import Derived.SizedLaws
import Derived.LaidMore
import Derived.Lay
import Derived.SevenTiedAt
import Derived.LaidOnce
namespace Go.Proofs.YtafdjgmdkbimoaaDoor.schemaBounds
open Go.ChangeShapes Go.WideShapes Go.ChangeAt Go.RowKit
open Go.ChangeMaps (open_string shut_string)
set_option linter.unusedVariables false
theorem own : ownKnob Tryd.prog.godebug = none := by kernel_rfl
theorem laidOut : laidOutB Tryd.prog = true := by kernel_rfl
set_option maxRecDepth 100000 in
theorem lifted (os : Os) (started : os.Started) (H : Type) (enc : TypeId × Value → H) :
    ReturnsInHanded {} Tryd.checked os 5 .any (fun w args => (Rows.schemaBoundsSpec.pre enc Tryd.prog Tryd.f5 Rows.schemaBoundsRow.domain false w args ∧ laidMetH Tryd.prog Rows.schemaBoundsRow.laid w) ∧ sizedMet enc Tryd.prog Tryd.f5 (OpenSpec.ofChange Rows.schemaBoundsSpec) false w args) (Rows.schemaBoundsSpec.post enc Tryd.prog Tryd.f5 false true false false) := by
  refine returnsInHanded_of_change_shaped (C := Tryd.checked) (X := fun w _ => laidMetH Tryd.prog Rows.schemaBoundsRow.laid w) (fun _ _ _ hh h => h.of_heap hh) own started (by kernel_rfl) Tryd.func5
    (ChangeSpec.witness_shaped (enc := enc) (C := Tryd.checked) (os := os) (X := fun w _ => laidMetH Tryd.prog Rows.schemaBoundsRow.laid w) false (World.laidAll Tryd.prog os Rows.schemaBoundsRow.laid) #[.string ByteArray.empty, .slice none 0 0, .string ByteArray.empty] 8 (World.laidAll_os _ _ _)
      (World.shaped_of_ZipB (by kernel_rfl) (by kernel_rfl)) (by kernel_rfl) (by kernel_rfl) (by kernel_rfl)
      (by rw [MakeChecks.laidMetH_plain _ _ _ (by kernel_rfl)]; exact laidMet_laidAll _ (by kernel_rfl) (by kernel_rfl))) ?_
  intro W base args ds gs before hsh hval0 hW hcnd hsz0 hL _
  obtain ⟨m, hm⟩ := Tryd.laysM155.s1_3 W hsh
  have hsz : (DataW.weightsEach Tryd.prog (Tryd.f5.params.toList ++ Rows.schemaBoundsSpec.plain.varTypes Tryd.prog) (ds ++ gs)).all (· ≤ reachBytes) = true := hsz0
  have hval : ∀ (j : Nat) t v, Tryd.f5.params[j]? = some t → args[j]? = some v → Value.okWide Tryd.prog W .any base t v := hval0
  have hW' := hW
  obtain ⟨p, q, hA0, hV, rfl, hfz, hnd⟩ := hW
  have hA : DataW.TrodAll enc Tryd.prog W 0 (fun _ => true) true Tryd.f5.params.toList args.toList ds p := hA0
  rw [Tryd.params5] at hA hval hsz
  obtain ⟨v0, vs0, d0, ds0, p0, q0, hargs, rfl, rfl, h0, r0⟩ := trodAll_cons hA
  obtain ⟨v1, vs1, d1, ds1, p1, q1, rfl, rfl, rfl, h1, r1⟩ := trodAll_cons r0
  obtain ⟨v2, vs2, d2, ds2, p2, q2, rfl, rfl, rfl, h2, r2⟩ := trodAll_cons r1
  obtain ⟨rfl, rfl, rfl⟩ := trodAll_nil r2
  obtain rfl : args = #[v0, v1, v2] := by cases args; simp_all
  obtain ⟨rfl, rfl⟩ := trodVars_none hV
  obtain ⟨a0, rfl, rfl, rfl, y0⟩ := open_string Tryd.underlying9 (hval 0 9 v0 rfl rfl) h0
  have w0 : a0.size ≤ 140737488351232 := by
    have z := sized_string hsz (j := 0) (t := 9) rfl rfl
    rw [Array.length_toList] at z
    exact z
  obtain ⟨a1, len1, cap1, rfl⟩ := okWide_slice Tryd.underlying46 (hval 1 46 v1 rfl rfl)
  have k1 := h1
  have lt1 : ∀ x ∈ p1, x.block < W.heap.size := by obtain ⟨m, hm⟩ := k1; exact DataW.trod_lt m _ _ _ hm
  have c1 := rows_cap Tryd.underlying46 h1
  obtain ⟨l1, rfl, w1, g1, b1, m1⟩ := rows_of (ks := PartR.ks) PartR.row PartR.good PartR.of Tryd.underlying46 Tryd.underlying51 (by kernel_rfl) (by kernel_rfl) (by decide) ⟨Tryd.underlying5, Tryd.underlying2, Tryd.underlying22, Tryd.underlying9, trivial⟩ h1
  obtain ⟨a2, rfl, rfl, rfl, y2⟩ := open_string Tryd.underlying9 (hval 2 9 v2 rfl rfl) h2
  have w2 : a2.size ≤ 140737488351232 := by
    have z := sized_string hsz (j := 2) (t := 9) rfl rfl
    rw [Array.length_toList] at z
    exact z
  clear hA0 hval0 hsz0 hsz
  refine (SchemaBounds_walk a0 a1 l1 cap1 a2 m W w0 w1 g1 b1 m1 c1 w2 hm).mono fun e W' ⟨he, bel⟩ => ?_
  subst he
  exact ⟨_, rfl, _, _, _, [], _, [], hW', trodAll_mk1 (shut_bool Tryd.underlying4 _), (trodAll_cons_mk (shut_string Tryd.underlying9 y0) (trodAll_cons_mk (Below.trod laidOut (by kernel_rfl) (of_decide_eq_true (by kernel_rfl)) k1 bel lt1) (trodAll_cons_mk (shut_string Tryd.underlying9 y2) trodAll_mk0))), rfl, bel.frame _, fun h => by cases h⟩
theorem over : Rows.schemaBoundsRow.holds Tryd.pinned (OpenSpec.ofChange Rows.schemaBoundsSpec) :=
  OpenClaim.holds_of_wide 5 Tryd.f5 rfl rfl rfl rfl rfl rfl rfl ⟨rfl, rfl, rfl, rfl, rfl⟩ rfl rfl rfl rfl rfl (by kernel_rfl) Tryd.func5 (by kernel_rfl)
    (of_decide_eq_true (by kernel_rfl)) (by unfold Func.isWrapper; first | (rw [if_pos (by decide +kernel)]; kernel_rfl) | (rw [if_neg (by decide +kernel)]; exact ⟨rfl, rfl⟩))
    (fun os started H enc _ => lifted os started H enc)
theorem proved : Rows.SchemaBoundsSaid := over
theorem carded : Rows.SchemaBoundsCardSaid :=
  Claim7.holds_tied_plain_at .later [] [.data, .pinned] true (true, "1de2ad01434552e6993b1aa913f681d13a3cff4e3fb4f735b8dd7ffa7475346a") false proved (fun _ h => by cases h) (by kernel_rfl) (fun _ h => by cases h) schemaBounds_row_tie rfl ⟨rfl, rfl⟩ (by kernel_rfl) rfl
    (fun f fn hf hfn => by
      obtain rfl : f = 5 := Option.some.inj ((show Tryd.prog.funcNamed "bourse/bourselaw21.SchemaBounds" = some 5 by kernel_rfl).symm.trans hf) |>.symm
      obtain rfl : fn = Tryd.f5 := (Option.some.inj (Tryd.func5.symm.trans hfn)).symm
      exact ⟨by kernel_rfl, fun j t ht => by
        rw [Tryd.params5] at ht
        have hm : t ∈ [9, 46, 9] := by simpa using Array.mem_of_getElem? ht
        have hall : ([9, 46, 9].all fun u => !Tryd.prog.wantsStandIn u) = true := by kernel_rfl
        exact (show Tryd.prog.wantsStandIn t = false by simpa using List.all_eq_true.1 hall t hm)⟩)
    (by kernel_rfl)
end Go.Proofs.YtafdjgmdkbimoaaDoor.schemaBounds
namespace Go.Proofs.YtafdjgmdkbimoaaDoor
/-- The statement. -/
theorem schemaBounds_holds : Rows.SchemaBoundsCardSaid := schemaBounds.carded
#print axioms schemaBounds_holds
end Go.Proofs.YtafdjgmdkbimoaaDoor
