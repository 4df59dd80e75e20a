/-
  The walk of SchemaBounds: just the keys that begin with some parts lie within their bounds.
-/
import Derived.Test.YtafdjgmdkbimoaaDoorSchBnd
import Derived.Test.YtafdjgmdkbimoaaDoorKeyPlain
import Derived.Test.YtafdjgmdkbimoaaDoorRow
namespace Go.Proofs.YtafdjgmdkbimoaaDoor
open Go.RowKit
set_option linter.unusedVariables false
set_option linter.unusedSimpArgs false

theorem make_bad : ∀ (l : List PartR) (acc : List UInt8), ¬ (makeGo l acc).2 = 0 → (makeGo l acc).1 = []
  | [], acc, h => absurd rfl h
  | p :: l, acc, h => by
    rw [makeGo] at h ⊢
    cases hb : partB p with
    | none => rfl
    | some t =>
      simp only [hb] at h ⊢
      by_cases h2 : 200 < (acc ++ t).length
      · rw [if_pos h2]
      · rw [if_neg h2] at h ⊢
        exact make_bad l _ h
theorem after_none (n : Nat) : ∀ p : List UInt8, p.length = n → afterL p = none → ∀ b ∈ p, b = 255 := by
  induction n with
  | zero => intro p hp _ b hb; rw [List.length_eq_zero_iff.mp hp] at hb; cases hb
  | succ n ih =>
    intro p hp h b hb
    rcases List.eq_nil_or_concat p with e | ⟨l, c, e⟩
    · rw [e] at hp; cases hp
    · rw [List.concat_eq_append] at e
      subst e
      by_cases hc : c = 255
      · subst hc
        rw [afterL_full] at h
        rcases List.mem_append.1 hb with hb | hb
        · exact ih l (by simpa using hp) h b hb
        · simpa using hb
      · rw [afterL_some _ _ hc] at h; cases h
theorem after_text (r : List UInt8) : ∃ a, afterF (116 :: r) = some a := by
  cases h : afterF (116 :: r) with
  | some a => exact ⟨a, rfl⟩
  | none =>
    rw [← afterF_eq] at h
    have := after_none _ _ rfl h 116 (List.mem_cons_self ..)
    cases this
theorem ofS_ok (sort : ByteArray) (l : List PartR) (h : (makeGo (ofL sort l) []).2 = 0) : ∃ r, (makeGo (ofL sort l) []).1 = 116 :: r ∧ (116 :: r).length ≤ 200 := by
  obtain ⟨h1, h2, h3⟩ := make_ok (ofL sort l) [] h
  have e : encP ⟨116, 0, 0, sort⟩ = 116 :: (escL sort.data.toList ++ [0, 0]) := by unfold encP partB; rw [if_neg (by simp), if_neg (by simp), if_neg (by simp), if_pos rfl]; rfl
  have h4 : (makeGo (ofL sort l) []).1 = 116 :: (escL sort.data.toList ++ [0, 0] ++ encL l) := by
    rw [h2]; unfold ofL; rw [encL_cons, e]; simp
  refine ⟨_, h4, ?_⟩
  rw [← h4]
  rcases h3 with h3 | h3
  · cases h3
  · exact h3

theorem bl_asymm : ∀ (x y : List UInt8), Op.bytesLess x y = true → Op.bytesLess y x = false ∧ x ≠ y
  | [], [], h => by cases h
  | [], _ :: _, _ => ⟨rfl, by simp⟩
  | _ :: _, [], h => by rw [bl_nil_right] at h; cases h
  | a :: x, b :: y, h => by
    rw [bl_cons] at h ⊢
    simp only [Bool.or_eq_true, Bool.and_eq_true, decide_eq_true_iff, beq_iff_eq] at h
    rcases h with h | ⟨rfl, h⟩
    · have h1 : ¬ b < a := by rw [UInt8.lt_iff_toNat_lt] at h ⊢; omega
      have h2 : ¬ b = a := by rintro rfl; rw [UInt8.lt_iff_toNat_lt] at h; omega
      refine ⟨by simp [h1, h2], ?_⟩
      intro e
      simp at e
      exact h2 e.1.symm
    · obtain ⟨h1, h2⟩ := bl_asymm x y h
      have h3 : ¬ a < a := by rw [UInt8.lt_iff_toNat_lt]; omega
      exact ⟨by simp [h1, h3], by simp [h2]⟩
theorem ofL_take (sort : ByteArray) (l : List PartR) (j : Nat) (h : j < l.length) : (ofL sort (l.take (j + 1))).flatMap PartR.row = (ofL sort (l.take j)).flatMap PartR.row ++ PartR.row l[j] := by
  unfold ofL
  rw [List.take_succ_eq_append_getElem h, List.flatMap_cons, List.flatMap_cons, List.flatMap_append]
  simp

set_option maxRecDepth 100000 in
set_option maxHeartbeats 8000000 in
theorem SchemaBounds_walk (sort : ByteArray) (A : Option Addr) (l : List PartR) (ca : Nat) (k : ByteArray) (m : Int) (w : World) (wso : sort.size ≤ 140737488351232)
    (ra : RowsAt w A 4 PartR.row l) (ga : ∀ p ∈ l, p.good) (ba : l.length ≤ ca) (ma : ca ≤ maxLen) (za : A = none → ca = 0) (wk : k.size ≤ 140737488351232) (hm : w.cell? ⟨0, 0, none⟩ = some (.int .i64 m)) :
    Calls Tryd.prog 5 #[.string sort, .slice A l.length ca, .string k] w fun e w' => e = .returned (.bool true) ∧ Below w.heap.size w w' := by
  have W0 : Below w.heap.size w w := Below.refl _ _
  have hML : maxLen ≤ 9223372036854775807 := by decide
  have hml : (l.length : Int) ≤ 9223372036854775807 := by omega
  have AW : Hid (Calls Tryd.prog 6 #[] w fun e w' => e = .returned (.bool true) ∧ Below w.heap.size w w') := Lib.hid (awake21 w m hm)
  by_cases hbad : 5 < l.length ∨ 300 < sort.size ∨ 300 < k.size
  · have hcase : 5 < l.length ∨ (¬ 5 < l.length ∧ 300 < sort.size) ∨ (¬ 5 < l.length ∧ ¬ 300 < sort.size ∧ 300 < k.size) := by omega
    clear hbad hm ra ga za
    rcases hcase with h | ⟨h, h2⟩ | ⟨h, h2, h3⟩ <;>
    · go_enter Tryd.func5, Tryd.ntmps5
      go_wp2_with (go_at_call 6; (with_reducible refine AW.out.mono ?_); rintro e w1 ⟨rfl, hB1⟩)
      go_ret
      exact ⟨rfl, hB1⟩
  · have h1 : ¬ 5 < l.length := fun h => hbad (.inl h)
    have h2 : ¬ 300 < sort.size := fun h => hbad (.inr (.inl h))
    have h3 : ¬ 300 < k.size := fun h => hbad (.inr (.inr h))
    clear hbad
    have RT : Hid (∀ wx, Below w.heap.size w wx → Calls Tryd.prog 17 #[.string sort] wx fun e w' => e = .returned (.agg (cells4 116 0 0 sort)) ∧ Below w.heap.size w w') := Lib.hid fun wx h => (ref_text sort wx).mono fun _ _ ⟨q1, q2⟩ => ⟨q1, below_at h q2⟩
    have HR := Lib.hid ra
    have hz := zero_part
    obtain ⟨S, hS⟩ : ∃ S, S = ofS sort l := ⟨_, rfl⟩
    have UN : Hid ((∀ p ∈ l, p.s.size ≤ 300) → ∀ wx v, (Below w.heap.size w wx ∧ wx.ownsRow w.heap.size 48 4 v (l.length + 1) ((ofL sort l).flatMap PartR.row)) → Calls Tryd.prog 18 #[.string sort, .slice A l.length ca] wx fun e w' => e = .returned (.tuple #[.string (underS S).1, .string (underS S).2]) ∧ (Below w.heap.size w w' ∧ w'.ownsRow w.heap.size 48 4 v (l.length + 1) ((ofL sort l).flatMap PartR.row))) := Lib.hid fun hs wx v ⟨h, ho⟩ => by
      rw [hS]
      refine (schema_under sort l A ca wx m (ra.moved h) za (by omega) ga hs (by omega) (cell0 hm h) ?_).mono fun _ _ ⟨q1, q2⟩ => ⟨q1, below_at h q2, own_moved ho q2⟩
      unfold ofS
      rw [str_size]
      by_cases he : (makeGo (ofL sort l) []).2 = 0
      · obtain ⟨r, e1, e2⟩ := ofS_ok sort l he
        rw [e1]; omega
      · rw [make_bad _ _ he]; simp
    obtain ⟨g, hg⟩ : ∃ g, g = (makeGo (ofL sort l) []).2 := ⟨_, rfl⟩
    have RM : Hid ((∀ p ∈ l, p.s.size ≤ 300) → ∀ wx v, (Below w.heap.size w wx ∧ wx.ownsRow w.heap.size 48 4 v (l.length + 1) ((ofL sort l).flatMap PartR.row)) → Calls Tryd.prog 19 #[v] wx fun e w' => e = .returned (.tuple #[.string S, .int .i64 g]) ∧ Below w.heap.size w w') := Lib.hid fun hs wx v ⟨h, ho⟩ => by
      rw [hS, hg]
      have hlen : (ofL sort l).length = l.length + 1 := rfl
      rw [← hlen] at ho
      obtain ⟨a, cc, e1, e2, e3, e4⟩ := own_rowsN ho PartR.len'
      subst e1
      refine (ref_make (ofL sort l) a cc wx e2 (by rw [hlen]; omega) ?_ ?_).mono fun e w' ⟨q1, q2⟩ => ⟨q1, below_at h q2⟩
      · intro p hp
        rcases List.mem_cons.1 hp with rfl | hp
        · exact good_text _ (by omega)
        · exact ga p hp
      · intro p hp
        rcases List.mem_cons.1 hp with rfl | hp
        · simp only; omega
        · exact hs p hp
    have HSG : Hid (S = ofS sort l ∧ g = (makeGo (ofL sort l) []).2) := Lib.hid ⟨hS, hg⟩
    clear hS hg ra ga hm za
    go_enter Tryd.func5, Tryd.ntmps5
    go_wp2_with (first
      | (go_at_call 6; (with_reducible refine AW.out.mono ?_); rintro e w1 ⟨rfl, hB1⟩)
      | (go_at_call 17; (with_reducible refine (RT.out _ hB1).mono ?_); rintro e w2 ⟨rfl, hB2⟩))
    have HO0 : Hid ((w2.alloc (.cells (cells4 116 0 0 sort) 48)).ownsRow w.heap.size 48 4 (.slice (some ⟨w2.heap.size, 0, none⟩) 1 1) (0 + 1) ((ofL sort (l.take 0)).flatMap PartR.row)) := Lib.hid (own_single hB2.size (heap_alloc_new _ _) rfl)
    have hB3 : Below w.heap.size w (w2.alloc (.cells (cells4 116 0 0 sort) 48)) := hB2.alloc hB2.size _
    go_loopw [35, 7] (fun v35 v7 wr => ∃ j : Nat, j ≤ l.length ∧ v35 = .int .i64 j ∧ Below w.heap.size w wr ∧ Hid (wr.ownsRow w.heap.size 48 4 v7 (j + 1) ((ofL sort (l.take j)).flatMap PartR.row)) ∧ Hid (∀ i (h : i < l.length), i < j → l[i].s.size ≤ 300)) (fun v _ _ => l.length - (intOf v).toNat)
    case atStart => exact ⟨0, Nat.zero_le _, rfl, hB3, HO0, Lib.hid fun i h h2 => absurd h2 (Nat.not_lt_zero _)⟩
    case round =>
      clear HO0 hB3 hB2 hB1 AW RT
      obtain ⟨j, hj, rfl, hB, HO, HS⟩ := hrel
      by_cases hlt : j < l.length
      · obtain ⟨b, o, rfl, k0, k1, k2, k3⟩ := row4_at (HR.out.moved hB) j hlt
        have HTK := Lib.hid (ofL_take sort l j hlt)
        obtain ⟨p, hp⟩ : ∃ p, p = l[j] := ⟨_, rfl⟩
        have HPJ := Lib.hid hp
        rw [← hp] at k0 k1 k2 k3 HTK
        obtain ⟨a, n, u, s⟩ := p
        simp only at k0 k1 k2 k3
        clear hp
        have n1 : b < wr.heap.size := cell_lt k0
        have n3 := Nat.ne_of_lt n1
        have hsz := hB.size
        by_cases hs : 300 < s.size
        · go_wp2
          go_ret
          exact ⟨rfl, hB.alloc hB.size _⟩
        · have HW : Hid (∀ x y, Below w.heap.size w ((wr.alloc x).alloc y) ∧ Below wr.heap.size wr ((wr.alloc x).alloc y) ∧ ((wr.alloc x).alloc y).heap[wr.heap.size + 1]? = some y ∧ w.heap.size ≤ ((wr.alloc x).alloc y).heap.size) := Lib.hid fun x y =>
            ⟨(hB.alloc hsz _).alloc (by simp; omega) _, ((Below.refl _ _).alloc (Nat.le_refl _) _).alloc (by simp) _, heap_new (by simp), by simp; omega⟩
          have HS2 : Hid (∀ i (h : i < l.length), i < j + 1 → l[i].s.size ≤ 300) := Lib.hid fun i h h2 => by
            by_cases e : i < j
            · exact HS.out i h e
            · obtain rfl : i = j := by omega
              have := congrArg PartR.s HPJ.out
              simp only at this
              rw [← this]; omega
          go_wp2_with (at_builtin; refine wp_append_row rfl (.tmp 43) (.tmp 45) 50 rfl w.heap.size 48 Tryd.underlying50 _ 4 40 info_rpart3 rfl (by decide) (by decide) _ u7 (j + 1) _ rfl (own_moved HO.out (HW.out _ _).2.1) (cells4 a n u s) (wr.heap.size + 1) (HW.out _ _).2.2.1 rfl (by simp [Value.oneCell']) rfl (by omega) (HW.out _ _).2.2.2 ?_; intro v' w1 hown1 hB1; have HO1 := Lib.hid hown1; clear hown1; have hB2 := (HW.out _ _).1.trans hB1)
          go_roundw
          case rel => exact ⟨j + 1, by omega, by go_num, hB2, Lib.hid (by rw [HTK.out]; exact HO1.out), HS2⟩
          case measure => simp [intOf]; omega
      · obtain rfl : j = l.length := by omega
        have hall : ∀ p ∈ l, p.s.size ≤ 300 := fun p hp => by
          obtain ⟨i, hi, rfl⟩ := List.mem_iff_getElem.1 hp
          exact HS.out i hi hi
        have HO2 : Hid (wr.ownsRow w.heap.size 48 4 u7 (l.length + 1) ((ofL sort l).flatMap PartR.row)) := Lib.hid (by have h := HO.out; rwa [List.take_length] at h)
        have UN2 := Lib.hid (UN.out hall)
        have RM2 := Lib.hid (RM.out hall)
        obtain ⟨eS, eg⟩ := HSG.out
        unfold underS at UN2
        clear hall HO HS UN RM
        by_cases hg0 : g = 0
        · obtain ⟨z1, z2⟩ := eq_bb hg0
          obtain ⟨r, e1, e2⟩ := ofS_ok sort l (by rw [← eg]; exact hg0)
          have eS2 : S = str (116 :: r) := by rw [eS]; unfold ofS; rw [e1]
          obtain ⟨a, ea⟩ := after_text r
          have hSne : ¬ S = ⟨#[]⟩ := by
            intro h
            have h2 : S.data.toList = [] := by rw [h]
            rw [eS2, str_data] at h2
            cases h2
          have hSl : S.data.toList = 116 :: r := by rw [eS2, str_data]
          have hSt : S.toList = 116 :: r := by rw [ByteArray.toList_eq, hSl]
          have hAF : afterL S.data.toList = some a := by rw [hSl, afterF_eq]; exact ea
          rw [if_neg hSne, hAF] at UN2
          simp only [Option.getD_some] at UN2
          have HP : Hid (∀ wx, Calls Tryd.prog 20 #[.string k, .string S] wx fun e w' => e = .returned (.bool (Lib.hasPrefix k.data.toList S.data.toList)) ∧ w' = wx) := Lib.hid fun wx => Tryd.strings_HasPrefix k S wx
          have F3 := in_prefix (116 :: r) k.toList
          rw [ea] at F3
          have F2 := less_after (116 :: r) [] a ea
          rw [List.append_nil] at F2
          have ek : k.data.toList = k.toList := (ByteArray.toList_eq k).symm
          unfold Lib.hasPrefix at HP
          rw [hSl, ek, ← F3] at HP
          simp only at HP
          rw [← hSt] at HP F2
          have eA : (str a).toList = a := by rw [ByteArray.toList_eq, str_data]
          rw [← eA] at HP F2
          have hTne : ¬ str a = ⟨#[]⟩ := by
            intro h
            rw [h] at F2
            have : (⟨#[]⟩ : ByteArray).toList = [] := by rw [ByteArray.toList_eq]
            rw [this, bl_nil_right] at F2
            cases F2
          obtain ⟨T, hT⟩ : ∃ T, T = str a := ⟨_, rfl⟩
          rw [← hT] at UN2 HP F2 hTne
          obtain ⟨t1, t2⟩ := nlit_bb (l := []) hTne
          obtain ⟨s1, s2⟩ := seq_bb (rfl : S = S)
          obtain ⟨F5, F6⟩ := bl_asymm _ _ F2
          have F7 : (T.toList == S.toList) = false := by simp [Ne.symm F6]
          have F8 : (T.toList != S.toList) = true := by simp [Ne.symm F6]
          clear F6
          clear hT eA hSl hSt hAF hSne ea eS2 eS eg e1 e2 ek F3 hTne hg0 HSG
          cases hb : Op.bytesLess k.toList S.toList <;> cases hb2 : Op.bytesLess k.toList T.toList <;>
          · rw [hb, hb2] at HP
            go_wp2_with (first
              | (go_at_call 18; (with_reducible refine (UN2.out _ _ ⟨hB, HO2.out⟩).mono ?_); rintro e w3 ⟨rfl, T3⟩)
              | (go_at_call 19; (with_reducible refine (RM2.out _ _ T3).mono ?_); rintro e w4 ⟨rfl, hB4⟩)
              | (go_at_call 20; (with_reducible refine (HP.out _).mono ?_); rintro e w5 ⟨rfl, rfl⟩))
            go_ret
            exact ⟨rfl, hB4⟩
        · obtain ⟨z1, z2⟩ := ne_bb hg0
          have eS2 : S = ⟨#[]⟩ := by rw [eS]; unfold ofS; rw [make_bad _ _ (by rw [← eg]; exact hg0)]; rfl
          rw [if_pos eS2] at UN2
          clear eS eg hg0 HSG
          subst eS2
          go_wp2_with (first
            | (go_at_call 18; (with_reducible refine (UN2.out _ _ ⟨hB, HO2.out⟩).mono ?_); rintro e w3 ⟨rfl, T3⟩)
            | (go_at_call 19; (with_reducible refine (RM2.out _ _ T3).mono ?_); rintro e w4 ⟨rfl, hB4⟩))
          go_ret
          exact ⟨rfl, hB4⟩

end Go.Proofs.YtafdjgmdkbimoaaDoor
