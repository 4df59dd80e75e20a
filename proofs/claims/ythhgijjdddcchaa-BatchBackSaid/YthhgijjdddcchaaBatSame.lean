/-
  Are two batches the same? by contract.
-/
import Derived.Test.YthhgijjdddcchaaBatChk
namespace Go.Proofs.Ythhgijjdddcchaa
open Go.RowKit
set_option linter.unusedVariables false
set_option linter.unusedSimpArgs false

theorem change_ext {c d : ChangeR} (h0 : c.kind = d.kind) (h1 : c.key = d.key) (h2 : c.value = d.value) : c = d := by
  cases c; cases d; simp only at h0 h1 h2; subst h0; subst h1; subst h2; rfl

theorem toList_iff (x y : ByteArray) : x.toList = y.toList ↔ x = y := ⟨toList_inj, fun h => by rw [h]⟩
theorem run_neq_c (k k' : Int) (s v s' v' : ByteArray) (w : World) : (binOp .neq 35 (.agg #[.int .i64 k, .string s, .string v]) (.agg #[.int .i64 k', .string s', .string v'])).run Try.prog w = .ok (.bool (!decide (k = k' ∧ s = s' ∧ v = v'))) w := by
  by_cases h0 : k = k' <;> by_cases h1 : s = s' <;> by_cases h2 : v = v'
  all_goals first | (simp only [h0, h1, h2]; go_simp; done) | (go_simp; simp [h0, h1, h2]; done) | (simp [h0, h1, h2]; done) | (go_simp; simp [h0, h1, h2, toList_iff])

set_option maxRecDepth 100000 in
set_option maxHeartbeats 4000000 in
theorem batch_equal (l m : List ChangeR) (A B : Option Addr) (ca cb : Nat) (w : World) (hr : RowsAt w A 3 ChangeR.row l) (hq : RowsAt w B 3 ChangeR.row m) (hl : l.length ≤ 1000000000) (hm : m.length ≤ 1000000000) :
    Calls Try.prog 23 #[.slice A l.length ca, .slice B m.length cb] w fun e w' => ∃ b, e = .returned (.bool b) ∧ (b = true ↔ l = m) ∧ Drew w w' := by
  have HR := Lib.hid hr
  have HQ := Lib.hid hq
  clear hr hq
  by_cases hlm : l.length = m.length
  · have HL := Lib.hid hlm
    go_enter Try.func23, Try.ntmps23
    go_wp2
    go_loopw [13, 5] (fun v13 v5 wr => ∃ k : Nat, k ≤ l.length ∧ v13 = .int .i64 (k : Int) ∧ Hid (l.take k = m.take k) ∧ Drew w wr) (fun v _ _ => l.length - (intOf v).toNat)
    case atStart => exact ⟨0, by omega, rfl, Lib.hid rfl, Drew.refl _⟩
    case round =>
      obtain ⟨k, hk, rfl, HT, ⟨n0, rfl⟩⟩ := hrel
      by_cases hlt : k < l.length
      · obtain ⟨b, o, rfl, c0, c1, c2⟩ := change_cells HR.out k hlt
        obtain ⟨b', o', rfl, d0, d1, d2⟩ := change_cells HQ.out k (by omega)
        obtain ⟨bb, hbb⟩ : ∃ bb : Bool, bb = !decide (l[k].kind = m[k].kind ∧ l[k].key = m[k].key ∧ l[k].value = m[k].value) := ⟨_, rfl⟩
        have NE := fun w => run_neq_c l[k].kind m[k].kind l[k].key l[k].value m[k].key m[k].value w
        rw [← hbb] at NE
        have HBB := Lib.hid hbb
        have HT2 : Hid (l.take (k + 1) = l.take k ++ [l[k]] ∧ m.take (k + 1) = m.take k ++ [m[k]]) := Lib.hid ⟨by rw [List.take_succ_eq_append_getElem hlt], by rw [List.take_succ_eq_append_getElem (by omega)]⟩
        obtain ⟨x0, hx0⟩ : ∃ x, x = l[k].kind := ⟨_, rfl⟩
        obtain ⟨x1, hx1⟩ : ∃ x, x = l[k].key := ⟨_, rfl⟩
        obtain ⟨x2, hx2⟩ : ∃ x, x = l[k].value := ⟨_, rfl⟩
        obtain ⟨y0, hy0⟩ : ∃ x, x = m[k].kind := ⟨_, rfl⟩
        obtain ⟨y1, hy1⟩ : ∃ x, x = m[k].key := ⟨_, rfl⟩
        obtain ⟨y2, hy2⟩ : ∃ x, x = m[k].value := ⟨_, rfl⟩
        rw [← hx0] at c0 NE; rw [← hx1] at c1 NE; rw [← hx2] at c2 NE
        rw [← hy0] at d0 NE; rw [← hy1] at d1 NE; rw [← hy2] at d2 NE
        clear hx0 hx1 hx2 hy0 hy1 hy2 hbb
        go_wp2
        go_region
        all_goals (
          cases bb with
          | true =>
            go_wp2
            go_ret
            refine ⟨false, rfl, ⟨fun h => by (cases h), fun h => ?_⟩, (Drew.refl w).step _⟩
            subst h
            simpa using HBB.out
          | false =>
            go_wp2
            go_roundw
            case rel => exact ⟨k + 1, by omega, by go_num, Lib.hid (by
              rw [HT2.out.1, HT2.out.2, HT.out]
              have hb := HBB.out
              have hh : l[k].kind = m[k].kind ∧ l[k].key = m[k].key ∧ l[k].value = m[k].value := by simpa using hb
              rw [change_ext hh.1 hh.2.1 hh.2.2]), (Drew.refl w).step _⟩
            case measure => simp [intOf]; omega)
      · obtain rfl : k = l.length := by omega
        go_wp2
        go_ret
        refine ⟨true, rfl, ⟨fun _ => ?_, fun _ => rfl⟩, (Drew.refl w).step _⟩
        have h := HT.out
        rw [List.take_of_length_le (Nat.le_refl _), HL.out, List.take_of_length_le (Nat.le_refl _)] at h
        exact h
  · go_enter Try.func23, Try.ntmps23
    have hlm2 : ((l.length : Int) == (m.length : Int)) = false ∧ ((l.length : Int) != (m.length : Int)) = true := ne_bb (by omega)
    obtain ⟨q0, q1⟩ := hlm2
    go_wp2
    go_ret
    exact ⟨false, rfl, ⟨fun h => by (cases h), fun h => absurd (by rw [h]) hlm⟩, Drew.refl _⟩

set_option maxRecDepth 100000 in
set_option maxHeartbeats 4000000 in
theorem batch_same (x y : Int) (l m : List ChangeR) (A B : Option Addr) (ca cb : Nat) (w : World) (hr : RowsAt w A 3 ChangeR.row l) (hq : RowsAt w B 3 ChangeR.row m) (hl : l.length ≤ 1000000000) (hm : m.length ≤ 1000000000) :
    Calls Try.prog 8 #[.agg #[.int .u64 x, .slice A l.length ca], .agg #[.int .u64 y, .slice B m.length cb]] w fun e w' => ∃ b, e = .returned (.bool b) ∧ (b = true ↔ (x = y ∧ l = m)) ∧ Below w.heap.size w w' := by
  by_cases hxy : x = y
  · obtain ⟨q0, q1⟩ := eq_bb hxy
    have EQ : Hid (∀ wx, Below w.heap.size w wx → Calls Try.prog 23 #[.slice A l.length ca, .slice B m.length cb] wx fun e w' => ∃ b, e = .returned (.bool b) ∧ Hid (b = true ↔ l = m) ∧ Drew wx w') := Lib.hid fun wx hB =>
      (batch_equal l m A B ca cb wx (hr.moved hB) (hq.moved hB) hl hm).mono fun _ _ ⟨b, h1, h2, h3⟩ => ⟨b, h1, Lib.hid h2, h3⟩
    have HX := Lib.hid hxy
    clear hxy hr hq
    go_enter Try.func8, Try.ntmps8
    go_wp2_with (go_at_call 23; (refine (EQ.out _ (by (repeat (first | exact Below.refl _ _ | assumption | apply below_drewN | (refine Below.alloc ?_ (by first | assumption | omega | (simp; try omega)) _))))).mono ?_); rintro e w' ⟨b, rfl, HB, ⟨nd, rfl⟩⟩)
    go_ret
    exact ⟨b, rfl, ⟨fun h => ⟨HX.out, HB.out.1 h⟩, fun h => HB.out.2 h.2⟩, by (repeat (first | exact Below.refl _ _ | assumption | apply below_drewN | (refine Below.alloc ?_ (by first | assumption | omega | (simp; try omega)) _)))⟩
  · obtain ⟨q0, q1⟩ := ne_bb hxy
    have HX := Lib.hid hxy
    clear hxy hr hq
    go_enter Try.func8, Try.ntmps8
    go_wp2
    go_ret
    exact ⟨false, rfl, ⟨fun h => by (cases h), fun h => absurd h.1 HX.out⟩, by (repeat (first | exact Below.refl _ _ | assumption | apply below_drewN | (refine Below.alloc ?_ (by first | assumption | omega | (simp; try omega)) _)))⟩
end Go.Proofs.Ythhgijjdddcchaa
