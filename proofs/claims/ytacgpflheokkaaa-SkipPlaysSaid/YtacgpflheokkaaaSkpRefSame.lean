/-
  The shadow's Same over pairs in memory: by contract.
-/
import Derived.Test.YtacgpflheokkaaaSkpRefFrom
namespace Go.Proofs.Ytacgpflheokkaaa
open Go.RowKit Go.Shelf
set_option linter.unusedVariables false
set_option linter.unusedSimpArgs false

theorem tl_iff (x y : ByteArray) : x.toList = y.toList ↔ x = y := ⟨fun h => ba_inj h, fun h => by rw [h]⟩
theorem run_neq_p (s v s' v' : ByteArray) (w : World) : (binOp .neq 49 (.agg #[.string s, .string v]) (.agg #[.string s', .string v'])).run Try.prog w = .ok (.bool (!decide (s = s' ∧ v = v'))) w := by
  by_cases h1 : s = s' <;> by_cases h2 : v = v'
  all_goals first | (simp only [h1, h2]; go_simp; done) | (go_simp; simp [h1, h2]; done) | (simp [h1, h2]; done) | (go_simp; simp [h1, h2, tl_iff])
theorem ne_int {a b : Int} (h : a ≠ b) : (a == b) = false ∧ (a != b) = true := by simp [h]

set_option maxRecDepth 100000 in
set_option maxHeartbeats 4000000 in
theorem ref07_same (l m : List PairS) (A B : Option Addr) (ca cb : Nat) (w : World) (hr : RowsAt w A 2 pairRow l) (hq : RowsAt w B 2 pairRow m) (hl : l.length ≤ 1000000000) (hm : m.length ≤ 1000000000) :
    Calls Try.prog 15 #[.slice A l.length ca, .slice B m.length cb] w fun e w' => ∃ b, e = .returned (.bool b) ∧ (b = true ↔ l = m) ∧ Below w.heap.size w w' := by
  have HR := Lib.hid hr
  have HQ := Lib.hid hq
  clear hr hq
  by_cases hlm : l.length = m.length
  · have HL := Lib.hid hlm
    go_enter Try.func15, Try.ntmps15
    go_wp2
    go_loopw [13, 5] (fun v13 v5 wr => ∃ k : Nat, k ≤ l.length ∧ v13 = .int .i64 (k : Int) ∧ Hid (l.take k = m.take k) ∧ Below w.heap.size w wr) (fun v _ _ => l.length - (intOf v).toNat)
    case atStart => exact ⟨0, by omega, rfl, Lib.hid rfl, Below.refl _ _⟩
    case round =>
      obtain ⟨k, hk, rfl, HT, hB⟩ := hrel
      by_cases hlt : k < l.length
      · obtain ⟨b, o, rfl, c0, c1⟩ := pair_cells (HR.out.moved hB) k hlt
        obtain ⟨b', o', rfl, d0, d1⟩ := pair_cells (HQ.out.moved hB) k (by omega)
        obtain ⟨bb, hbb⟩ : ∃ bb : Bool, bb = !decide (l[k].1 = m[k].1 ∧ l[k].2 = m[k].2) := ⟨_, rfl⟩
        have NE := fun w => run_neq_p l[k].1 l[k].2 m[k].1 m[k].2 w
        rw [← hbb] at NE
        have HBB := Lib.hid hbb
        have HT2 : Hid (l.take (k + 1) = l.take k ++ [l[k]] ∧ m.take (k + 1) = m.take k ++ [m[k]]) := Lib.hid ⟨by rw [List.take_succ_eq_append_getElem hlt], by rw [List.take_succ_eq_append_getElem (by omega)]⟩
        obtain ⟨x0, hx0⟩ : ∃ x, x = l[k].1 := ⟨_, rfl⟩
        obtain ⟨x1, hx1⟩ : ∃ x, x = l[k].2 := ⟨_, rfl⟩
        obtain ⟨y0, hy0⟩ : ∃ x, x = m[k].1 := ⟨_, rfl⟩
        obtain ⟨y1, hy1⟩ : ∃ x, x = m[k].2 := ⟨_, rfl⟩
        rw [← hx0] at c0 NE; rw [← hx1] at c1 NE
        rw [← hy0] at d0 NE; rw [← hy1] at d1 NE
        clear hx0 hx1 hy0 hy1 hbb
        have HB := Lib.hid hB
        clear hB
        go_wp2
        go_region
        all_goals (
          cases bb with
          | true =>
            go_wp2
            go_ret
            refine ⟨false, rfl, ⟨fun h => by (cases h), fun h => ?_⟩, HB.out.trans (by (repeat (first | exact Below.refl _ _ | assumption | apply below_drewN | (refine Below.alloc ?_ (by first | assumption | omega | (simp; try omega)) _))))⟩
            subst h
            simpa using HBB.out
          | false =>
            go_wp2
            go_roundw
            case rel => exact ⟨k + 1, by omega, by go_num, Lib.hid (by
              rw [HT2.out.1, HT2.out.2, HT.out]
              have hb := HBB.out
              have hh : l[k].1 = m[k].1 ∧ l[k].2 = m[k].2 := by simpa using hb
              rw [Prod.ext hh.1 hh.2]), HB.out.trans (by first | exact Below.refl _ _ | (repeat (first | exact Below.refl _ _ | assumption | apply below_drewN | (refine Below.alloc ?_ (by first | assumption | omega | (simp; try omega)) _))) | (have h := HB.out.size; (repeat (first | exact Below.refl _ _ | assumption | apply below_drewN | (refine Below.alloc ?_ (by first | assumption | omega | (simp; try omega)) _)))))⟩
            case measure => simp [intOf]; omega)
      · obtain rfl : k = l.length := by omega
        go_wp2
        go_ret
        refine ⟨true, rfl, ⟨fun _ => ?_, fun _ => rfl⟩, hB⟩
        have h := HT.out
        rw [List.take_of_length_le (Nat.le_refl _), HL.out, List.take_of_length_le (Nat.le_refl _)] at h
        exact h
  · go_enter Try.func15, Try.ntmps15
    have hlm2 : ((l.length : Int) == (m.length : Int)) = false ∧ ((l.length : Int) != (m.length : Int)) = true := ne_int (by omega)
    obtain ⟨q0, q1⟩ := hlm2
    go_wp2
    go_ret
    exact ⟨false, rfl, ⟨fun h => by (cases h), fun h => absurd (by rw [h]) hlm⟩, Below.refl _ _⟩
end Go.Proofs.Ytacgpflheokkaaa
