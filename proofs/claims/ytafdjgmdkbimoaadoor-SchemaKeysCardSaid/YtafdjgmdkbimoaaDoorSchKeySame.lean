/-
  What a key is of, by shapes, is what it is of by making the key anew.
-/
import Derived.Test.YtafdjgmdkbimoaaDoorSchKeyPl
namespace Go.Proofs.YtafdjgmdkbimoaaDoor
open Go.RowKit
set_option linter.unusedVariables false
set_option linter.unusedSimpArgs false

theorem ne_s {c d : UInt8} (h : c ≠ d) : ¬ (⟨#[c]⟩ : ByteArray) = ⟨#[d]⟩ := by
  intro e; injection e with e; injection e with e; injection e with e; exact h e
theorem fits_none {s : ByteArray} {r : List PartR} (h : ¬ ((s = ⟨#[97]⟩ ∧ ∃ x y, r = [x, y]) ∨ (s = ⟨#[111]⟩ ∧ ∃ x, r = [x]) ∨ (s = ⟨#[98]⟩ ∧ ∃ x y z v, r = [x, y, z, v]) ∨ (s = ⟨#[101]⟩ ∧ ∃ x y, r = [x, y]) ∨ (s = ⟨#[110]⟩ ∧ ∃ x, r = [x]))) : (!(shapeL s).isEmpty && fitsL r (shapeL s)) = false := by
  cases hh : (!(shapeL s).isEmpty && fitsL r (shapeL s)) with
  | false => rfl
  | true => exact absurd (fit_cases s r hh.symm) h
theorem s1_size (c : UInt8) : (⟨#[c]⟩ : ByteArray).size ≤ maxLen := by
  show 1 ≤ maxLen; decide
theorem fine_bd {x : PartR} (h : Fine x) : (-9223372036854775808 ≤ x.n ∧ x.n ≤ 9223372036854775807) ∧ (0 ≤ x.u ∧ x.u < 18446744073709551616) ∧ x.s.size ≤ maxLen := ⟨h.1.good.n, h.1.good.u, h.1.good.s⟩
theorem z_le : (0 : Int) ≤ 0 ∧ (0 : Int) < 18446744073709551616 := by decide
theorem z_le' : (-9223372036854775808 : Int) ≤ 0 ∧ (0 : Int) ≤ 9223372036854775807 := by decide
theorem fine_pr {x : PartR} (h : Fine x) {c : Prop} [Decidable c] : (⟨if c then 100 else 105, x.n, 0, ByteArray.empty⟩ = x) ↔ x.sort = if c then 100 else 105 := by
  by_cases hc : c
  · simp only [if_pos hc]; exact fine_100 h
  · simp only [if_neg hc]; exact fine_105 h
theorem small0 : smallB 0 = true := by decide

theorem thing_same (k : List UInt8) : thingO k = parse21 k := by
  unfold thingO parse21
  by_cases h0 : (partsR k).2 = 0
  rotate_left
  · rw [if_pos h0, if_pos h0]
  rw [if_neg (by simpa using h0), if_neg (by simpa using h0)]
  obtain ⟨hf, hk, hlen⟩ := partsR_canon k h0
  generalize (partsR k).1 = l at *
  clear h0
  have hC : ∀ t n, (∀ p ∈ rowR (kindT t n), Fine p) → (((makeGo (rowR (kindT t n)) []).2 = 0 ∧ (makeGo (rowR (kindT t n)) []).1 = k) ↔ rowR (kindT t n) = l) := fun t n ht => by
    rw [hk] at hlen ⊢
    exact make_same _ l ht hf hlen
  match l, hf with
  | [], _ => rfl
  | [p], _ =>
    simp only [pre21]
    rw [fits_none (by rintro (⟨_, _, _, h⟩ | ⟨_, _, h⟩ | ⟨_, _, _, _, _, h⟩ | ⟨_, _, _, h⟩ | ⟨_, _, h⟩) <;> simp at h)]
    simp
  | p :: x :: r, hf =>
    have hp := hf p (by simp)
    have hx := hf x (by simp)
    obtain ⟨bx1, bx2, bx3⟩ := fine_bd hx
    by_cases h116 : p.sort = 116
    rotate_left
    · simp only [pre21]
      rw [if_neg (fun h => h116 h.1), if_pos h116]
    have hpe := (fine_116 hp).2 h116
    simp only [pre21]
    rw [if_neg (show ¬ (p.sort ≠ 116) from fun h => h h116)]
    simp only [h116, true_and]
    by_cases ha : p.s = ⟨#[97]⟩
    · rw [if_pos ha]
      rw [ha] at hpe ⊢
      match r, hf with
      | [y], hf =>
        have hy := hf y (by simp)
        obtain ⟨by1, by2, by3⟩ := fine_bd hy
        have hrow : rowR (kindT ⟨⟨#[97]⟩, x.u, 0, 0, 0, 0, 0, ByteArray.empty⟩ y.n) = [⟨116, 0, 0, ⟨#[97]⟩⟩, ⟨117, 0, x.u, ByteArray.empty⟩, ⟨105, y.n, 0, ByteArray.empty⟩] := by simp [rowR, kindT, placeL] <;> rfl
        have hc := hC ⟨⟨#[97]⟩, x.u, 0, 0, 0, 0, 0, ByteArray.empty⟩ y.n (rowR_fine _ (s1_size _) empty_le bx2 z_le by1 z_le' z_le z_le)
        rw [hrow, hpe] at hc
        simp only [List.cons.injEq, true_and, and_true, fine_117 hx, fine_105 hy] at hc
        dsimp only
        rw [hrow, hpe]
        simp only [hc]
        have hsh : shapeL ⟨#[97]⟩ = [117, 105] := by decide
        have hb : bodyT ⟨#[97]⟩ [x, y] = if smallB y.n = true then some ⟨⟨#[97]⟩, x.u, 0, y.n, 0, 0, 0, ByteArray.empty⟩ else none := by unfold bodyT; rw [if_pos rfl]
        rw [hsh, hb]
        by_cases e1 : x.sort = 117 <;> by_cases e2 : y.sort = 105 <;> by_cases e3 : smallB y.n = true <;> simp [fitsL, fit1, e1, e2, e3, kindT]
      | [], hf | y :: z :: r, hf =>
        rw [fits_none (by rintro (⟨e, h⟩ | ⟨e, h⟩ | ⟨e, h⟩ | ⟨e, h⟩ | ⟨e, h⟩) <;> first | (exact ne_s (by decide) e) | (simp at h))]
        have hc := hC (zT ⟨#[97]⟩) 0 (rowR_fine _ (s1_size _) empty_le z_le z_le z_le' z_le' z_le z_le)
        dsimp only
        rw [if_neg (fun h => by simp at h)]
        rw [if_pos small0, if_neg (fun hh => by have := congrArg List.length (hc.1 hh); simp [rowR, kindT, zT, placeL] at this)]
    by_cases ho : p.s = ⟨#[111]⟩
    · rw [if_neg ha, if_pos ho]
      rw [ho] at hpe ⊢
      match r, hf with
      | [], hf =>
        have hrow : rowR (kindT ⟨⟨#[111]⟩, 0, x.u, 0, 0, 0, 0, ByteArray.empty⟩ 0) = [⟨116, 0, 0, ⟨#[111]⟩⟩, ⟨117, 0, x.u, ByteArray.empty⟩] := by simp [rowR, kindT, placeL] <;> rfl
        have hc := hC ⟨⟨#[111]⟩, 0, x.u, 0, 0, 0, 0, ByteArray.empty⟩ 0 (rowR_fine _ (s1_size _) empty_le z_le bx2 z_le' z_le' z_le z_le)
        rw [hrow, hpe] at hc
        simp only [List.cons.injEq, true_and, and_true, fine_117 hx] at hc
        dsimp only
        rw [hrow, hpe]
        simp only [hc]
        have hsh : shapeL ⟨#[111]⟩ = [117] := by decide
        have hb : bodyT ⟨#[111]⟩ [x] = some ⟨⟨#[111]⟩, 0, x.u, 0, 0, 0, 0, ByteArray.empty⟩ := by unfold bodyT; rw [if_neg (ne_s (by decide)), if_pos rfl]
        rw [hsh, hb]
        by_cases e1 : x.sort = 117 <;> simp [fitsL, fit1, e1, kindT, small0]
      | y :: r, hf =>
        rw [fits_none (by rintro (⟨e, h⟩ | ⟨e, h⟩ | ⟨e, h⟩ | ⟨e, h⟩ | ⟨e, h⟩) <;> first | (exact ne_s (by decide) e) | (simp at h))]
        have hc := hC ⟨⟨#[111]⟩, 0, x.u, 0, 0, 0, 0, ByteArray.empty⟩ 0 (rowR_fine _ (s1_size _) empty_le z_le bx2 z_le' z_le' z_le z_le)
        dsimp only
        rw [if_neg (fun h => by simp at h)]
        rw [if_pos small0, if_neg (fun hh => by have := congrArg List.length (hc.1 hh); simp [rowR, kindT, zT, placeL] at this)]
    by_cases hb : p.s = ⟨#[98]⟩
    · rw [if_neg ha, if_neg ho, if_pos hb]
      rw [hb] at hpe ⊢
      match r, hf with
      | [y, z, v], hf =>
        have hy := hf y (by simp)
        obtain ⟨by1, by2, by3⟩ := fine_bd hy
        have hz := hf z (by simp)
        obtain ⟨bz1, bz2, bz3⟩ := fine_bd hz
        have hv := hf v (by simp)
        obtain ⟨bv1, bv2, bv3⟩ := fine_bd hv
        have hrow : rowR (kindT ⟨⟨#[98]⟩, 0, v.u, 0, y.n, z.u, 0, ByteArray.empty⟩ x.n) = [⟨116, 0, 0, ⟨#[98]⟩⟩, ⟨105, x.n, 0, ByteArray.empty⟩, ⟨if x.n = 1 then 100 else 105, y.n, 0, ByteArray.empty⟩, ⟨117, 0, z.u, ByteArray.empty⟩, ⟨117, 0, v.u, ByteArray.empty⟩] := by simp [rowR, kindT, placeL] <;> rfl
        have hc := hC ⟨⟨#[98]⟩, 0, v.u, 0, y.n, z.u, 0, ByteArray.empty⟩ x.n (rowR_fine _ (s1_size _) empty_le z_le bv2 bx1 by1 bz2 z_le)
        rw [hrow, hpe] at hc
        simp only [List.cons.injEq, true_and, and_true, fine_117 hz, fine_117 hv, fine_105 hx, fine_pr hy] at hc
        dsimp only
        rw [hrow, hpe]
        simp only [hc]
        have hsh : shapeL ⟨#[98]⟩ = [105, 112, 117, 117] := by decide
        have hb : bodyT ⟨#[98]⟩ [x, y, z, v] = if y.sort = (if x.n = 1 then 100 else 105) then (if smallB x.n then some ⟨⟨#[98]⟩, 0, v.u, x.n, y.n, z.u, 0, ByteArray.empty⟩ else none) else none := by unfold bodyT; rw [if_neg (ne_s (by decide)), if_neg (ne_s (by decide)), if_pos rfl]
        rw [hsh, hb]
        by_cases e1 : x.sort = 105 <;> by_cases e2 : z.sort = 117 <;> by_cases e3 : v.sort = 117 <;> by_cases e4 : smallB x.n = true <;> by_cases e5 : x.n = 1 <;> by_cases e6 : y.sort = 100 <;> by_cases e7 : y.sort = 105 <;> simp [fitsL, fit1, e1, e2, e3, e4, e5, e6, e7, kindT] <;> omega
      | [], hf | [y], hf | [y, z], hf | y :: z :: v :: u :: r, hf =>
        rw [fits_none (by rintro (⟨e, h⟩ | ⟨e, h⟩ | ⟨e, h⟩ | ⟨e, h⟩ | ⟨e, h⟩) <;> first | (exact ne_s (by decide) e) | (simp at h))]
        have hc := hC (zT ⟨#[98]⟩) 0 (rowR_fine _ (s1_size _) empty_le z_le z_le z_le' z_le' z_le z_le)
        dsimp only
        rw [if_neg (fun h => by simp at h)]
        rw [if_pos small0, if_neg (fun hh => by have := congrArg List.length (hc.1 hh); simp [rowR, kindT, zT, placeL] at this)]
    by_cases he : p.s = ⟨#[101]⟩
    · rw [if_neg ha, if_neg ho, if_neg hb, if_pos he]
      rw [he] at hpe ⊢
      match r, hf with
      | [y], hf =>
        have hy := hf y (by simp)
        obtain ⟨by1, by2, by3⟩ := fine_bd hy
        have hrow : rowR (kindT ⟨⟨#[101]⟩, 0, y.u, 0, 0, 0, x.u, ByteArray.empty⟩ 0) = [⟨116, 0, 0, ⟨#[101]⟩⟩, ⟨117, 0, x.u, ByteArray.empty⟩, ⟨117, 0, y.u, ByteArray.empty⟩] := by simp [rowR, kindT, placeL] <;> rfl
        have hc := hC ⟨⟨#[101]⟩, 0, y.u, 0, 0, 0, x.u, ByteArray.empty⟩ 0 (rowR_fine _ (s1_size _) empty_le z_le by2 z_le' z_le' z_le bx2)
        rw [hrow, hpe] at hc
        simp only [List.cons.injEq, true_and, and_true, fine_117 hx, fine_117 hy] at hc
        dsimp only
        rw [hrow, hpe]
        simp only [hc]
        have hsh : shapeL ⟨#[101]⟩ = [117, 117] := by decide
        have hb : bodyT ⟨#[101]⟩ [x, y] = some ⟨⟨#[101]⟩, 0, y.u, 0, 0, 0, x.u, ByteArray.empty⟩ := by unfold bodyT; rw [if_neg (ne_s (by decide)), if_neg (ne_s (by decide)), if_neg (ne_s (by decide)), if_pos rfl]
        rw [hsh, hb]
        by_cases e1 : x.sort = 117 <;> by_cases e2 : y.sort = 117 <;> simp [fitsL, fit1, e1, e2, kindT, small0]
      | [], hf | y :: z :: r, hf =>
        rw [fits_none (by rintro (⟨e, h⟩ | ⟨e, h⟩ | ⟨e, h⟩ | ⟨e, h⟩ | ⟨e, h⟩) <;> first | (exact ne_s (by decide) e) | (simp at h))]
        have hc := hC (zT ⟨#[101]⟩) 0 (rowR_fine _ (s1_size _) empty_le z_le z_le z_le' z_le' z_le z_le)
        dsimp only
        rw [if_neg (fun h => by simp at h)]
        rw [if_pos small0, if_neg (fun hh => by have := congrArg List.length (hc.1 hh); simp [rowR, kindT, zT, placeL] at this)]
    by_cases hn : p.s = ⟨#[110]⟩
    · rw [if_neg ha, if_neg ho, if_neg hb, if_neg he, if_pos hn]
      rw [hn] at hpe ⊢
      match r, hf with
      | [], hf =>
        have hrow : rowR (kindT ⟨⟨#[110]⟩, 0, 0, 0, 0, 0, 0, x.s⟩ 0) = [⟨116, 0, 0, ⟨#[110]⟩⟩, ⟨116, 0, 0, x.s⟩] := by simp [rowR, kindT, placeL] <;> rfl
        have hc := hC ⟨⟨#[110]⟩, 0, 0, 0, 0, 0, 0, x.s⟩ 0 (rowR_fine _ (s1_size _) bx3 z_le z_le z_le' z_le' z_le z_le)
        rw [hrow, hpe] at hc
        simp only [List.cons.injEq, true_and, and_true, fine_116 hx] at hc
        dsimp only
        rw [hrow, hpe]
        simp only [hc]
        have hsh : shapeL ⟨#[110]⟩ = [116] := by decide
        have hb : bodyT ⟨#[110]⟩ [x] = some ⟨⟨#[110]⟩, 0, 0, 0, 0, 0, 0, x.s⟩ := by unfold bodyT; rw [if_neg (ne_s (by decide)), if_neg (ne_s (by decide)), if_neg (ne_s (by decide)), if_neg (ne_s (by decide))]
        rw [hsh, hb]
        by_cases e1 : x.sort = 116 <;> simp [fitsL, fit1, e1, kindT, small0]
      | y :: r, hf =>
        rw [fits_none (by rintro (⟨e, h⟩ | ⟨e, h⟩ | ⟨e, h⟩ | ⟨e, h⟩ | ⟨e, h⟩) <;> first | (exact ne_s (by decide) e) | (simp at h))]
        have hc := hC ⟨⟨#[110]⟩, 0, 0, 0, 0, 0, 0, x.s⟩ 0 (rowR_fine _ (s1_size _) bx3 z_le z_le z_le' z_le' z_le z_le)
        dsimp only
        rw [if_neg (fun h => by simp at h)]
        rw [if_pos small0, if_neg (fun hh => by have := congrArg List.length (hc.1 hh); simp [rowR, kindT, zT, placeL] at this)]
    rw [if_neg ha, if_neg ho, if_neg hb, if_neg he, if_neg hn]
    rw [fits_none (by rintro (⟨e, _⟩ | ⟨e, _⟩ | ⟨e, _⟩ | ⟨e, _⟩ | ⟨e, _⟩); all_goals (first | exact ha e | exact ho e | exact hb e | exact he e | exact hn e))]
    simp
end Go.Proofs.YtafdjgmdkbimoaaDoor
