/-
  The document's sums and waves; a wave's power; the chapter's example.
-/
import Derived.Test.YtepikibbghemhaaSeaEq
import Derived.StillTailTactics
namespace Go.Proofs.Ytepikibbghemhaa
open Go.RowKit
set_option linter.unusedVariables false
set_option linter.unusedSimpArgs false

def sRow (s : S4) : Array Value := #[.int .i64 s.a, .int .i64 s.b, .int .i64 s.c, .int .i64 s.d]
theorem sRow_at (s : S4) (i : Nat) (h : i < 4) : (sRow s)[i]? = some (.int .i64 (s.at i)) := by
  match i, h with
  | 0, _ | 1, _ | 2, _ | 3, _ => rfl
theorem sRow_set (s : S4) (i : Nat) (n : Int) (h : i < 4) : (sRow s).setIfInBounds i (.int .i64 (s.at i + n)) = sRow (s.put i n) := by
  match i, h with
  | 0, _ | 1, _ | 2, _ | 3, _ => rfl

set_option maxRecDepth 100000 in
set_option maxHeartbeats 4000000 in
theorem ref_sums (l : List Int) (A : Option Addr) (c : Nat) (w : World) (hr : RowsAt w A 1 intRow l) (hb : ∀ n ∈ l, I64 n) (hlen : l.length ≤ 9223372036854775807) :
    Calls Try.prog 8 #[.slice A l.length c] w fun e w' => Below w.heap.size w w' ∧
      ((total l ≤ 1125899906842624 ∧ ∃ q, e = .returned (.tuple #[.slice (some ⟨q, 0, none⟩) 4 4, .bool true]) ∧ w.heap.size ≤ q ∧ w'.heap[q]? = some (.cells (sRow (sumsN l l.length)) 2 (0, 0))) ∨
       (1125899906842624 < total l ∧ e = .returned (.tuple #[.slice none 0 0, .bool false]))) := by
  have HR := Lib.hid hr
  have HB := Lib.hid hb
  have hW0 : Below w.heap.size w w := Below.refl _ _
  clear hr hb
  go_enter Try.func8, Try.ntmps8
  go_wp2
  go_loopw [5, 12] (fun v5 v12 wr => ∃ (k S : Nat), k ≤ l.length ∧ v12 = .int .i64 (k : Int) ∧ v5 = .int .i64 (S : Int) ∧ Hid (S = total (l.take k)) ∧ S ≤ 1125899906842624 ∧ Below w.heap.size w wr ∧ Hid (wr.heap[w.heap.size]? = some (.cells (sRow (sumsN l k)) 2 (0, 0)))) (fun _ v _ => l.length - (intOf v).toNat)
  case atStart => exact ⟨0, 0, by omega, rfl, rfl, Lib.hid (by simp [total]), by omega, hW0.alloc (Nat.le_refl _) _, Lib.hid (heap_alloc_new _ _)⟩
  case round =>
    obtain ⟨k, S, hk, rfl, rfl, HS, hS, hB, H1⟩ := hrel
    by_cases hlt : k < l.length
    · obtain ⟨b, o, rfl, hc⟩ := ints_at (HR.out.moved hB) k hlt
      have HT := Lib.hid (total_take_succ l k hlt)
      have HL := Lib.hid (total_take_le l (k + 1))
      have HN : Hid (sumsN l (k + 1) = (sumsN l k).put (k % 4) l[k]) := Lib.hid (by show (sumsN l k).put (k % 4) (l[k]?.getD 0) = _; rw [List.getElem?_eq_getElem hlt]; rfl)
      have HSZ : Hid ((sumsN l k).size ≤ total (l.take k)) := Lib.hid (sumsN_size l k hk)
      obtain ⟨hx0, hx1⟩ := HB.out l[k] (List.getElem_mem hlt)
      obtain ⟨x, hx⟩ : ∃ x, x = l[k] := ⟨_, rfl⟩
      rw [← hx] at hc hx0 hx1 HT HN
      clear hx
      obtain ⟨s, hs⟩ : ∃ s, s = sumsN l k := ⟨_, rfl⟩
      rw [← hs] at HN HSZ H1
      clear hs
      obtain ⟨i, hi⟩ : ∃ i, i = k % 4 := ⟨_, rfl⟩
      have hi4 : i < 4 := by omega
      rw [← hi] at HN
      have hrem : (k : Int) % 4 = (i : Int) := by omega
      clear hi
      have hcell : wr.cell? ⟨w.heap.size, i, none⟩ = some (.int .i64 (s.at i)) := by rw [cell_of_row _ _ _ _ _ _ H1.out, sRow_at s i hi4]
      have hfz : wr.frozen? ⟨w.heap.size, i, none⟩ = false := frozen_of_row _ _ _ _ _ H1.out
      obtain ⟨y, hy⟩ : ∃ y, y = s.at i := ⟨_, rfl⟩
      have hy1 : y.natAbs ≤ 1125899906842624 := by have := at_le s i; have := HSZ.out; have := HS.out; omega
      rw [← hy] at hcell
      by_cases hbig : 1125899906842624 < S + x.natAbs
      · have HBIG : Hid (1125899906842624 < total l) := Lib.hid (by have := HT.out; have := HS.out; have := HL.out; omega)
        have hcase : x = -9223372036854775808 ∨ (-9223372036854775808 < x ∧ x < 0) ∨ 0 ≤ x := by omega
        clear hcell hfz hrem
        rcases hcase with h1 | ⟨h1, h2⟩ | h1
        · have hw : IntKind.i64.wrap (-x) = -9223372036854775808 := by rw [h1]; decide
          have hx2 : x < 0 := by omega
          clear h1
          go_wp2
          all_goals first
            | (go_ret2; exact ⟨hB, .inr ⟨HBIG.out, rfl⟩⟩)

        · go_wp2
          all_goals first
            | (exfalso; omega)
            | (go_ret2; exact ⟨hB, .inr ⟨HBIG.out, rfl⟩⟩)
        · go_wp2
          all_goals first
            | (exfalso; omega)
            | (go_ret2; exact ⟨hB, .inr ⟨HBIG.out, rfl⟩⟩)
      · have HS2 : Hid (S + x.natAbs = total (l.take (k + 1))) := Lib.hid (by rw [HT.out, HS.out])
        have hcase : (-9223372036854775808 < x ∧ x < 0) ∨ 0 ≤ x := by omega
        rcases hcase with ⟨h1, h2⟩ | h1
        · go_wp2
          go_roundw
          case rel =>
            refine ⟨k + 1, S + x.natAbs, by omega, by go_num, ?_, HS2, by omega, hB.setCell (by simp) _, Lib.hid ?_⟩
            · congr 1; omega
            · rw [HN.out, ← sRow_set s i x hi4, ← hy]; exact heap_setCell_same _ _ _ _ _ _ H1.out
          case measure => simp [intOf]; omega
        · go_wp2
          go_roundw
          case rel =>
            refine ⟨k + 1, S + x.natAbs, by omega, by go_num, ?_, HS2, by omega, hB.setCell (by simp) _, Lib.hid ?_⟩
            · congr 1; omega
            · rw [HN.out, ← sRow_set s i x hi4, ← hy]; exact heap_setCell_same _ _ _ _ _ _ H1.out
          case measure => simp [intOf]; omega
    · have hkl : Hid (k = l.length) := Lib.hid (by omega)
      have HT : Hid (total l ≤ 1125899906842624) := Lib.hid (by
        have h := HS.out
        rw [List.take_of_length_le (by omega)] at h
        omega)
      go_wp2
      go_ret2
      exact ⟨hB, .inl ⟨HT.out, w.heap.size, rfl, Nat.le_refl _, by rw [← hkl.out]; exact H1.out⟩⟩
end Go.Proofs.Ytepikibbghemhaa
