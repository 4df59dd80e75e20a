/-
  A Builder's WriteString, and what it leaves as it was.
-/
import Derived.Test.YthhgijjdddcchaaBld
namespace Go.Proofs.Ythhgijjdddcchaa
open Go.RowKit
set_option linter.unusedVariables false
set_option linter.unusedSimpArgs false

set_option maxHeartbeats 2000000 in
set_option maxRecDepth 100000 in
/-- what is there already and is no row of bytes stays -/
theorem bld_str_kept (B b : Nat) (l : List UInt8) (s : ByteArray) (w : World) (h : Bld B b l w) (hlen : l.length + s.size ≤ 140737488355328) (hBw : B ≤ w.heap.size) :
    Calls Try.prog 11 #[.pointer (some ⟨b, 0, none⟩), .string s] w fun e w' => e = .returned (.tuple #[.int .i64 s.size, .nilIface]) ∧ Bld B b (l ++ s.data.toList) w' ∧ Below B w w' ∧ (∀ k cs t fr, w.heap[k]? = some (.cells cs t fr) → t ≠ 5 → k ≠ b → w'.heap[k]? = some (.cells cs t fr)) := by
  obtain ⟨i0, hi, hz0, hz1, hz2⟩ := info_parts bld_byte_info
  go_enter Try.func11, Try.ntmps11
  go_wp2_with (go_at_call 25; refine (bld_check B b _ _ h.out).mono ?_)
  rintro e w1 ⟨rfl, h1, hC1, hs1⟩
  have HC1 := Lib.hid hC1
  clear hC1 hs1
  obtain ⟨hB, v, hbk, hown, hne⟩ := h1
  have c0 : w1.cell? ⟨b, 0, none⟩ = some (.pointer (some ⟨b, 0, none⟩)) := by rw [Lib.cell_of_heap hbk]; rfl
  have c1 : w1.cell? ⟨b, 1, none⟩ = some v := by rw [Lib.cell_of_heap hbk]; rfl
  have hb1 : Hid (Below B w w1) := Lib.hid (HC1.out.below hB hBw)
  have HL : Hid ((Lib.byteCells l).length = l.length) := Lib.hid (Lib.byteCells_length l)
  have HBK := Lib.hid hbk
  have HOW := Lib.hid hown
  have HNE := Lib.hid hne
  have HKK : Hid (∀ k cs t fr, w.heap[k]? = some (.cells cs t fr) → t ≠ 5 → k ≠ b → w1.heap[k]? = some (.cells cs t fr) ∧ v.ownBlock ≠ some k) := Lib.hid (by
    intro k cs t fr hk ht hkb
    have h1 : w1.heap[k]? = some (.cells cs t fr) := (HC1.out.block k (heap_lt hk) hkb).trans hk
    refine ⟨h1, fun e => ?_⟩
    rcases hown.2 with ⟨hv, _⟩ | ⟨g, cap, cur, hv, _, hg, _⟩
    · rw [hv] at e; simp [Value.ownBlock] at e
    · rw [hv] at e
      simp [Value.ownBlock] at e
      subst e
      rw [hg] at h1
      simp only [Option.some.injEq, Obj.cells.injEq] at h1
      exact ht h1.2.1.symm)
  clear hbk hown hne
  go_wp2_with (at_builtin; refine Lib.wpList_append_own_string _ rfl (.tmp 12) (.tmp 13) 40 9 rfl B 5 i0 Try.underlying40 Try.underlying9 hi hz0 hz1 hz2 v (Lib.byteCells l).length (Lib.byteCells l) rfl HOW.out s rfl ?c3 ?c4 ?c5 ?_)
  case c3 => rw [HL.out]; unfold maxLen; omega
  case c4 => rw [HL.out]; omega
  case c5 => have := hb1.out.size; omega
  intro v' w2 hown' hgrow hnil
  clear hnil
  have hlt : b < w1.heap.size := heap_lt HBK.out
  have hb2 : w2.heap[b]? = some (.cells #[.pointer (some ⟨b, 0, none⟩), v] 42 (0, 0)) := by
    rw [hgrow.block b hlt (fun e => HNE.out e.symm)]
    exact HBK.out
  have d0 : w2.cell? ⟨b, 0, none⟩ = some (.pointer (some ⟨b, 0, none⟩)) := by rw [Lib.cell_of_heap hb2]; rfl
  have d1 : w2.cell? ⟨b, 1, none⟩ = some v := by rw [Lib.cell_of_heap hb2]; rfl
  have f1 : w2.frozen? ⟨b, 1, none⟩ = false := Lib.frozen_of_heap hb2 1
  obtain ⟨ao, n', cap, rfl⟩ : ∃ ao n' cap, v' = .slice ao n' cap := by
    rcases hown'.2 with ⟨hv, _⟩ | ⟨g, cap, cur, hv, _⟩
    · exact ⟨_, _, _, hv⟩
    · exact ⟨_, _, _, hv⟩
  have H2 := Lib.hid hb2
  have HO2 := Lib.hid hown'
  have HG2 := Lib.hid hgrow
  clear hb2 hown' hgrow
  go_wp2
  go_ret2
  refine ⟨rfl, ⟨.inr ?_⟩, ?_, ?_⟩
  · exact Lib.BuilderAt.put (T := 42) (e := 5) hB H2.out (bs' := Lib.byteCells (l ++ s.data.toList)) (by have h := HO2.out; rw [Lib.byteCells_append, ← Lib.strCells_eq]; simpa [Lib.strCells_length] using h) (by decide)
  · exact (hb1.out.grown HG2.out (by have := hb1.out.size; omega) (fun k hk => (HOW.out.lt k hk).1)).setCell (p := ⟨b, 1, none⟩) hB _
  · intro k cs t fr hk ht hkb
    obtain ⟨h1, h2⟩ := HKK.out k cs t fr hk ht hkb
    have h3 := (HG2.out.block k (heap_lt h1) (fun e => h2 e.symm)).trans h1
    rw [← h3]
    exact Below.heap_setCell _ _ _ _ hkb
end Go.Proofs.Ythhgijjdddcchaa
