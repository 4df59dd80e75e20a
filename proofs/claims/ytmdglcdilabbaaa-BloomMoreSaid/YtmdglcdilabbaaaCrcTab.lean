/-
  crc.Table by contract.
-/
import Derived.Test.YtmdglcdilabbaaaCrcMath
import Derived.ScopeJumps
import Derived.WalkMore
namespace Go.Proofs.Ytmdglcdilabbaaa
open Go.RowKit
set_option linter.unusedVariables false
set_option linter.unusedSimpArgs false


def tabZero : Array Value := Array.replicate 256 (.int .u32 0)
theorem tabZero_size : tabZero.size = 256 := by simp [tabZero]
theorem tabZero_ne : ¬ tabZero = #[] := fun h => by have := congrArg Array.size h; rw [tabZero_size] at this; simp at this
theorem zero_tab (w : World) : (zeroValue 43).run Try.prog w = .ok (.agg tabZero) w := by kernel_rfl
theorem info_tab : (Try.prog.info? 43).map (·.size) = some 256 := by kernel_rfl

/-- the table behind k rounds -/
def tabRow (k : Nat) : Array Value := Array.ofFn (n := 256) fun j => .int .u32 (if j.val < k then ((CrcM.tab j.val).toNat : Int) else 0)
theorem tabRow_zero : tabRow 0 = tabZero := by
  apply Array.ext
  · simp [tabRow, tabZero]
  · intro i h1 h2; simp [tabRow, tabZero]
theorem tabRow_size (k : Nat) : (tabRow k).size = 256 := by simp [tabRow]
theorem tabRow_at (k j : Nat) (h : j < 256) : (tabRow k)[j]? = some (.int .u32 (if j < k then ((CrcM.tab j).toNat : Int) else 0)) := by
  rw [Array.getElem?_eq_getElem (by rw [tabRow_size]; exact h)]; simp [tabRow]
theorem tabRow_set (k : Nat) (h : k < 256) : (tabRow k).setIfInBounds k (.int .u32 ((CrcM.tab k).toNat : Int)) = tabRow (k + 1) := by
  apply Array.ext
  · simp [tabRow]
  · intro i h1 h2
    have hi : i < 256 := by simpa [tabRow] using h2
    rw [Array.getElem_setIfInBounds (by simpa [tabRow] using hi)]
    by_cases e : k = i
    · subst e; simp [tabRow]
    · rw [if_neg e]; simp only [tabRow, Array.getElem_ofFn]
      by_cases hk : i < k
      · rw [if_pos hk, if_pos (by omega)]
      · rw [if_neg hk, if_neg (by omega)]
theorem tabRow_one (k : Nat) : (tabRow k).all (·.oneCell') = true := by
  rw [Array.all_eq_true_iff_forall_mem]
  intro x hx
  simp only [tabRow, Array.mem_ofFn] at hx
  obtain ⟨j, rfl⟩ := hx
  rfl

set_option maxHeartbeats 1000000 in
set_option maxRecDepth 100000 in
theorem crc_table (w : World) :
    Calls Try.prog 21 #[] w fun e w' => e = .returned (.agg (tabRow 256)) ∧ Below w.heap.size w w' ∧ w'.heap.size = w.heap.size + 2 := by
  have hz := zero_tab
  have hne := tabZero_ne
  go_enter Try.func21, Try.ntmps21
  go_wp2
  go_loopw [6] (fun v6 wr => ∃ k : Nat, k ≤ 256 ∧ v6 = .int .i64 k ∧ Below w.heap.size w wr ∧ Hid (wr.heap.size = w.heap.size + 2) ∧ Hid (wr.heap[w.heap.size + 1]? = some (.cells (tabRow k) 43 (0, 0))) ∧ Hid (wr.heap[w.heap.size]? = some (.cells tabZero 43 (0, 0)))) (fun v _ => 256 - (intOf v).toNat)
  case atStart => exact ⟨0, by omega, rfl, ((Below.refl _ _).alloc (Nat.le_refl _) _).alloc (by simp) _, Lib.hid (by simp), Lib.hid (by rw [tabRow_zero]; exact heap_alloc2_new _ _ _), Lib.hid (heap_alloc2_old _ _ _)⟩
  case round =>
    obtain ⟨k, hk, rfl, hB, HS, H1, H0⟩ := hrel
    have hcell : wr.cell? ⟨w.heap.size + 1, k, none⟩ = (tabRow k)[k]? := cell_of_row _ _ _ _ _ _ H1.out
    have hfz : wr.frozen? ⟨w.heap.size + 1, k, none⟩ = false := frozen_of_row _ _ _ _ _ H1.out
    by_cases hlt : k < 256
    · rw [tabRow_at k k hlt, if_neg (by omega)] at hcell
      have hx : Hid (CrcM.stN 8 (BitVec.ofNat 32 k) = CrcM.tab k) := Lib.hid rfl
      obtain ⟨x, hxe⟩ : ∃ x, x = BitVec.ofNat 32 k := ⟨_, rfl⟩
      have hxn : Hid ((k : Int) = (x.toNat : Int)) := Lib.hid (by rw [hxe, BitVec.toNat_ofNat]; omega)
      rw [← hxe] at hx
      clear hxe
      go_wp2
      refine wp_scope_jumps 0 (fun a' w' => w' = wr ∧ ∃ (m : Nat) (x : BitVec 32) (y5 y9 y10 y11 y12 y13 y14 y15 y16 y17 y18 y19 y20 y21 y22 y23 y24 y25 : Value), a' = { tmps := #[.pointer (some ⟨w.heap.size, 0, none⟩), .pointer (some ⟨w.heap.size + 1, 0, none⟩), .int .i64 k, .int .u32 (x.toNat : Int), .int .i64 m, y5, .int .i64 k, .bool (decide ((k : Int) < 256)), .int .i64 k, y9, y10, y11, y12, y13, y14, y15, y16, y17, y18, y19, y20, y21, y22, y23, y24, y25, u26, undef], defers := [] } ∧ Hid (CrcM.stN (8 - m) x = CrcM.tab k) ∧ 1 ≤ m ∧ m ≤ 7) (fun a' _ => 8 - (intOf (a'.tmps.getD 4 undef)).toNat) rfl ?_ ?_
      · cases ho : x.getLsbD 0
        · obtain ⟨o1, o2⟩ := CrcM.even_step _ x hxn.out ho
          clear ho
          go_wp2
          go_step3
          go_wp2
          go_step3
          exact ⟨rfl, rfl, 1, CrcM.st x, _, _, _, _, _, _, _, _, _, _, _, _, _, _, _, _, _, _, rfl, hx, by omega, by omega⟩
        · obtain ⟨o1, o2⟩ := CrcM.odd_step _ x hxn.out ho
          clear ho
          go_wp2
          go_step3
          go_wp2
          go_step3
          exact ⟨rfl, rfl, 1, CrcM.st x, _, _, _, _, _, _, _, _, _, _, _, _, _, _, _, _, _, _, rfl, hx, by omega, by omega⟩
      · clear hx hxn x
        rintro a' w' ⟨rfl, m, x, y5, y9, y10, y11, y12, y13, y14, y15, y16, y17, y18, y19, y20, y21, y22, y23, y24, y25, rfl, hs, h1, h7⟩
        by_cases hm : m < 7
        · cases ho : x.getLsbD 0
          · obtain ⟨o1, o2⟩ := CrcM.even_step _ x rfl ho
            clear ho
            go_wp2
            go_step3
            refine ⟨rfl, ⟨rfl, m + 1, CrcM.st x, _, _, _, _, _, _, _, _, _, _, _, _, _, _, _, _, _, _, rfl, ?_, by omega, by omega⟩, ?_⟩
            · have h := hs.out
              rw [show 8 - m = (8 - (m + 1)) + 1 from by omega] at h
              exact h
            · simp [intOf]; omega
          · obtain ⟨o1, o2⟩ := CrcM.odd_step _ x rfl ho
            clear ho
            go_wp2
            go_step3
            refine ⟨rfl, ⟨rfl, m + 1, CrcM.st x, _, _, _, _, _, _, _, _, _, _, _, _, _, _, _, _, _, _, rfl, ?_, by omega, by omega⟩, ?_⟩
            · have h := hs.out
              rw [show 8 - m = (8 - (m + 1)) + 1 from by omega] at h
              exact h
            · simp [intOf]; omega
        · have hm7 : Hid (m = 7) := Lib.hid (by omega)
          cases ho : x.getLsbD 0
          · obtain ⟨o1, o2⟩ := CrcM.even_step _ x rfl ho
            have hT : Hid (CrcM.st x = CrcM.tab k) := Lib.hid (by have h := hs.out; rw [hm7.out] at h; exact h)
            clear ho
            go_wp2
            simp only [Exit.jump]
            go_wp2
            go_roundw
            case rel => exact ⟨k + 1, by omega, by go_num, hB.setCell (by simp) _, Lib.hid (by have h := HS.out; simpa [World.setCell] using h), Lib.hid (by rw [← tabRow_set k (by omega), hT.out]; exact heap_setCell_same _ _ _ _ _ _ H1.out), Lib.hid (by rw [heap_setCell_other _ _ _ _ (by simp)]; exact H0.out)⟩
            case measure => simp [intOf]; omega
          · obtain ⟨o1, o2⟩ := CrcM.odd_step _ x rfl ho
            have hT : Hid (CrcM.st x = CrcM.tab k) := Lib.hid (by have h := hs.out; rw [hm7.out] at h; exact h)
            clear ho
            go_wp2
            simp only [Exit.jump]
            go_wp2
            go_roundw
            case rel => exact ⟨k + 1, by omega, by go_num, hB.setCell (by simp) _, Lib.hid (by have h := HS.out; simpa [World.setCell] using h), Lib.hid (by rw [← tabRow_set k (by omega), hT.out]; exact heap_setCell_same _ _ _ _ _ _ H1.out), Lib.hid (by rw [heap_setCell_other _ _ _ _ (by simp)]; exact H0.out)⟩
            case measure => simp [intOf]; omega
    · have hge : 256 ≤ k := by omega
      clear hcell hfz
      have hE : Hid (k = 256) := Lib.hid (by omega)
      clear hlt
      go_wp2_with (first | (with_reducible refine wpList_load_row rfl 43 (.tmp 1) rfl (w.heap.size + 1) rfl 43 (tabRow k) (0, 0) _ H1.out Try.underlying43 rfl (by rw [tabRow_size]; exact info_tab) ?_) | (with_reducible refine wpList_store_row rfl 43 (.tmp 0) (.tmp 27) rfl w.heap.size (tabRow k) rfl rfl 43 tabZero H0.out (by rw [tabRow_size]; exact info_tab) (by rw [tabRow_size, tabZero_size]) (tabRow_one _) ?_))
      have H2 : (wr.setRow w.heap.size (tabRow k)).heap[w.heap.size]? = some (.cells (tabRow k) 43 (0, 0)) := setRow_heap _ _ _ _ _ _ H0.out
      refine bodyPost_ret (results_cell_row Try.results21 _ _ w.heap.size 43 (tabRow k) (0, 0) _ rfl H2 Try.underlying43 rfl (by rw [tabRow_size]; exact info_tab)) rfl ?_
      refine ⟨by rw [hE.out], ?_, ?_⟩
      · exact hB.trans ⟨rfl, rfl, rfl, by simp, fun j hj => setRow_other _ _ _ _ (by omega)⟩
      · rw [setRow_size]; exact HS.out

end Go.Proofs.Ytmdglcdilabbaaa
