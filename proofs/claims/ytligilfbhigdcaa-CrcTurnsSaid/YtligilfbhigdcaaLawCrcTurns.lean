/-
  The walk of CrcTurns: a text in which something is turned within four bytes in a row has another sum.
-/
import Derived.Test.YtligilfbhigdcaaCrcMask
import Derived.Deep.RegionWith
namespace Go.Proofs.Ytligilfbhigdcaa
open Go.RowKit
set_option linter.unusedVariables false
set_option linter.unusedSimpArgs false

theorem wrap_u64 (n : Int) : IntKind.u64.wrap n = n % 18446744073709551616 := by simp [IntKind.wrap, IntKind.bits, IntKind.signed]

/-- the bytes behind so many rounds -/
def turnL (l : List (BitVec 8)) (p : Nat) (t : BitVec 32) : Nat → List (BitVec 8)
  | 0 => l
  | i + 1 => (turnL l p t i).set (p + i) ((turnL l p t i).getD (p + i) 0 ^^^ (t >>> (8 * i)).setWidth 8)
theorem turnL_length (l : List (BitVec 8)) (p : Nat) (t : BitVec 32) (i : Nat) : (turnL l p t i).length = l.length := by
  induction i with
  | zero => rfl
  | succ i ih => simp [turnL, ih]

theorem turnL_parts (P Q : List (BitVec 8)) (b0 b1 b2 b3 : BitVec 8) (t : BitVec 32) :
    turnL (P ++ [b0, b1, b2, b3] ++ Q) P.length t 4 = P ++ [b0 ^^^ t.setWidth 8, b1 ^^^ (t >>> 8).setWidth 8, b2 ^^^ (t >>> 16).setWidth 8, b3 ^^^ (t >>> 24).setWidth 8] ++ Q := by
  simp [turnL, List.set_append, List.getD_eq_getElem?_getD, List.getElem?_append]

theorem turned_sum (l : List (BitVec 8)) (p : Nat) (t : BitVec 32) (hp : p + 4 ≤ l.length) (ht : ¬ t = 0#32) : ¬ crcFrom 0#32 (turnL l p t 4) = crcFrom 0#32 l := by
  have h0 : p < l.length := by omega
  have h1 : p + 1 < l.length := by omega
  have h2 : p + 2 < l.length := by omega
  have h3 : p + 3 < l.length := by omega
  have e : l = l.take p ++ [l[p], l[p + 1], l[p + 2], l[p + 3]] ++ l.drop (p + 4) := by
    conv => lhs; rw [← List.take_append_drop p l]
    rw [List.append_assoc]
    congr 1
    rw [List.drop_eq_getElem_cons h0, List.drop_eq_getElem_cons h1, List.drop_eq_getElem_cons h2, List.drop_eq_getElem_cons h3]
    rfl
  have hl : (l.take p).length = p := by simp; omega
  intro h
  have e2 : turnL l p t 4 = l.take p ++ [l[p] ^^^ t.setWidth 8, l[p + 1] ^^^ (t >>> 8).setWidth 8, l[p + 2] ^^^ (t >>> 16).setWidth 8, l[p + 3] ^^^ (t >>> 24).setWidth 8] ++ l.drop (p + 4) := by
    have h := turnL_parts (l.take p) (l.drop (p + 4)) l[p] l[p + 1] l[p + 2] l[p + 3] t
    rw [← e, hl] at h
    exact h
  have h4 : CrcM.run (~~~ 0#32) (turnL l p t 4) = CrcM.run (~~~ 0#32) l := by
    have h := congrArg (fun z => ~~~ z) h
    simpa [crcFrom] using h
  rw [e2] at h4
  conv at h4 => rhs; rw [e]
  exact CrcM.run_parts _ t _ _ _ _ _ _ ht h4

theorem bv_ne0 {t : BitVec 32} (ht : ¬ t = 0#32) : ¬ ((t.toNat : Nat) : Int) = 0 := fun h => ht (BitVec.eq_of_toNat_eq (show t.toNat = 0 by omega))

theorem shr_words (t : BitVec 32) (i : Nat) (v : Int) (hv : v = ((t.toNat : Nat) : Int) / (2 : Int) ^ (8 * i)) : v % (256 : Int) = ((((t >>> (8 * i)).setWidth 8).toNat : Nat) : Int) := by
  rw [hv, BitVec.toNat_setWidth, BitVec.toNat_ushiftRight, Nat.shiftRight_eq_div_pow]
  simp

theorem bytes_back (l : List (BitVec 8)) : bytesOf (strOfNums (l.map fun b => ((b.toNat : Nat) : Int))) = l := by
  unfold bytesOf
  rw [strOfNums_data, List.map_map, List.map_map]
  conv => rhs; rw [← List.map_id l]
  apply List.map_congr_left
  intro b hb
  have := b.isLt
  simp only [Function.comp, id]
  apply BitVec.eq_of_toNat_eq
  simp

set_option maxRecDepth 100000 in
set_option maxHeartbeats 4000000 in
theorem CrcTurns_walk (s : ByteArray) (at0 n : Int) (w : World) (ws : s.size ≤ 140737488351232) (wa : (Lit.int .i64 at0).wf = true) (wn : (Lit.int .u32 n).wf = true) :
    Calls Try.prog 5 #[.string s, .int .i64 at0, .int .u32 n] w fun e w' => e = .returned (.bool true) ∧ Below w.heap.size w w' := by
  obtain ⟨n0, n1⟩ := wf_u32 wn
  clear wn
  obtain ⟨t, rfl⟩ : ∃ t : BitVec 32, n = (t.toNat : Int) := ⟨BitVec.ofNat 32 n.toNat, by rw [BitVec.toNat_ofNat]; omega⟩
  clear n0 n1
  by_cases hc : s.size < 4 ∨ 5000 < s.size ∨ t = 0#32
  · by_cases c1 : s.size < 4
    · go_enter Try.func5, Try.ntmps5
      go_wp2_with (go_at_call 7; refine (awake01 _).mono ?_; rintro e w1 ⟨rfl, hB⟩)
      go_ret
      exact ⟨rfl, hB⟩
    · by_cases c2 : 5000 < s.size
      · go_enter Try.func5, Try.ntmps5
        go_wp2_with (go_at_call 7; refine (awake01 _).mono ?_; rintro e w1 ⟨rfl, hB⟩)
        go_ret
        exact ⟨rfl, hB⟩
      · obtain rfl : t = 0#32 := by
          rcases hc with h | h | h
          · exact absurd h c1
          · exact absurd h c2
          · exact h
        have z0 : (((0#32).toNat : Nat) : Int) = 0 := rfl
        rw [z0]
        go_enter Try.func5, Try.ntmps5
        go_wp2_with (go_at_call 7; refine (awake01 _).mono ?_; rintro e w1 ⟨rfl, hB⟩)
        go_ret
        exact ⟨rfl, hB⟩
  · have h4 : 4 ≤ s.size := by omega
    have h5 : s.size ≤ 5000 := by omega
    have ht : ¬ t = 0#32 := fun h => hc (.inr (.inr h))
    obtain ⟨q0, q1⟩ := ne_bb (bv_ne0 ht)
    have HT := Lib.hid ht
    clear hc ht
    obtain ⟨u, hu⟩ : ∃ u, IntKind.u64.wrap at0 = u := ⟨_, rfl⟩
    have hu0 : 0 ≤ u := by rw [← hu, wrap_u64]; omega
    obtain ⟨p, hp⟩ : ∃ p : Nat, u % ((s.size : Int) - 3) = (p : Int) := ⟨(u % ((s.size : Int) - 3)).toNat, by have := Int.emod_nonneg u (b := (s.size : Int) - 3) (by omega); omega⟩
    have hp1 : p + 4 ≤ s.size := by have := Int.emod_lt_of_pos u (b := (s.size : Int) - 3) (by omega); omega
    have hcv := fun w => Lib.run_convert_string_bytes (P := Try.prog) w 9 32 5 s Try.underlying9 Try.underlying32 Try.underlying5
    go_enter Try.func5, Try.ntmps5
    go_wp2_with (first | (go_at_call 7; refine (awake01 _).mono ?_; rintro e w1 ⟨rfl, hB1⟩))
    obtain ⟨M, hM⟩ : ∃ M, M = (Lib.bytesCells w1 5 s).size := ⟨_, rfl⟩
    have hM1 : s.size ≤ M := by rw [hM]; unfold Lib.bytesCells; rw [Array.size_append, Array.size_map]; exact Nat.le_add_right _ _
    have hW0 : Hid ((Lib.bytesWorld w1 5 s).heap[w1.heap.size]? = some (.cells (Lib.bytesCells w1 5 s) 5 (M, M + 1))) := Lib.hid (by rw [hM]; exact Lib.bytesWorld_at_new _ _ _)
    have hM0 := Lib.hid hM
    clear hM
    have hBw : Hid (Below w.heap.size w (Lib.bytesWorld w1 5 s)) := Lib.hid (hB1.trans ⟨rfl, rfl, rfl, by rw [Lib.bytesWorld_size]; omega, fun j hj => Lib.bytesWorld_at_old _ _ _ _ (by have := hB1.size; omega)⟩)
    have hg := hB1.size
    have hl : (bytesOf s).length = s.size := by simp [bytesOf]
    have HL := Lib.hid hl
    clear hB1 hcv hl
    go_loopw [34] (fun v34 wr => ∃ (i : Nat) (C : Array Value), i ≤ 4 ∧ v34 = .int .i64 i ∧ Below w.heap.size w wr ∧ Hid (wr.heap[w1.heap.size]? = some (.cells C 5 (M, M + 1))) ∧ Hid (C.size = M) ∧ Hid (∀ j, j < s.size → C[j]? = some (.int .u8 ((((turnL (bytesOf s) p t i).getD j 0).toNat : Nat) : Int)))) (fun v _ => 4 - (intOf v).toNat)
    case atStart => exact ⟨0, _, by omega, rfl, hBw.out, hW0, Lib.hid hM0.out.symm, Lib.hid fun j hj => by
      have h1 := Lib.bytesWorld_cell w1 5 s j hj
      rw [cell_of_row _ _ _ _ _ _ hW0.out] at h1
      rw [h1]
      have hj2 : j < s.data.toList.length := by rw [Array.length_toList]; exact hj
      simp only [turnL, bytesOf, List.getD_eq_getElem?_getD, List.getElem?_map, List.getElem?_eq_getElem hj2, Option.map_some, Option.getD_some]
      rfl⟩
    case round =>
      obtain ⟨i, C, hi, rfl, hB, HW, HC, HV⟩ := hrel
      by_cases hlt : i < 4
      · have hj : p + i < s.size := by omega
        obtain ⟨b, hb⟩ : ∃ b, b = (turnL (bytesOf s) p t i).getD (p + i) 0 := ⟨_, rfl⟩
        have hcell : wr.cell? ⟨w1.heap.size, p + i, none⟩ = some (.int .u8 ((b.toNat : Nat) : Int)) := by
          rw [cell_of_row _ _ _ _ _ _ HW.out, HV.out _ hj, hb]
        have hfz : wr.frozen? ⟨w1.heap.size, p + i, none⟩ = false := by
          have h := HW.out
          simp [World.frozen?, h]; omega
        have hn : Hid ((turnL (bytesOf s) p t (i + 1)) = (turnL (bytesOf s) p t i).set (p + i) (b ^^^ (t >>> (8 * i)).setWidth 8)) := Lib.hid (by rw [turnL, hb])
        have hval : Hid (Go.bits .xor .u8 ((b.toNat : Nat) : Int) ((((t.toNat : Nat) : Int) / (2 : Int) ^ (8 * i)) % (256 : Int)) = (((b ^^^ (t >>> (8 * i)).setWidth 8).toNat : Nat) : Int)) := Lib.hid (by
          rw [shr_words t i _ rfl, CrcM.bits_xor8])
        have hwr : Hid (∀ z : BitVec 8, ∃ C', (wr.setCell ⟨w1.heap.size, p + i, none⟩ (.int .u8 ((z.toNat : Nat) : Int))).heap[w1.heap.size]? = some (.cells C' 5 (M, M + 1)) ∧ C'.size = M ∧ C' = C.setIfInBounds (p + i) (.int .u8 ((z.toNat : Nat) : Int))) := Lib.hid fun z =>
          ⟨_, by rw [setCell_eq_setRow _ _ _ _ _ _ _ HW.out]; exact setRow_heap _ _ _ _ _ _ HW.out, by simpa using HC.out, rfl⟩
        clear hb
        go_wp2
        go_region
        all_goals
          go_wp2
          go_roundw
          case rel =>
            rw [hval.out]
            obtain ⟨C', k1, k2, k3⟩ := hwr.out (b ^^^ (t >>> (8 * i)).setWidth 8)
            refine ⟨i + 1, C', by omega, by go_num, (hB.setCell (by simp; omega) _).drew, Lib.hid k1, Lib.hid k2, Lib.hid fun j hj2 => ?_⟩
            rw [k3, hn.out, Array.getElem?_setIfInBounds]
            have hjl : p + i < (turnL (bytesOf s) p t i).length := by rw [turnL_length, HL.out]; exact hj
            by_cases e : p + i = j
            · subst e
              rw [if_pos rfl, if_pos (by rw [HC.out]; omega), List.getD_eq_getElem?_getD, List.getElem?_set_self hjl]; rfl
            · rw [if_neg e, HV.out j hj2, List.getD_eq_getElem?_getD, List.getD_eq_getElem?_getD, List.getElem?_set_ne e]
          case measure => simp [intOf]; omega
      · have hge : 4 ≤ i := by omega
        have hE : Hid (i = 4) := Lib.hid (by omega)
        obtain ⟨l, hle⟩ : ∃ l, l = turnL (bytesOf s) p t 4 := ⟨_, rfl⟩
        have hll : l.length = s.size := by rw [hle, turnL_length, HL.out]
        have hV2 : ∀ j, j < s.size → wr.cell? ⟨w1.heap.size, 0 + j, none⟩ = some (.int .u8 ((l.map fun b => ((b.toNat : Nat) : Int)).getD j 0)) := fun j hj => by
          rw [Nat.zero_add, cell_of_row _ _ _ _ _ _ HW.out, HV.out j hj, hE.out, ← hle]
          simp [List.getD_eq_getElem?_getD, List.getElem?_eq_getElem (show j < l.length by omega)]
        have hcb := run_convert_bytes_arg (P := Try.prog) wr 32 5 Try.underlying32 Try.underlying5 w1.heap.size 0 s.size (grownCap w1 s.size 0 5) (l.map fun b => ((b.toNat : Nat) : Int)) (by simp; exact hll) hV2 9 Try.underlying9
        obtain ⟨z, hz⟩ : ∃ z, strOfNums (l.map fun b => ((b.toNat : Nat) : Int)) = z := ⟨_, rfl⟩
        rw [hz] at hcb
        have hzb : bytesOf z = l := by rw [← hz]; exact bytes_back l
        have hzs : z.size ≤ 140737488351232 := by rw [← hz, strOfNums_size]; simp; omega
        obtain ⟨x, hx⟩ : ∃ x, x = (((crcFrom 0#32 (bytesOf z)).toNat : Nat) : Int) := ⟨_, rfl⟩
        obtain ⟨y, hy⟩ : ∃ y, y = (((crcFrom 0#32 (bytesOf s)).toNat : Nat) : Int) := ⟨_, rfl⟩
        have hne : ¬ x = y := by
          rw [hx, hy, hzb, hle]
          intro h
          exact turned_sum (bytesOf s) p t (by rw [HL.out]; exact hp1) HT.out (BitVec.eq_of_toNat_eq (by omega))
        have HX := Lib.hid hx
        have HY := Lib.hid hy
        obtain ⟨x0, x1⟩ := ne_bb hne
        clear hx hy hne hzb hz hV2 hle hll
        go_wp2_with (first | (go_at_call 12; (with_reducible refine (crc_of z _ hzs).mono ?_); rw [← HX.out]; rintro e w2 ⟨rfl, hB2⟩) | (go_at_call 12; (with_reducible refine (crc_of s _ ws).mono ?_); rw [← HY.out]; rintro e w3 ⟨rfl, hB3⟩))
        go_ret
        exact ⟨rfl, below_at (below_at hB hB2) hB3⟩

end Go.Proofs.Ytligilfbhigdcaa
