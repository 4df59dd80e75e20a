/-
  crc.Add by contract: the sum of a text that goes on from any sum.
-/
import Derived.Test.YtmdglcdilabbaaaCrcTab
namespace Go.Proofs.Ytmdglcdilabbaaa
open Go.RowKit
set_option linter.unusedVariables false
set_option linter.unusedSimpArgs false

def bytesOf (s : ByteArray) : List (BitVec 8) := s.data.toList.map (·.toBitVec)
/-- a text's sum, from any sum on -/
def crcFrom (c : BitVec 32) (l : List (BitVec 8)) : BitVec 32 := ~~~ (CrcM.run (~~~ c) l)

theorem Below.size_le {B : Nat} {a b : World} (h : Below B a b) : a.heap.size ≤ b.heap.size := h.size

set_option maxRecDepth 100000 in
theorem crc_add (c : BitVec 32) (s : ByteArray) (w : World) (hs : s.size ≤ 140737488351232) :
    Calls Try.prog 19 #[.int .u32 (c.toNat : Int), .string s] w fun e w' => e = .returned (.int .u32 ((crcFrom c (bytesOf s)).toNat : Int)) ∧ Below w.heap.size w w' := by
  have hz := zero_tab
  have hne := tabZero_ne
  go_enter Try.func19, Try.ntmps19
  go_wp2_with (first | (go_at_call 21; refine (crc_table _).mono ?_; rintro e w1 ⟨rfl, hB1, hS1⟩; have HB1 := Lib.hid hB1; have HS1 := Lib.hid hS1; clear hB1 hS1) | (with_reducible refine wpList_store_row rfl 43 (.tmp 5) (.tmp 7) rfl w1.heap.size (tabRow 256) rfl rfl 43 tabZero (heap_alloc_new _ _) (by rw [tabRow_size]; exact info_tab) (by rw [tabRow_size, tabZero_size]) (tabRow_one _) ?_; obtain ⟨w2, hw2⟩ : ∃ w2, w2 = (w1.alloc (.cells tabZero 43)).setRow w1.heap.size (tabRow 256) := ⟨_, rfl⟩; rw [← hw2]; have HW2 := Lib.hid hw2; clear hw2))
  have hBw : Hid (Below w.heap.size w w2) := Lib.hid (by
    rw [HW2.out]
    refine (HB1.out.alloc HB1.out.size _).trans ⟨rfl, rfl, rfl, by simp, fun j hj => setRow_other _ _ _ _ ?_⟩
    have := HB1.out.size; omega)
  have hRow : Hid (w2.heap[w1.heap.size]? = some (.cells (tabRow 256) 43 (0, 0))) := Lib.hid (by rw [HW2.out]; exact setRow_heap _ _ _ _ _ _ (heap_alloc_new _ _))
  clear HW2 HB1 HS1 hz hne
  go_loopw [0, 12] (fun v0 v12 wr => ∃ (k : Nat) (x : BitVec 32), k ≤ s.size ∧ v12 = .int .i64 k ∧ v0 = .int .u32 ((x.toNat : Nat) : Int) ∧ Hid (x = CrcM.run (~~~ c) ((bytesOf s).take k)) ∧ Drew w2 wr) (fun _ v _ => s.size - (intOf v).toNat)
  case atStart => exact ⟨0, ~~~ c, Nat.zero_le _, rfl, by rw [CrcM.not32], Lib.hid rfl, Drew.refl _⟩
  case round =>
    obtain ⟨k, x, hk, rfl, rfl, HX, ⟨⟨n, rfl⟩⟩⟩ := hrel
    by_cases hlt : k < s.size
    · have hlen : k < (bytesOf s).length := by simpa [bytesOf] using hlt
      have hb : (bytesOf s)[k] = s[k].toBitVec := by simp [bytesOf]; rfl
      obtain ⟨b, hbe⟩ : ∃ b, b = s[k].toBitVec := ⟨_, rfl⟩
      have HBE : Hid (s[k].toNat = b.toNat) := Lib.hid (by rw [hbe]; rfl)
      have HU : Hid (CrcM.upd x b = CrcM.run (~~~ c) ((bytesOf s).take (k + 1))) := Lib.hid (by
        rw [List.take_succ_eq_append_getElem hlen, CrcM.run_append, ← HX.out, hb, ← hbe]; rfl)
      obtain ⟨j, hj⟩ : ∃ j, j = ((x.setWidth 8) ^^^ b).toNat := ⟨_, rfl⟩
      obtain ⟨e1, e2, e3⟩ := CrcM.upd_words x b (CrcM.tab j) j hj rfl
      have hcell : (w2.drewN n).cell? ⟨w1.heap.size, j, none⟩ = some (.int .u32 (((CrcM.tab j).toNat : Nat) : Int)) := by
        rw [cell_of_row (w2.drewN n) _ _ _ _ _ hRow.out, tabRow_at 256 j e2, if_pos e2]
      have hsb : ((s[k].toNat : Nat) : Int) = ((b.toNat : Nat) : Int) := by rw [HBE.out]
      clear hb hbe hj hlen
      go_wp2
      go_roundw
      case rel => exact ⟨k + 1, CrcM.upd x b, by omega, by go_num, rfl, HU, by repeat (first | exact Drew.refl _ | apply Drew.step)⟩
      case measure => simp [intOf]; omega
    · have hE : Hid (x = CrcM.run (~~~ c) (bytesOf s)) := Lib.hid (by
        have h := HX.out
        rw [List.take_of_length_le (by simp [bytesOf]; omega)] at h; exact h)
      go_wp2
      go_ret
      refine ⟨?_, hBw.out.trans (by exact ((Drew.refl _).step _).below.mono hBw.out.size)⟩
      rw [CrcM.not32, hE.out]; rfl

end Go.Proofs.Ytmdglcdilabbaaa
