/-
  bloom.Places by contract.
-/
import Derived.Test.YtmdglcdilabbaaaBloom
namespace Go.Proofs.Ytmdglcdilabbaaa
open Go.RowKit
set_option linter.unusedVariables false
set_option linter.unusedSimpArgs false

theorem plAt_int (key : ByteArray) (bits : Int) (i : Nat) (h : 1 ≤ bits) :
    (plAt key bits i : Int) = (((crcFrom 0#32 (bytesOf key)).toNat : Int) + (i : Int) * ((crcFrom 0#32 (bytesOf (key7 key))).toNat : Int) + (i : Int) * (i : Int)) % 4294967296 % bits := by
  unfold plAt
  rw [if_neg (by omega)]
  generalize (crcFrom 0#32 (bytesOf key)).toNat = a
  generalize (crcFrom 0#32 (bytesOf (key7 key))).toNat = b
  obtain ⟨m, rfl⟩ := Int.eq_ofNat_of_zero_le (show 0 ≤ bits by omega)
  simp only [Int.natCast_emod, Int.natCast_add, Int.natCast_mul, Int.toNat_natCast]
  rfl

set_option maxRecDepth 100000 in
set_option maxHeartbeats 2000000 in
theorem bloom_places_some (key : ByteArray) (bits : Int) (w : World) (hs : key.size ≤ 1000) (hb : 1 ≤ bits) (hb2 : bits ≤ 9223372036854775807) :
    Calls Try.prog 13 #[.string key, .int .i64 bits] w fun e w' => e = .returned (.agg (plRow (plAt key bits) 6)) ∧ Below w.heap.size w w' := by
  have hz := zero_pl
  have hne := plZero_ne
  obtain ⟨f, hf⟩ : ∃ f, f = plAt key bits := ⟨_, rfl⟩
  rw [← hf]
  obtain ⟨A, hA⟩ : ∃ A : Int, A = ((crcFrom 0#32 (bytesOf key)).toNat : Int) := ⟨_, rfl⟩
  obtain ⟨B, hB⟩ : ∃ B : Int, B = ((crcFrom 0#32 (bytesOf (key7 key))).toNat : Int) := ⟨_, rfl⟩
  have HF : Hid (∀ i : Nat, (f i : Int) = (A + i * B + i * i) % 4294967296 % bits) := Lib.hid fun i => by rw [hf, hA, hB]; exact plAt_int key bits i hb
  have cA : Hid (∀ wx, (Below w.heap.size w wx ∧ wx.heap[w.heap.size]? = some (.cells plZero 30 (0, 0)) ∧ wx.heap[w.heap.size + 1]? = some (.cells plZero 30 (0, 0))) → Calls Try.prog 17 #[.string key] wx fun e w' => e = .returned (.int .u32 A) ∧ (Below w.heap.size w w' ∧ w'.heap[w.heap.size]? = some (.cells plZero 30 (0, 0)) ∧ w'.heap[w.heap.size + 1]? = some (.cells plZero 30 (0, 0)))) := Lib.hid fun wx ⟨h1, h2, h3⟩ => by
    rw [hA]; exact (crc_of key wx (by omega)).mono fun _ _ ⟨e, h⟩ => ⟨e, below_at h1 h, by rw [h.block _ (heap_lt h2)]; exact h2, by rw [h.block _ (heap_lt h3)]; exact h3⟩
  have cB : Hid (∀ wx, (Below w.heap.size w wx ∧ wx.heap[w.heap.size]? = some (.cells plZero 30 (0, 0)) ∧ wx.heap[w.heap.size + 1]? = some (.cells plZero 30 (0, 0))) → Calls Try.prog 17 #[.string (key ++ ⟨#[7]⟩)] wx fun e w' => e = .returned (.int .u32 B) ∧ (Below w.heap.size w w' ∧ w'.heap[w.heap.size]? = some (.cells plZero 30 (0, 0)) ∧ w'.heap[w.heap.size + 1]? = some (.cells plZero 30 (0, 0)))) := Lib.hid fun wx ⟨h1, h2, h3⟩ => by
    rw [hB]; exact (crc_of (key7 key) wx (by unfold key7; rw [ByteArray.size_append]; have : (⟨#[7]⟩ : ByteArray).size = 1 := rfl; omega)).mono fun _ _ ⟨e, h⟩ => ⟨e, below_at h1 h, by rw [h.block _ (heap_lt h2)]; exact h2, by rw [h.block _ (heap_lt h3)]; exact h3⟩
  have a0 : 0 ≤ A := by omega
  have a1 : A < 4294967296 := by rw [hA]; have := (crcFrom 0#32 (bytesOf key)).isLt; omega
  have b0 : 0 ≤ B := by omega
  have b1 : B < 4294967296 := by rw [hB]; have := (crcFrom 0#32 (bytesOf (key7 key))).isLt; omega
  have W0 : Hid (Below w.heap.size w ((w.alloc (.cells plZero 30)).alloc (.cells plZero 30)) ∧ ((w.alloc (.cells plZero 30)).alloc (.cells plZero 30)).heap[w.heap.size]? = some (.cells plZero 30 (0, 0)) ∧ ((w.alloc (.cells plZero 30)).alloc (.cells plZero 30)).heap[w.heap.size + 1]? = some (.cells plZero 30 (0, 0))) := Lib.hid ⟨((Below.refl _ _).alloc (Nat.le_refl _) _).alloc (by simp) _, heap_alloc2_old _ _ _, heap_alloc2_new _ _ _⟩
  clear hf hA hB
  go_enter Try.func13, Try.ntmps13
  go_wp2_with (first | (go_at_call 17; (with_reducible refine (cA.out _ W0.out).mono ?_); rintro e w1 ⟨rfl, S1⟩; have HS1 := Lib.hid S1; clear S1) | (go_at_call 17; (with_reducible refine (cB.out _ HS1.out).mono ?_); rintro e w2 ⟨rfl, S2⟩; have HS2 := Lib.hid S2; clear S2))
  clear cA cB W0 HS1
  go_loopw [18] (fun v18 wr => ∃ k : Nat, k ≤ 6 ∧ v18 = .int .i64 k ∧ Below w.heap.size w wr ∧ Hid (wr.heap[w.heap.size + 1]? = some (.cells (plRow f k) 30 (0, 0))) ∧ Hid (wr.heap[w.heap.size]? = some (.cells plZero 30 (0, 0)))) (fun v _ => 6 - (intOf v).toNat)
  case atStart => exact ⟨0, by omega, rfl, HS2.out.1, Lib.hid (by rw [plRow_zero]; exact HS2.out.2.2), Lib.hid HS2.out.2.1⟩
  case round =>
    obtain ⟨k, hk, rfl, hBw, H1, H0⟩ := hrel
    clear HS2
    have hcell : wr.cell? ⟨w.heap.size + 1, k, none⟩ = (plRow f k)[k]? := cell_of_row _ _ _ _ _ _ H1.out
    have hfz : wr.frozen? ⟨w.heap.size + 1, k, none⟩ = false := frozen_of_row _ _ _ _ _ H1.out
    by_cases hlt : k < 6
    · rw [plRow_at f k k hlt, if_neg (by omega)] at hcell
      obtain ⟨u1, hu1⟩ : ∃ u, IntKind.u32.wrap ((k : Int) * B) = u := ⟨_, rfl⟩
      obtain ⟨u2, hu2⟩ : ∃ u, IntKind.u32.wrap (A + u1) = u := ⟨_, rfl⟩
      obtain ⟨u3, hu3⟩ : ∃ u, IntKind.u32.wrap ((k : Int) * (k : Int)) = u := ⟨_, rfl⟩
      obtain ⟨u4, hu4⟩ : ∃ u, IntKind.u32.wrap (u2 + u3) = u := ⟨_, rfl⟩
      have b4 : 0 ≤ u4 ∧ u4 < 4294967296 := by rw [← hu4, wrap_u32]; omega
      obtain ⟨b4a, b4b⟩ := b4
      obtain ⟨p, hp⟩ : ∃ p, u4 % bits = p := ⟨_, rfl⟩
      have p0 : 0 ≤ p := by rw [← hp]; exact Int.emod_nonneg _ (by omega)
      have p1 : p < 4294967296 := by rw [← hp]; have e1 := Int.emod_add_mul_ediv u4 bits; have e2 := Int.mul_nonneg (show 0 ≤ bits by omega) (Int.ediv_nonneg b4a (show 0 ≤ bits by omega)); omega
      have HP : Hid (p = (f k : Int)) := Lib.hid (by
        rw [HF.out k, ← hp, ← hu4, wrap_u32, ← hu2, wrap_u32, ← hu3, wrap_u32, ← hu1, wrap_u32]
        congr 1
        rw [Int.add_emod (A + (k : Int) * B) ((k : Int) * (k : Int))]
        omega)
      have hnz : (bits == 0) = false := (ne_bb (by omega)).1
      go_wp2
      go_roundw
      case rel => exact ⟨k + 1, by omega, by go_num, hBw.setCell (by simp) _, Lib.hid (by rw [← plRow_set f k hlt, HP.out]; exact heap_setCell_same _ _ _ _ _ _ H1.out), Lib.hid (by rw [heap_setCell_other _ _ _ _ (by simp)]; exact H0.out)⟩
      case measure => simp [intOf]; omega
    · have hE : Hid (k = 6) := Lib.hid (by omega)
      clear hcell hfz
      go_wp2_with (first | (with_reducible refine wpList_load_row rfl 30 (.tmp 5) rfl (w.heap.size + 1) rfl 30 (plRow f k) (0, 0) _ H1.out Try.underlying30 rfl (by rw [plRow_size]; exact info_pl) ?_) | (with_reducible refine wpList_store_row rfl 30 (.tmp 4) (.tmp 40) rfl w.heap.size (plRow f k) rfl rfl 30 plZero H0.out (by rw [plRow_size]; exact info_pl) (by rw [plRow_size, plZero_size]) (plRow_one _ _) ?_))
      have H2 : (wr.setRow w.heap.size (plRow f k)).heap[w.heap.size]? = some (.cells (plRow f k) 30 (0, 0)) := setRow_heap _ _ _ _ _ _ H0.out
      refine bodyPost_ret (results_cell_row Try.results13 _ _ w.heap.size 30 (plRow f k) (0, 0) _ rfl H2 Try.underlying30 rfl (by rw [plRow_size]; exact info_pl)) rfl ?_
      exact ⟨by rw [hE.out], hBw.trans ⟨rfl, rfl, rfl, by simp, fun j hj => setRow_other _ _ _ _ (by omega)⟩⟩

theorem bloom_places (key : ByteArray) (bits : Int) (w : World) (hs : key.size ≤ 1000) (hb2 : bits ≤ 9223372036854775807) :
    Calls Try.prog 13 #[.string key, .int .i64 bits] w fun e w' => e = .returned (.agg (plRow (plAt key bits) 6)) ∧ Below w.heap.size w w' := by
  by_cases h : bits < 1
  · exact bloom_places_none key bits w h
  · exact bloom_places_some key bits w hs (by omega) hb2

end Go.Proofs.Ytmdglcdilabbaaa
