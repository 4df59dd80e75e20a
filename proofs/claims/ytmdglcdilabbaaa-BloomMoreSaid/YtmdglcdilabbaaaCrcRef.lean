/-
  The document's sums by contract, crc.Of, and the chapter's example.
-/
import Derived.Test.YtmdglcdilabbaaaCrcAdd
namespace Go.Proofs.Ytmdglcdilabbaaa
open Go.RowKit
set_option linter.unusedVariables false
set_option linter.unusedSimpArgs false

theorem CrcM.rem_odd (x : BitVec 32) (h : x.getLsbD 0 = true) : (((x.toNat : Nat) : Int) % (2 : Int) == 1) = true ∧ Go.bits .xor .u32 (((x.toNat : Nat) : Int) / (2 : Int)) 2197175160 = (((CrcM.st x).toNat : Nat) : Int) := by
  refine ⟨?_, (CrcM.odd_step _ x rfl h).2⟩
  rw [BitVec.getLsbD, Nat.testBit_zero] at h
  have := of_decide_eq_true h
  simp; omega
theorem CrcM.rem_even (x : BitVec 32) (h : x.getLsbD 0 = false) : (((x.toNat : Nat) : Int) % (2 : Int) == 1) = false ∧ ((x.toNat : Nat) : Int) / (2 : Int) = (((CrcM.st x).toNat : Nat) : Int) := by
  refine ⟨?_, (CrcM.even_step _ x rfl h).2⟩
  rw [BitVec.getLsbD, Nat.testBit_zero] at h
  have := of_decide_eq_false h
  simp; omega

set_option maxHeartbeats 1000000 in
theorem ref_byte (x0 : BitVec 32) (w : World) :
    Calls Try.prog 22 #[.int .u32 ((x0.toNat : Nat) : Int)] w fun e w' => e = .returned (.int .u32 (((CrcM.st8 x0).toNat : Nat) : Int)) ∧ Drew w w' := by
  go_enter Try.func22, Try.ntmps22
  go_wp2
  go_loopw [0, 3] (fun v0 v3 wr => ∃ (k : Nat) (x : BitVec 32), k ≤ 8 ∧ v3 = .int .i64 k ∧ v0 = .int .u32 ((x.toNat : Nat) : Int) ∧ Hid (CrcM.stN (8 - k) x = CrcM.st8 x0) ∧ Drew w wr) (fun _ v _ => 8 - (intOf v).toNat)
  case atStart => exact ⟨0, x0, by omega, rfl, rfl, Lib.hid rfl, Drew.refl _⟩
  case round =>
    obtain ⟨k, x, hk, rfl, rfl, HX, ⟨⟨n, rfl⟩⟩⟩ := hrel
    by_cases hlt : k < 8
    · have HY : Hid (CrcM.stN (8 - (k + 1)) (CrcM.st x) = CrcM.st8 x0) := Lib.hid (by
        have h := HX.out
        rw [show 8 - k = (8 - (k + 1)) + 1 from by omega] at h
        exact h)
      have hp : 0 ≤ ((x.toNat : Nat) : Int) := by omega
      cases ho : x.getLsbD 0
      · obtain ⟨o1, o2⟩ := CrcM.rem_even x ho
        clear ho
        go_wp2
        go_roundw
        case rel => exact ⟨k + 1, CrcM.st x, by omega, by go_num, rfl, HY, by repeat (first | exact Drew.refl _ | apply Drew.step)⟩
        case measure => simp [intOf]; omega
      · obtain ⟨o1, o2⟩ := CrcM.rem_odd x ho
        clear ho
        go_wp2
        go_roundw
        case rel => exact ⟨k + 1, CrcM.st x, by omega, by go_num, rfl, HY, by repeat (first | exact Drew.refl _ | apply Drew.step)⟩
        case measure => simp [intOf]; omega
    · have hge : 8 ≤ k := by omega
      have hE : Hid (x = CrcM.st8 x0) := Lib.hid (by
        have h := HX.out
        rw [show 8 - k = 0 from by omega] at h; exact h)
      go_wp2
      go_ret
      exact ⟨by rw [hE.out]; rfl, by repeat (first | exact Drew.refl _ | apply Drew.step)⟩

theorem CrcM.sub32 (x : BitVec 32) : (4294967295 : Int) - ((x.toNat : Nat) : Int) = (((~~~ x).toNat : Nat) : Int) := by
  rw [BitVec.toNat_not]; have := x.isLt; omega

/-- what a byte does to a sum, in the document's words -/
theorem CrcM.ref_words (x : BitVec 32) (b : BitVec 8) (y : BitVec 32) (hy : y = ((x.setWidth 8) ^^^ b).setWidth 32) :
    Go.bits .xor .u32 (((x.toNat : Nat) : Int) % (256 : Int)) ((b.toNat : Nat) : Int) = ((y.toNat : Nat) : Int) ∧
    Go.bits .xor .u32 (((CrcM.st8 y).toNat : Nat) : Int) (((x.toNat : Nat) : Int) / (256 : Int)) = (((CrcM.upd x b).toNat : Nat) : Int) := by
  constructor
  · have h1 : ((x.toNat : Nat) : Int) % (256 : Int) = ((((x.setWidth 8).setWidth 32).toNat : Nat) : Int) := by
      rw [CrcM.mod8]; simp; omega
    have h2 : ((b.toNat : Nat) : Int) = (((b.setWidth 32).toNat : Nat) : Int) := by have := b.isLt; simp; omega
    rw [h1, h2, CrcM.bits_xor32, hy, BitVec.setWidth_xor]
  · rw [CrcM.shr8, CrcM.bits_xor32, hy, CrcM.upd]

set_option maxHeartbeats 1000000 in
theorem ref_crc_add (c : BitVec 32) (s : ByteArray) (w : World) (hs : s.size ≤ 140737488351232) :
    Calls Try.prog 20 #[.int .u32 (c.toNat : Int), .string s] w fun e w' => e = .returned (.int .u32 ((crcFrom c (bytesOf s)).toNat : Int)) ∧ Drew w w' := by
  have hc := c.isLt
  go_enter Try.func20, Try.ntmps20
  go_wp2
  go_loopw [0, 5] (fun v0 v5 wr => ∃ (k : Nat) (x : BitVec 32), k ≤ s.size ∧ v5 = .int .i64 k ∧ v0 = .int .u32 ((x.toNat : Nat) : Int) ∧ Hid (x = CrcM.run (~~~ c) ((bytesOf s).take k)) ∧ Drew w wr) (fun _ v _ => s.size - (intOf v).toNat)
  case atStart => exact ⟨0, ~~~ c, Nat.zero_le _, rfl, by rw [CrcM.sub32], Lib.hid rfl, Drew.refl _⟩
  case round =>
    obtain ⟨k, x, hk, rfl, rfl, HX, ⟨⟨n, rfl⟩⟩⟩ := hrel
    have hp : 0 ≤ ((x.toNat : Nat) : Int) := by omega
    have hx := x.isLt
    by_cases hlt : k < s.size
    · have hlen : k < (bytesOf s).length := by simpa [bytesOf] using hlt
      have hb : (bytesOf s)[k] = s[k].toBitVec := by simp [bytesOf]; rfl
      obtain ⟨b, hbe⟩ : ∃ b, b = s[k].toBitVec := ⟨_, rfl⟩
      have HBE : Hid (s[k].toNat = b.toNat) := Lib.hid (by rw [hbe]; rfl)
      have HU : Hid (CrcM.upd x b = CrcM.run (~~~ c) ((bytesOf s).take (k + 1))) := Lib.hid (by
        rw [List.take_succ_eq_append_getElem hlen, CrcM.run_append, ← HX.out, hb, ← hbe]; rfl)
      obtain ⟨y, hy⟩ : ∃ y, y = ((x.setWidth 8) ^^^ b).setWidth 32 := ⟨_, rfl⟩
      obtain ⟨e1, e2⟩ := CrcM.ref_words x b y hy
      have hsb : ((s[k].toNat : Nat) : Int) = ((b.toNat : Nat) : Int) := by rw [HBE.out]
      clear hb hbe hy hlen
      go_wp2_with (go_at_call 22; refine (ref_byte y _).mono ?_; rintro e w' ⟨rfl, ⟨nd, rfl⟩⟩)
      go_roundw
      case rel => exact ⟨k + 1, CrcM.upd x b, by omega, by go_num, rfl, HU, by repeat (first | exact Drew.refl _ | apply Drew.step)⟩
      case measure => simp [intOf]; omega
    · have hE : Hid (x = CrcM.run (~~~ c) (bytesOf s)) := Lib.hid (by
        have h := HX.out
        rw [List.take_of_length_le (by simp [bytesOf]; omega)] at h; exact h)
      go_wp2
      go_ret
      refine ⟨?_, by repeat (first | exact Drew.refl _ | apply Drew.step)⟩
      rw [CrcM.sub32, hE.out]; rfl

theorem crc_add0 (s : ByteArray) (w : World) (hs : s.size ≤ 140737488351232) :
    Calls Try.prog 19 #[.int .u32 0, .string s] w fun e w' => e = .returned (.int .u32 ((crcFrom 0#32 (bytesOf s)).toNat : Int)) ∧ Below w.heap.size w w' := crc_add 0#32 s w hs
theorem ref_crc_add0 (s : ByteArray) (w : World) (hs : s.size ≤ 140737488351232) :
    Calls Try.prog 20 #[.int .u32 0, .string s] w fun e w' => e = .returned (.int .u32 ((crcFrom 0#32 (bytesOf s)).toNat : Int)) ∧ Drew w w' := ref_crc_add 0#32 s w hs

set_option maxHeartbeats 1000000 in
theorem crc_of (s : ByteArray) (w : World) (hs : s.size ≤ 140737488351232) :
    Calls Try.prog 17 #[.string s] w fun e w' => e = .returned (.int .u32 ((crcFrom 0#32 (bytesOf s)).toNat : Int)) ∧ Below w.heap.size w w' := by
  obtain ⟨t, ht⟩ : ∃ t, t = crcFrom 0#32 (bytesOf s) := ⟨_, rfl⟩
  rw [← ht]
  have HT := Lib.hid ht
  clear ht
  go_enter Try.func17, Try.ntmps17
  go_wp2_with (go_at_call 19; refine (crc_add0 _ _ hs).mono ?_; rw [← HT.out]; rintro e w' ⟨rfl, hB⟩)
  go_ret
  exact ⟨rfl, hB⟩

set_option maxHeartbeats 1000000 in
theorem ref_of (s : ByteArray) (w : World) (hs : s.size ≤ 140737488351232) :
    Calls Try.prog 18 #[.string s] w fun e w' => e = .returned (.int .u32 ((crcFrom 0#32 (bytesOf s)).toNat : Int)) ∧ Drew w w' := by
  obtain ⟨t, ht⟩ : ∃ t, t = crcFrom 0#32 (bytesOf s) := ⟨_, rfl⟩
  rw [← ht]
  have HT := Lib.hid ht
  clear ht
  go_enter Try.func18, Try.ntmps18
  go_wp2_with (go_at_call 20; refine (ref_crc_add0 _ _ hs).mono ?_; rw [← HT.out]; rintro e w' ⟨rfl, ⟨nd, rfl⟩⟩)
  go_ret
  exact ⟨rfl, by repeat (first | exact Drew.refl _ | apply Drew.step)⟩

theorem crc_nine : (((crcFrom 0#32 (bytesOf ⟨#[49, 50, 51, 52, 53, 54, 55, 56, 57]⟩)).toNat : Nat) : Int) = 3808858755 := by decide +kernel

end Go.Proofs.Ytmdglcdilabbaaa
