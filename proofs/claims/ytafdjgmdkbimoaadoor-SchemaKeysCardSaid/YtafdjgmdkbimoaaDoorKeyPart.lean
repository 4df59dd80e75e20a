/-
  A part's bytes by contract: the numbers' sorts.
-/
import Derived.Test.YtafdjgmdkbimoaaDoorKeyNum
import Derived.Laws.ResultCell
namespace Go.Proofs.YtafdjgmdkbimoaaDoor
open Go.RowKit
set_option linter.unusedVariables false
set_option linter.unusedSimpArgs false

theorem conv_byte (wr : World) (k : Nat) (hk : wr.heap.size = k) (x : Int) (b : UInt8) (hx : x = ((b.toNat : Nat) : Int)) :
    (convert 73 9 (.slice (some ⟨k, 0, none⟩) 1 1)).run Tryd.prog (wr.alloc (.cells #[.int .u8 x] 5)) = .ok (.string (str [b])) (wr.alloc (.cells #[.int .u8 x] 5)) := by
  subst hk
  have h := run_convert_bytes_arg (P := Tryd.prog) (wr.alloc (.cells #[.int .u8 x] 5)) 73 5 Tryd.underlying73 Tryd.underlying5 wr.heap.size 0 1 1 [x] rfl (fun i hi => by
    obtain rfl : i = 0 := by omega
    rw [cell_of_row _ _ _ _ _ _ (heap_alloc_new _ _)]; rfl) 9 Tryd.underlying9
  rw [h]
  have e : strOfNums [x] = str [b] := by rw [hx]; exact strOf_u8 [b]
  rw [e]

/- the highest bit turned -/
theorem nat_top_lt (y : Nat) (h : y < 2 ^ 63) : 2 ^ 63 ^^^ y = 2 ^ 63 + y := by
  have e : 2 ^ 63 + y = 2 ^ 63 ||| y := by
    have := Nat.two_pow_add_eq_or_of_lt (i := 63) (b := y) h 1
    simpa using this
  rw [e]
  apply Nat.eq_of_testBit_eq
  intro i
  rw [Nat.testBit_xor, Nat.testBit_or, Nat.testBit_two_pow]
  by_cases hi : 63 = i
  · subst hi
    rw [Nat.testBit_lt_two_pow h]; rfl
  · simp [hi]
theorem nat_top (x : Nat) (h : x < 2 ^ 64) : x ^^^ 2 ^ 63 = (x + 2 ^ 63) % 2 ^ 64 := by
  by_cases hx : x < 2 ^ 63
  · rw [Nat.xor_comm, nat_top_lt x hx]; omega
  · obtain ⟨y, rfl⟩ : ∃ y, x = 2 ^ 63 + y := ⟨x - 2 ^ 63, by omega⟩
    have hy : y < 2 ^ 63 := by omega
    rw [← nat_top_lt y hy, Nat.xor_comm (2 ^ 63) y, Nat.xor_assoc, Nat.xor_self, Nat.xor_zero, Nat.xor_comm y, nat_top_lt y hy]; omega
theorem xor_top (x : Int) (h0 : 0 ≤ x) (h1 : x < 18446744073709551616) : Go.bits .xor .u64 x 9223372036854775808 = (x + 9223372036854775808) % 18446744073709551616 := by
  obtain ⟨n, rfl⟩ := Int.eq_ofNat_of_zero_le h0
  have hn : n < 2 ^ 64 := by omega
  have h := bits_xor64 (BitVec.ofNat 64 n) (BitVec.ofNat 64 (2 ^ 63))
  have e1 : (BitVec.ofNat 64 n).toNat = n := by rw [BitVec.toNat_ofNat]; omega
  have e2 : (BitVec.ofNat 64 (2 ^ 63)).toNat = 2 ^ 63 := by decide
  rw [BitVec.toNat_xor, e1, e2, nat_top n hn] at h
  have e3 : (((2 ^ 63 : Nat) : Nat) : Int) = 9223372036854775808 := by decide
  rw [e3] at h
  rw [h]
  omega

/-- a number and 2^63 -/
def liftI (n : Int) : Int := n + 9223372036854775808
theorem lift_word (n : Int) (h : -9223372036854775808 ≤ n ∧ n ≤ 9223372036854775807) : Go.bits .xor .u64 (IntKind.u64.wrap n) 9223372036854775808 = liftI n := by
  rw [xor_top _ (by rw [wrap_u64]; omega) (by rw [wrap_u64]; omega), wrap_u64]; unfold liftI; omega
theorem liftI_bd (n : Int) (h : -9223372036854775808 ≤ n ∧ n ≤ 9223372036854775807) : 0 ≤ liftI n ∧ liftI n < 18446744073709551616 := by unfold liftI; omega

/-- a text's bytes: each 0 is followed by 255 -/
def escL (l : List UInt8) : List UInt8 := l.flatMap fun b => if b = 0 then [0, 255] else [b]
/-- a part's bytes, if it has some -/
def partB (p : PartR) : Option (List UInt8) :=
  if p.sort = 105 then some (105 :: beL (liftI p.n).toNat)
  else if p.sort = 100 then some (100 :: beL (18446744073709551615 - liftI p.n).toNat)
  else if p.sort = 117 then some (117 :: beL p.u.toNat)
  else if p.sort = 116 then some (116 :: (escL p.s.data.toList ++ [0, 0]))
  else none

abbrev cells4 (a n u : Int) (s : ByteArray) : Array Value := #[.int .u8 a, .int .i64 n, .int .u64 u, .string s]
theorem cells4_of {w : World} {B : Nat} {a n u : Int} {s : ByteArray} {t : TypeId} (h : w.heap[B]? = some (.cells (cells4 a n u s) t (0, 0))) :
    w.cell? ⟨B, 0, none⟩ = some (.int .u8 a) ∧ w.cell? ⟨B, 1, none⟩ = some (.int .i64 n) ∧ w.cell? ⟨B, 2, none⟩ = some (.int .u64 u) ∧ w.cell? ⟨B, 3, none⟩ = some (.string s) := by
  refine ⟨?_, ?_, ?_, ?_⟩ <;> (rw [cell_of_row _ _ _ _ _ _ h]; rfl)

theorem not_word (x : Int) (h0 : 0 ≤ x) (h1 : x < 18446744073709551616) : Go.bits .xor .u64 Go.IntKind.u64.max x = 18446744073709551615 - x := by
  have e : Go.IntKind.u64.max = 18446744073709551615 := by decide
  rw [e, ← xor64_ones x h0 h1, u64_bv x h0 h1]
  have h := bits_xor64 (18446744073709551615#64) (BitVec.ofNat 64 x.toNat)
  have h2 := bits_xor64 (BitVec.ofNat 64 x.toNat) (18446744073709551615#64)
  rw [BitVec.xor_comm] at h
  have e2 : (((18446744073709551615#64).toNat : Nat) : Int) = 18446744073709551615 := by decide
  rw [e2] at h h2
  rw [h, h2]

set_option maxRecDepth 100000 in
set_option maxHeartbeats 2000000 in
theorem part_up (n u : Int) (s : ByteArray) (w : World) (hn : -9223372036854775808 ≤ n ∧ n ≤ 9223372036854775807) :
    Calls Tryd.prog 42 #[.agg (cells4 105 n u s)] w fun e w' => e = .returned (.tuple #[.string (str (105 :: beL (liftI n).toNat)), .bool true]) ∧ Below w.heap.size w w' := by
  have HT : Hid (str [105] ++ str (beL (liftI n).toNat) = str (105 :: beL (liftI n).toNat)) := Lib.hid (by rw [str_append]; rfl)
  have hw := lift_word n hn
  have hb := liftI_bd n hn
  obtain ⟨m, hm⟩ : ∃ m, m = liftI n := ⟨_, rfl⟩
  rw [← hm] at hw hb
  obtain ⟨hb0, hb1⟩ := hb
  have KH : Hid (∀ wx, Calls Tryd.prog 50 #[.int .u64 m] wx fun e w' => e = .returned (.string (str (beL m.toNat))) ∧ Below wx.heap.size wx w') := Lib.hid fun wx => key_high m wx hb0 hb1
  rw [← hm] at HT ⊢
  have hz : (str (beL m.toNat)).size = 8 := by rw [str_size, beL_length]
  have hz2 : (str [105]).size = 1 := rfl
  obtain ⟨t, ht⟩ : ∃ t, t = str (beL m.toNat) := ⟨_, rfl⟩
  rw [← ht] at KH HT hz
  have hc := conv_byte (w.alloc (.cells (cells4 105 n u s) 51)) (w.heap.size + 1) (by simp) 105 105 (by decide)
  clear hm ht
  go_enter Tryd.func42, Tryd.ntmps42
  go_wp2_with (go_at_call 50; (with_reducible refine (KH.out _).mono ?_); rintro e w1 ⟨rfl, hB1⟩)
  go_ret2
  exact ⟨by rw [← HT.out]; rfl, below_at (by (repeat (first | exact Below.refl _ _ | assumption | apply below_drewN | (refine Below.alloc ?_ (by first | assumption | omega | (simp; try omega)) _)))) hB1⟩

set_option maxRecDepth 100000 in
set_option maxHeartbeats 2000000 in
theorem part_down (n u : Int) (s : ByteArray) (w : World) (hn : -9223372036854775808 ≤ n ∧ n ≤ 9223372036854775807) :
    Calls Tryd.prog 42 #[.agg (cells4 100 n u s)] w fun e w' => e = .returned (.tuple #[.string (str (100 :: beL (18446744073709551615 - liftI n).toNat)), .bool true]) ∧ Below w.heap.size w w' := by
  have HT : Hid (str [100] ++ str (beL (18446744073709551615 - liftI n).toNat) = str (100 :: beL (18446744073709551615 - liftI n).toNat)) := Lib.hid (by rw [str_append]; rfl)
  have hw := lift_word n hn
  have hl := liftI_bd n hn
  have hw2 := not_word (liftI n) hl.1 hl.2
  obtain ⟨q, hq⟩ : ∃ q, q = liftI n := ⟨_, rfl⟩
  rw [← hq] at hw hw2 hl HT ⊢
  obtain ⟨m, hm⟩ : ∃ m, m = 18446744073709551615 - q := ⟨_, rfl⟩
  rw [← hm] at hw2
  have hb0 : 0 ≤ m := by omega
  have hb1 : m < 18446744073709551616 := by omega
  obtain ⟨hl0, hl1⟩ := hl
  clear hq
  have KH : Hid (∀ wx, Calls Tryd.prog 50 #[.int .u64 m] wx fun e w' => e = .returned (.string (str (beL m.toNat))) ∧ Below wx.heap.size wx w') := Lib.hid fun wx => key_high m wx hb0 hb1
  rw [← hm] at HT ⊢
  have hz : (str (beL m.toNat)).size = 8 := by rw [str_size, beL_length]
  have hz2 : (str [100]).size = 1 := rfl
  obtain ⟨t, ht⟩ : ∃ t, t = str (beL m.toNat) := ⟨_, rfl⟩
  rw [← ht] at KH HT hz
  have hc := conv_byte (w.alloc (.cells (cells4 100 n u s) 51)) (w.heap.size + 1) (by simp) 100 100 (by decide)
  clear hm ht
  go_enter Tryd.func42, Tryd.ntmps42
  go_wp2_with (go_at_call 50; (with_reducible refine (KH.out _).mono ?_); rintro e w1 ⟨rfl, hB1⟩)
  go_ret2
  exact ⟨by rw [← HT.out]; rfl, below_at (by (repeat (first | exact Below.refl _ _ | assumption | apply below_drewN | (refine Below.alloc ?_ (by first | assumption | omega | (simp; try omega)) _)))) hB1⟩

set_option maxRecDepth 100000 in
set_option maxHeartbeats 2000000 in
theorem part_count (n u : Int) (s : ByteArray) (w : World) (hu : 0 ≤ u ∧ u < 18446744073709551616) :
    Calls Tryd.prog 42 #[.agg (cells4 117 n u s)] w fun e w' => e = .returned (.tuple #[.string (str (117 :: beL (u).toNat)), .bool true]) ∧ Below w.heap.size w w' := by
  have HT : Hid (str [117] ++ str (beL (u).toNat) = str (117 :: beL (u).toNat)) := Lib.hid (by rw [str_append]; rfl)
  obtain ⟨m, hm⟩ : ∃ m, m = u := ⟨_, rfl⟩
  subst hm
  obtain ⟨hb0, hb1⟩ := hu
  have KH : Hid (∀ wx, Calls Tryd.prog 50 #[.int .u64 m] wx fun e w' => e = .returned (.string (str (beL m.toNat))) ∧ Below wx.heap.size wx w') := Lib.hid fun wx => key_high m wx hb0 hb1
  have hz : (str (beL m.toNat)).size = 8 := by rw [str_size, beL_length]
  have hz2 : (str [117]).size = 1 := rfl
  obtain ⟨t, ht⟩ : ∃ t, t = str (beL m.toNat) := ⟨_, rfl⟩
  rw [← ht] at KH HT hz
  have hc := conv_byte (w.alloc (.cells (cells4 117 n m s) 51)) (w.heap.size + 1) (by simp) 117 117 (by decide)
  clear ht
  go_enter Tryd.func42, Tryd.ntmps42
  go_wp2_with (go_at_call 50; (with_reducible refine (KH.out _).mono ?_); rintro e w1 ⟨rfl, hB1⟩)
  go_ret2
  exact ⟨by rw [← HT.out]; rfl, below_at (by (repeat (first | exact Below.refl _ _ | assumption | apply below_drewN | (refine Below.alloc ?_ (by first | assumption | omega | (simp; try omega)) _)))) hB1⟩

set_option maxRecDepth 100000 in
set_option maxHeartbeats 2000000 in
theorem part_none (a n u : Int) (s : ByteArray) (w : World) (ha : 0 ≤ a ∧ a < 256) (h1 : ¬ a = 105) (h2 : ¬ a = 100) (h3 : ¬ a = 117) (h4 : ¬ a = 116) :
    Calls Tryd.prog 42 #[.agg (cells4 a n u s)] w fun e w' => e = .returned (.tuple #[.string ⟨#[]⟩, .bool false]) ∧ Below w.heap.size w w' := by
  obtain ⟨p1, q1⟩ := ne_bb h1
  obtain ⟨p2, q2⟩ := ne_bb h2
  obtain ⟨p3, q3⟩ := ne_bb h3
  obtain ⟨p4, q4⟩ := ne_bb h4
  have hc := conv_byte (w.alloc (.cells (cells4 a n u s) 51)) (w.heap.size + 1) (by simp) a (UInt8.ofNat a.toNat) (by rw [UInt8.toNat_ofNat']; omega)
  clear h1 h2 h3 h4
  go_enter Tryd.func42, Tryd.ntmps42
  go_wp2
  go_ret2
  exact ⟨rfl, by (repeat (first | exact Below.refl _ _ | assumption | apply below_drewN | (refine Below.alloc ?_ (by first | assumption | omega | (simp; try omega)) _)))⟩

end Go.Proofs.YtafdjgmdkbimoaaDoor
