/-
  Whether a batch may be, by contract.
-/
import Derived.Test.YthhgijjdddcchaaBat
namespace Go.Proofs.Ythhgijjdddcchaa
open Go.RowKit
set_option linter.unusedVariables false
set_option linter.unusedSimpArgs false

theorem c3_info (a : Int) (b c : ByteArray) : (Try.prog.info? 35).map (·.size) = some (cells3 a b c).size := show (Try.prog.info? 35).map (·.size) = some 3 by kernel_rfl
theorem c3_size (a : Int) (b c : ByteArray) (d : Int) (e f : ByteArray) : (cells3 a b c).size = (cells3 d e f).size := rfl
theorem c3_one (a : Int) (b c : ByteArray) : (cells3 a b c).all (·.oneCell') = true := by simp [Value.oneCell']

set_option maxRecDepth 100000 in
set_option maxHeartbeats 4000000 in
theorem batch_check (seq : Int) (l : List ChangeR) (A : Option Addr) (cap : Nat) (w : World) (h0 : 0 ≤ seq) (h1 : seq < 18446744073709551616) (hr : RowsAt w A 3 ChangeR.row l) (hlen : l.length ≤ 1000000000) :
    Calls Try.prog 10 #[.agg #[.int .u64 seq, .slice A l.length cap]] w fun e w' => e = .returned (.int .i64 (checkB seq l)) ∧ Below w.heap.size w w' := by
  obtain ⟨t, ht⟩ : ∃ t, t = checkB seq l := ⟨_, rfl⟩
  rw [← ht]
  unfold checkB at ht
  have HT := Lib.hid ht
  have HR := Lib.hid hr
  clear ht hr
  by_cases hm : 2000 < l.length
  · have E : Hid (t = 6) := Lib.hid (by rw [HT.out, if_pos hm])
    clear HT
    go_enter Try.func10, Try.ntmps10
    go_wp2
    go_ret
    exact ⟨by rw [E.out]; rfl, by (repeat (first | exact Below.refl _ _ | assumption | apply below_drewN | (refine Below.alloc ?_ (by first | assumption | omega | (simp; try omega)) _)))⟩
  have WR : Hid (∀ k s v wx, Calls Try.prog 24 #[.agg #[.int .i64 k, .string s, .string v]] wx fun e w' => e = .returned (.int .i64 (badC ⟨k, s, v⟩)) ∧ Below wx.heap.size wx w') := Lib.hid fun k s v wx => batch_wrong ⟨k, s, v⟩ wx
  go_enter Try.func10, Try.ntmps10
  go_wp2
  have hB1 : Below w.heap.size w (w.alloc (.cells #[.int .u64 seq, .slice A (l.length : Nat) cap] 27)) := (Below.refl _ _).alloc (Nat.le_refl _) _
  have hZ1 : (w.alloc (.cells #[.int .u64 seq, .slice A (l.length : Nat) cap] 27)).heap[w.heap.size]? = some (.cells #[.int .u64 seq, .slice A (l.length : Nat) cap] 27 (0, 0)) := heap_alloc_new _ _
  have hS1 : (w.alloc (.cells #[.int .u64 seq, .slice A (l.length : Nat) cap] 27)).heap.size = w.heap.size + 1 := by simp
  generalize w.alloc (.cells #[.int .u64 seq, .slice A (l.length : Nat) cap] 27) = w1 at hB1 hZ1 hS1 ⊢
  have HB1 := Lib.hid hB1
  have HZ1 := Lib.hid hZ1
  have HS1 := Lib.hid hS1
  clear hB1 hZ1 hS1
  go_loopw [14] (fun v14 wr => ∃ k : Nat, k ≤ l.length ∧ v14 = .int .i64 (k : Int) ∧ Hid (badL l = badL (l.drop k)) ∧ Below w1.heap.size w1 wr) (fun v _ => l.length - (intOf v).toNat)
  case atStart => exact ⟨0, by omega, rfl, Lib.hid (by rw [List.drop_zero]), Below.refl _ _⟩
  case round =>
    obtain ⟨k, hk, rfl, HD, hB⟩ := hrel
    by_cases hlt : k < l.length
    · obtain ⟨b, o, rfl, c0, c1, c2⟩ := change_cells ((HR.out.moved HB1.out).moved hB) k hlt
      have HD2 := Lib.hid (HD.out.trans (badL_drop l k hlt))
      obtain ⟨x0, hx0⟩ : ∃ x, x = l[k].kind := ⟨_, rfl⟩
      obtain ⟨x1, hx1⟩ : ∃ x, x = l[k].key := ⟨_, rfl⟩
      obtain ⟨x2, hx2⟩ : ∃ x, x = l[k].value := ⟨_, rfl⟩
      obtain ⟨d, hd⟩ : ∃ x, x = badC l[k] := ⟨_, rfl⟩
      have WK : Hid (∀ wx, Calls Try.prog 24 #[.agg #[.int .i64 x0, .string x1, .string x2]] wx fun e w' => e = .returned (.int .i64 d) ∧ Below wx.heap.size wx w') := Lib.hid (by
        rw [hx0, hx1, hx2, hd]; exact WR.out _ _ _)
      rw [← hd] at HD2
      rw [← hx0] at c0; rw [← hx1] at c1; rw [← hx2] at c2
      clear hx0 hx1 hx2 hd WR
      by_cases hd0 : d = 0
      · obtain ⟨y0, y1⟩ := eq_bb hd0
        have HD3 : Hid (badL l = badL (l.drop (k + 1))) := Lib.hid (by rw [HD2.out, if_pos hd0])
        clear hd0 HD2 HD
        go_wp2_with (go_at_call 24; (with_reducible refine (WK.out _).mono ?_); rintro e w2 ⟨rfl, hB2⟩)
        go_roundw
        case rel => exact ⟨k + 1, by omega, by go_num, HD3, below_at (hB.alloc hB.size _) hB2⟩
        case measure => simp [intOf]; omega
      · obtain ⟨y0, y1⟩ := ne_bb hd0
        have E : Hid (t = d) := Lib.hid (by rw [HT.out, if_neg hm, HD2.out, if_neg hd0, if_pos hd0])
        clear hd0 HD2 HD HT
        go_wp2_with (go_at_call 24; (with_reducible refine (WK.out _).mono ?_); rintro e w2 ⟨rfl, hB2⟩)
        go_ret
        exact ⟨by rw [E.out]; rfl, HB1.out.trans ((below_at (hB.alloc hB.size _) hB2).mono (by have := HS1.out; omega))⟩
    · obtain rfl : k = l.length := by omega
      have HT2 : Hid (t = if 72057594037927935 < seq ∨ (0 < l.length ∧ 72057594037927935 < seq + (l.length : Int) - 1) then 8 else 0) := Lib.hid (by rw [HT.out, if_neg hm, HD.out, List.drop_length]; rfl)
      have HZ : wr.heap[w.heap.size]? = some (.cells #[.int .u64 seq, .slice A (l.length : Nat) cap] 27 (0, 0)) := (hB.block _ (by have := HS1.out; omega)).trans HZ1.out
      have z0 : wr.cell? ⟨w.heap.size, 0, none⟩ = some (.int .u64 seq) := by rw [cell_of_row _ _ _ _ _ _ HZ]; rfl
      have z1 : wr.cell? ⟨w.heap.size, 1, none⟩ = some (.slice A (l.length : Nat) cap) := by rw [cell_of_row _ _ _ _ _ _ HZ]; rfl
      have HBR : Hid (Below w.heap.size w wr) := Lib.hid (HB1.out.trans (hB.mono (by have := HS1.out; omega)))
      clear HZ HD HT WR
      by_cases hs : 72057594037927935 < seq
      · have E : Hid (t = 8) := Lib.hid (by rw [HT2.out, if_pos (.inl hs)])
        clear HT2
        go_wp2
        go_ret
        exact ⟨by rw [E.out]; rfl, HBR.out⟩
      · by_cases hn : l.length = 0
        · have E : Hid (t = 0) := Lib.hid (by rw [HT2.out, if_neg (by omega)])
          clear HT2
          go_wp2
          go_ret
          exact ⟨by rw [E.out]; rfl, HBR.out⟩
        · by_cases hs2 : 72057594037927935 < seq + (l.length : Int) - 1
          · have E : Hid (t = 8) := Lib.hid (by rw [HT2.out, if_pos (.inr ⟨by omega, hs2⟩)])
            clear HT2
            go_wp2
            go_ret
            exact ⟨by rw [E.out]; rfl, HBR.out⟩
          · have E : Hid (t = 0) := Lib.hid (by rw [HT2.out, if_neg (by omega)])
            clear HT2
            go_wp2
            go_ret
            exact ⟨by rw [E.out]; rfl, HBR.out⟩
end Go.Proofs.Ythhgijjdddcchaa
