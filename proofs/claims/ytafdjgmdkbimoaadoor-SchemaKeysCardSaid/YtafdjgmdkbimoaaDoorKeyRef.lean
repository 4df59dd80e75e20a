/-
  The document's keys: lift, big, drop, num by contract.
-/
import Derived.Test.YtafdjgmdkbimoaaDoorKeyPart
import Derived.Test.YtafdjgmdkbimoaaDoorRow
namespace Go.Proofs.YtafdjgmdkbimoaaDoor
open Go.RowKit
set_option linter.unusedVariables false
set_option linter.unusedSimpArgs false

set_option maxHeartbeats 1000000 in
theorem ref_lift (n : Int) (w : World) (hn : -9223372036854775808 ≤ n ∧ n ≤ 9223372036854775807) :
    Calls Tryd.prog 35 #[.int .i64 n] w fun e w' => e = .returned (.int .u64 (liftI n)) ∧ Drew w w' := by
  obtain ⟨t, ht⟩ : ∃ t, t = liftI n := ⟨_, rfl⟩
  rw [← ht]
  unfold liftI at ht
  obtain ⟨h0, h1⟩ := hn
  by_cases hneg : n < 0
  · go_enter Tryd.func35, Tryd.ntmps35
    go_wp2
    go_ret
    exact ⟨by rw [ht, show n + 9223372036854775808 = 9223372036854775807 + (n + 1) from by omega]; rfl, by repeat (first | exact Drew.refl _ | apply Drew.step)⟩
  · go_enter Tryd.func35, Tryd.ntmps35
    go_wp2
    go_ret
    exact ⟨by rw [show n + 9223372036854775808 = 9223372036854775808 + n from by omega]; rfl, by repeat (first | exact Drew.refl _ | apply Drew.step)⟩

theorem leL_snoc (k : Nat) : ∀ n, leL (k + 1) n = leL k n ++ [UInt8.ofNat (n / 256 ^ k % 256)] := by
  induction k with
  | zero => intro n; simp [leL]
  | succ k ih =>
    intro n
    rw [leL, ih, leL, List.cons_append, Nat.div_div_eq_div_mul, ← Nat.pow_succ']
/-- what stands behind so many rounds -/
def beDone (n k : Nat) : List UInt8 := List.replicate (8 - k) 0 ++ (leL k n).reverse
theorem beDone_length (n k : Nat) (h : k ≤ 8) : (beDone n k).length = 8 := by simp [beDone, leL_length]; omega
theorem beDone_all (n : Nat) : beDone n 8 = beL n := by simp [beDone, beL]
theorem beDone_set (n k : Nat) (h : k < 8) : (beDone n k).set (7 - k) (UInt8.ofNat (n / 256 ^ k % 256)) = beDone n (k + 1) := by
  unfold beDone
  rw [leL_snoc, List.reverse_append, show 8 - k = (7 - k) + 1 from by omega, List.replicate_succ']
  rw [List.append_assoc, List.set_append_right _ _ (by simp), List.length_replicate, Nat.sub_self]
  rw [show 8 - (k + 1) = 7 - k from by omega]
  rfl

set_option maxRecDepth 100000 in
set_option maxHeartbeats 2000000 in
theorem ref_big (n : Int) (w : World) (h0 : 0 ≤ n) (h1 : n < 18446744073709551616) :
    Calls Tryd.prog 34 #[.int .u64 n] w fun e w' => e = .returned (.string (str (beL n.toNat))) ∧ Below w.heap.size w w' := by
  obtain ⟨x, rfl⟩ := Int.eq_ofNat_of_zero_le h0
  obtain ⟨t, ht⟩ : ∃ t, t = beL ((x : Int)).toNat := ⟨_, rfl⟩
  rw [← ht]
  rw [Int.toNat_natCast] at ht
  have HT := Lib.hid ht
  clear ht
  obtain ⟨y, hy⟩ : ∃ y : Int, y = (x : Int) := ⟨_, rfl⟩
  rw [← hy]
  have HY := Lib.hid hy
  have HO1 : Hid ((w.alloc (.cells #[.int .u8 0, .int .u8 0, .int .u8 0, .int .u8 0, .int .u8 0, .int .u8 0, .int .u8 0, .int .u8 0] 5)).ownsRow w.heap.size 5 1 (.slice (some ⟨w.heap.size, 0, none⟩) 8 8) 8 (u8s (beDone x 0))) :=
    Lib.hid ⟨rfl, .inr ⟨w.heap.size, 8, _, rfl, Nat.le_refl _, heap_alloc_new _ _, by omega, by decide, rfl, rfl⟩⟩
  have hy0 : 0 ≤ y := by omega
  have hy1 : y < 18446744073709551616 := by omega
  clear hy h0 h1
  go_enter Tryd.func34, Tryd.ntmps34
  go_wp2
  go_loopw [0, 4] (fun v0 v4 wr => ∃ (k : Nat) (z : Int), k ≤ 8 ∧ v0 = .int .u64 z ∧ 0 ≤ z ∧ z < 18446744073709551616 ∧ Hid (z = ((x / 256 ^ k : Nat) : Int)) ∧ v4 = .int .i64 (7 - (k : Int)) ∧ Below w.heap.size w wr ∧ Hid (wr.ownsRow w.heap.size 5 1 (.slice (some ⟨w.heap.size, 0, none⟩) 8 8) 8 (u8s (beDone x k)))) (fun _ v _ => (intOf v + 1).toNat)
  case atStart => exact ⟨0, y, by omega, rfl, hy0, hy1, Lib.hid (by rw [HY.out]; simp), rfl, by (repeat (first | exact Below.refl _ _ | assumption | apply below_drewN | (refine Below.alloc ?_ (by first | assumption | omega | (simp; try omega)) _))), HO1⟩
  case round =>
    clear HO1
    obtain ⟨k, z, hk, rfl, hz0, hz1, HZ, rfl, hB, HO⟩ := hrel
    by_cases hlt : k < 8
    · obtain ⟨i, hi⟩ : ∃ i : Nat, i = 7 - k := ⟨_, rfl⟩
      have hi2 : (7 : Int) - (k : Int) = (i : Int) := by omega
      have hcell : wr.cell? ⟨w.heap.size, i, none⟩ = some (.int .u8 (((((beDone x k).getD i 0).toNat : Nat) : Nat) : Int)) := by
        rw [HO.out.cellAt i (by omega)]
        have hl : i < (beDone x k).length := by rw [beDone_length x k hk]; omega
        simp [u8s, List.getD_eq_getElem?_getD, List.getElem?_eq_getElem hl]
      have hfz := HO.out.frozenAt i
      have hval : Hid (z % 256 = (((UInt8.ofNat (x / 256 ^ k % 256)).toNat : Nat) : Int)) := Lib.hid (by
        rw [HZ.out, UInt8.toNat_ofNat']; omega)
      have hnx : Hid (z / 256 = ((x / 256 ^ (k + 1) : Nat) : Int)) := Lib.hid (by
        rw [HZ.out, Nat.pow_succ, ← Nat.div_div_eq_div_mul]; omega)
      rw [hi2]
      have HI := Lib.hid hi
      have hi8 : i < 8 := by omega
      clear hi hi2
      go_wp2
      go_roundw
      case rel =>
        refine ⟨k + 1, z / 256, by omega, rfl, by omega, by omega, hnx, ?_, hB.setCell (by simp) _, Lib.hid ?_⟩
        · have := HI.out
          first | go_num | (congr 1; omega)
        · rw [hval.out, HI.out, ← beDone_set x k hlt, ← u8s_set _ _ _ _ rfl]
          exact (HO.out.stored _ _).1
      case measure => simp [intOf]
    · have hcb := own_bytes (P := Tryd.prog) (dst := 9) (l := t) (own_len HO.out (by rw [HT.out, beL_length]) (by rw [HT.out, show k = 8 from by omega, beDone_all])) (by intro h; have := congrArg List.length h; rw [HT.out, beL_length] at this; simp at this) Tryd.underlying73 Tryd.underlying5 Tryd.underlying9
      go_wp2
      go_ret
      exact ⟨rfl, hB⟩

end Go.Proofs.YtafdjgmdkbimoaaDoor
