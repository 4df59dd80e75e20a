/-
  The document's Parts by contract.
-/
import Derived.Test.YtafdjgmdkbimoaaDoorKeyRefMk
import Derived.Test.YtafdjgmdkbimoaaDoorKeyPts
namespace Go.Proofs.YtafdjgmdkbimoaaDoor
open Go.RowKit
set_option linter.unusedVariables false
set_option linter.unusedSimpArgs false

set_option maxHeartbeats 1000000 in
theorem ref_drop (n : Int) (w : World) (h0 : 0 ≤ n) (h1 : n < 18446744073709551616) :
    Calls Tryd.prog 47 #[.int .u64 n] w fun e w' => e = .returned (.int .i64 (dropI n)) ∧ Drew w w' := by
  obtain ⟨t, ht⟩ : ∃ t, t = dropI n := ⟨_, rfl⟩
  rw [← ht]
  unfold dropI at ht
  have HT := Lib.hid ht
  clear ht
  by_cases hbig : 9223372036854775808 ≤ n
  · go_enter Tryd.func47, Tryd.ntmps47
    go_wp2
    go_ret
    exact ⟨by rw [HT.out]; rfl, by repeat (first | exact Drew.refl _ | apply Drew.step)⟩
  · have e : n - 9223372036854775808 = -(9223372036854775807 - n) - 1 := by omega
    rw [e] at HT
    clear e
    go_enter Tryd.func47, Tryd.ntmps47
    go_wp2
    go_ret
    exact ⟨by rw [HT.out]; rfl, by repeat (first | exact Drew.refl _ | apply Drew.step)⟩

set_option maxRecDepth 100000 in
set_option maxHeartbeats 2000000 in
theorem ref_num4 (s : ByteArray) (w : World) (hs : 8 ≤ s.size) :
    Calls Tryd.prog 46 #[.string s] w fun e w' => e = .returned (.int .u64 (leN (s.data.toList.take 8).reverse : Int)) ∧ Drew w w' := by
  have hl : s.data.toList.length = s.size := by simp
  have HL := Lib.hid hl
  clear hl
  go_enter Tryd.func46, Tryd.ntmps46
  go_wp2
  go_loopw [3, 4] (fun v3 v4 wr => ∃ (i : Nat) (z : Int), i ≤ 8 ∧ v4 = .int .i64 i ∧ v3 = .int .u64 z ∧ 0 ≤ z ∧ z < 18446744073709551616 ∧ Hid (z = ((leN (s.data.toList.take i).reverse : Nat) : Int)) ∧ Drew w wr) (fun _ v _ => 8 - (intOf v).toNat)
  case atStart => exact ⟨0, 0, by omega, rfl, rfl, by omega, by omega, Lib.hid rfl, by repeat (first | exact Drew.refl _ | apply Drew.step)⟩
  case round =>
    obtain ⟨i, z, hi, rfl, rfl, hz0, hz1, HZ, hD⟩ := hrel
    by_cases hlt : i < 8
    · have hin : i < s.size := by omega
      have hil : i < s.data.toList.length := by rw [HL.out]; exact hin
      obtain ⟨x, hc⟩ : ∃ x, s[i] = x := ⟨_, rfl⟩
      have hc' : s.data.toList[i] = x := by rw [← hc]; rfl
      have hx256 : x.toNat < 256 := x.toNat_lt
      have hx0 : 0 ≤ ((x.toNat : Nat) : Int) := by omega
      have hst : leN (s.data.toList.take (i + 1)).reverse = x.toNat + 256 * leN (s.data.toList.take i).reverse := by
        rw [List.take_succ_eq_append_getElem hil, List.reverse_append, hc']; rfl
      have hb : leN (s.data.toList.take (i + 1)).reverse < 18446744073709551616 := by
        have h := leN_lt (s.data.toList.take (i + 1)).reverse
        have e : (s.data.toList.take (i + 1)).reverse.length ≤ 8 := by rw [List.length_reverse, List.length_take]; omega
        have e2 : 256 ^ (s.data.toList.take (i + 1)).reverse.length ≤ 256 ^ 8 := Nat.pow_le_pow_right (by omega) e
        omega
      have hz2 : z * 256 + ((x.toNat : Nat) : Int) < 18446744073709551616 := by rw [HZ.out]; omega
      have hz3 : z * 256 < 18446744073709551616 := by omega
      have hz4 : 0 ≤ z * 256 := by omega
      have HN : Hid (z * 256 + ((x.toNat : Nat) : Int) = ((leN (s.data.toList.take (i + 1)).reverse : Nat) : Int)) := Lib.hid (by rw [hst, HZ.out]; omega)
      clear hst hb hc'
      go_wp2
      go_roundw
      case rel => exact ⟨i + 1, z * 256 + ((x.toNat : Nat) : Int), by omega, by go_num, rfl, by omega, hz2, HN, by repeat (first | exact hD | apply Drew.step)⟩
      case measure => simp [intOf]; omega
    · have HF : Hid (z = ((leN (s.data.toList.take 8).reverse : Nat) : Int)) := Lib.hid (by rw [HZ.out, show i = 8 from by omega])
      go_wp2
      go_ret
      exact ⟨by rw [← HF.out]; rfl, by repeat (first | exact hD | apply Drew.step)⟩

theorem unqL_suffix : ∀ (l acc u v : List UInt8), unqL l acc = some (u, v) → l.drop (l.length - v.length) = v
  | [], _, _, _, h => by simp [unqL] at h
  | [_], _, _, _, h => by simp [unqL] at h
  | b :: c :: r, acc, u, v, h => by
    have hle := unqL_le _ _ _ _ h
    rw [unqL] at h
    have hd : ∀ (x y : UInt8) (r : List UInt8) (n : Nat), (x :: y :: r).drop (n + 2) = r.drop n := fun x y r n => rfl
    split at h
    · split at h
      · simp at h; obtain ⟨_, rfl⟩ := h
        rw [show (b :: c :: r).length - r.length = 0 + 2 from by simp; omega, hd]; rfl
      · split at h
        · have h2 := unqL_suffix r _ u v h
          have h3 := unqL_le r _ u v h
          rw [show (b :: c :: r).length - v.length = (r.length - v.length) + 2 from by simp; omega, hd]; exact h2
        · simp at h
    · have h2 := unqL_suffix (c :: r) _ u v h
      have h3 := unqL_le (c :: r) _ u v h
      rw [show (b :: c :: r).length - v.length = ((c :: r).length - v.length) + 1 from by simp at h3 ⊢; omega, List.drop_succ_cons]; exact h2

end Go.Proofs.YtafdjgmdkbimoaaDoor
