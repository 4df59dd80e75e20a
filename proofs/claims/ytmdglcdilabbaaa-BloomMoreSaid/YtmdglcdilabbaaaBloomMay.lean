/-
  bloom.May by contract.
-/
import Derived.Test.YtmdglcdilabbaaaBloomPl
namespace Go.Proofs.Ytmdglcdilabbaaa
open Go.RowKit
set_option linter.unusedVariables false
set_option linter.unusedSimpArgs false

theorem info_int : (Try.prog.info? 3).map (·.size) = some 1 := by kernel_rfl
theorem run_index_pl (f : Nat → Nat) (j : Nat) (h : j < 6) (w : World) : (Instr.index 30 (.agg (plRow f 6)) (.int .i64 j)).run Try.prog w = .ok (.int .i64 ((f j : Nat) : Int)) w := by
  have hb : 0 ≤ (j : Int) ∧ (j : Int) < ((6 : Nat) : Int) := by omega
  have hc := plRow_at f 6 j h
  rw [if_pos h] at hc
  cases hq : Try.prog.info? 3 with
  | none => have := info_int; simp [hq] at this
  | some i =>
    have hs : i.size = 1 := by have := info_int; simpa [hq] using this
    have hagg : (isAgg 3).run Try.prog w = .ok false w := by
      unfold isAgg
      rw [Sem.run_bind, run_underlying Try.underlying3 w]
      rfl
    simp [Instr.index, run_underlying Try.underlying30, asIntOf, hb, part, Sem.run_bind, sizeOf, typeInfo, hq, hs, hagg, hc, go_sem]
    intro h2; omega

/-- bit p of bytes -/
def bitAt (l : List UInt8) (p : Nat) : Bool := (l.getD (p / 8) 0).toNat / 2 ^ (p % 8) % 2 == 1
def mayL (l : List UInt8) (key : ByteArray) : Bool := l.length == 0 || (List.range 6).all fun i => bitAt l (plAt key ((l.length * 8 : Nat) : Int) i)

theorem plAt_lt (key : ByteArray) (n : Nat) (hn : 0 < n) (i : Nat) : plAt key (n : Int) i < n := by
  unfold plAt
  rw [if_neg (by omega), Int.toNat_natCast]
  exact Nat.mod_lt _ hn

theorem bit_word (b : UInt8) (m : Nat) : Go.bits .and .u8 ((b.toNat : Int) / 2 ^ m) 1 = ((b.toNat / 2 ^ m % 2 : Nat) : Int) := by
  have hb := b.toNat_lt
  have e : ((b.toNat : Int) / 2 ^ m) = ((b.toNat / 2 ^ m : Nat) : Int) := by simp
  have h1 : b.toNat / 2 ^ m < 256 := Nat.lt_of_le_of_lt (Nat.div_le_self _ _) hb
  rw [e]
  obtain ⟨y, hy⟩ : ∃ y, y = b.toNat / 2 ^ m := ⟨_, rfl⟩
  rw [← hy] at h1 ⊢
  have h := bits_mask .u8 8 (by decide) wraps_u8 1 (by decide) (y : Int) (by omega) (by omega)
  have h2 : ((2 : Int) ^ 1 - 1) = 1 := by decide
  rw [h2] at h
  rw [h]; simp
theorem byte_at (f : ByteArray) (i : Nat) (h : i < f.size) : f[i] = f.data.toList.getD i 0 := by
  have h2 : i < f.data.toList.length := by simpa using h
  rw [List.getD_eq_getElem?_getD, List.getElem?_eq_getElem h2]
  rfl
theorem bit_test (f : ByteArray) (p : Nat) (h : p / 8 < f.size) : (Go.bits .and .u8 ((f[p / 8].toNat : Int) / 2 ^ (p % 8)) 1 == 0) = !bitAt f.data.toList p := by
  rw [bit_word, byte_at f _ h]
  unfold bitAt
  obtain ⟨x, hx⟩ : ∃ x, x = (f.data.toList.getD (p / 8) 0).toNat / 2 ^ (p % 8) % 2 := ⟨_, rfl⟩
  have : x = 0 ∨ x = 1 := by omega
  rw [← hx]
  rcases this with rfl | rfl <;> rfl

set_option maxRecDepth 100000 in
set_option maxHeartbeats 2000000 in
theorem bloom_may (f key : ByteArray) (w : World) (hf : f.size ≤ 1000000) (hk : key.size ≤ 1000) :
    Calls Try.prog 15 #[.string f, .string key] w fun e w' => e = .returned (.bool (mayL f.data.toList key)) ∧ Below w.heap.size w w' := by
  have hl : f.data.toList.length = f.size := by simp
  obtain ⟨t, ht⟩ : ∃ t, t = mayL f.data.toList key := ⟨_, rfl⟩
  rw [← ht]
  by_cases h0 : f.size = 0
  · have HT : Hid (t = true) := Lib.hid (by rw [ht]; unfold mayL; rw [hl, h0]; rfl)
    have hnil : f.toList = [] := by
      rw [ByteArray.toList_eq]
      have : f.data = #[] := Array.eq_empty_of_size_eq_zero h0
      rw [this]
    clear ht hl h0
    go_enter Try.func15, Try.ntmps15
    go_wp2
    go_ret
    exact ⟨by rw [HT.out]; rfl, Below.refl _ _⟩
  · have hem : f.toList.isEmpty = false := by
      rw [List.isEmpty_eq_false_iff]
      intro h
      apply h0
      rw [ByteArray.toList_eq] at h
      show f.data.size = 0
      rw [← Array.length_toList, h]; rfl
    have hpos : 0 < f.size := by omega
    obtain ⟨g, hg⟩ : ∃ g, g = plAt key (f.size * 8 : Int) := ⟨_, rfl⟩
    have HG : Hid (∀ i, g i < f.size * 8) := Lib.hid fun i => by
      rw [hg, show ((f.size : Int) * 8) = ((f.size * 8 : Nat) : Int) from by omega]; exact plAt_lt _ _ (by omega) _
    have PL : Hid (∀ wx, Calls Try.prog 13 #[.string key, .int .i64 (f.size * 8 : Int)] wx fun e w' => e = .returned (.agg (plRow g 6)) ∧ Below wx.heap.size wx w') := Lib.hid fun wx => by
      rw [hg]; exact bloom_places key _ wx hk (by omega)
    have HM : Hid (t = (List.range 6).all fun i => bitAt f.data.toList (g i)) := Lib.hid (by
      rw [ht, hg]; unfold mayL
      rw [hl, show ((f.size : Int) * 8) = ((f.size * 8 : Nat) : Int) from by omega, show (f.size == 0) = false from by simp [h0]]; rfl)
    clear ht hl hg h0
    go_enter Try.func15, Try.ntmps15
    go_wp2_with (go_at_call 13; (with_reducible refine (PL.out _).mono ?_); rintro e w1 ⟨rfl, hB⟩)
    have HB := Lib.hid hB
    clear hB
    go_loopw [14] (fun v14 wr => ∃ k : Nat, k ≤ 6 ∧ v14 = .int .i64 k ∧ Hid (∀ i, i < k → bitAt f.data.toList (g i) = true) ∧ Drew w1 wr) (fun v _ => 6 - (intOf v).toNat)
    case atStart => exact ⟨0, by omega, rfl, Lib.hid fun i h => absurd h (Nat.not_lt_zero _), Drew.refl _⟩
    case round =>
      obtain ⟨k, hk6, rfl, HK, ⟨⟨d, rfl⟩⟩⟩ := hrel
      by_cases hlt : k < 6
      · have hidx := fun w => run_index_pl g k hlt w
        have hpl : g k / 8 < f.size := by have := HG.out k; omega
        have hbt := bit_test f (g k) hpl
        cases hb : bitAt f.data.toList (g k)
        · rw [hb, Bool.not_false] at hbt
          have HE : Hid (t = false) := Lib.hid (by
            rw [HM.out, List.all_eq_false]
            exact ⟨k, by simpa using hlt, by rw [hb]; simp⟩)
          clear hb
          go_wp2
          go_ret
          exact ⟨by rw [HE.out]; rfl, by exact below_drewN HB.out _⟩
        · rw [hb, Bool.not_true] at hbt
          have HK2 : Hid (∀ i, i < k + 1 → bitAt f.data.toList (g i) = true) := Lib.hid fun i h => by
            by_cases e : i = k
            · rw [e, hb]
            · exact HK.out i (by omega)
          clear hb
          go_wp2
          go_roundw
          case rel => exact ⟨k + 1, by omega, by go_num, HK2, by repeat (first | exact Drew.refl _ | apply Drew.step)⟩
          case measure => simp [intOf]; omega
      · have HE : Hid (t = true) := Lib.hid (by
          rw [HM.out, List.all_eq_true]
          intro i hi
          exact HK.out i (by have := List.mem_range.mp hi; omega))
        go_wp2
        go_ret
        exact ⟨by rw [HE.out]; rfl, by exact below_drewN HB.out _⟩

end Go.Proofs.Ytmdglcdilabbaaa
