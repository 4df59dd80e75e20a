/-
  key.After by contract: the least text behind all with a beginning.
-/
import Derived.Test.YtafdjgmdkbimoaaDoorKeyPart
namespace Go.Proofs.YtafdjgmdkbimoaaDoor
open Go.RowKit
set_option linter.unusedVariables false
set_option linter.unusedSimpArgs false

/-- behind a beginning that is told from its end on -/
def afterR : List UInt8 → Option (List UInt8)
  | [] => none
  | c :: r => if c = 255 then afterR r else some ((c + 1) :: r)
def afterL (l : List UInt8) : Option (List UInt8) := (afterR l.reverse).map List.reverse
theorem afterL_full (l : List UInt8) : afterL (l ++ [255]) = afterL l := by simp [afterL, afterR]
theorem afterL_some (l : List UInt8) (c : UInt8) (h : c ≠ 255) : afterL (l ++ [c]) = some (l ++ [c + 1]) := by simp [afterL, afterR, h]
theorem afterL_nil : afterL [] = none := rfl

theorem take_last (l : List UInt8) (n : Nat) (h : n < l.length) : l.take (n + 1) = l.take n ++ [l.getD n 0] := by
  rw [List.take_succ_eq_append_getElem h, List.getD_eq_getElem?_getD, List.getElem?_eq_getElem h]; rfl
theorem byte_getD (s : ByteArray) (i : Nat) (h : i < s.size) : s[i] = s.data.toList.getD i 0 := by
  have h2 : i < s.data.toList.length := by simpa using h
  rw [List.getD_eq_getElem?_getD, List.getElem?_eq_getElem h2]
  rfl
theorem extract_take (s : ByteArray) (n : Nat) : s.extract 0 n = str (s.data.toList.take n) := by
  apply ByteArray.ext
  simp only [str, ByteArray.data_extract]
  apply Array.toList_inj.mp
  simp [List.extract]

set_option maxRecDepth 100000 in
set_option maxHeartbeats 4000000 in
theorem key_after (s : ByteArray) (w : World) (hs : s.size ≤ 1000) :
    Calls Tryd.prog 33 #[.string s] w fun e w' => e = .returned (.tuple #[.string (str ((afterL s.data.toList).getD [])), .bool (afterL s.data.toList).isSome]) ∧ Below w.heap.size w w' := by
  obtain ⟨t, ht⟩ : ∃ t, t = afterL s.data.toList := ⟨_, rfl⟩
  rw [← ht]
  have HT := Lib.hid ht
  have HL : Hid (s.data.toList.length = s.size) := Lib.hid (by simp)
  clear ht
  go_enter Tryd.func33, Tryd.ntmps33
  go_wp2
  go_loopw [4] (fun v4 wr => ∃ n : Nat, n ≤ s.size ∧ v4 = .int .i64 n ∧ Hid (afterL (s.data.toList.take n) = t) ∧ Drew w wr) (fun v _ => (intOf v).toNat)
  case atStart => exact ⟨s.size, Nat.le_refl _, rfl, Lib.hid (by rw [List.take_of_length_le (by rw [HL.out]; exact Nat.le_refl _)]; exact HT.out.symm), Drew.refl _⟩
  case round =>
    obtain ⟨n, hn, rfl, HA, ⟨⟨d, rfl⟩⟩⟩ := hrel
    cases n with
    | zero =>
      have HF : Hid (t = none) := Lib.hid (by rw [← HA.out]; rfl)
      go_wp2
      go_ret2
      exact ⟨by rw [HF.out]; rfl, below_drewN (Below.refl _ _) _⟩
    | succ n =>
      have hlt : n < s.size := by omega
      have e1 : (((n + 1 : Nat) : Nat) : Int) = (n : Int) + 1 := by omega
      rw [e1]
      obtain ⟨c, hc⟩ : ∃ c, c = s.data.toList.getD n 0 := ⟨_, rfl⟩
      have hb : s[n] = c := by rw [hc]; exact byte_getD s n hlt
      have HTk : Hid (s.data.toList.take (n + 1) = s.data.toList.take n ++ [c]) := Lib.hid (by rw [take_last _ _ (by rw [HL.out]; exact hlt), hc])
      clear hc e1
      by_cases h255 : c = 255
      · have HA2 : Hid (afterL (s.data.toList.take n) = t) := Lib.hid (by rw [← HA.out, HTk.out, h255, afterL_full])
        have hb2 : ((s[n].toNat : Nat) : Int) = 255 := by rw [hb, h255]; rfl
        clear hb h255 HTk HA
        go_wp2
        go_roundw
        case rel => exact ⟨n, by omega, rfl, HA2, by repeat (first | exact Drew.refl _ | apply Drew.step)⟩
        case measure => simp [intOf]
      · have HF : Hid (t = some (s.data.toList.take n ++ [c + 1])) := Lib.hid (by rw [← HA.out, HTk.out, afterL_some _ _ h255])
        obtain ⟨x, hx⟩ : ∃ x : Int, ((s[n].toNat : Nat) : Int) = x := ⟨_, rfl⟩
        have hcx : x = ((c.toNat : Nat) : Int) := by rw [← hx, hb]
        have hx0 : 0 ≤ x ∧ x ≤ 255 := by rw [hcx]; have := c.toNat_lt; omega
        have hxn : ¬ x = 255 := by
          intro h
          have h2 : c.toNat = 255 := by omega
          exact h255 (UInt8.toNat_inj.mp h2)
        obtain ⟨p1, p2⟩ := ne_bb hxn
        obtain ⟨hx0, hx1⟩ := hx0
        have hx2 : x < 255 := by omega
        have hcv := conv_byte (w.drewN (d + 1)) w.heap.size (by rfl) (x + 1) (c + 1) (by
          rw [hcx, UInt8.toNat_add]; show _ = (((c.toNat + 1) % 256 : Nat) : Int); omega)
        have hz1 : (str [c + 1]).size = 1 := rfl
        clear hb h255 HTk HA hcx hxn
        go_wp2
        go_region
        all_goals
          go_wp2
          go_ret2
          exact ⟨by rw [HF.out]; simp only [Option.getD_some, Option.isSome_some]; rw [← str_append, ← extract_take]; rfl, by (repeat (first | exact Below.refl _ _ | assumption | apply below_drewN | (refine Below.alloc ?_ (by first | assumption | omega | (simp; try omega)) _)))⟩

end Go.Proofs.YtafdjgmdkbimoaaDoor
