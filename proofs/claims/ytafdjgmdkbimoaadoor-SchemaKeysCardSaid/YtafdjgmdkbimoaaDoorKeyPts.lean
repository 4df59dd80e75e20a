/-
  key.Parts by contract.
-/
import Derived.Test.YtafdjgmdkbimoaaDoorKeyParts
import Derived.Deep.RegionLaw
namespace Go.Proofs.YtafdjgmdkbimoaaDoor
open Go.RowKit
set_option linter.unusedVariables false
set_option linter.unusedSimpArgs false

theorem partD_bd (c : UInt8) (r : List UInt8) : (partD (c :: r)).2 < 0 ∨ (1 ≤ (partD (c :: r)).2 ∧ (partD (c :: r)).2 ≤ (c :: r).length) := by
  rw [partD]
  simp only [List.length_cons]
  split
  · split
    · left; simp
    · rename_i q hq
      have := unqL_le r [] _ _ hq
      right; simp only; omega
  · split
    · left; simp
    · split
      · right; simp only; omega
      · split
        · right; simp only; omega
        · split
          · right; simp only; omega
          · left; simp

/-- the parts of bytes, if they are those of some -/
def partsF : Nat → List UInt8 → List PartR → Option (List PartR)
  | _, [], acc => some acc
  | 0, _ :: _, _ => none
  | f + 1, c :: r, acc => if (partD (c :: r)).2 < 0 then none else partsF f ((c :: r).drop (partD (c :: r)).2.toNat) (acc ++ [(partD (c :: r)).1])
def partsL (l : List UInt8) : Option (List PartR) := if 200 < l.length then none else partsF l.length l []
/-- the parts, the error -/
def partsR (l : List UInt8) : List PartR × Int := match partsL l with
  | none => ([], 19)
  | some r => (r, 0)

theorem rows_none {w : World} {A : Option Addr} : RowsAt w A 4 PartR.row [] := ⟨.inl rfl⟩

set_option maxRecDepth 100000 in
set_option maxHeartbeats 4000000 in
theorem key_parts (s : ByteArray) (w : World) (hs : s.size ≤ 140737488351232) :
    Calls Tryd.prog 21 #[.string s] w fun e w' => ∃ a c, e = .returned (.tuple #[.slice a (partsR s.data.toList).1.length c, .int .i64 (partsR s.data.toList).2]) ∧ RowsAt w' a 4 PartR.row (partsR s.data.toList).1 ∧ (partsR s.data.toList).1.length ≤ c ∧ c ≤ maxLen ∧ Below w.heap.size w w' := by
  obtain ⟨t, ht⟩ : ∃ t, t = partsR s.data.toList := ⟨_, rfl⟩
  rw [← ht]
  have hl : s.data.toList.length = s.size := by simp
  unfold partsR partsL at ht
  have hz := zero_part
  by_cases h200 : 200 < s.size
  · rw [if_pos (by omega)] at ht
    simp only at ht
    have HT := Lib.hid ht
    clear ht hl
    go_enter Tryd.func21, Tryd.ntmps21
    go_wp2
    go_ret2
    exact ⟨none, 0, by rw [HT.out]; rfl, by rw [HT.out]; exact rows_none, by rw [HT.out]; simp, by decide, by (repeat (first | exact Below.refl _ _ | assumption | apply below_drewN | (refine Below.alloc ?_ (by first | assumption | omega | (simp; try omega)) _)))⟩
  · rw [if_neg (by omega)] at ht
    have HT : Hid (∀ x, partsF s.data.toList.length s.data.toList [] = x → t = match x with | none => ([], 19) | some r => (r, 0)) := Lib.hid (by rintro x rfl; rw [ht])
    have HL := Lib.hid hl
    clear ht hl
    go_enter Tryd.func21, Tryd.ntmps21
    go_wp2
    go_loopw [0, 4] (fun v0 v4 wr => ∃ (u : ByteArray) (f : Nat) (acc : List PartR), v0 = .string u ∧ u.size ≤ 200 ∧ u.size ≤ f ∧ acc.length + u.size ≤ 200 ∧ Below w.heap.size w wr ∧ Hid (wr.ownsRow w.heap.size 51 4 v4 acc.length (acc.flatMap PartR.row)) ∧ Hid (partsF f u.data.toList acc = partsF s.data.toList.length s.data.toList [])) (fun v _ _ => match v with | .string u => u.size | _ => 0)
    case atStart => exact ⟨s, s.data.toList.length, [], rfl, by omega, by rw [HL.out]; omega, by simp; omega, by (repeat (first | exact Below.refl _ _ | assumption | apply below_drewN | (refine Below.alloc ?_ (by first | assumption | omega | (simp; try omega)) _))), Lib.hid (by simpa using own_none), Lib.hid rfl⟩
    case round =>
      obtain ⟨u, f, acc, rfl, hu, hf, hacc, hB, HO, HM⟩ := hrel
      have hul : u.data.toList.length = u.size := by simp
      by_cases hpos : 0 < u.size
      · obtain ⟨c, r, hcr⟩ : ∃ c r, u.data.toList = c :: r := by
          cases h : u.data.toList with
          | nil => rw [h] at hul; simp at hul; omega
          | cons c r => exact ⟨c, r, rfl⟩
        have hbd := partD_bd c r
        rw [← hcr] at hbd
        obtain ⟨g, rfl⟩ : ∃ g, f = g + 1 := ⟨f - 1, by omega⟩
        have HM2 : Hid ((if (partD u.data.toList).2 < 0 then none else partsF g (u.data.toList.drop (partD u.data.toList).2.toNat) (acc ++ [(partD u.data.toList).1])) = partsF s.data.toList.length s.data.toList []) := Lib.hid (by
          rw [← HM.out, hcr, partsF])
        have PT : Hid (∀ wx, Calls Tryd.prog 37 #[.string u] wx fun e w' => e = .returned (.tuple #[.agg (cells4 (partD u.data.toList).1.sort (partD u.data.toList).1.n (partD u.data.toList).1.u (partD u.data.toList).1.s), .int .i64 (partD u.data.toList).2]) ∧ Below wx.heap.size wx w') := Lib.hid fun wx => key_part u wx (by omega) hpos
        obtain ⟨d, hd⟩ : ∃ d, d = partD u.data.toList := ⟨_, rfl⟩
        rw [← hd] at hbd HM2 PT
        obtain ⟨⟨a, n, v, x⟩, q⟩ := d
        simp only at hbd PT
        clear hd HM
        rw [hul] at hbd
        by_cases hq : q < 0
        · have HF : Hid (t = ([], 19)) := Lib.hid (by
            have h := HM2.out
            simp only at h
            rw [if_pos hq] at h
            rw [HT.out _ h.symm])
          clear hbd HM2 hul hcr
          go_wp2_with (go_at_call 37; (with_reducible refine (PT.out _).mono ?_); rintro e w1 ⟨rfl, hB1⟩; have hB2 := below_at hB hB1)
          go_ret2
          exact ⟨none, 0, by rw [HF.out]; rfl, by rw [HF.out]; exact rows_none, by rw [HF.out]; simp, by decide, hB2.alloc hB2.size _⟩
        · have hq1 : 1 ≤ q := by omega
          have hq2 : q ≤ u.size := by omega
          have HF : Hid (partsF g (u.data.toList.drop q.toNat) (acc ++ [⟨a, n, v, x⟩]) = partsF s.data.toList.length s.data.toList []) := Lib.hid (by
            have h := HM2.out
            simp only at h
            rw [if_neg hq] at h
            exact h)
          have HM3 : Hid ((acc ++ [(⟨a, n, v, x⟩ : PartR)]).flatMap PartR.row = acc.flatMap PartR.row ++ (cells4 a n v x).toList) := Lib.hid (by
            rw [List.flatMap_append]; simp; rfl)
          clear hbd HM2 hul hcr
          go_wp2_with (go_at_call 37; (with_reducible refine (PT.out _).mono ?_); rintro e w1 ⟨rfl, hB1⟩; have hB2 := below_at hB hB1; have HO1 := Lib.hid (own_moved HO.out hB1))
          go_region_law ((refine step_append_row (by rfl) (.tmp 20) (.tmp 22) 46 (by rfl) w.heap.size 51 Tryd.underlying46 _ 4 40 info_part3 rfl (by decide) (by decide) _ u4 acc.length _ (by rfl) (own_moved HO1.out (by (repeat (first | exact Below.refl _ _ | assumption | apply below_drewN | (refine Below.alloc ?_ (by first | assumption | omega | (simp; try omega)) _))))) (cells4 a n v x) (w1.heap.size + 1) (heap_new (by simp)) rfl (by simp [Value.oneCell']) (by rfl) (by omega) (by have := hB2.size; simp; omega) ?_; intro g' cap w2 hown2 hB3 hsz3))
          all_goals (rw [show (cells4 a n v x).toList = [Value.int IntKind.u8 a, Value.int IntKind.i64 n, Value.int IntKind.u64 v, Value.string x] from rfl, ← HM3.out] at hown2)
          all_goals (have HO2 : Hid (w2.ownsRow w.heap.size 51 4 (.slice (some ⟨g', 0, none⟩) (acc.length + 1) cap) (acc ++ [(⟨a, n, v, x⟩ : PartR)]).length ((acc ++ [(⟨a, n, v, x⟩ : PartR)]).flatMap PartR.row)) := Lib.hid (by rw [List.length_append]; exact hown2))
          all_goals (have hB4 := (show Below w.heap.size w w2 from Below.trans (by repeat (first | exact Below.refl _ _ | assumption | apply Below.drew | (refine Below.alloc ?_ (by have := hB2.size; simp; omega) _))) hB3))
          all_goals clear hown2 hB3
          have hue : (u.extract q.toNat u.size).size = u.size - q.toNat := by rw [ByteArray.size_extract]; omega
          all_goals go_roundw
          case rel => exact ⟨_, _, _, _, _, _, _, _, _, _, _, _, _, _, _, _, _, _, _, _, _, _, _, ⟨u.extract q.toNat u.size, g, acc ++ [⟨a, n, v, x⟩], rfl, by omega, by omega, by rw [List.length_append]; simp; omega, hB4, HO2, Lib.hid (by rw [Lib.extract_to_end]; exact HF.out)⟩, rfl⟩
          case measure => exact (show (u.extract q.toNat u.size).size < u.size from by omega)
      · have hnil : u.data.toList = [] := List.length_eq_zero_iff.mp (by omega)
        have HF : Hid (t = (acc, 0)) := Lib.hid (by
          have h := HM.out
          rw [hnil] at h
          cases f <;> rw [partsF] at h <;> rw [HT.out _ h.symm])
        have HE := own_rowsN HO.out PartR.len
        obtain ⟨a, cc, e1, e2, e3, e4⟩ := HE
        have HE1 := Lib.hid e1
        have HE2 := Lib.hid e2
        clear e1 e2 HO hnil hul
        go_wp2
        go_ret2
        exact ⟨a, cc, by rw [HF.out, HE1.out]; rfl, by rw [HF.out]; exact HE2.out, by rw [HF.out]; exact e3, e4, hB⟩

end Go.Proofs.YtafdjgmdkbimoaaDoor
