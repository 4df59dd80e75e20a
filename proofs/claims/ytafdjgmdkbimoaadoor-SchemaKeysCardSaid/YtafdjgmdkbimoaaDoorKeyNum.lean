/-
  key.high and key.low by contract: a number, the highest byte first.
-/
import Derived.Test.YtafdjgmdkbimoaaDoorBld
import Derived.Test.YtafdjgmdkbimoaaDoorRdText
import Derived.Test.YtafdjgmdkbimoaaDoorRecs
namespace Go.Proofs.YtafdjgmdkbimoaaDoor
open Go.RowKit
set_option linter.unusedVariables false
set_option linter.unusedSimpArgs false

/-- the first k and the last k bytes turned about -/
def turned (l : List UInt8) (k : Nat) : List UInt8 := (List.range l.length).map fun j => if j < k ∨ l.length ≤ j + k then l.getD (l.length - 1 - j) 0 else l.getD j 0
theorem turned_length (l : List UInt8) (k : Nat) : (turned l k).length = l.length := by simp [turned]
theorem turned_getD (l : List UInt8) (k j : Nat) (h : j < l.length) : (turned l k).getD j 0 = if j < k ∨ l.length ≤ j + k then l.getD (l.length - 1 - j) 0 else l.getD j 0 := by
  simp [turned, List.getD_eq_getElem?_getD, h]
theorem turned_zero (l : List UInt8) : turned l 0 = l := by
  apply List.ext_getElem (by simp [turned])
  intro j h1 h2
  simp [turned, List.getD_eq_getElem?_getD, h2]
  intro h; omega
theorem turned_all (l : List UInt8) (k : Nat) (h : l.length ≤ 2 * k + 1) : turned l k = l.reverse := by
  apply List.ext_getElem (by simp [turned])
  intro j h1 h2
  rw [turned_length] at h1
  rw [List.getElem_reverse]
  have e := turned_getD l k j h1
  rw [List.getD_eq_getElem?_getD, List.getElem?_eq_getElem (by rw [turned_length]; exact h1)] at e
  simp only [Option.getD_some] at e
  rw [e]
  split
  · rw [List.getD_eq_getElem?_getD, List.getElem?_eq_getElem (by omega)]; rfl
  · rw [List.getD_eq_getElem?_getD, List.getElem?_eq_getElem (by omega)]
    simp only [Option.getD_some]
    congr 1; omega
theorem turned_step (l : List UInt8) (k : Nat) (h : 2 * k + 1 < l.length) :
    ((turned l k).set k (l.getD (l.length - 1 - k) 0)).set (l.length - 1 - k) (l.getD k 0) = turned l (k + 1) := by
  apply List.ext_getElem (by simp [turned])
  intro j h1 h2
  rw [turned_length] at h2
  have e1 := turned_getD l (k + 1) j h2
  rw [List.getD_eq_getElem?_getD, List.getElem?_eq_getElem (by rw [turned_length]; exact h2)] at e1
  simp only [Option.getD_some] at e1
  have e0 := turned_getD l k j h2
  rw [List.getD_eq_getElem?_getD, List.getElem?_eq_getElem (by rw [turned_length]; exact h2)] at e0
  simp only [Option.getD_some] at e0
  rw [e1]
  rw [List.getElem_set]
  by_cases c1 : l.length - 1 - k = j
  · rw [if_pos c1, if_pos (by omega)]
    congr 1; omega
  · rw [if_neg c1, List.getElem_set]
    by_cases c2 : k = j
    · rw [if_pos c2, if_pos (by omega), c2]
    · rw [if_neg c2, e0]
      by_cases c3 : j < k ∨ l.length ≤ j + k
      · rw [if_pos c3, if_pos (by omega)]
      · rw [if_neg c3, if_neg (by omega)]
theorem turned_first (l : List UInt8) (k : Nat) (h : 2 * k + 1 < l.length) : (turned l k).getD k 0 = l.getD k 0 := by
  rw [turned_getD l k k (by omega), if_neg (by omega)]
theorem turned_last (l : List UInt8) (k : Nat) (h : 2 * k + 1 < l.length) : (turned l k).getD (l.length - 1 - k) 0 = l.getD (l.length - 1 - k) 0 := by
  rw [turned_getD l k _ (by omega), if_neg (by omega)]
theorem u8s_setK (l : List UInt8) (i : Nat) (b : UInt8) : (u8s l).set i (.int .u8 ((b.toNat : Nat) : Int)) = u8s (l.set i b) := by simp [u8s, List.map_set]
theorem u8s_at (l : List UInt8) (i : Nat) (h : i < l.length) : (u8s l)[i]? = some (.int .u8 (((l.getD i 0).toNat : Nat) : Int)) := by
  simp [u8s, List.getD_eq_getElem?_getD, List.getElem?_eq_getElem h]

/-- a row of bytes that a conversion made: a block with room -/
structure BRow (w : World) (g M : Nat) (l : List UInt8) : Prop where
  out : ∃ C : Array Value, w.heap[g]? = some (.cells C 5 (M, M + 1)) ∧ C.size = M ∧ l.length ≤ M ∧ ∀ j (h : j < l.length), C[j]? = some (.int .u8 ((l[j].toNat : Nat) : Int))
theorem BRow.cellAt {w : World} {g M : Nat} {l : List UInt8} (h : BRow w g M l) (j : Nat) (hj : j < l.length) : w.cell? ⟨g, j, none⟩ = some (.int .u8 (((l.getD j 0).toNat : Nat) : Int)) := by
  obtain ⟨C, h1, h2, h3, h4⟩ := h.out
  rw [cell_of_row _ _ _ _ _ _ h1, h4 j hj, List.getD_eq_getElem?_getD, List.getElem?_eq_getElem hj]; rfl
theorem BRow.frozenAt {w : World} {g M : Nat} {l : List UInt8} (h : BRow w g M l) (j : Nat) (hj : j < l.length) : w.frozen? ⟨g, j, none⟩ = false := by
  obtain ⟨C, h1, h2, h3, h4⟩ := h.out
  simp [World.frozen?, h1]; omega
theorem BRow.set {w : World} {g M : Nat} {l : List UInt8} (h : BRow w g M l) (j : Nat) (x : UInt8) : BRow (w.setCell ⟨g, j, none⟩ (.int .u8 ((x.toNat : Nat) : Int))) g M (l.set j x) := by
  obtain ⟨C, h1, h2, h3, h4⟩ := h.out
  refine ⟨⟨C.setIfInBounds j (.int .u8 ((x.toNat : Nat) : Int)), ?_, by simpa using h2, by simpa using h3, fun i hi => ?_⟩⟩
  · rw [setCell_eq_setRow _ _ _ _ _ _ _ h1]; exact setRow_heap _ _ _ _ _ _ h1
  · rw [List.length_set] at hi
    rw [Array.getElem?_setIfInBounds, List.getElem_set]
    by_cases e : j = i
    · subst e; rw [if_pos rfl, if_pos rfl, if_pos (by omega)]
    · rw [if_neg e, if_neg e, h4 i hi]
theorem BRow.moved {w w' : World} {g M : Nat} {l : List UInt8} (h : BRow w g M l) (hB : Below w.heap.size w w') : BRow w' g M l := by
  obtain ⟨C, h1, h2⟩ := h.out
  exact ⟨⟨C, by rw [hB.block _ (heap_lt h1)]; exact h1, h2⟩⟩
theorem BRow.drew {w : World} {g M : Nat} {l : List UInt8} (h : BRow w g M l) : BRow w.drew g M l := h.moved (Drew.refl w).drew.below
theorem BRow.made (w : World) (s : ByteArray) : BRow (Lib.bytesWorld w 5 s) w.heap.size (Lib.bytesCells w 5 s).size s.data.toList := by
  have h0 := Lib.bytesWorld_at_new w 5 s
  have hM1 : s.size ≤ (Lib.bytesCells w 5 s).size := by unfold Lib.bytesCells; rw [Array.size_append, Array.size_map]; exact Nat.le_add_right _ _
  refine ⟨⟨_, h0, rfl, by simpa using hM1, fun j hj => ?_⟩⟩
  have hj2 : j < s.size := by simpa using hj
  have h1 := Lib.bytesWorld_cell w 5 s j hj2
  rw [cell_of_row _ _ _ _ _ _ h0] at h1
  rw [h1, List.getD_eq_getElem?_getD, List.getElem?_eq_getElem hj]; rfl
theorem brow_below (w : World) (B : Nat) (s : ByteArray) (h : B ≤ w.heap.size) : Below B w (Lib.bytesWorld w 5 s) :=
  ⟨rfl, rfl, rfl, by rw [Lib.bytesWorld_size]; omega, fun j hj => Lib.bytesWorld_at_old _ _ _ _ (by omega)⟩
theorem brow_string {w : World} {g M : Nat} {l : List UInt8} {src dst : TypeId} (h : BRow w g M l) (cap : Nat)
    (hs : Tryd.prog.underlying src = some (.slice 5)) (hd : Tryd.prog.underlying dst = some .string) :
    (convert src dst (.slice (some ⟨g, 0, none⟩) l.length cap)).run Tryd.prog w = .ok (.string (str l)) w := by
  have hcell : ∀ i, i < l.length → w.cell? ⟨g, 0 + i, none⟩ = some (.int .u8 ((l.map fun b => ((b.toNat : Nat) : Int)).getD i 0)) := fun i hi => by
    rw [Nat.zero_add, h.cellAt i hi]
    simp [List.getD_eq_getElem?_getD, List.getElem?_eq_getElem hi]
  rw [run_convert_bytes_arg w src 5 hs Tryd.underlying5 g 0 l.length cap _ (by simp) hcell dst hd, strOf_u8]

set_option maxRecDepth 100000 in
set_option maxHeartbeats 2000000 in
theorem reverse_bytes (g M cap : Nat) (l : List UInt8) (base : Nat) (w : World) (hl : l.length ≤ 1000) (hb : base ≤ g) (h : BRow w g M l) :
    Calls Tryd.prog 54 #[.slice (some ⟨g, 0, none⟩) l.length cap] w fun e w' => e = .returned (.tuple #[]) ∧ BRow w' g M l.reverse ∧ Below base w w' := by
  have H0 := Lib.hid h
  clear h
  go_enter Tryd.func54, Tryd.ntmps54
  go_wp2
  go_loopw [2, 3] (fun v2 v3 wr => ∃ k : Nat, 2 * k ≤ l.length + 1 ∧ v2 = .int .i64 k ∧ v3 = .int .i64 ((l.length : Int) - 1 - (k : Int)) ∧ Below base w wr ∧ Hid (BRow wr g M (turned l k))) (fun v _ _ => l.length - (intOf v).toNat)
  case atStart => exact ⟨0, by omega, rfl, by go_num, Below.refl _ _, Lib.hid (by rw [turned_zero]; exact H0.out)⟩
  case round =>
    obtain ⟨k, hk, rfl, rfl, hB, HO⟩ := hrel
    by_cases hlt : 2 * k + 1 < l.length
    · have i1 : (k : Int) < (l.length : Int) - 1 - (k : Int) := by omega
      obtain ⟨m, hm⟩ : ∃ m, m = l.length - 1 - k := ⟨_, rfl⟩
      have i3 : (l.length : Int) - 1 - (k : Int) = (m : Int) := by omega
      have hc1 : wr.cell? ⟨g, k, none⟩ = some (.int .u8 (((l.getD k 0).toNat : Nat) : Int)) := by
        rw [HO.out.cellAt k (by rw [turned_length]; omega), turned_first l k hlt]
      have hc2 : wr.cell? ⟨g, m, none⟩ = some (.int .u8 (((l.getD m 0).toNat : Nat) : Int)) := by
        rw [HO.out.cellAt m (by rw [turned_length]; omega), hm, turned_last l k hlt]
      have hf1 := HO.out.frozenAt k (by rw [turned_length]; omega)
      have hf2 := HO.out.frozenAt m (by rw [turned_length]; omega)
      have HS : Hid (((turned l k).set k (l.getD m 0)).set m (l.getD k 0) = turned l (k + 1)) := Lib.hid (by rw [hm, turned_step l k hlt])
      have hne : ¬ m = k := by omega
      have hne2 : ¬ k = m := by omega
      obtain ⟨x, hx⟩ : ∃ x, x = l.getD k 0 := ⟨_, rfl⟩
      obtain ⟨y, hy⟩ : ∃ y, y = l.getD m 0 := ⟨_, rfl⟩
      rw [← hx] at hc1 HS
      rw [← hy] at hc2 HS
      rw [i3] at i1 ⊢
      have i4 : m < l.length := by omega
      have HM := Lib.hid hm
      clear hx hy i3 hm
      go_wp2
      go_region
      go_wp2
      go_roundw
      case rel =>
        refine ⟨k + 1, by omega, by go_num, ?_, ?_, Lib.hid ?_⟩
        · have := HM.out
          first | (congr 1; omega) | go_num
        · exact ((hB.setCell (p := ⟨g, k, none⟩) hb _).setCell (p := ⟨g, m, none⟩) hb _).drew
        · rw [← HS.out]
          exact ((HO.out.set k y).set m x).drew
      case measure => simp [intOf]; omega
    · have HT : Hid (turned l k = l.reverse) := Lib.hid (turned_all l k (by omega))
      go_wp2
      go_end0
      exact ⟨rfl, by rw [← HT.out]; exact HO.out, hB⟩

/-- eight bytes, the highest first -/
def beL (n : Nat) : List UInt8 := (leL 8 n).reverse
theorem beL_length (n : Nat) : (beL n).length = 8 := by simp [beL, leL_length]

set_option maxRecDepth 100000 in
set_option maxHeartbeats 2000000 in
theorem key_high (n : Int) (w : World) (h0 : 0 ≤ n) (h1 : n < 18446744073709551616) :
    Calls Tryd.prog 50 #[.int .u64 n] w fun e w' => e = .returned (.string (str (beL n.toNat))) ∧ Below w.heap.size w w' := by
  obtain ⟨L, hL⟩ : ∃ L, L = leL 8 n.toNat := ⟨_, rfl⟩
  have hl : L.length = 8 := by rw [hL, leL_length]
  have HR : Hid (beL n.toNat = L.reverse) := Lib.hid (by rw [hL]; rfl)
  have WD : Hid (∀ wx, Calls Tryd.prog 57 #[.int .u64 n] wx fun e w' => e = .returned (.string (str L)) ∧ Below wx.heap.size wx w') := Lib.hid fun wx => by rw [hL]; exact varint_wide n wx h0 h1
  rw [HR.out]
  have HL := Lib.hid hl
  have hz : (str L).size = 8 := by rw [str_size, hl]
  have HZ := Lib.hid hz
  have hcv := fun wx => Lib.run_convert_string_bytes (P := Tryd.prog) wx 9 73 5 (str L) Tryd.underlying9 Tryd.underlying73 Tryd.underlying5
  rw [hz] at hcv
  have hrl : L.reverse.length = 8 := by simp [hl]
  have HRL := Lib.hid hrl
  have RV : Hid (∀ wx g M cap, BRow wx g M L → w.heap.size ≤ g → Calls Tryd.prog 54 #[.slice (some ⟨g, 0, none⟩) 8 cap] wx fun e w' => e = .returned (.tuple #[]) ∧ BRow w' g M L.reverse ∧ Below w.heap.size wx w') := Lib.hid fun wx g M cap hb hg => by
    have h := reverse_bytes g M cap L w.heap.size wx (by omega) hg hb
    rw [hl] at h; exact h
  clear hl hz hL hrl
  go_enter Tryd.func50, Tryd.ntmps50
  go_wp2_with (first | (go_at_call 57; (with_reducible refine (WD.out _).mono ?_); rintro e w1 ⟨rfl, hB1⟩) | (go_at_call 54; refine (RV.out _ _ (Lib.bytesCells w1 5 (str L)).size _ (by have h := BRow.made w1 (str L); rw [str_data] at h; exact h) hB1.size).mono ?_; rintro e w2 ⟨rfl, hR2, hB2⟩; have hcb := brow_string (dst := 9) hR2 (grownCap w1 8 0 5) Tryd.underlying73 Tryd.underlying9; rw [HRL.out] at hcb; have HR2 := Lib.hid hR2; clear hR2))
  go_ret
  exact ⟨rfl, (hB1.trans (brow_below w1 w.heap.size (str L) hB1.size)).trans hB2⟩

end Go.Proofs.YtafdjgmdkbimoaaDoor
