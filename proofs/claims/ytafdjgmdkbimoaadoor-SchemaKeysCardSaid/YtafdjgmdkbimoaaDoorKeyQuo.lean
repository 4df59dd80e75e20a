/-
  key.low and key.quoted by contract.
-/
import Derived.Test.YtafdjgmdkbimoaaDoorKeyRow
import Derived.Test.YtafdjgmdkbimoaaDoorRdText
import Derived.Test.YtafdjgmdkbimoaaDoorKeyEsc
namespace Go.Proofs.YtafdjgmdkbimoaaDoor
open Go.RowKit
set_option linter.unusedVariables false
set_option linter.unusedSimpArgs false

theorem chg_below {w w' : World} {b B : Nat} (h : Chg b w w') (h1 : B ≤ b) (h2 : B ≤ w.heap.size) : Below B w w' := h.below h1 h2

set_option maxRecDepth 100000 in
set_option maxHeartbeats 2000000 in
theorem key_low (s : ByteArray) (w : World) (hs : s.size = 8) :
    Calls Tryd.prog 49 #[.string s] w fun e w' => e = .returned (.int .u64 (leN s.data.toList.reverse : Int)) ∧ Below w.heap.size w w' := by
  have hl : s.data.toList.length = 8 := by simpa using hs
  obtain ⟨t, ht⟩ : ∃ t, t = leN s.data.toList.reverse := ⟨_, rfl⟩
  rw [← ht]
  have WD : Hid (∀ wx b, RdAt TR wx b ⟨str s.data.toList.reverse, 0, 0⟩ → w.heap.size ≤ b → w.heap.size ≤ wx.heap.size → Calls Tryd.prog 56 #[.pointer (some ⟨b, 0, none⟩)] wx fun e w' => e = .returned (.int .u64 (t : Int)) ∧ Below w.heap.size wx w') := Lib.hid fun wx b h hb hwx => by
    have hz : (str s.data.toList.reverse).size = 8 := by rw [str_size]; simp [hs]
    refine (rd_wide b ⟨str s.data.toList.reverse, 0, 0⟩ wx h (Nat.zero_le _) (by rw [hz]; omega)).mono fun e w' ⟨h1, _, h3⟩ => ⟨?_, h3.below hb hwx⟩
    rw [h1]
    have e : (RS.little ⟨str s.data.toList.reverse, 0, 0⟩ 8).1 = t := by
      rw [ht]
      unfold RS.little RS.take
      simp only
      rw [if_neg (by simp), if_neg (by rw [hz]; omega)]
      simp only
      congr 1
      have e8 : 0 + (((8 : Nat) : Int)).toNat = (str s.data.toList.reverse).size := by rw [hz]; rfl
      rw [e8, ByteArray.extract_zero_size, str_data]
    rw [e]
  have OV : Hid (∀ wx, Calls Tryd.prog 55 #[.string (str s.data.toList.reverse)] wx fun e w' => ∃ b, e = .returned (.pointer (some ⟨b, 0, none⟩)) ∧ RdAt TR w' b ⟨str s.data.toList.reverse, 0, 0⟩ ∧ wx.heap.size ≤ b ∧ Below wx.heap.size wx w') := Lib.hid fun wx => rd_over _ wx
  have hcv := fun wx => Lib.run_convert_string_bytes (P := Tryd.prog) wx 9 73 5 s Tryd.underlying9 Tryd.underlying73 Tryd.underlying5
  rw [hs] at hcv
  have hrl : s.data.toList.reverse.length = 8 := by simp [hs]
  have HRL := Lib.hid hrl
  have RV : Hid (∀ wx g M cap, BRow wx g M s.data.toList → w.heap.size ≤ g → Calls Tryd.prog 54 #[.slice (some ⟨g, 0, none⟩) 8 cap] wx fun e w' => e = .returned (.tuple #[]) ∧ BRow w' g M s.data.toList.reverse ∧ Below w.heap.size wx w') := Lib.hid fun wx g M cap hb hg => by
    have h := reverse_bytes g M cap s.data.toList w.heap.size wx (by omega) hg hb
    rw [hl] at h; exact h
  obtain ⟨L, hL⟩ : ∃ L, L = s.data.toList.reverse := ⟨_, rfl⟩
  rw [← hL] at WD OV RV HRL
  clear hl hrl ht hL
  go_enter Tryd.func49, Tryd.ntmps49
  go_wp2_with (first
    | (go_at_call 54; refine (RV.out _ _ (Lib.bytesCells w 5 s).size _ (BRow.made w s) (Nat.le_refl _)).mono ?_; rintro e w2 ⟨rfl, hR2, hB2⟩; have hcb := brow_string (dst := 9) hR2 (grownCap w 8 0 5) Tryd.underlying73 Tryd.underlying9; rw [HRL.out] at hcb; have HR2 := Lib.hid hR2; clear hR2; have hB3 := (brow_below w w.heap.size s (Nat.le_refl _)).trans hB2)
    | (go_at_call 55; (with_reducible refine (OV.out _).mono ?_); rintro e w3 ⟨b, rfl, hR3, hb, hB4⟩; have hB5 := below_at hB3 hB4)
    | (go_at_call 56; (with_reducible refine (WD.out _ _ hR3 (Nat.le_trans hB3.size hb) hB5.size).mono ?_); rintro e w4 ⟨rfl, hB6⟩))
  go_ret
  exact ⟨rfl, hB5.trans hB6⟩

/-- a text's bytes, and what is behind them -/
def unqL : List UInt8 → List UInt8 → Option (List UInt8 × List UInt8)
  | [], _ => none
  | [_], _ => none
  | b :: c :: r, acc => if b = 0 then (if c = 0 then some (acc, r) else if c = 255 then unqL r (acc ++ [0]) else none) else unqL (c :: r) (acc ++ [b])
theorem unqL_ne (b : UInt8) (l acc : List UInt8) (h : b ≠ 0) : unqL (b :: l) acc = unqL l (acc ++ [b]) := by
  cases l with
  | nil => rfl
  | cons c r => rw [unqL, if_neg h]
def unqR (l : List UInt8) : ByteArray × Int := match unqL l [] with
  | none => (⟨#[]⟩, -1)
  | some (t, r) => (str t, (l.length : Int) - (r.length : Int))

set_option maxRecDepth 100000 in
set_option maxHeartbeats 4000000 in
theorem key_quoted (s : ByteArray) (w : World) (hs : s.size ≤ 1000) :
    Calls Tryd.prog 48 #[.string s] w fun e w' => e = .returned (.tuple #[.string (unqR s.data.toList).1, .int .i64 (unqR s.data.toList).2]) ∧ Below w.heap.size w w' := by
  obtain ⟨t, ht⟩ : ∃ t, t = unqR s.data.toList := ⟨_, rfl⟩
  rw [← ht]
  have HT : Hid (∀ x, unqL s.data.toList [] = x → t = match x with | none => (⟨#[]⟩, -1) | some (q, r) => (str q, (s.data.toList.length : Int) - (r.length : Int))) := Lib.hid (by rintro x rfl; rw [ht]; rfl)
  have hl : s.data.toList.length = s.size := by simp
  have HL := Lib.hid hl
  clear ht hl
  have hB0 : Below w.heap.size w (w.alloc (.cells #[.pointer none, .slice none 0 0] 81)) := by (repeat (first | exact Below.refl _ _ | assumption | apply below_drewN | (refine Below.alloc ?_ (by first | assumption | omega | (simp; try omega)) _)))
  have HS0 := Lib.hid (Bld.fresh w w.heap.size (Nat.le_refl _))
  have HE0 : Hid (([] : List UInt8) = [] → (w.alloc (.cells #[.pointer none, .slice none 0 0] 81)).heap[w.heap.size]? = some (.cells #[.pointer none, .slice none 0 0] 81 (0, 0))) := Lib.hid fun _ => heap_alloc_new _ _
  go_enter Tryd.func48, Tryd.ntmps48
  go_wp2
  refine wp_scope_pass 0 (fun a' w' => ∃ (i : Nat) (acc : List UInt8) (y6 y7 y8 y9 y10 y11 y12 y13 y14 y15 y16 y17 y18 y19 y20 y21 y22 y23 y24 y25 y26 y27 y28 y29 y30 y31 y32 y33 y34 y35 y36 y37 y38 y39 y40 y41 y42 y43 y44 y45 : Value), a' = { tmps := #[.string s, undef, .string ⟨#[]⟩, .int .i64 0, .pointer (some ⟨w.heap.size, 0, none⟩), .int .i64 (i : Int), y6, y7, y8, y9, y10, y11, y12, y13, y14, y15, y16, y17, y18, y19, y20, y21, y22, y23, y24, y25, y26, y27, y28, y29, y30, y31, y32, y33, y34, y35, y36, y37, y38, y39, y40, y41, y42, y43, y44, y45], defers := [] } ∧ i ≤ s.size ∧ Below w.heap.size w w' ∧ Hid (Bld w.heap.size w.heap.size acc w') ∧ acc.length ≤ i ∧ Hid (unqL (s.data.toList.drop i) acc = unqL s.data.toList []) ∧ Hid (acc = [] → w'.heap[w.heap.size]? = some (.cells #[.pointer none, .slice none 0 0] 81 (0, 0)))) (fun a' _ => s.size - (intOf (a'.tmps.getD 5 undef)).toNat) rfl ?_ ?_
  · rintro a' wr ⟨i, acc, y6, y7, y8, y9, y10, y11, y12, y13, y14, y15, y16, y17, y18, y19, y20, y21, y22, y23, y24, y25, y26, y27, y28, y29, y30, y31, y32, y33, y34, y35, y36, y37, y38, y39, y40, y41, y42, y43, y44, y45, rfl, hi, hB, HS, hacc, HU, HE⟩
    by_cases hend : s.size ≤ i
    · have HF : Hid (t = (⟨#[]⟩, -1)) := Lib.hid (by
        rw [HT.out _ HU.out.symm, List.drop_of_length_le (by rw [HL.out]; exact hend)]; rfl)
      go_wp2
      simp only [Exit.jump]
      go_ret2
      exact ⟨by rw [HF.out]; rfl, hB⟩
    · have hin : i < s.size := by omega
      have hil : i < s.data.toList.length := by rw [HL.out]; exact hin
      obtain ⟨c, hc⟩ : ∃ c, s[i] = c := ⟨_, rfl⟩
      have hc' : s.data.toList[i] = c := by rw [← hc]; rfl
      have HU2 : Hid (unqL (c :: s.data.toList.drop (i + 1)) acc = unqL s.data.toList []) := Lib.hid (by rw [← HU.out, List.drop_eq_getElem_cons hil, hc'])
      have hc256 : c.toNat < 256 := c.toNat_lt
      have hc0 : 0 ≤ ((c.toNat : Nat) : Int) := by omega
      have WB : Hid (∀ x : UInt8, ∀ wx, Below w.heap.size w wx → Bld w.heap.size w.heap.size acc wx → Calls Tryd.prog 53 #[.pointer (some ⟨w.heap.size, 0, none⟩), .int .u8 (x.toNat : Int)] wx fun e w' => e = .returned .nilIface ∧ Bld w.heap.size w.heap.size (acc ++ [x]) w' ∧ Below w.heap.size w w') := Lib.hid fun x wx h1 h2 =>
        (bld_byte w.heap.size w.heap.size acc x wx h2 (by omega) h1.size).mono fun _ _ ⟨h3, h4, h5⟩ => ⟨h3, h4, h1.trans h5⟩
      have HNE : ∀ x : UInt8, Hid (acc ++ [x] ≠ []) := fun x => Lib.hid (by simp)
      have HAL : ∀ x : UInt8, Hid ((acc ++ [x]).length = acc.length + 1) := fun x => Lib.hid (by simp)
      by_cases hz : c = 0
      · have hcz : ((c.toNat : Nat) : Int) = 0 := by rw [hz]; rfl
        obtain ⟨z0, z1⟩ := eq_bb hcz
        have HU3 : Hid (unqL (0 :: s.data.toList.drop (i + 1)) acc = unqL s.data.toList []) := Lib.hid (by rw [← HU2.out, hz])
        have HZ := Lib.hid hz
        have PF : Hid (∀ q, (s.data.toList.drop (i + 1)).isPrefixOf [] = q → True) := Lib.hid fun _ _ => trivial
        clear HU2 hz hcz hc'
        have hsl : (s.extract i s.size).data.toList = s.data.toList.drop i := Lib.extract_to_end s i
        have HPX : Hid (∀ wx, Calls Tryd.prog 20 #[.string (s.extract i s.size), .string ⟨#[0, 0]⟩] wx fun e w' => e = .returned (.bool (([0, 0] : List UInt8).isPrefixOf (s.data.toList.drop i))) ∧ w' = wx) := Lib.hid fun wx => by
          have h := Tryd.strings_HasPrefix (s.extract i s.size) ⟨#[0, 0]⟩ wx
          rw [hsl] at h
          exact h
        clear hsl
        by_cases hend2 : i + 1 < s.size
        · have hil2 : i + 1 < s.data.toList.length := by rw [HL.out]; exact hend2
          obtain ⟨d, hd⟩ : ∃ d, s[i + 1] = d := ⟨_, rfl⟩
          have hd' : s.data.toList[i + 1] = d := by rw [← hd]; rfl
          have HD2 : Hid (s.data.toList.drop i = 0 :: d :: s.data.toList.drop (i + 2)) := Lib.hid (by
            rw [List.drop_eq_getElem_cons hil, List.drop_eq_getElem_cons hil2, hd', ← HZ.out, ← hc]; rfl)
          have HU4 : Hid (unqL (0 :: d :: s.data.toList.drop (i + 2)) acc = unqL s.data.toList []) := Lib.hid (by rw [← HD2.out]; exact HU.out)
          have hd256 : d.toNat < 256 := d.toNat_lt
          have hd0 : 0 ≤ ((d.toNat : Nat) : Int) := by omega
          rw [HD2.out] at HPX
          clear hd'
          by_cases hd1 : d = 0
          · have HP2 : (([0, 0] : List UInt8).isPrefixOf (0 :: d :: s.data.toList.drop (i + 2))) = true := by rw [hd1]; rfl
            rw [HP2] at HPX
            have HF : Hid (t = (str acc, ((i : Int) + 2))) := Lib.hid (by
              rw [HT.out _ HU4.out.symm, hd1]
              rw [unqL, if_pos rfl, if_pos rfl]
              simp only [List.length_drop]
              congr 1
              have := HL.out; omega)
            clear hd1 HP2
            by_cases hn : acc = []
            · have ST := Lib.hid (bld_string_none w.heap.size w.heap.size _ wr (HE.out hn))
              have HN := Lib.hid hn
              clear hn
              go_wp2_with (first | (go_at_call 20; (with_reducible refine (HPX.out _).mono ?_); rintro e w1 ⟨rfl, rfl⟩) | (go_at_call 45; refine ST.out.mono ?_; rintro e w1 ⟨rfl, hB1⟩))
              simp only [Exit.jump]
              go_ret2
              exact ⟨by rw [HF.out, HN.out]; rfl, hB.trans hB1⟩
            · have ST := Lib.hid (bld_string w.heap.size w.heap.size acc wr HS.out hn)
              clear hn
              go_wp2_with (first | (go_at_call 20; (with_reducible refine (HPX.out _).mono ?_); rintro e w1 ⟨rfl, rfl⟩) | (go_at_call 45; refine ST.out.mono ?_; rintro e w1 ⟨rfl, hB1⟩))
              simp only [Exit.jump]
              go_ret2
              exact ⟨by rw [HF.out]; rfl, hB.trans hB1⟩
          · have HP2 : (([0, 0] : List UInt8).isPrefixOf (0 :: d :: s.data.toList.drop (i + 2))) = false := by
              have : ((0 : UInt8) == d) = false := by simp [Ne.symm hd1]
              simp [List.isPrefixOf, this]
            rw [HP2] at HPX
            clear HP2
            by_cases hd2 : d = 255
            · have hdz : ((d.toNat : Nat) : Int) = 255 := by rw [hd2]; rfl
              obtain ⟨x0, x1⟩ := eq_bb hdz
              have HU5 : Hid (unqL (s.data.toList.drop (i + 2)) (acc ++ [0]) = unqL s.data.toList []) := Lib.hid (by
                rw [← HU4.out, hd2, unqL, if_pos rfl, if_neg (by decide), if_pos rfl])
              have h00 : ((((0 : UInt8).toNat : Nat)) : Int) = 0 := rfl
              have WB0 := WB.out 0
              rw [h00] at WB0
              have WBZ := Lib.hid WB0
              have HNZ := HNE 0
              have HAZ := HAL 0
              clear hd1 hd2 hdz WB0 h00 WB HNE HAL HU4 HD2 HU3 HU
              go_wp2_with (first | (go_at_call 20; (with_reducible refine (HPX.out _).mono ?_); rintro e w1 ⟨rfl, rfl⟩) | (go_at_call 53; refine (WBZ.out _ hB HS.out).mono ?_; rintro e w1 ⟨rfl, hS1, hB1⟩; have HS1 := Lib.hid hS1; clear hS1))
              go_step3
              exact ⟨rfl, ⟨i + 2, acc ++ [0], _, _, _, _, _, _, _, _, _, _, _, _, _, _, _, _, _, _, _, _, _, _, _, _, _, _, _, _, _, _, _, _, _, _, _, _, _, _, _, _, rfl, by omega, hB1, HS1, by rw [HAZ.out]; omega, HU5, Lib.hid fun h => absurd h HNZ.out⟩, by simp [intOf]; omega⟩
            · have hdz : ¬ ((d.toNat : Nat) : Int) = 255 := fun h => hd2 (UInt8.toNat_inj.mp (by
                have h2 : (255 : UInt8).toNat = 255 := rfl
                omega))
              obtain ⟨x0, x1⟩ := ne_bb hdz
              have HF : Hid (t = (⟨#[]⟩, -1)) := Lib.hid (by
                rw [HT.out _ HU4.out.symm, unqL, if_pos rfl, if_neg hd1, if_neg hd2])
              clear hd1 hd2 hdz WB HNE HAL HU4 HD2 HU3 HU
              go_wp2_with (go_at_call 20; (with_reducible refine (HPX.out _).mono ?_); rintro e w1 ⟨rfl, rfl⟩)
              simp only [Exit.jump]
              go_ret2
              exact ⟨by rw [HF.out]; rfl, hB⟩
        · have HD2 : Hid (s.data.toList.drop i = [0]) := Lib.hid (by
            rw [List.drop_eq_getElem_cons hil, List.drop_of_length_le (by have := HL.out; omega), ← HZ.out, ← hc]; rfl)
          have HF : Hid (t = (⟨#[]⟩, -1)) := Lib.hid (by
            rw [HT.out _ HU.out.symm, HD2.out]; rfl)
          rw [HD2.out] at HPX
          have HP2 : (([0, 0] : List UInt8).isPrefixOf [0]) = false := rfl
          rw [HP2] at HPX
          clear HP2 WB HNE HAL HD2 HU3 HU
          go_wp2_with (go_at_call 20; (with_reducible refine (HPX.out _).mono ?_); rintro e w1 ⟨rfl, rfl⟩)
          simp only [Exit.jump]
          go_ret2
          exact ⟨by rw [HF.out]; rfl, hB⟩
      · have hcz : ¬ ((c.toNat : Nat) : Int) = 0 := fun h => hz (UInt8.toNat_inj.mp (by
          have h2 : (0 : UInt8).toNat = 0 := rfl
          omega))
        obtain ⟨z0, z1⟩ := ne_bb hcz
        have HU3 : Hid (unqL (s.data.toList.drop (i + 1)) (acc ++ [c]) = unqL s.data.toList []) := Lib.hid (by rw [← HU2.out, unqL_ne c _ _ hz])
        have WBC := Lib.hid (WB.out c)
        have HNZ := HNE c
        have HAZ := HAL c
        clear hz hcz WB HNE HAL HU2 HU hc'
        go_wp2_with (go_at_call 53; refine (WBC.out _ hB HS.out).mono ?_; rintro e w1 ⟨rfl, hS1, hB1⟩; have HS1 := Lib.hid hS1; clear hS1)
        go_step3
        exact ⟨rfl, ⟨i + 1, acc ++ [c], _, _, _, _, _, _, _, _, _, _, _, _, _, _, _, _, _, _, _, _, _, _, _, _, _, _, _, _, _, _, _, _, _, _, _, _, _, _, _, _, rfl, by omega, hB1, HS1, by rw [HAZ.out]; omega, HU3, Lib.hid fun h => absurd h HNZ.out⟩, by simp [intOf]; omega⟩
  · intro hp
    go_wp2
    go_step3
    rename_i hK
    refine hK _ _ (hp _ _ ?_)
    exact ⟨0, [], _, _, _, _, _, _, _, _, _, _, _, _, _, _, _, _, _, _, _, _, _, _, _, _, _, _, _, _, _, _, _, _, _, _, _, _, _, _, _, _, rfl, Nat.zero_le _, hB0, HS0, by simp, Lib.hid rfl, Lib.hid fun _ => heap_alloc_new _ _⟩

end Go.Proofs.YtafdjgmdkbimoaaDoor
