/-
  The document's Parts by contract: the walk.
-/
import Derived.Test.YtafdjgmdkbimoaaDoorKeyRefPt
namespace Go.Proofs.YtafdjgmdkbimoaaDoor
open Go.RowKit
set_option linter.unusedVariables false
set_option linter.unusedSimpArgs false

set_option maxRecDepth 100000 in
set_option maxHeartbeats 8000000 in
theorem ref_parts (s : ByteArray) (w : World) (hs : s.size ≤ 140737488351232) :
    Calls Tryd.prog 32 #[.string s] w fun e w' => ∃ a c, e = .returned (.tuple #[.slice a (partsR s.data.toList).1.length c, .int .i64 (partsR s.data.toList).2]) ∧ RowsAt w' a 4 PartR.row (partsR s.data.toList).1 ∧ (partsR s.data.toList).1.length ≤ c ∧ c ≤ maxLen ∧ Below w.heap.size w w' := by
  obtain ⟨t, ht⟩ : ∃ t, t = partsR s.data.toList := ⟨_, rfl⟩
  rw [← ht]
  have hl : s.data.toList.length = s.size := by simp
  unfold partsR partsL at ht
  have hz := zero_rpart
  by_cases h200 : 200 < s.size
  · rw [if_pos (by omega)] at ht
    simp only at ht
    have HT := Lib.hid ht
    clear ht hl
    go_enter Tryd.func32, Tryd.ntmps32
    go_wp2
    go_ret2
    exact ⟨none, 0, by rw [HT.out]; rfl, by rw [HT.out]; exact rows_none, by rw [HT.out]; simp, by decide, by (repeat (first | exact Below.refl _ _ | assumption | apply below_drewN | (refine Below.alloc ?_ (by first | assumption | omega | (simp; try omega)) _)))⟩
  · rw [if_neg (by omega)] at ht
    have HT : Hid (∀ x, partsF s.data.toList.length s.data.toList [] = x → t = match x with | none => ([], 19) | some r => (r, 0)) := Lib.hid (by rintro x rfl; exact ht)
    have HL := Lib.hid hl
    clear ht hl
    go_enter Tryd.func32, Tryd.ntmps32
    go_wp2
    go_loopw [0, 4] (fun v0 v4 wr => ∃ (u : ByteArray) (f : Nat) (acc : List PartR), v0 = .string u ∧ u.size ≤ 200 ∧ u.size ≤ f ∧ acc.length + u.size ≤ 200 ∧ Below w.heap.size w wr ∧ Hid (wr.ownsRow w.heap.size 48 4 v4 acc.length (acc.flatMap PartR.row)) ∧ Hid (partsF f u.data.toList acc = partsF s.data.toList.length s.data.toList [])) (fun v _ _ => match v with | .string u => u.size | _ => 0)
    case atStart => exact ⟨s, s.data.toList.length, [], rfl, by omega, by rw [HL.out]; omega, by simp; omega, by (repeat (first | exact Below.refl _ _ | assumption | apply below_drewN | (refine Below.alloc ?_ (by first | assumption | omega | (simp; try omega)) _))), Lib.hid (by simpa using own_none), Lib.hid rfl⟩
    case round =>
      obtain ⟨u, f, acc, rfl, hu, hf, hacc, hB, HO, HM⟩ := hrel
      have hul : u.data.toList.length = u.size := by simp
      by_cases hpos : 0 < u.size
      · obtain ⟨c, r, hcr⟩ : ∃ c r, u.data.toList = c :: r := by
          cases h : u.data.toList with
          | nil => rw [h] at hul; simp at hul; omega
          | cons c r => exact ⟨c, r, rfl⟩
        obtain ⟨g, rfl⟩ : ∃ g, f = g + 1 := ⟨f - 1, by omega⟩
        have hc0 : u[0] = c := by
          have h : u.data.toList[0] = c := by simp [hcr]
          rw [← h]; rfl
        have hrl : u.size = r.length + 1 := by rw [← hul, hcr]; rfl
        have he1 : (u.extract 1 u.size).data.toList = r := by rw [Lib.extract_to_end, hcr]; rfl
        have hz1 : (u.extract 1 u.size).size = u.size - 1 := by rw [ByteArray.size_extract]; omega
        obtain ⟨U, hU⟩ : ∃ U, U = u.extract 1 u.size := ⟨_, rfl⟩
        rw [← hU] at he1 hz1
        have hUe : u.extract 1 u.size = U := hU.symm
        have hc256 : c.toNat < 256 := c.toNat_lt
        have hcp : 0 ≤ ((c.toNat : Nat) : Int) := by omega
        have hbase := hB.size
        have W1B : Hid (Below wr.heap.size wr (wr.alloc (.cells (cells4 c.toNat 0 0 ByteArray.empty) 48))) := Lib.hid ((Below.refl _ _).alloc (Nat.le_refl _) _)
        have W1H : Hid ((wr.alloc (.cells (cells4 c.toNat 0 0 ByteArray.empty) 48)).heap[wr.heap.size]? = some (.cells (cells4 c.toNat 0 0 ByteArray.empty) 48 (0, 0))) := Lib.hid (heap_alloc_new _ _)
        have HM2 : Hid ((if (partD (c :: r)).2 < 0 then none else partsF g ((c :: r).drop (partD (c :: r)).2.toNat) (acc ++ [(partD (c :: r)).1])) = partsF s.data.toList.length s.data.toList []) := Lib.hid (by
          rw [← HM.out, hcr, partsF])
        have hrl2 : r.length ≤ 199 := by omega
        clear hU hcr HM
        by_cases h1 : c = 116
        · have hcz : ((c.toNat : Nat) : Int) = 116 := by rw [h1]; rfl
          obtain ⟨p1, q1⟩ := eq_bb hcz
          have HR1 := Lib.hid he1
          have HPD : Hid (partD (c :: r) = match unqL r [] with | none => (⟨116, 0, 0, ⟨#[]⟩⟩, -1) | some (t, q) => (⟨116, 0, 0, str t⟩, (r.length : Int) - (q.length : Int) + 1)) := Lib.hid (by rw [partD, if_pos h1]; rfl)
          obtain ⟨d, hd⟩ : ∃ d : Int, d = ((c.toNat : Nat) : Int) := ⟨_, rfl⟩
          rw [← hd] at W1B W1H hcz p1 q1
          have hd2 : ((c.toNat : Nat) : Int) = d := hd.symm
          have HRL := Lib.hid hrl
          have HD := Lib.hid hcz
          clear h1 he1 hd hcz hrl
          obtain ⟨wo, rfl⟩ : ∃ x, x = wr := ⟨_, rfl⟩
          go_wp2
          go_loopw [0] (fun v0 wi => ∃ (x : ByteArray) (X : ByteArray) (a : List UInt8), v0 = .string x ∧ x.size ≤ 199 ∧ X.size + x.size ≤ 400 ∧ Hid (X = str a) ∧ Hid (unqL x.data.toList a = unqL r []) ∧ Below wo.heap.size wo wi ∧ Hid (wi.heap[wo.heap.size]? = some (.cells (cells4 d 0 0 X) 48 (0, 0)))) (fun v _ => match v with | .string u => u.size | _ => 0)
          case atStart => exact ⟨U, ByteArray.empty, [], rfl, by have := HRL.out; omega, by have := HRL.out; simp; omega, Lib.hid rfl, Lib.hid (by rw [HR1.out]), W1B.out, W1H⟩
          case round =>
            obtain ⟨x, X, a, rfl, hxs, hXs, HX, HU, hBi, HC⟩ := hrel
            obtain ⟨i0, i1, i2, i3⟩ := cells4_of HC.out
            have hfz : wr.frozen? ⟨wo.heap.size, 3, none⟩ = false := Lib.frozen_of_heap HC.out 3
            have hBw : Below w.heap.size w wr := below_at hB hBi
            have hxl : x.data.toList.length = x.size := by simp
            by_cases hx0 : x.size = 0
            · have hnil : x.data.toList = [] := List.length_eq_zero_iff.mp (by omega)
              have HF : Hid (t = ([], 19)) := Lib.hid (by
                have h := HM2.out
                have h2 := HU.out
                rw [hnil] at h2
                have h3 := HPD.out
                rw [← h2] at h3
                simp only [unqL] at h3
                rw [h3] at h
                simp at h
                rw [HT.out _ h.symm])
              have hx1 : ((x.size : Nat) : Int) = 0 := by omega
              obtain ⟨y1, y2⟩ := eq_bb hx1
              clear hnil hxl hx0 hx1
              go_wp2
              go_ret2
              exact ⟨none, 0, by rw [HF.out]; rfl, by rw [HF.out]; exact rows_none, by rw [HF.out]; simp, by decide, hBw⟩
            · have hx1 : ¬ ((x.size : Nat) : Int) = 0 := by omega
              obtain ⟨y1, y2⟩ := ne_bb hx1
              have hxp : 0 < x.size := by omega
              obtain ⟨b, v, hbv⟩ : ∃ b v, x.data.toList = b :: v := by
                cases h : x.data.toList with
                | nil => rw [h] at hxl; simp at hxl; omega
                | cons b v => exact ⟨b, v, rfl⟩
              have hxb : x[0] = b := by
                have h : x.data.toList[0] = b := by simp [hbv]
                rw [← h]; rfl
              have hb256 : b.toNat < 256 := b.toNat_lt
              have hvl : x.size = v.length + 1 := by rw [← hxl, hbv]; rfl
              by_cases hb0 : b = 0
              · have hcz : ((b.toNat : Nat) : Int) = 0 := by rw [hb0]; rfl
                obtain ⟨b1, b2⟩ := eq_bb hcz
                by_cases hx2 : x.size < 2
                · have HF : Hid (t = ([], 19)) := Lib.hid (by
                    have h := HM2.out
                    have h2 := HU.out
                    have hvn : v = [] := List.length_eq_zero_iff.mp (by omega)
                    rw [hbv, hvn] at h2
                    have h3 := HPD.out
                    rw [← h2] at h3
                    simp only [unqL] at h3
                    rw [h3] at h
                    simp at h
                    rw [HT.out _ h.symm])
                  clear hbv hvl hxl hb0 hcz hx0 hx1
                  go_wp2
                  go_ret2
                  exact ⟨none, 0, by rw [HF.out]; rfl, by rw [HF.out]; exact rows_none, by rw [HF.out]; simp, by decide, hBw⟩
                · have hx3 : 1 < x.size := by omega
                  obtain ⟨e, q, rfl⟩ : ∃ e q, v = e :: q := by
                    cases v with
                    | nil => simp at hvl; omega
                    | cons e q => exact ⟨e, q, rfl⟩
                  have hxe : x[1] = e := by
                    have h : x.data.toList[1] = e := by simp [hbv]
                    rw [← h]; rfl
                  have he256 : e.toNat < 256 := e.toNat_lt
                  have HQ : Hid (unqL (0 :: e :: q) a = unqL r []) := Lib.hid (by rw [← HU.out, hbv, hb0])
                  have hql : x.size = q.length + 2 := by simp at hvl; omega
                  have he : (x.extract 2 x.size).data.toList = q := by rw [Lib.extract_to_end, hbv]; rfl
                  have hes : (x.extract 2 x.size).size = x.size - 2 := by rw [ByteArray.size_extract]; omega
                  obtain ⟨Y, hY⟩ : ∃ Y, Y = x.extract 2 x.size := ⟨_, rfl⟩
                  rw [← hY] at he hes
                  have hYe : x.extract 2 x.size = Y := hY.symm
                  have HYQ := Lib.hid he
                  have HQL := Lib.hid hql
                  clear hY he hbv hvl hxl hb0 hcz hx0 hx1 hx2 hql
                  by_cases he0 : e = 0
                  · have hez : ((e.toNat : Nat) : Int) = 0 := by rw [he0]; rfl
                    obtain ⟨e1, e2⟩ := eq_bb hez
                    have HQ2 : Hid (unqL r [] = some (a, q)) := Lib.hid (by rw [← HQ.out, he0, unqL, if_pos rfl, if_pos rfl])
                    have hsf := unqL_suffix _ _ _ _ HQ2.out
                    have hle := unqL_le _ _ _ _ HQ2.out
                    have HF : Hid (partsF g Y.data.toList (acc ++ [⟨d, 0, 0, X⟩]) = partsF s.data.toList.length s.data.toList []) := Lib.hid (by
                      have h := HM2.out
                      have h3 := HPD.out
                      rw [HQ2.out] at h3
                      simp only at h3
                      rw [h3] at h
                      simp only at h
                      rw [if_neg (by omega)] at h
                      have e4 : ((r.length : Int) - (q.length : Int) + 1).toNat = (r.length - q.length) + 1 := by omega
                      rw [e4, List.drop_succ_cons, hsf] at h
                      rw [HYQ.out, HX.out, HD.out]
                      exact h)
                    have HM3 : Hid ((acc ++ [(⟨d, 0, 0, X⟩ : PartR)]).flatMap PartR.row = acc.flatMap PartR.row ++ (cells4 d 0 0 X).toList) := Lib.hid (by
                      rw [List.flatMap_append]; simp; rfl)
                    have hYl : Y.size < u.size := by have := HRL.out; have := HQL.out; omega
                    clear hsf hle he0 hez HPD HQ HU HM2 HR1 W1B W1H
                    go_wp2_with (at_builtin; refine wp_append_row rfl (.tmp 59) (.tmp 61) 50 rfl w.heap.size 48 Tryd.underlying50 _ 4 40 info_rpart3 rfl (by decide) (by decide) _ u4 acc.length _ rfl (own_moved HO.out (hBi.trans ((Below.refl _ _).alloc hBi.size _))) (cells4 d 0 0 X) wr.heap.size (heap_new rfl) rfl (by simp [Value.oneCell']) rfl (by omega) (by have := hBw.size; simp; omega) ?_; intro v' w9 hown9 hB9)
                    rw [← HM3.out] at hown9
                    have HO9 : Hid (w9.ownsRow w.heap.size 48 4 v' (acc ++ [(⟨d, 0, 0, X⟩ : PartR)]).length ((acc ++ [(⟨d, 0, 0, X⟩ : PartR)]).flatMap PartR.row)) := Lib.hid (by rw [List.length_append]; exact hown9)
                    have hB10 : Below w.heap.size w w9 := (hBw.alloc hBw.size _).trans hB9
                    clear hown9 hB9
                    go_roundw
                    case rel => exact ⟨Y, g, acc ++ [⟨d, 0, 0, X⟩], rfl, by omega, by omega, by rw [List.length_append]; simp; omega, hB10, HO9, HF⟩
                    case measure => exact hYl
                  · have hez : ¬ ((e.toNat : Nat) : Int) = 0 := fun h => he0 (UInt8.toNat_inj.mp (by
                      have h2 : (0 : UInt8).toNat = 0 := rfl
                      omega))
                    obtain ⟨e1, e2⟩ := ne_bb hez
                    by_cases he5 : e = 255
                    · have hez5 : ((e.toNat : Nat) : Int) = 255 := by rw [he5]; rfl
                      obtain ⟨e3, e4⟩ := eq_bb hez5
                      have HX2 : Hid (X ++ ⟨#[0]⟩ = str (a ++ [0])) := Lib.hid (by rw [HX.out, show (⟨#[0]⟩ : ByteArray) = str [0] from rfl, str_append])
                      have HU2 : Hid (unqL Y.data.toList (a ++ [0]) = unqL r []) := Lib.hid (by rw [HYQ.out, ← HQ.out, he5, unqL, if_pos rfl, if_neg (by decide), if_pos rfl])
                      have hXZ : (X ++ ⟨#[0]⟩).size = X.size + 1 := by rw [ByteArray.size_append]; rfl
                      clear he0 hez he5 hez5
                      go_wp2
                      go_roundw
                      case rel => exact ⟨Y, X ++ ⟨#[0]⟩, a ++ [0], rfl, by omega, by omega, HX2, HU2, hBi.setCell (p := ⟨wo.heap.size, 3, none⟩) (Nat.le_refl _) _, Lib.hid (heap_setCell_at HC.out 3 _)⟩
                      case measure => exact (show Y.size < x.size from by omega)
                    · have hez5 : ¬ ((e.toNat : Nat) : Int) = 255 := fun h => he5 (UInt8.toNat_inj.mp (by
                        have h2 : (255 : UInt8).toNat = 255 := rfl
                        omega))
                      obtain ⟨e3, e4⟩ := ne_bb hez5
                      have HF : Hid (t = ([], 19)) := Lib.hid (by
                        have h := HM2.out
                        have h2 := HQ.out
                        rw [unqL, if_pos rfl, if_neg he0, if_neg he5] at h2
                        have h3 := HPD.out
                        rw [← h2] at h3
                        simp only at h3
                        rw [h3] at h
                        simp at h
                        rw [HT.out _ h.symm])
                      clear he0 hez he5 hez5
                      go_wp2
                      go_ret2
                      exact ⟨none, 0, by rw [HF.out]; rfl, by rw [HF.out]; exact rows_none, by rw [HF.out]; simp, by decide, hBw⟩
              · have hcz : ¬ ((b.toNat : Nat) : Int) = 0 := fun h => hb0 (UInt8.toNat_inj.mp (by
                  have h2 : (0 : UInt8).toNat = 0 := rfl
                  omega))
                obtain ⟨b1, b2⟩ := ne_bb hcz
                have he : (x.extract 1 x.size).data.toList = v := by rw [Lib.extract_to_end, hbv]; rfl
                have hes : (x.extract 1 x.size).size = x.size - 1 := by rw [ByteArray.size_extract]; omega
                have hep : x.extract 0 1 = str [b] := by rw [extract_one x 0 hxp, hxb]
                obtain ⟨Y, hY⟩ : ∃ Y, Y = x.extract 1 x.size := ⟨_, rfl⟩
                obtain ⟨Z, hZ⟩ : ∃ Z, Z = str [b] := ⟨_, rfl⟩
                have hZs : Z.size = 1 := by rw [hZ]; rfl
                rw [← hY] at he hes
                have hYe : x.extract 1 x.size = Y := hY.symm
                rw [← hZ] at hep
                have HX2 : Hid (X ++ Z = str (a ++ [b])) := Lib.hid (by rw [HX.out, hZ, str_append])
                have HU2 : Hid (unqL Y.data.toList (a ++ [b]) = unqL r []) := Lib.hid (by rw [he, ← HU.out, hbv, unqL_ne b v a hb0])
                have hXZ : (X ++ Z).size = X.size + 1 := by rw [ByteArray.size_append, hZs]
                have HVL := Lib.hid hvl
                clear hY hZ he hb0 hcz hbv hvl hxl hx0 hx1
                go_wp2
                go_region
                all_goals go_wp2
                all_goals go_roundw
                case rel => exact ⟨Y, X ++ Z, a ++ [b], rfl, by omega, by omega, HX2, HU2, (hBi.setCell (p := ⟨wo.heap.size, 3, none⟩) (Nat.le_refl _) _).drew, Lib.hid (heap_setCell_at HC.out 3 _)⟩
                case measure => exact (show Y.size < x.size from by omega)
        · have hcz : ¬ ((c.toNat : Nat) : Int) = 116 := fun h => h1 (UInt8.toNat_inj.mp (by
            have h2 : (116 : UInt8).toNat = 116 := rfl
            omega))
          obtain ⟨p1, q1⟩ := ne_bb hcz
          by_cases h8 : r.length < 8
          · have HF : Hid (t = ([], 19)) := Lib.hid (by
              have h := HM2.out
              have h3 : (partD (c :: r)).2 = -1 := by rw [partD, if_neg h1, if_pos h8]
              rw [h3] at h
              simp at h
              rw [HT.out _ h.symm])
            have hU8 : U.size < 8 := by omega
            clear h1 hcz he1 hrl h8
            go_wp2
            go_ret2
            exact ⟨none, 0, by rw [HF.out]; rfl, by rw [HF.out]; exact rows_none, by rw [HF.out]; simp, by decide, hB.alloc hB.size _⟩
          · have hU8 : ¬ U.size < 8 := by omega
            by_cases hs : c = 105 ∨ c = 100 ∨ c = 117
            · have hlt : leN (r.take 8).reverse < 18446744073709551616 := by
                have h := leN_lt (r.take 8).reverse
                have e : (r.take 8).reverse.length = 8 := by rw [List.length_reverse, List.length_take]; omega
                rw [e] at h; exact h
              obtain ⟨m, hm⟩ : ∃ m : Int, m = ((leN (r.take 8).reverse : Nat) : Int) := ⟨_, rfl⟩
              have hm0 : 0 ≤ m := by omega
              have hm1 : m < 18446744073709551616 := by omega
              have NM := fun wx => ref_num4 U wx (by omega)
              rw [he1, ← hm] at NM
              have hYd : (U.extract 8 U.size).data.toList = r.drop 8 := by rw [Lib.extract_to_end, he1]
              have hYs : (U.extract 8 U.size).size = U.size - 8 := by rw [ByteArray.size_extract]; omega
              obtain ⟨Y, hY⟩ : ∃ Y, Y = U.extract 8 U.size := ⟨_, rfl⟩
              rw [← hY] at hYd hYs
              have hYe : U.extract 8 U.size = Y := hY.symm
              have HYD := Lib.hid hYd
              obtain ⟨wo, rfl⟩ : ∃ x, x = wr := ⟨_, rfl⟩
              have hYl : Y.size < u.size := by omega
              have hYg : Y.size ≤ g := by omega
              have hYa : acc.length + 1 + Y.size ≤ 200 := by omega
              have hacl : acc.length + 1 ≤ 1000 := by omega
              have hY200 : Y.size ≤ 200 := by omega
              have hUf : ¬ ((U.size : Nat) : Int) < 8 := by omega
              clear hz1 hYs
              rcases hs with h3 | h3 | h3
              · have hc3 : ((c.toNat : Nat) : Int) = 105 := by rw [h3]; rfl
                obtain ⟨p3, q3⟩ := eq_bb hc3
                obtain ⟨d, hd⟩ : ∃ d : Int, d = ((c.toNat : Nat) : Int) := ⟨_, rfl⟩
                rw [← hd] at W1B W1H hc3 p1 q1 p3 q3 
                have hd2 : ((c.toNat : Nat) : Int) = d := hd.symm
                obtain ⟨z, hz'⟩ : ∃ z, z = dropI m := ⟨_, rfl⟩
                have DR : Hid (∀ wx, (Below wo.heap.size wo wx ∧ wx.heap[wo.heap.size]? = some (.cells (cells4 d 0 0 ByteArray.empty) 48 (0, 0))) → Calls Tryd.prog 47 #[.int .u64 (m)] wx fun e w' => e = .returned (.int .i64 z) ∧ (Below wo.heap.size wo w' ∧ w'.heap[wo.heap.size]? = some (.cells (cells4 d 0 0 ByteArray.empty) 48 (0, 0)))) := Lib.hid fun wx ⟨k1, k2⟩ => by rw [hz']; exact (ref_drop (m) wx (by omega) (by omega)).mono fun _ _ ⟨k3, k4⟩ => ⟨k3, below_at k1 k4.below, by rw [k4.below.block _ (heap_lt k2)]; exact k2⟩
                have NMH : Hid (∀ wx, (Below wo.heap.size wo wx ∧ wx.heap[wo.heap.size]? = some (.cells (cells4 d 0 0 ByteArray.empty) 48 (0, 0))) → Calls Tryd.prog 46 #[.string U] wx fun e w' => e = .returned (.int .u64 m) ∧ (Below wo.heap.size wo w' ∧ w'.heap[wo.heap.size]? = some (.cells (cells4 d 0 0 ByteArray.empty) 48 (0, 0)))) := Lib.hid fun wx ⟨k1, k2⟩ => (NM wx).mono fun _ _ ⟨k3, k4⟩ => ⟨k3, below_at k1 k4.below, by rw [k4.below.block _ (heap_lt k2)]; exact k2⟩
                have HF : Hid (partsF g Y.data.toList (acc ++ [⟨d, z, 0, ByteArray.empty⟩]) = partsF s.data.toList.length s.data.toList []) := Lib.hid (by
                  have h := HM2.out
                  have h6 : partD (c :: r) = ((⟨105, dropI m, 0, ByteArray.empty⟩ : PartR), 9) := by rw [partD, if_neg h1, if_neg h8, if_pos h3, hm]
                  rw [h6] at h
                  simp only at h
                  rw [if_neg (by omega)] at h
                  rw [HYD.out, hc3, hz']
                  exact h)
                have HM3 : Hid ((acc ++ [(⟨d, z, 0, ByteArray.empty⟩ : PartR)]).flatMap PartR.row = acc.flatMap PartR.row ++ (cells4 d z 0 ByteArray.empty).toList) := Lib.hid (by rw [List.flatMap_append]; simp; rfl)
                have HBH := Lib.hid (And.intro W1B.out W1H.out)
                clear h1 h3 hc3 hcz hd HM2 hm NM hY hYd h8 he1 hrl W1B W1H hz'
                go_wp2_with (first
                  | (go_at_call 46; (with_reducible refine (NMH.out _ HBH.out).mono ?_); rintro e w1 ⟨rfl, T1⟩; obtain ⟨j0, j1, j2, j3⟩ := cells4_of T1.2)
                  | (go_at_call 47; (with_reducible refine (DR.out _ T1).mono ?_); rintro e w2 ⟨rfl, T2⟩; obtain ⟨i0, i1, i2, i3⟩ := cells4_of T2.2; have hfz : w2.frozen? ⟨wo.heap.size, 1, none⟩ = false := Lib.frozen_of_heap T2.2 1)
                  | (at_builtin; refine wp_append_row rfl (.tmp 100) (.tmp 102) 50 rfl w.heap.size 48 Tryd.underlying50 _ 4 40 info_rpart3 rfl (by decide) (by decide) _ u4 acc.length _ rfl (own_moved HO.out ((T2.1.setCell (p := ⟨wo.heap.size, 1, none⟩) (Nat.le_refl _) _).alloc (by simp [World.setCell]; exact T2.1.size) _)) (cells4 d z 0 ByteArray.empty) w2.heap.size (heap_new (by simp [World.setCell])) rfl (by simp [Value.oneCell']) rfl (by omega) (by have h1 := T2.1.size; have h2 := hB.size; simp [World.setCell]; omega) ?_; intro v' w9 hown9 hB9))
                rw [← HM3.out] at hown9
                have HO9 : Hid (w9.ownsRow w.heap.size 48 4 v' (acc ++ [(⟨d, z, 0, ByteArray.empty⟩ : PartR)]).length ((acc ++ [(⟨d, z, 0, ByteArray.empty⟩ : PartR)]).flatMap PartR.row)) := Lib.hid (by rw [List.length_append]; exact hown9)
                have hB10 : Below w.heap.size w w9 := ((hB.trans ((T2.1.setCell (p := ⟨wo.heap.size, 1, none⟩) (Nat.le_refl _) _).mono hB.size)).alloc (by have h1 := T2.1.size; have h2 := hB.size; simp [World.setCell]; omega) _).trans hB9
                clear hown9 hB9
                go_roundw
                case rel => exact ⟨Y, g, acc ++ [⟨d, z, 0, ByteArray.empty⟩], rfl, hY200, hYg, by rw [List.length_append]; exact hYa, hB10, HO9, HF⟩
                case measure => exact hYl
              · have hc3 : ((c.toNat : Nat) : Int) = 100 := by rw [h3]; rfl
                obtain ⟨p3, q3⟩ := eq_bb hc3
                obtain ⟨r0, s0⟩ := ne_bb (show ¬ ((c.toNat : Nat) : Int) = 105 by omega)
                obtain ⟨d, hd⟩ : ∃ d : Int, d = ((c.toNat : Nat) : Int) := ⟨_, rfl⟩
                rw [← hd] at W1B W1H hc3 p1 q1 p3 q3 r0 s0
                have hd2 : ((c.toNat : Nat) : Int) = d := hd.symm
                obtain ⟨z, hz'⟩ : ∃ z, z = dropI (18446744073709551615 - m) := ⟨_, rfl⟩
                have DR : Hid (∀ wx, (Below wo.heap.size wo wx ∧ wx.heap[wo.heap.size]? = some (.cells (cells4 d 0 0 ByteArray.empty) 48 (0, 0))) → Calls Tryd.prog 47 #[.int .u64 (18446744073709551615 - m)] wx fun e w' => e = .returned (.int .i64 z) ∧ (Below wo.heap.size wo w' ∧ w'.heap[wo.heap.size]? = some (.cells (cells4 d 0 0 ByteArray.empty) 48 (0, 0)))) := Lib.hid fun wx ⟨k1, k2⟩ => by rw [hz']; exact (ref_drop (18446744073709551615 - m) wx (by omega) (by omega)).mono fun _ _ ⟨k3, k4⟩ => ⟨k3, below_at k1 k4.below, by rw [k4.below.block _ (heap_lt k2)]; exact k2⟩
                have NMH : Hid (∀ wx, (Below wo.heap.size wo wx ∧ wx.heap[wo.heap.size]? = some (.cells (cells4 d 0 0 ByteArray.empty) 48 (0, 0))) → Calls Tryd.prog 46 #[.string U] wx fun e w' => e = .returned (.int .u64 m) ∧ (Below wo.heap.size wo w' ∧ w'.heap[wo.heap.size]? = some (.cells (cells4 d 0 0 ByteArray.empty) 48 (0, 0)))) := Lib.hid fun wx ⟨k1, k2⟩ => (NM wx).mono fun _ _ ⟨k3, k4⟩ => ⟨k3, below_at k1 k4.below, by rw [k4.below.block _ (heap_lt k2)]; exact k2⟩
                have HF : Hid (partsF g Y.data.toList (acc ++ [⟨d, z, 0, ByteArray.empty⟩]) = partsF s.data.toList.length s.data.toList []) := Lib.hid (by
                  have h := HM2.out
                  have h6 : partD (c :: r) = ((⟨100, dropI (18446744073709551615 - m), 0, ByteArray.empty⟩ : PartR), 9) := by rw [partD, if_neg h1, if_neg h8, if_neg (by rw [h3]; decide), if_pos h3, hm]
                  rw [h6] at h
                  simp only at h
                  rw [if_neg (by omega)] at h
                  rw [HYD.out, hc3, hz']
                  exact h)
                have HM3 : Hid ((acc ++ [(⟨d, z, 0, ByteArray.empty⟩ : PartR)]).flatMap PartR.row = acc.flatMap PartR.row ++ (cells4 d z 0 ByteArray.empty).toList) := Lib.hid (by rw [List.flatMap_append]; simp; rfl)
                have HBH := Lib.hid (And.intro W1B.out W1H.out)
                clear h1 h3 hc3 hcz hd HM2 hm NM hY hYd h8 he1 hrl W1B W1H hz'
                go_wp2_with (first
                  | (go_at_call 46; (with_reducible refine (NMH.out _ HBH.out).mono ?_); rintro e w1 ⟨rfl, T1⟩; obtain ⟨j0, j1, j2, j3⟩ := cells4_of T1.2)
                  | (go_at_call 47; (with_reducible refine (DR.out _ T1).mono ?_); rintro e w2 ⟨rfl, T2⟩; obtain ⟨i0, i1, i2, i3⟩ := cells4_of T2.2; have hfz : w2.frozen? ⟨wo.heap.size, 1, none⟩ = false := Lib.frozen_of_heap T2.2 1)
                  | (at_builtin; refine wp_append_row rfl (.tmp 100) (.tmp 102) 50 rfl w.heap.size 48 Tryd.underlying50 _ 4 40 info_rpart3 rfl (by decide) (by decide) _ u4 acc.length _ rfl (own_moved HO.out ((T2.1.setCell (p := ⟨wo.heap.size, 1, none⟩) (Nat.le_refl _) _).alloc (by simp [World.setCell]; exact T2.1.size) _)) (cells4 d z 0 ByteArray.empty) w2.heap.size (heap_new (by simp [World.setCell])) rfl (by simp [Value.oneCell']) rfl (by omega) (by have h1 := T2.1.size; have h2 := hB.size; simp [World.setCell]; omega) ?_; intro v' w9 hown9 hB9))
                rw [← HM3.out] at hown9
                have HO9 : Hid (w9.ownsRow w.heap.size 48 4 v' (acc ++ [(⟨d, z, 0, ByteArray.empty⟩ : PartR)]).length ((acc ++ [(⟨d, z, 0, ByteArray.empty⟩ : PartR)]).flatMap PartR.row)) := Lib.hid (by rw [List.length_append]; exact hown9)
                have hB10 : Below w.heap.size w w9 := ((hB.trans ((T2.1.setCell (p := ⟨wo.heap.size, 1, none⟩) (Nat.le_refl _) _).mono hB.size)).alloc (by have h1 := T2.1.size; have h2 := hB.size; simp [World.setCell]; omega) _).trans hB9
                clear hown9 hB9
                go_roundw
                case rel => exact ⟨Y, g, acc ++ [⟨d, z, 0, ByteArray.empty⟩], rfl, hY200, hYg, by rw [List.length_append]; exact hYa, hB10, HO9, HF⟩
                case measure => exact hYl
              · have hc3 : ((c.toNat : Nat) : Int) = 117 := by rw [h3]; rfl
                obtain ⟨p3, q3⟩ := eq_bb hc3
                obtain ⟨r0, s0⟩ := ne_bb (show ¬ ((c.toNat : Nat) : Int) = 105 by omega)
                obtain ⟨r1, s1⟩ := ne_bb (show ¬ ((c.toNat : Nat) : Int) = 100 by omega)
                obtain ⟨d, hd⟩ : ∃ d : Int, d = ((c.toNat : Nat) : Int) := ⟨_, rfl⟩
                rw [← hd] at W1B W1H hc3 p1 q1 p3 q3 r0 s0 r1 s1
                have hd2 : ((c.toNat : Nat) : Int) = d := hd.symm
                have NMH : Hid (∀ wx, (Below wo.heap.size wo wx ∧ wx.heap[wo.heap.size]? = some (.cells (cells4 d 0 0 ByteArray.empty) 48 (0, 0))) → Calls Tryd.prog 46 #[.string U] wx fun e w' => e = .returned (.int .u64 m) ∧ (Below wo.heap.size wo w' ∧ w'.heap[wo.heap.size]? = some (.cells (cells4 d 0 0 ByteArray.empty) 48 (0, 0)))) := Lib.hid fun wx ⟨k1, k2⟩ => (NM wx).mono fun _ _ ⟨k3, k4⟩ => ⟨k3, below_at k1 k4.below, by rw [k4.below.block _ (heap_lt k2)]; exact k2⟩
                have HF : Hid (partsF g Y.data.toList (acc ++ [⟨d, 0, m, ByteArray.empty⟩]) = partsF s.data.toList.length s.data.toList []) := Lib.hid (by
                  have h := HM2.out
                  have h6 : partD (c :: r) = ((⟨117, 0, m, ByteArray.empty⟩ : PartR), 9) := by rw [partD, if_neg h1, if_neg h8, if_neg (by rw [h3]; decide), if_neg (by rw [h3]; decide), if_pos h3, hm]
                  rw [h6] at h
                  simp only at h
                  rw [if_neg (by omega)] at h
                  rw [HYD.out, hc3]
                  exact h)
                have HM3 : Hid ((acc ++ [(⟨d, 0, m, ByteArray.empty⟩ : PartR)]).flatMap PartR.row = acc.flatMap PartR.row ++ (cells4 d 0 m ByteArray.empty).toList) := Lib.hid (by rw [List.flatMap_append]; simp; rfl)
                have HBH := Lib.hid (And.intro W1B.out W1H.out)
                clear h1 h3 hc3 hcz hd HM2 hm NM hY hYd h8 he1 hrl W1B W1H 
                go_wp2_with (first
                  | (go_at_call 46; (with_reducible refine (NMH.out _ HBH.out).mono ?_); rintro e w1 ⟨rfl, T1⟩; obtain ⟨i0, i1, i2, i3⟩ := cells4_of T1.2; have hfz : w1.frozen? ⟨wo.heap.size, 2, none⟩ = false := Lib.frozen_of_heap T1.2 2)
                  | (at_builtin; refine wp_append_row rfl (.tmp 100) (.tmp 102) 50 rfl w.heap.size 48 Tryd.underlying50 _ 4 40 info_rpart3 rfl (by decide) (by decide) _ u4 acc.length _ rfl (own_moved HO.out ((T1.1.setCell (p := ⟨wo.heap.size, 2, none⟩) (Nat.le_refl _) _).alloc (by simp [World.setCell]; exact T1.1.size) _)) (cells4 d 0 m ByteArray.empty) w1.heap.size (heap_new (by simp [World.setCell])) rfl (by simp [Value.oneCell']) rfl (by omega) (by have h1 := T1.1.size; have h2 := hB.size; simp [World.setCell]; omega) ?_; intro v' w9 hown9 hB9))
                rw [← HM3.out] at hown9
                have HO9 : Hid (w9.ownsRow w.heap.size 48 4 v' (acc ++ [(⟨d, 0, m, ByteArray.empty⟩ : PartR)]).length ((acc ++ [(⟨d, 0, m, ByteArray.empty⟩ : PartR)]).flatMap PartR.row)) := Lib.hid (by rw [List.length_append]; exact hown9)
                have hB10 : Below w.heap.size w w9 := ((hB.trans ((T1.1.setCell (p := ⟨wo.heap.size, 2, none⟩) (Nat.le_refl _) _).mono hB.size)).alloc (by have h1 := T1.1.size; have h2 := hB.size; simp [World.setCell]; omega) _).trans hB9
                clear hown9 hB9
                go_roundw
                case rel => exact ⟨Y, g, acc ++ [⟨d, 0, m, ByteArray.empty⟩], rfl, hY200, hYg, by rw [List.length_append]; exact hYa, hB10, HO9, HF⟩
                case measure => exact hYl
            · have h3 : ¬ c = 105 := fun h => hs (.inl h)
              have h4 : ¬ c = 100 := fun h => hs (.inr (.inl h))
              have h5 : ¬ c = 117 := fun h => hs (.inr (.inr h))
              have HF : Hid (t = ([], 19)) := Lib.hid (by
                have h := HM2.out
                have h6 : (partD (c :: r)).2 = -1 := by rw [partD, if_neg h1, if_neg h8, if_neg h3, if_neg h4, if_neg h5]
                rw [h6] at h
                simp at h
                rw [HT.out _ h.symm])
              obtain ⟨p3, q3⟩ := ne_bb (show ¬ ((c.toNat : Nat) : Int) = 105 from fun h => h3 (UInt8.toNat_inj.mp (by
                have h2 : (105 : UInt8).toNat = 105 := rfl
                omega)))
              obtain ⟨p4, q4⟩ := ne_bb (show ¬ ((c.toNat : Nat) : Int) = 100 from fun h => h4 (UInt8.toNat_inj.mp (by
                have h2 : (100 : UInt8).toNat = 100 := rfl
                omega)))
              obtain ⟨p5, q5⟩ := ne_bb (show ¬ ((c.toNat : Nat) : Int) = 117 from fun h => h5 (UInt8.toNat_inj.mp (by
                have h2 : (117 : UInt8).toNat = 117 := rfl
                omega)))
              clear h1 hcz he1 hrl h8 hs h3 h4 h5
              go_wp2
              go_ret2
              exact ⟨none, 0, by rw [HF.out]; rfl, by rw [HF.out]; exact rows_none, by rw [HF.out]; simp, by decide, hB.alloc hB.size _⟩
      · have hnil : u.data.toList = [] := List.length_eq_zero_iff.mp (by omega)
        have HF : Hid (t = (acc, 0)) := Lib.hid (by
          have h := HM.out
          rw [hnil] at h
          cases f <;> rw [partsF] at h <;> rw [HT.out _ h.symm])
        have HE := own_rowsN HO.out PartR.len
        obtain ⟨a, cc, e1, e2, e3, e4⟩ := HE
        have HE1 := Lib.hid e1
        have HE2 := Lib.hid e2
        clear e1 e2 HO hnil hul
        go_wp2
        go_ret2
        exact ⟨a, cc, by rw [HF.out, HE1.out]; rfl, by rw [HF.out]; exact HE2.out, by rw [HF.out]; exact e3, e4, hB⟩

end Go.Proofs.YtafdjgmdkbimoaaDoor
