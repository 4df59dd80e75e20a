/-
  The document's Make by contract.
-/
import Derived.Test.YtafdjgmdkbimoaaDoorKeyRef
import Derived.Test.YtafdjgmdkbimoaaDoorKeyBytes
namespace Go.Proofs.YtafdjgmdkbimoaaDoor
open Go.RowKit
set_option linter.unusedVariables false
set_option linter.unusedSimpArgs false

/-- a row's bytes, its first part's being known -/
def makeOn (L : Option (List UInt8)) (ps : List PartR) (acc : List UInt8) : List UInt8 × Int := match L with
  | none => ([], 11)
  | some v => if 200 < (acc ++ v).length then ([], 5) else makeGo ps (acc ++ v)
theorem makeGo_cons (p : PartR) (ps : List PartR) (acc : List UInt8) : makeGo (p :: ps) acc = makeOn (partB p) ps acc := rfl
theorem zero_rpart (w : World) : (zeroValue 48).run Tryd.prog w = .ok (.agg (cells4 0 0 0 ByteArray.empty)) w := by kernel_rfl
theorem escL_append (a b : List UInt8) : escL (a ++ b) = escL a ++ escL b := by unfold escL; rw [List.flatMap_append]
theorem esc_take (l : List UInt8) (i : Nat) (h : i < l.length) : escL (l.take (i + 1)) = escL (l.take i) ++ (if l[i] = 0 then [0, 255] else [l[i]]) := by
  rw [List.take_succ_eq_append_getElem h, escL_append]
  congr 1
  by_cases h0 : l[i] = 0
  · rw [if_pos h0, h0]; rfl
  · rw [if_neg h0, escL_cons _ _ h0]; rfl
theorem extract_one (s : ByteArray) (i : Nat) (h : i < s.size) : s.extract i (i + 1) = str [s[i]] := by
  apply ByteArray.ext
  apply Array.toList_inj.1
  rw [str_data, ByteArray.data_extract, Array.toList_extract, List.extract_eq_take_drop]
  have hl : i < s.data.toList.length := by simpa using h
  rw [List.drop_eq_getElem_cons hl, show i + 1 - i = 1 from by omega]
  rfl

set_option maxRecDepth 100000 in
set_option maxHeartbeats 8000000 in
theorem ref_make (l : List PartR) (A : Option Addr) (c : Nat) (w : World) (hr : RowsAt w A 4 PartR.row l) (hl : l.length ≤ 1000000) (hg : ∀ p ∈ l, p.good) (hs : ∀ p ∈ l, p.s.size ≤ 300) :
    Calls Tryd.prog 19 #[.slice A l.length c] w fun e w' => e = .returned (.tuple #[.string (str (makeGo l []).1), .int .i64 (makeGo l []).2]) ∧ Below w.heap.size w w' := by
  have HR := Lib.hid hr
  have HG := Lib.hid hg
  have HS := Lib.hid hs
  have hz := zero_rpart
  obtain ⟨t, ht⟩ : ∃ t, t = makeGo l [] := ⟨_, rfl⟩
  rw [← ht]
  have HT := Lib.hid ht
  have BG : ∀ m : Int, 0 ≤ m → m < 18446744073709551616 → Hid (∀ wx, Calls Tryd.prog 34 #[.int .u64 m] wx fun e w' => e = .returned (.string (str (beL m.toNat))) ∧ Below wx.heap.size wx w') := fun m h0 h1 => Lib.hid fun wx => ref_big m wx h0 h1
  have BGH := Lib.hid BG
  clear hr ht hg hs BG
  go_enter Tryd.func19, Tryd.ntmps19
  go_wp2
  go_loopw [4, 11] (fun v4 v11 wr => ∃ (j : Nat) (S : ByteArray) (acc : List UInt8), j ≤ l.length ∧ v11 = .int .i64 j ∧ v4 = .string S ∧ Hid (S = str acc) ∧ S.size ≤ 200 ∧ Below w.heap.size w wr ∧ Hid (makeGo (l.drop j) acc = t)) (fun _ v _ => l.length - (intOf v).toNat)
  case atStart => exact ⟨0, ⟨#[]⟩, [], Nat.zero_le _, rfl, rfl, Lib.hid rfl, by decide, Below.refl _ _, Lib.hid HT.out.symm⟩
  case round =>
    obtain ⟨j, S, acc, hj, rfl, rfl, HSS, hS, hB, HM⟩ := hrel
    by_cases hlt : j < l.length
    · obtain ⟨b, o, rfl, k0, k1, k2, k3⟩ := row4_at (HR.out.moved hB) j hlt
      have hgood := HG.out _ (List.getElem_mem hlt)
      have hsz : l[j].s.size ≤ 300 := HS.out _ (List.getElem_mem hlt)
      have HM2 : Hid (makeGo (l[j] :: l.drop (j + 1)) acc = t) := Lib.hid (by rw [← List.drop_eq_getElem_cons hlt]; exact HM.out)
      obtain ⟨p, hp⟩ : ∃ p, p = l[j] := ⟨_, rfl⟩
      rw [← hp] at k0 k1 k2 k3 HM2 hgood hsz
      obtain ⟨a, n, u, s⟩ := p
      simp only at k0 k1 k2 k3 hsz
      obtain ⟨g1, g2, g3, g4⟩ := hgood
      simp only at g1 g2 g3 g4
      clear hp HM g4
      have hbase := hB.size
      have n1 : b < wr.heap.size := cell_lt k0
      have n3 := Nat.ne_of_lt n1
      have HW : Hid (∀ x y, Below w.heap.size w ((wr.alloc x).alloc y)) := Lib.hid fun x y => (hB.alloc hB.size _).alloc (by simp; omega) _
      have hcv := conv_byte (wr.alloc (.cells (cells4 a n u s) 48)) (wr.heap.size + 1) (by simp) a (UInt8.ofNat a.toNat) (by rw [UInt8.toNat_ofNat']; omega)
      obtain ⟨H, hH⟩ : ∃ H, H = str [UInt8.ofNat a.toNat] := ⟨_, rfl⟩
      rw [← hH] at hcv
      have HHH := Lib.hid hH
      have hHs : H.size = 1 := by rw [hH]; rfl
      clear hH
      obtain ⟨L, hL⟩ : ∃ L, L = partB ⟨a, n, u, s⟩ := ⟨_, rfl⟩
      have HL := Lib.hid hL
      have HM3 : Hid (t = makeOn L (l.drop (j + 1)) acc) := Lib.hid (by rw [← HM2.out, makeGo_cons, hL])
      clear HM2 hL
      by_cases c1 : a = 105
      · have HP : Hid (L = some (105 :: beL (liftI n).toNat)) := Lib.hid (by rw [HL.out]; unfold partB; rw [if_pos c1])
        obtain ⟨p1, q1⟩ := eq_bb c1
        have hq : UInt8.ofNat a.toNat = 105 := by rw [c1]; rfl
        rw [hq] at HHH
        have LF : Hid (∀ wx, Calls Tryd.prog 35 #[.int .i64 n] wx fun e w' => e = .returned (.int .u64 (liftI n)) ∧ Drew wx w') := Lib.hid fun wx => ref_lift n wx g2
        have hb := liftI_bd n g2
        clear c1 hq
        obtain ⟨Z, hZ⟩ : ∃ Z, Z = str (beL (liftI n).toNat) := ⟨_, rfl⟩
        have BG := BGH.out (liftI n) (by omega) (by omega)
        rw [← hZ] at BG
        have hZs : Z.size = 8 := by rw [hZ, str_size, beL_length]
        have HV : Hid (S ++ (H ++ Z) = str (acc ++ (105 :: beL (liftI n).toNat))) := Lib.hid (by rw [HSS.out, HHH.out, hZ, str_append, str_append]; rfl)
        have HVL : Hid ((acc ++ (105 :: beL (liftI n).toNat)).length = (S ++ (H ++ Z)).size) := Lib.hid (by rw [HV.out, str_size])
        have hVs : (S ++ (H ++ Z)).size = S.size + 9 := by rw [ByteArray.size_append, ByteArray.size_append, hHs, hZs]
        clear hZ
        by_cases h200 : 200 < S.size + 9
        · have HF : Hid (t = ([], 5)) := Lib.hid (by rw [HM3.out, HP.out, makeOn]; rw [if_pos (by rw [HVL.out, hVs]; exact h200)])
          go_wp2_with (first | (go_at_call 35; (with_reducible refine (LF.out _).mono ?_); rintro e w1 ⟨rfl, hD1⟩; have hB1 := hD1.below) | (go_at_call 34; (with_reducible refine (BG.out _).mono ?_); rintro e w2 ⟨rfl, hB2⟩))
          go_ret2
          exact ⟨by rw [HF.out]; rfl, below_at (below_at (HW.out _ _) hB1) hB2⟩
        · have HF : Hid (makeGo (l.drop (j + 1)) (acc ++ (105 :: beL (liftI n).toNat)) = t) := Lib.hid (by rw [HM3.out, HP.out, makeOn]; rw [if_neg (by rw [HVL.out, hVs]; exact h200)])
          go_wp2_with (first | (go_at_call 35; (with_reducible refine (LF.out _).mono ?_); rintro e w1 ⟨rfl, hD1⟩; have hB1 := hD1.below) | (go_at_call 34; (with_reducible refine (BG.out _).mono ?_); rintro e w2 ⟨rfl, hB2⟩))
          go_roundw
          case rel => exact ⟨j + 1, S ++ (H ++ Z), _, by omega, by go_num, rfl, HV, by omega, below_at (below_at (HW.out _ _) hB1) hB2, HF⟩
          case measure => simp [intOf]; omega
      by_cases c2 : a = 100
      · have HP : Hid (L = some (100 :: beL (18446744073709551615 - liftI n).toNat)) := Lib.hid (by rw [HL.out]; unfold partB; rw [if_neg c1, if_pos c2])
        obtain ⟨p1, q1⟩ := ne_bb c1
        obtain ⟨p2, q2⟩ := eq_bb c2
        have hq : UInt8.ofNat a.toNat = 100 := by rw [c2]; rfl
        rw [hq] at HHH
        have LF : Hid (∀ wx, Calls Tryd.prog 35 #[.int .i64 n] wx fun e w' => e = .returned (.int .u64 (liftI n)) ∧ Drew wx w') := Lib.hid fun wx => ref_lift n wx g2
        have hb := liftI_bd n g2
        clear c1 c2 hq
        obtain ⟨Z, hZ⟩ : ∃ Z, Z = str (beL (18446744073709551615 - liftI n).toNat) := ⟨_, rfl⟩
        have BG := BGH.out (18446744073709551615 - liftI n) (by omega) (by omega)
        rw [← hZ] at BG
        have hZs : Z.size = 8 := by rw [hZ, str_size, beL_length]
        have HV : Hid (S ++ (H ++ Z) = str (acc ++ (100 :: beL (18446744073709551615 - liftI n).toNat))) := Lib.hid (by rw [HSS.out, HHH.out, hZ, str_append, str_append]; rfl)
        have HVL : Hid ((acc ++ (100 :: beL (18446744073709551615 - liftI n).toNat)).length = (S ++ (H ++ Z)).size) := Lib.hid (by rw [HV.out, str_size])
        have hVs : (S ++ (H ++ Z)).size = S.size + 9 := by rw [ByteArray.size_append, ByteArray.size_append, hHs, hZs]
        clear hZ
        by_cases h200 : 200 < S.size + 9
        · have HF : Hid (t = ([], 5)) := Lib.hid (by rw [HM3.out, HP.out, makeOn]; rw [if_pos (by rw [HVL.out, hVs]; exact h200)])
          go_wp2_with (first | (go_at_call 35; (with_reducible refine (LF.out _).mono ?_); rintro e w1 ⟨rfl, hD1⟩; have hB1 := hD1.below) | (go_at_call 34; (with_reducible refine (BG.out _).mono ?_); rintro e w2 ⟨rfl, hB2⟩))
          go_ret2
          exact ⟨by rw [HF.out]; rfl, below_at (below_at (HW.out _ _) hB1) hB2⟩
        · have HF : Hid (makeGo (l.drop (j + 1)) (acc ++ (100 :: beL (18446744073709551615 - liftI n).toNat)) = t) := Lib.hid (by rw [HM3.out, HP.out, makeOn]; rw [if_neg (by rw [HVL.out, hVs]; exact h200)])
          go_wp2_with (first | (go_at_call 35; (with_reducible refine (LF.out _).mono ?_); rintro e w1 ⟨rfl, hD1⟩; have hB1 := hD1.below) | (go_at_call 34; (with_reducible refine (BG.out _).mono ?_); rintro e w2 ⟨rfl, hB2⟩))
          go_roundw
          case rel => exact ⟨j + 1, S ++ (H ++ Z), _, by omega, by go_num, rfl, HV, by omega, below_at (below_at (HW.out _ _) hB1) hB2, HF⟩
          case measure => simp [intOf]; omega
      by_cases c3 : a = 117
      · have HP : Hid (L = some (117 :: beL (u).toNat)) := Lib.hid (by rw [HL.out]; unfold partB; rw [if_neg c1, if_neg c2, if_pos c3])
        obtain ⟨p1, q1⟩ := ne_bb c1
        obtain ⟨p2, q2⟩ := ne_bb c2
        obtain ⟨p3, q3⟩ := eq_bb c3
        have hq : UInt8.ofNat a.toNat = 117 := by rw [c3]; rfl
        rw [hq] at HHH
        clear c1 c2 c3 hq
        obtain ⟨Z, hZ⟩ : ∃ Z, Z = str (beL (u).toNat) := ⟨_, rfl⟩
        have BG := BGH.out (u) (by omega) (by omega)
        rw [← hZ] at BG
        have hZs : Z.size = 8 := by rw [hZ, str_size, beL_length]
        have HV : Hid (S ++ (H ++ Z) = str (acc ++ (117 :: beL (u).toNat))) := Lib.hid (by rw [HSS.out, HHH.out, hZ, str_append, str_append]; rfl)
        have HVL : Hid ((acc ++ (117 :: beL (u).toNat)).length = (S ++ (H ++ Z)).size) := Lib.hid (by rw [HV.out, str_size])
        have hVs : (S ++ (H ++ Z)).size = S.size + 9 := by rw [ByteArray.size_append, ByteArray.size_append, hHs, hZs]
        clear hZ
        by_cases h200 : 200 < S.size + 9
        · have HF : Hid (t = ([], 5)) := Lib.hid (by rw [HM3.out, HP.out, makeOn]; rw [if_pos (by rw [HVL.out, hVs]; exact h200)])
          go_wp2_with (first | (go_at_call 34; (with_reducible refine (BG.out _).mono ?_); rintro e w2 ⟨rfl, hB2⟩))
          go_ret2
          exact ⟨by rw [HF.out]; rfl, below_at (HW.out _ _) hB2⟩
        · have HF : Hid (makeGo (l.drop (j + 1)) (acc ++ (117 :: beL (u).toNat)) = t) := Lib.hid (by rw [HM3.out, HP.out, makeOn]; rw [if_neg (by rw [HVL.out, hVs]; exact h200)])
          go_wp2_with (first | (go_at_call 34; (with_reducible refine (BG.out _).mono ?_); rintro e w2 ⟨rfl, hB2⟩))
          go_roundw
          case rel => exact ⟨j + 1, S ++ (H ++ Z), _, by omega, by go_num, rfl, HV, by omega, below_at (HW.out _ _) hB2, HF⟩
          case measure => simp [intOf]; omega
      by_cases c4 : a = 116
      · have HP : Hid (L = some (116 :: (escL s.data.toList ++ [0, 0]))) := Lib.hid (by rw [HL.out]; unfold partB; rw [if_neg c1, if_neg c2, if_neg c3, if_pos c4])
        obtain ⟨p1, q1⟩ := ne_bb c1
        obtain ⟨p2, q2⟩ := ne_bb c2
        obtain ⟨p3, q3⟩ := ne_bb c3
        obtain ⟨p4, q4⟩ := eq_bb c4
        have hq : UInt8.ofNat a.toNat = 116 := by rw [c4]; rfl
        rw [hq] at HHH
        clear c1 c2 c3 c4 hq
        have k3n : ((wr.alloc (.cells (cells4 a n u s) 48)).alloc (.cells #[.int .u8 a] 5)).cell? ⟨wr.heap.size, 3, none⟩ = some (.string s) := by
          have h2 : ((wr.alloc (.cells (cells4 a n u s) 48)).alloc (.cells #[.int .u8 a] 5)).heap[wr.heap.size]? = some (.cells (cells4 a n u s) 48 (0, 0)) := by
            rw [Below.heap_alloc _ _ _ (by simp)]; exact heap_alloc_new _ _
          rw [cell_of_row _ _ _ _ _ _ h2]; rfl
        have HK3 := Lib.hid k3n
        clear k3n
        go_wp2
        go_loopw [7, 8] (fun v7 v8 wi => ∃ (i : Nat) (T : ByteArray), i ≤ s.size ∧ v8 = .int .i64 i ∧ v7 = .string T ∧ Hid (T = str (116 :: escL (s.data.toList.take i))) ∧ T.size ≤ 1 + 2 * i ∧ Below w.heap.size w wi ∧ Hid (wi.cell? ⟨wr.heap.size, 3, none⟩ = some (.string s))) (fun _ v _ => s.size - (intOf v).toNat)
        case atStart => exact ⟨0, H, Nat.zero_le _, rfl, rfl, Lib.hid (by rw [HHH.out]; rfl), by omega, HW.out _ _, HK3⟩
        case round =>
          obtain ⟨i, T, hi, rfl, rfl, HTT, hTs, hBi, HKi⟩ := hrel
          have hki := HKi.out
          by_cases hin : i < s.size
          · have hil : i < s.data.toList.length := by simpa using hin
            have hx := extract_one s i hin
            obtain ⟨x, hc⟩ : ∃ x, s[i] = x := ⟨_, rfl⟩
            have hc' : s.data.toList[i] = x := by rw [← hc]; rfl
            have hes := esc_take s.data.toList i hil
            rw [hc'] at hes
            rw [hc] at hx
            obtain ⟨X, hX⟩ : ∃ X, X = str [x] := ⟨_, rfl⟩
            rw [← hX] at hx
            have hXs : X.size = 1 := by rw [hX]; rfl
            have hx256 : x.toNat < 256 := x.toNat_lt
            by_cases hz0 : x = 0
            · have hcz : ((x.toNat : Nat) : Int) = 0 := by rw [hz0]; rfl
              obtain ⟨z0, z1⟩ := eq_bb hcz
              rw [if_pos hz0] at hes
              have HT2 : Hid (T ++ X ++ ⟨#[255]⟩ = str (116 :: escL (s.data.toList.take (i + 1)))) := Lib.hid (by
                rw [HTT.out, hX, hes, hz0, show (⟨#[255]⟩ : ByteArray) = str [255] from rfl, str_append, str_append]; simp)
              have hTX : (T ++ X ++ ⟨#[255]⟩).size = T.size + 2 := by rw [ByteArray.size_append, ByteArray.size_append, hXs]; rfl
              have hTX1 : (T ++ X).size = T.size + 1 := by rw [ByteArray.size_append, hXs]
              clear hX hz0 hcz hes hc'
              go_wp2
              go_roundw
              case rel => exact ⟨i + 1, T ++ X ++ ⟨#[255]⟩, by omega, by go_num, rfl, HT2, by omega, hBi, HKi⟩
              case measure => simp [intOf]; omega
            · have hcz : ¬ ((x.toNat : Nat) : Int) = 0 := fun h => hz0 (UInt8.toNat_inj.mp (by
                have h2 : (0 : UInt8).toNat = 0 := rfl
                omega))
              obtain ⟨z0, z1⟩ := ne_bb hcz
              rw [if_neg hz0] at hes
              have HT2 : Hid (T ++ X = str (116 :: escL (s.data.toList.take (i + 1)))) := Lib.hid (by
                rw [HTT.out, hX, hes, str_append]; simp)
              have hTX1 : (T ++ X).size = T.size + 1 := by rw [ByteArray.size_append, hXs]
              clear hX hz0 hcz hes hc'
              go_wp2
              go_roundw
              case rel => exact ⟨i + 1, T ++ X, by omega, by go_num, rfl, HT2, by omega, hBi, HKi⟩
              case measure => simp [intOf]; omega
          · have HV : Hid (S ++ (T ++ ⟨#[0, 0]⟩) = str (acc ++ (116 :: (escL s.data.toList ++ [0, 0])))) := Lib.hid (by
              have e : s.data.toList.take i = s.data.toList := List.take_of_length_le (by
                have : s.data.toList.length = s.size := by simp
                omega)
              rw [HSS.out, HTT.out, e, show (⟨#[0, 0]⟩ : ByteArray) = str [0, 0] from rfl, str_append, str_append]; rfl)
            have HVL : Hid ((acc ++ (116 :: (escL s.data.toList ++ [0, 0]))).length = (S ++ (T ++ ⟨#[0, 0]⟩)).size) := Lib.hid (by rw [HV.out, str_size])
            have hVs : (S ++ (T ++ ⟨#[0, 0]⟩)).size = S.size + (T.size + 2) := by rw [ByteArray.size_append, ByteArray.size_append]; rfl
            have hVt : (T ++ ⟨#[0, 0]⟩).size = T.size + 2 := by rw [ByteArray.size_append]; rfl
            by_cases h200 : 200 < S.size + (T.size + 2)
            · have HF : Hid (t = ([], 5)) := Lib.hid (by rw [HM3.out, HP.out, makeOn]; rw [if_pos (by rw [HVL.out, hVs]; exact h200)])
              go_wp2
              go_ret2
              exact ⟨by rw [HF.out]; rfl, hBi⟩
            · have HF : Hid (makeGo (l.drop (j + 1)) (acc ++ (116 :: (escL s.data.toList ++ [0, 0]))) = t) := Lib.hid (by rw [HM3.out, HP.out, makeOn]; rw [if_neg (by rw [HVL.out, hVs]; exact h200)])
              go_wp2
              go_roundw
              case rel => exact ⟨j + 1, S ++ (T ++ ⟨#[0, 0]⟩), _, by omega, by go_num, rfl, HV, by omega, hBi, HF⟩
              case measure => simp [intOf]; omega
      · have HF : Hid (t = ([], 11)) := Lib.hid (by
          rw [HM3.out, HL.out]; unfold partB; simp only; rw [if_neg c1, if_neg c2, if_neg c3, if_neg c4]; rfl)
        obtain ⟨p1, q1⟩ := ne_bb c1
        obtain ⟨p2, q2⟩ := ne_bb c2
        obtain ⟨p3, q3⟩ := ne_bb c3
        obtain ⟨p4, q4⟩ := ne_bb c4
        clear c1 c2 c3 c4
        go_wp2
        go_ret2
        exact ⟨by rw [HF.out]; rfl, HW.out _ _⟩
    · have HF : Hid (t = (acc, 0)) := Lib.hid (by rw [← HM.out, List.drop_of_length_le (by omega)]; rfl)
      clear HM
      go_wp2
      go_ret2
      exact ⟨by rw [HF.out, ← HSS.out]; rfl, hB⟩

end Go.Proofs.YtafdjgmdkbimoaaDoor
