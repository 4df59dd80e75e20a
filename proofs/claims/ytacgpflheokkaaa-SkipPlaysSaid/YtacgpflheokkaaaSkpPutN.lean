/-
  skip's Put, of a new key: by contract.
-/
import Derived.Test.YtacgpflheokkaaaSkpPush
import Derived.BigRegion
import Derived.Deep.RegionLaw
namespace Go.Proofs.Ytacgpflheokkaaa
open Go.RowKit
set_option linter.unusedVariables false
set_option linter.unusedSimpArgs false

theorem newN_zero (T : List TowM) (q : List Nat) (key : ByteArray) (h : Nat) : newN T q key h 0 = List.replicate h 0 := by
  apply List.ext_getElem
  · simp [newN]
  · intro i h1 h2; simp [newN]
theorem newN_set (T : List TowM) (q : List Nat) (key : ByteArray) (h k : Nat) (hk : k < h) : (newN T q key h k).set k (nxAt T (aheadI T q key k) k) = newN T q key h (k + 1) := by
  apply List.ext_getElem
  · simp [newN]
  · intro i h1 h2
    have hi : i < h := by simpa [newN] using h2
    rw [List.getElem_set]
    simp only [newN, List.getElem_map, List.getElem_range]
    by_cases e : k = i
    · subst e; simp
    · rw [if_neg e]
      by_cases hl : i < k
      · rw [if_pos hl, if_pos (by omega)]
      · rw [if_neg hl, if_neg (by omega)]
/-- what is ahead of a key on a level is on that level -/
theorem ahead_on_level {T : List TowM} {q : List Nat} (hL : Lay T q) (key : ByteArray) (j : Nat) (hj : j < 12) : aheadI T q key j < T.length ∧ j < hAt T (aheadI T q key j) := by
  unfold aheadI
  rcases List.eq_nil_or_concat (q.filter fun i => bLt (keyAt T i) key && decide (j < hAt T i)) with h | ⟨l, x, h⟩
  · rw [h]; exact ⟨by show 0 < T.length; have := hL.len; omega, by show j < hAt T 0; rw [hL.h0]; exact hj⟩
  · rw [h, List.concat_eq_append, endOf_snoc]
    have hm : x ∈ q.filter fun i => bLt (keyAt T i) key && decide (j < hAt T i) := by rw [h]; simp
    obtain ⟨h1, h2⟩ := List.mem_filter.1 hm
    simp only [Bool.and_eq_true, decide_eq_true_eq] at h2
    exact ⟨(hL.mem x h1).2, h2.2⟩
theorem outL_get (T : List TowM) (q : List Nat) (key : ByteArray) (j : Nat) (hj : j < 12) : (outL T q key 0)[j]? = some ((aheadI T q key j : Nat) : Int) := by
  simp [outL, hj]
abbrev towC (key value : ByteArray) (nb h : Nat) : Array Value := #[.string key, .string value, .slice (some ⟨nb, 0, none⟩) h h]
/-- the loop's state -/
structure PutS (w wr : World) (b : Nat) (sa : Option Addr) (cap : Nat) (T : List TowM) (q : List Nat) (key value : ByteArray) (bt st : Int) (nb h b9 b11 k : Nat) : Prop where
  mem : SkM wr b sa cap (linkT T q key k) bt st
  nbk : wr.heap[nb]? = some (.cells (intsO (newN T q key h k)) 3 (0, 0))
  arr : wr.heap[b9]? = some (.cells (intsO (outL T q key 0)) 61 (0, 0))
  box : wr.heap[b11]? = some (.cells (towC key value nb h) 57 (0, 0))
  chg : ChgQ (footS b sa T) w wr
  lnb : w.heap.size ≤ nb
  l9 : w.heap.size ≤ b9
  l11 : w.heap.size ≤ b11
section
variable {w wr w' : World} {b : Nat} {sa : Option Addr} {cap : Nat} {T : List TowM} {q : List Nat} {key value : ByteArray} {bt st : Int} {nb h b9 b11 k : Nat}
theorem PutS.moved (h0 : PutS w wr b sa cap T q key value bt st nb h b9 b11 k) (hB : Below wr.heap.size wr w') : PutS w w' b sa cap T q key value bt st nb h b9 b11 k :=
  ⟨h0.mem.moved hB, (hB.block _ (heap_lt h0.nbk)).trans h0.nbk, (hB.block _ (heap_lt h0.arr)).trans h0.arr, (hB.block _ (heap_lt h0.box)).trans h0.box, h0.chg.trans (ChgQ.of_below hB), h0.lnb, h0.l9, h0.l11⟩
/-- a round: the new tower takes what stood there, what stood there leads to the new one -/
theorem PutS.link (h0 : PutS w wr b sa cap T q key value bt st nb h b9 b11 k) (hF : ∀ k, footS b sa T k → k < w.heap.size) (hk : k < h) (hi : aheadI T q key k < (linkT T q key k).length) :
    PutS w ((wr.setCell ⟨nb, k, none⟩ (.int .i64 (nxAt T (aheadI T q key k) k))).setCell ⟨(linkT T q key k)[aheadI T q key k].nb, k, none⟩ (.int .i64 (T.length : Int))) b sa cap T q key value bt st nb h b9 b11 (k + 1) := by
  have hlink : ∀ j, footS b sa (linkT T q key k) j → j < w.heap.size := fun j hj => hF j ((foot_link b sa T q key j k).1 hj)
  have hfn : footS b sa (linkT T q key k) (linkT T q key k)[aheadI T q key k].nb := .inr (.inr ⟨_, List.getElem_mem hi, rfl⟩)
  have hnl := hlink _ hfn
  have hm : SkM (wr.setCell ⟨nb, k, none⟩ (.int .i64 (nxAt T (aheadI T q key k) k))) b sa cap (linkT T q key k) bt st :=
    h0.mem.of_foot fun j hj => heap_setCell_other _ _ _ _ (by have := hlink j hj; have := h0.lnb; simp; omega)
  have ne9 : b9 ≠ nb := fun e => by
    have h1 := h0.arr; rw [e, h0.nbk] at h1
    simp only [Option.some.injEq, Obj.cells.injEq] at h1; exact absurd h1.2.1 (by decide)
  have ne11 : b11 ≠ nb := fun e => by
    have h1 := h0.box; rw [e, h0.nbk] at h1
    simp only [Option.some.injEq, Obj.cells.injEq] at h1; exact absurd h1.2.1 (by decide)
  refine ⟨?_, ?_, ?_, ?_, ?_, h0.lnb, h0.l9, h0.l11⟩
  · rw [link_setN]; exact hm.setNext _ k hi _
  · rw [heap_setCell_other _ _ _ _ (by have := h0.lnb; simp; omega), heap_setCell_same _ _ k _ _ _ h0.nbk, ← newN_set T q key h k hk]
    simp [intsO]
  · rw [heap_setCell_other _ _ _ _ (by have := h0.l9; simp; omega), heap_setCell_other _ _ _ _ (by simpa using ne9)]; exact h0.arr
  · rw [heap_setCell_other _ _ _ _ (by have := h0.l11; simp; omega), heap_setCell_other _ _ _ _ (by simpa using ne11)]; exact h0.box
  · exact (h0.chg.setNew _ _ _ h0.lnb).trans (ChgQ.setCell _ _ _ _ ((foot_link b sa T q key _ k).1 hfn))
end
theorem len13 (us : List Value) (h : us.length = 13) : ∃ x0 x1 x2 x3 x4 x5 x6 x7 x8 x9 x10 x11 x12 : Value, us = [x0, x1, x2, x3, x4, x5, x6, x7, x8, x9, x10, x11, x12] := by
  obtain ⟨x0, v0, e0, h0⟩ := len_cons h
  obtain ⟨x1, v1, e1, h1⟩ := len_cons h0
  obtain ⟨x2, v2, e2, h2⟩ := len_cons h1
  obtain ⟨x3, v3, e3, h3⟩ := len_cons h2
  obtain ⟨x4, v4, e4, h4⟩ := len_cons h3
  obtain ⟨x5, v5, e5, h5⟩ := len_cons h4
  obtain ⟨x6, v6, e6, h6⟩ := len_cons h5
  obtain ⟨x7, v7, e7, h7⟩ := len_cons h6
  obtain ⟨x8, v8, e8, h8⟩ := len_cons h7
  obtain ⟨x9, v9, e9, h9⟩ := len_cons h8
  obtain ⟨x10, v10, e10, h10⟩ := len_cons h9
  obtain ⟨x11, v11, e11, h11⟩ := len_cons h10
  obtain ⟨x12, v12, e12, h12⟩ := len_cons h11
  have en := List.eq_nil_of_length_eq_zero h12
  subst en
  subst e12
  subst e11
  subst e10
  subst e9
  subst e8
  subst e7
  subst e6
  subst e5
  subst e4
  subst e3
  subst e2
  subst e1
  subst e0
  exact ⟨x0, x1, x2, x3, x4, x5, x6, x7, x8, x9, x10, x11, x12, rfl⟩
def FctPN (b b11 nb nbk B o n cap h k : Nat) (ov : Int) : Nat → Value → World → Prop
  | 0, v, _ => v = .pointer (some ⟨b11, 2, none⟩)
  | 1, v, _ => v = .slice (some ⟨nb, 0, none⟩) h h
  | 2, v, _ => v = .int .i64 (k : Int)
  | 3, v, _ => v = .pointer (some ⟨nbk, k, none⟩)
  | 4, v, _ => v = .pointer (some ⟨nbk, k, none⟩)
  | 5, v, _ => v = .pointer (some ⟨nbk, k, none⟩)
  | 6, v, _ => v = .int .i64 ov
  | 7, v, _ => v = .pointer (some ⟨b, 0, none⟩)
  | 8, v, _ => v = .pointer (some ⟨b, 0, none⟩)
  | 9, v, _ => v = .pointer (some ⟨b, 0, none⟩)
  | 10, v, _ => v = .slice (some ⟨B, o, none⟩) n cap
  | 11, v, _ => v = .int .i64 (n : Int)
  | 12, v, _ => v = .pointer (some ⟨nb, k, none⟩)
  | _, _, _ => True
theorem FctPN_moved (b b11 nb nbk B o n cap h k : Nat) (ov : Int) (j : Nat) (v : Value) (w w' : World) (hfc : FctPN b b11 nb nbk B o n cap h k ov j v w) (hb : Below w.heap.size w w') : FctPN b b11 nb nbk B o n cap h k ov j v w' := by
  match j with
  | 0 | 1 | 2 | 3 | 4 | 5 | 6 | 7 | 8 | 9 | 10 | 11 | 12 | _ + 13 => exact hfc
set_option maxRecDepth 100000 in
set_option maxHeartbeats 16000000 in
theorem skip_put_new (b : Nat) (sa : Option Addr) (cap : Nat) (T : List TowM) (bt st : Int) (q : List Nat) (key value : ByteArray) (hgt : Int) (h : Nat) (w : World) (hM : SkM w b sa cap T bt st) (hL : Lay T q) (hfx : findO T q key = none)
    (hh : (h : Int) = min (max hgt 1) 12) (hTl : T.length ≤ 60000) (hbt : 0 ≤ bt ∧ bt ≤ 1000000000000) (hv : value.size ≤ 1000000000) (hkz : key.size ≤ 1000000000) :
    Calls Try.prog 9 #[.pointer (some ⟨b, 0, none⟩), .string key, .string value, .int .i64 hgt] w fun e w' => e = .returned (.int .i64 0) ∧
      ∃ sa' cap' nb st', SkM w' b sa' cap' (putT T q key value nb h) (bt + ((key.size : Int) + (value.size : Int))) st' ∧ 0 ≤ st' ∧ st' ≤ (q.length : Int) + 12 ∧ ChgQ (footS b sa T) w w' ∧ w.heap.size ≤ nb ∧ (∀ k o, sa' = some ⟨k, o, none⟩ → (∃ o, sa = some ⟨k, o, none⟩) ∨ w.heap.size ≤ k) := by
  have AH : Hid (Calls Try.prog 25 #[.pointer (some ⟨b, 0, none⟩), .string key] w fun e w' => e = .returned (.agg (intsO (outL T q key 0))) ∧ ∃ st', Hid (SkM w' b sa cap T bt st' ∧ 0 ≤ st' ∧ st' ≤ (q.length : Int) + 12) ∧ Hid (Chg b w w')) := Lib.hid
    ((skip_ahead b sa cap T bt st q key w hM hL).mono fun _ _ ⟨h1, st', h2, h3, h4, h5⟩ => ⟨h1, st', Lib.hid ⟨hM.chg h5 h4, h2, h3⟩, Lib.hid h5⟩)
  have FI : Hid (∀ st' wx, SkM wx b sa cap T bt st' → Calls Try.prog 26 #[.pointer (some ⟨b, 0, none⟩), .agg (intsO (outL T q key 0)), .string key] wx fun e w' => e = .returned (.int .i64 (-1)) ∧ Hid (Below wx.heap.size wx w')) := Lib.hid fun st' wx h =>
    (skip_find b sa cap T bt st' q key wx h hL).mono fun _ _ ⟨h1, h2⟩ => ⟨by rw [h1]; unfold findI; rw [hfx], Lib.hid h2⟩
  have LE : Hid (∀ st' wx, SkM wx b sa cap T bt st' → Calls Try.prog 11 #[.pointer (some ⟨b, 0, none⟩)] wx fun e w' => e = .returned (.int .i64 ((T.length : Int) - 1)) ∧ w' = wx) := Lib.hid fun st' wx h => skip_len b sa cap T bt st' wx h
  have HF := Lib.hid (foot_lt hM)
  have HL := Lib.hid hL
  have hpos : 0 < T.length := by have := hL.len; omega
  have hh1 : 1 ≤ h ∧ h ≤ 12 := by omega
  obtain ⟨m1, hm1⟩ : ∃ m, m = max hgt 1 := ⟨_, rfl⟩
  have hmx : ∀ ts t w, (Builtin.max_ ts t #[.int .i64 hgt, .int .i64 1]).run Try.prog w = .ok (.int .i64 m1) w := fun ts t w => by rw [hm1]; exact sk_max2 ts t _ _ w
  have hmn : ∀ ts t w, (Builtin.min_ ts t #[.int .i64 m1, .int .i64 12]).run Try.prog w = .ok (.int .i64 (h : Int)) w := fun ts t w => by rw [hh, ← hm1]; exact sk_min2 ts t _ _ w
  obtain ⟨O, hO⟩ : ∃ O, O = intsO (outL T q key 0) := ⟨_, rfl⟩
  have HO12 : Hid ((Try.prog.info? 61).map (·.size) = some O.size ∧ zlit12.size = O.size ∧ O.all (·.oneCell') = true) := Lib.hid (by
    rw [hO]
    exact ⟨info_12 _ (outL_len _ _ _ _), size_12 (List.replicate 12 0) _ rfl (outL_len _ _ _ _), one_12 _⟩)
  rw [← hO] at AH FI
  have HOO := Lib.hid hO
  obtain ⟨i0, hi, hz0, hz1, hz2⟩ := info_parts info_int7
  clear hM hL hfx hO hm1 hh
  go_enter Try.func9, Try.ntmps9
  go_upto_region 4 with (first | (go_at_call 25; (with_reducible refine AH.out.mono ?_); rintro e w1 ⟨rfl, st1, HM1, HC1⟩; have HZ : Hid ((w1.alloc (.cells zlit12 61)).heap[w1.heap.size]? = some (.cells zlit12 61 (0, 0))) := Lib.hid (heap_alloc_new _ _)) | (with_reducible refine wpList_store_row rfl 61 (.tmp 9) (.tmp 18) rfl w1.heap.size O rfl rfl 61 zlit12 HZ.out HO12.out.1 HO12.out.2.1 HO12.out.2.2 ?_))
  have hb1 : Below w1.heap.size w1 ((w1.alloc (.cells zlit12 61)).setRow w1.heap.size O) := below_setRow ((Below.refl _ _).alloc (Nat.le_refl _) _) _ _ (Nat.le_refl _)
  have h9 : ((w1.alloc (.cells zlit12 61)).setRow w1.heap.size O).heap[w1.heap.size]? = some (.cells O 61 (0, 0)) := setRow_heap _ _ _ _ _ _ HZ.out
  obtain ⟨b9, hb9⟩ : ∃ z, z = w1.heap.size := ⟨_, rfl⟩
  have hl9 : w.heap.size ≤ b9 := by rw [hb9]; exact HC1.out.size
  rw [← hb9] at h9 hb1 ⊢
  generalize (w1.alloc (.cells zlit12 61)).setRow b9 O = w2 at h9 hb1 ⊢
  rw [hb9] at hb1
  have HM2 := Lib.hid (HM1.out.1.moved hb1)
  have HC2 := Lib.hid (HC1.out.trans (Chg.ofBelow hb1))
  have HST := Lib.hid HM1.out.2
  have H9 := Lib.hid h9
  have HL9 := Lib.hid hl9
  clear hb1 h9 hb9 HZ HM1 HC1 AH hl9
  go_upto_region 11 with (first | (with_reducible refine wpList_load_row rfl 61 (.tmp 9) rfl b9 rfl 61 O (0, 0) _ H9.out Try.underlying61 rfl HO12.out.1 ?_) | (go_at_call 26; (with_reducible refine (FI.out _ _ HM2.out).mono ?_); rintro e w3 ⟨rfl, HB3⟩) | (go_at_call 11; (with_reducible refine (LE.out _ _ (HM2.out.moved HB3.out)).mono ?_); rintro e w4 ⟨rfl, hw4⟩; cases hw4))
  go_upto_region 12 with (refine wpList_make_full _ rfl (.tmp 59) (.tmp 59) 36 rfl w3.heap.size 3 i0 (.int .i64 0) 1 Try.underlying36 hi hz0 hz1 .i64 .i64 (h : Int) (h : Int) h rfl rfl rfl rfl (by rw [hz2]; omega) (by unfold maxLen; omega) (Nat.le_refl _) ?_; intro w5 hown hg; have HO := Lib.hid hown; have HG := Lib.hid hg; clear hown hg)
  have hM3 := HM2.out.moved HB3.out
  have hB35 : Below w3.heap.size w3 w5 := (Below.refl _ _).grown HG.out (Nat.le_refl _) (fun k h => by cases h)
  have hB5 : Below w5.heap.size w5 (w5.alloc (.cells (towC key value w3.heap.size h) 57)) := (Below.refl _ _).alloc (Nat.le_refl _) _
  have hnbk : w5.heap[w3.heap.size]? = some (.cells (intsO (newN T q key h 0)) 3 (0, 0)) := by
    have hx := own_full HO.out
    rw [show (Value.int .i64 0).cells = #[Value.int .i64 0] from rfl, toList_madeCells_one, Nat.mul_one] at hx
    rw [newN_zero, hx]; simp [intsO]
  have hs23 : w2.heap.size ≤ w3.heap.size := HB3.out.size
  have hs35 := hB35.size
  have hw2 : w.heap.size ≤ w2.heap.size := HC2.out.size
  have hP0 : PutS w (w5.alloc (.cells (towC key value w3.heap.size h) 57)) b sa cap T q key value bt st1 w3.heap.size h b9 w5.heap.size 0 := by
    refine ⟨(hM3.moved hB35).moved hB5, (hB5.block _ (heap_lt hnbk)).trans hnbk, ?_, heap_alloc_new _ _, ((HC2.out.toQ.trans (ChgQ.of_below HB3.out)).trans (ChgQ.of_below hB35)).trans (ChgQ.of_below hB5), by omega, HL9.out, by omega⟩
    have h3 := (HB3.out.block _ (heap_lt H9.out)).trans H9.out
    have h5 := (hB35.block _ (heap_lt h3)).trans h3
    rw [← HOO.out]
    exact (hB5.block _ (heap_lt h5)).trans h5
  have HP0 := Lib.hid hP0
  obtain ⟨nb, hnb⟩ : ∃ z, z = w3.heap.size := ⟨_, rfl⟩
  obtain ⟨b11, hb11⟩ : ∃ z, z = w5.heap.size := ⟨_, rfl⟩
  rw [← hnb, ← hb11] at HP0 ⊢
  generalize w5.alloc (.cells (towC key value nb h) 57) = w6 at HP0 ⊢
  clear hM3 hB35 hB5 hnbk hs23 hs35 hw2 hP0 hnb hb11 HO HG HB3 HM2 HC2 H9 HL9 HO12 FI LE hi hz0 hz1 hz2 hmx hmn
  obtain ⟨n, hn⟩ : ∃ n, n = T.length := ⟨_, rfl⟩
  have HN := Lib.hid hn
  have t2 : w6.cell? ⟨b11, 2, none⟩ = some (.slice (some ⟨nb, 0, none⟩) h h) := by rw [cell_of_row _ _ _ _ _ _ HP0.out.box]; rfl
  have hnl : n ≤ 60000 := by omega
  clear hn hTl hpos HOO
  go_wp2
  go_loopw [65] (fun v65 wr => ∃ k : Nat, k ≤ h ∧ v65 = .int .i64 (k : Int) ∧ Hid (PutS w wr b sa cap T q key value bt st1 nb h b9 b11 k)) (fun v _ => h - (intOf v).toNat)
  case atStart => exact ⟨0, Nat.zero_le _, rfl, HP0⟩
  case round =>
    obtain ⟨k, hk, rfl, HP⟩ := hrel
    clear HP0 t2
    by_cases hlt : k < h
    · obtain ⟨hik, hlv⟩ := ahead_on_level HL.out key k (by omega)
      have hikl : aheadI T q key k < (linkT T q key k).length := by rw [link_len]; exact hik
      have hlv2 : k < (linkT T q key k)[aheadI T q key k].nx.length := by
        have h1 := link_h (T := T) (q := q) (key := key) k (aheadI T q key k)
        rw [((HP.out.mem).key _ hikl).2.1] at h1
        rw [h1]; exact hlv
      obtain ⟨B, o, e, -, -, c2⟩ := HP.out.mem.tow _ hikl
      have c3 := HP.out.mem.next _ hikl k hlv2
      have hov : (linkT T q key k)[aheadI T q key k].nx[k] = nxAt T (aheadI T q key k) k := by
        rw [← ((HP.out.mem).key _ hikl).2.2 k hlv2, link_nx k _ k hlv, if_neg (by omega)]
      rw [hov] at c3
      have f3 := frozen_of_row _ _ k _ _ (HP.out.mem.nx _ (List.getElem_mem hikl))
      have fn := frozen_of_row _ _ k _ _ HP.out.nbk
      obtain ⟨onv, zn⟩ : ∃ x, wr.cell? ⟨nb, k, none⟩ = some (.int .i64 x) := ⟨_, by
        rw [cell_of_row _ _ _ _ _ _ HP.out.nbk, intsO_get, List.getElem?_eq_getElem (by simpa [newN] using hlt)]; rfl⟩
      have z9 : wr.cell? ⟨b9, k, none⟩ = some (.int .i64 ((aheadI T q key k : Nat) : Int)) := by
        rw [cell_of_row _ _ _ _ _ _ HP.out.arr, intsO_get, outL_get _ _ _ _ (by omega)]; rfl
      have t2 : wr.cell? ⟨b11, 2, none⟩ = some (.slice (some ⟨nb, 0, none⟩) h h) := by rw [cell_of_row _ _ _ _ _ _ HP.out.box]; rfl
      obtain ⟨d0, -, -⟩ := HP.out.mem.cells
      have HLINK := Lib.hid (fun (wx : World) (hx : PutS w wx b sa cap T q key value bt st1 nb h b9 b11 k) => hx.link HF.out hlt hikl)
      have hnbne : (linkT T q key k)[aheadI T q key k].nb ≠ nb := fun e => by
        have h1 := HF.out _ ((foot_link b sa T q key _ k).1 (.inr (.inr ⟨_, List.getElem_mem hikl, rfl⟩)))
        have h2 := HP.out.lnb
        omega
      obtain ⟨nbk, hnbk⟩ : ∃ z, z = (linkT T q key k)[aheadI T q key k].nb := ⟨_, rfl⟩
      obtain ⟨hhk, hhhk⟩ : ∃ z, z = (linkT T q key k)[aheadI T q key k].nx.length := ⟨_, rfl⟩
      obtain ⟨ov, hove⟩ : ∃ z, z = nxAt T (aheadI T q key k) k := ⟨_, rfl⟩
      rw [← hnbk] at c2 c3 f3 HLINK hnbne
      have hki : (k : Int) < (hhk : Int) := by rw [hhhk]; omega
      rw [← hhhk] at c2
      rw [← hove] at c3 HLINK
      rw [link_len, ← HN.out] at d0
      obtain ⟨ik, hike⟩ : ∃ z, z = aheadI T q key k := ⟨_, rfl⟩
      rw [← hike] at c2 z9 hik
      rw [← HN.out] at hik HLINK
      subst e
      have hiki : (ik : Int) < (n : Int) := by omega
      have hkh : (k : Int) < (h : Int) := by omega
      have hk12 : (k : Int) < 12 := by omega
      clear hov hnbk hhhk hove hike
      clear hlv2
      clear hikl hlv
      go_upto_region 15 with fail
      go_quiet (fail)
      go_upto_region 16 with fail
      go_region
      have hBW : Below wr.heap.size wr (wr.drewN (nq + 1)) := ((Drew.refl wr).step (nq + 1)).below
      have HPX := Lib.hid (HP.out.moved hBW)
      clear c2 c3 zn z9 t2 d0 f3 fn hBW
      go_wp2
      go_roundw
      case rel => exact ⟨k + 1, by omega, by go_num, Lib.hid (HLINK.out _ HPX.out)⟩
      case measure => simp [intOf]; omega
    · obtain rfl : k = h := by omega
      have hbox := HP.out.box
      obtain ⟨TL, hTL⟩ : ∃ z, z = linkT T q key k := ⟨_, rfl⟩
      have HTL := Lib.hid hTL
      have hMm := HP.out.mem
      rw [← hTL] at hMm
      have HM := Lib.hid hMm
      obtain ⟨d0, d1, d2⟩ := hMm.cells
      have t0 : wr.cell? ⟨b11, 0, none⟩ = some (.string key) := by rw [cell_of_row _ _ _ _ _ _ hbox]; rfl
      have t1 : wr.cell? ⟨b11, 1, none⟩ = some (.string value) := by rw [cell_of_row _ _ _ _ _ _ hbox]; rfl
      have t2 : wr.cell? ⟨b11, 2, none⟩ = some (.slice (some ⟨nb, 0, none⟩) k k) := by rw [cell_of_row _ _ _ _ _ _ hbox]; rfl
      have hTLl : TL.length ≤ 60000 := by rw [hTL, link_len, ← HN.out]; exact hnl
      have HR : Hid (∀ wx, Below wr.heap.size wr wx → SkM wx b sa cap TL bt st1 ∧ wx.heap[nb]? = some (.cells (intsO (newN T q key k k)) 3 (0, 0)) ∧ ChgQ (footS b sa T) w wx) := Lib.hid fun wx hB => ⟨hMm.moved hB, (hB.block _ (heap_lt HP.out.nbk)).trans HP.out.nbk, HP.out.chg.trans (ChgQ.of_below hB)⟩
      have HNE : Hid (∀ s ∈ TL, s.nb ≠ nb) := Lib.hid fun s hs e => by
        have h1 := HF.out s.nb ((foot_link b sa T q key _ k).1 (.inr (.inr ⟨s, by rw [← hTL]; exact hs, rfl⟩)))
        have h2 := HP.out.lnb
        omega
      have HFT : Hid (∀ j, ¬ footS b sa T j → ¬ footS b sa TL j) := Lib.hid fun j hj hh => hj ((foot_link b sa T q key j k).1 (by rw [← hTL]; exact hh))
      have HLN := Lib.hid HP.out.lnb
      have hB0 : Below wr.heap.size wr wr := Below.refl _ _
      have d0a : (wr.alloc (.cells #[.string key, .string value, .slice (some ⟨nb, 0, none⟩) k k] 57)).cell? ⟨b, 0, none⟩ = some (.slice sa TL.length cap) := (((Below.refl _ wr).alloc (Nat.le_refl _) _).cell (p := ⟨b, 0, none⟩) (cell_lt d0)).trans d0
      clear hTL hMm hbox HP HL HF
      go_upto_region 18 with fail
      go_region_law ((refine step_append_tow (by rfl) (.tmp 99) (.tmp 101) 58 (by rfl) Try.underlying58 info_tow _ b sa cap TL bt st1 (HR.out _ (by (repeat (first | exact Below.refl _ _ | assumption | apply below_drewN | (refine Below.setCell ?_ (by first | assumption | omega | (simp; try omega)) _) | (refine Below.alloc ?_ (by first | assumption | omega | (simp; try omega)) _))))).1 (by rfl) ⟨key, value, nb, newN T q key k k⟩ k (by simp [newN]) _ (by rfl) (heap_alloc_new _ _) ?_; intro g cap' w8 hA8; have HD := Lib.hid (hA8.done (HR.out _ (by (repeat (first | exact Below.refl _ _ | assumption | apply below_drewN | (refine Below.setCell ?_ (by first | assumption | omega | (simp; try omega)) _) | (refine Below.alloc ?_ (by first | assumption | omega | (simp; try omega)) _))))).1 (HR.out _ (by (repeat (first | exact Below.refl _ _ | assumption | apply below_drewN | (refine Below.setCell ?_ (by first | assumption | omega | (simp; try omega)) _) | (refine Below.alloc ?_ (by first | assumption | omega | (simp; try omega)) _))))).2.1 HNE.out hTLl); have HCG := Lib.hid ((HR.out _ (by (repeat (first | exact Below.refl _ _ | assumption | apply below_drewN | (refine Below.setCell ?_ (by first | assumption | omega | (simp; try omega)) _) | (refine Below.alloc ?_ (by first | assumption | omega | (simp; try omega)) _))))).2.2.trans (show ChgQ (footS b sa T) _ w8 from ⟨hA8.chg.os, hA8.chg.tape, hA8.chg.output, hA8.chg.size, fun j hj hq => hA8.chg.block j hj (HFT.out j hq)⟩)); have HLI := Lib.hid (hA8.lies.imp id fun hh => Nat.le_trans (HR.out _ (by (repeat (first | exact Below.refl _ _ | assumption | apply below_drewN | (refine Below.setCell ?_ (by first | assumption | omega | (simp; try omega)) _) | (refine Below.alloc ?_ (by first | assumption | omega | (simp; try omega)) _))))).2.2.size hh); have m0 : w8.cell? ⟨b, 0, none⟩ = some (.slice sa TL.length cap) := (by rw [cell_of_row _ _ _ _ _ _ hA8.own]; rfl); have m1 : w8.cell? ⟨b, 1, none⟩ = some (.int .i64 bt) := (by rw [cell_of_row _ _ _ _ _ _ hA8.own]; rfl); have f0 := frozen_of_row _ _ 0 _ _ hA8.own; have f1 := frozen_of_row _ _ 1 _ _ hA8.own; clear hA8))
      all_goals (
        clear d0 d0a d1 d2 t0 t1 t2
        go_wp2
        go_ret
        refine ⟨rfl, some ⟨g, 0, none⟩, cap', nb, st1, ?_, HST.out.1, HST.out.2, (HCG.out.trans (ChgQ.setCell _ _ _ _ (.inl rfl))).trans (ChgQ.setCell _ _ _ _ (.inl rfl)), HLN.out, fun j o e => ?_⟩
        (· unfold putT
           rw [← HTL.out]
           exact HD.out.setBytes (bt + ((key.size : Int) + (value.size : Int))))
        (· cases e
           exact HLI.out.imp (fun e => ⟨0, e⟩) id))
end Go.Proofs.Ytacgpflheokkaaa
