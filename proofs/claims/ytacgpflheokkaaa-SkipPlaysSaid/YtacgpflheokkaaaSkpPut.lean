/-
  skip's Put, of a key that is there: by contract.
-/
import Derived.Test.YtacgpflheokkaaaSkpNew
import Derived.Test.YtacgpflheokkaaaKept
import Derived.Test.YtacgpflheokkaaaRegPar
namespace Go.Proofs.Ytacgpflheokkaaa
open Go.RowKit
set_option linter.unusedVariables false
set_option linter.unusedSimpArgs false

/-- a list's blocks -/
def footS (b : Nat) (sa : Option Addr) (T : List TowM) (k : Nat) : Prop := k = b ∨ (∃ o, sa = some ⟨k, o, none⟩) ∨ ∃ r ∈ T, r.nb = k
theorem Chg.toQ {b : Nat} {sa : Option Addr} {T : List TowM} {w w' : World} (h : Chg b w w') : ChgQ (footS b sa T) w w' := ⟨h.os, h.tape, h.output, h.size, fun k hk hq => h.block k hk fun e => hq (.inl e)⟩
abbrev zlit12 : Array Value := #[.int .i64 0, .int .i64 0, .int .i64 0, .int .i64 0, .int .i64 0, .int .i64 0, .int .i64 0, .int .i64 0, .int .i64 0, .int .i64 0, .int .i64 0, .int .i64 0]
theorem foot_lt {w : World} {b : Nat} {sa : Option Addr} {cap : Nat} {T : List TowM} {bt st : Int} (h : SkM w b sa cap T bt st) : ∀ k, footS b sa T k → k < w.heap.size := by
  rintro k (rfl | ⟨o, e⟩ | ⟨r, hr, rfl⟩)
  · exact heap_lt h.own
  · obtain ⟨_, ⟨h1, _⟩ | ⟨g, c, cur, h1, _, h2, _⟩⟩ := h.row
    · subst e; cases h1
    · subst e; cases h1; exact heap_lt h2
  · exact heap_lt (h.nx r hr)
theorem SkM.row_frozen {w : World} {b : Nat} {sa : Option Addr} {cap : Nat} {T : List TowM} {bt st : Int} (h : SkM w b sa cap T bt st) {B o : Nat} (e : sa = some ⟨B, o, none⟩) (j : Nat) : w.frozen? ⟨B, j, none⟩ = false := by
  obtain ⟨_, ⟨h1, _⟩ | ⟨g, c, cur, h1, _, h2, _⟩⟩ := h.row
  · subst e; cases h1
  · subst e; cases h1; exact frozen_of_row _ _ j _ _ h2
theorem len_cons {n : Nat} {us : List Value} (h : us.length = n + 1) : ∃ x vs, us = x :: vs ∧ vs.length = n := by
  cases us with
  | nil => simp at h
  | cons x vs => exact ⟨x, vs, rfl, by simpa using h⟩
theorem len19 (us : List Value) (h : us.length = 19) : ∃ x0 x1 x2 x3 x4 x5 x6 x7 x8 x9 x10 x11 x12 x13 x14 x15 x16 x17 x18 : Value, us = [x0, x1, x2, x3, x4, x5, x6, x7, x8, x9, x10, x11, x12, x13, x14, x15, x16, x17, x18] := by
  obtain ⟨x0, v0, e0, h0⟩ := len_cons h
  obtain ⟨x1, v1, e1, h1⟩ := len_cons h0
  obtain ⟨x2, v2, e2, h2⟩ := len_cons h1
  obtain ⟨x3, v3, e3, h3⟩ := len_cons h2
  obtain ⟨x4, v4, e4, h4⟩ := len_cons h3
  obtain ⟨x5, v5, e5, h5⟩ := len_cons h4
  obtain ⟨x6, v6, e6, h6⟩ := len_cons h5
  obtain ⟨x7, v7, e7, h7⟩ := len_cons h6
  obtain ⟨x8, v8, e8, h8⟩ := len_cons h7
  obtain ⟨x9, v9, e9, h9⟩ := len_cons h8
  obtain ⟨x10, v10, e10, h10⟩ := len_cons h9
  obtain ⟨x11, v11, e11, h11⟩ := len_cons h10
  obtain ⟨x12, v12, e12, h12⟩ := len_cons h11
  obtain ⟨x13, v13, e13, h13⟩ := len_cons h12
  obtain ⟨x14, v14, e14, h14⟩ := len_cons h13
  obtain ⟨x15, v15, e15, h15⟩ := len_cons h14
  obtain ⟨x16, v16, e16, h16⟩ := len_cons h15
  obtain ⟨x17, v17, e17, h17⟩ := len_cons h16
  obtain ⟨x18, v18, e18, h18⟩ := len_cons h17
  have en := List.eq_nil_of_length_eq_zero h18
  subst en
  subst e18
  subst e17
  subst e16
  subst e15
  subst e14
  subst e13
  subst e12
  subst e11
  subst e10
  subst e9
  subst e8
  subst e7
  subst e6
  subst e5
  subst e4
  subst e3
  subst e2
  subst e1
  subst e0
  exact ⟨x0, x1, x2, x3, x4, x5, x6, x7, x8, x9, x10, x11, x12, x13, x14, x15, x16, x17, x18, rfl⟩
def FctSP (b B o n cap x : Nat) (bt : Int) (value old : ByteArray) : Nat → Value → World → Prop
  | 0, v, _ => v = .pointer (some ⟨b, 0, none⟩)
  | 1, v, _ => v = .pointer (some ⟨b, 0, none⟩)
  | 2, v, _ => v = .pointer (some ⟨b, 1, none⟩)
  | 3, v, _ => v = .int .i64 bt
  | 4, v, _ => v = .string value
  | 5, v, _ => v = .int .i64 (value.size : Int)
  | 6, v, _ => v = .pointer (some ⟨b, 0, none⟩)
  | 7, v, _ => v = .pointer (some ⟨b, 0, none⟩)
  | 8, v, _ => v = .pointer (some ⟨b, 0, none⟩)
  | 9, v, _ => v = .slice (some ⟨B, o, none⟩) n cap
  | 10, v, _ => v = .int .i64 (x : Int)
  | 11, v, _ => v = .pointer (some ⟨B, o + x * 3, none⟩)
  | 12, v, _ => v = .pointer (some ⟨B, o + x * 3 + 1, none⟩)
  | 13, v, _ => v = .string old
  | 14, v, _ => v = .int .i64 (old.size : Int)
  | 15, v, _ => v = .int .i64 ((value.size : Int) - (old.size : Int))
  | 16, v, _ => v = .int .i64 (bt + ((value.size : Int) - (old.size : Int)))
  | 17, v, _ => v = .pointer (some ⟨b, 0, none⟩)
  | 18, v, _ => v = .pointer (some ⟨b, 1, none⟩)
  | _, _, _ => True
theorem FctSP_moved (b B o n cap x : Nat) (bt : Int) (value old : ByteArray) (j : Nat) (v : Value) (w w' : World) (h : FctSP b B o n cap x bt value old j v w) (hb : Below w.heap.size w w') : FctSP b B o n cap x bt value old j v w' := by
  match j with
  | 0 | 1 | 2 | 3 | 4 | 5 | 6 | 7 | 8 | 9 | 10 | 11 | 12 | 13 | 14 | 15 | 16 | 17 | 18 | _ + 19 => exact h
set_option maxRecDepth 100000 in
set_option maxHeartbeats 16000000 in
theorem skip_put_old (b : Nat) (sa : Option Addr) (cap : Nat) (T : List TowM) (bt st : Int) (q : List Nat) (key value : ByteArray) (ht : Int) (x : Nat) (w : World) (hM : SkM w b sa cap T bt st) (hL : Lay T q) (hfx : findO T q key = some x)
    (hbt : 0 ≤ bt ∧ bt ≤ 1000000000000) (hv : value.size ≤ 1000000000) (hov : (valAt T x).size ≤ 1000000000) :
    Calls Try.prog 9 #[.pointer (some ⟨b, 0, none⟩), .string key, .string value, .int .i64 ht] w fun e w' => e = .returned (.int .i64 0) ∧
      ∃ st', SkM w' b sa cap (setV T x value) (bt + ((value.size : Int) - ((valAt T x).size : Int))) st' ∧ 0 ≤ st' ∧ st' ≤ (q.length : Int) + 12 ∧ ChgQ (footS b sa T) w w' := by
  have AH : Hid (Calls Try.prog 25 #[.pointer (some ⟨b, 0, none⟩), .string key] w fun e w' => e = .returned (.agg (intsO (outL T q key 0))) ∧ ∃ st', Hid (SkM w' b sa cap T bt st' ∧ 0 ≤ st' ∧ st' ≤ (q.length : Int) + 12) ∧ Hid (Chg b w w')) := Lib.hid
    ((skip_ahead b sa cap T bt st q key w hM hL).mono fun _ _ ⟨h1, st', h2, h3, h4, h5⟩ => ⟨h1, st', Lib.hid ⟨hM.chg h5 h4, h2, h3⟩, Lib.hid h5⟩)
  have FI : Hid (∀ st' wx, SkM wx b sa cap T bt st' → Calls Try.prog 26 #[.pointer (some ⟨b, 0, none⟩), .agg (intsO (outL T q key 0)), .string key] wx fun e w' => e = .returned (.int .i64 (x : Int)) ∧ Hid (Below wx.heap.size wx w')) := Lib.hid fun st' wx h =>
    (skip_find b sa cap T bt st' q key wx h hL).mono fun _ _ ⟨h1, h2⟩ => ⟨by rw [h1]; unfold findI; rw [hfx], Lib.hid h2⟩
  have hlen := hM.len
  obtain ⟨hxq, hxT, hxk⟩ := find_lt hL hfx
  have HF := Lib.hid (foot_lt hM)
  obtain ⟨old, hold⟩ : ∃ v, v = valAt T x := ⟨_, rfl⟩
  rw [← hold] at hov ⊢
  have HOL : Hid (old = T[x].value) := Lib.hid (by rw [hold]; simp [valAt, hxT])
  have hxi : (x : Int) < (T.length : Int) := by omega
  obtain ⟨O, hO⟩ : ∃ O, O = intsO (outL T q key 0) := ⟨_, rfl⟩
  have HO12 : Hid ((Try.prog.info? 61).map (·.size) = some O.size ∧ zlit12.size = O.size ∧ O.all (·.oneCell') = true) := Lib.hid (by
    rw [hO]
    exact ⟨info_12 _ (outL_len _ _ _ _), size_12 (List.replicate 12 0) _ rfl (outL_len _ _ _ _), one_12 _⟩)
  rw [← hO] at AH FI
  clear hM hL hfx hO hxq hxk hold
  go_enter Try.func9, Try.ntmps9
  go_upto_region 4 with (first | (go_at_call 25; (with_reducible refine AH.out.mono ?_); rintro e w1 ⟨rfl, st1, HM1, HC1⟩; have HZ : Hid ((w1.alloc (.cells zlit12 61)).heap[w1.heap.size]? = some (.cells zlit12 61 (0, 0))) := Lib.hid (heap_alloc_new _ _)) | (with_reducible refine wpList_store_row rfl 61 (.tmp 9) (.tmp 18) rfl w1.heap.size O rfl rfl 61 zlit12 HZ.out HO12.out.1 HO12.out.2.1 HO12.out.2.2 ?_))
  have hb1 : Below w1.heap.size w1 ((w1.alloc (.cells zlit12 61)).setRow w1.heap.size O) := below_setRow ((Below.refl _ _).alloc (Nat.le_refl _) _) _ _ (Nat.le_refl _)
  have h9 : ((w1.alloc (.cells zlit12 61)).setRow w1.heap.size O).heap[w1.heap.size]? = some (.cells O 61 (0, 0)) := setRow_heap _ _ _ _ _ _ HZ.out
  obtain ⟨b9, hb9⟩ : ∃ z, z = w1.heap.size := ⟨_, rfl⟩
  rw [← hb9] at h9 hb1 ⊢
  generalize (w1.alloc (.cells zlit12 61)).setRow b9 O = w2 at h9 hb1 ⊢
  rw [hb9] at hb1
  have HM2 := Lib.hid (HM1.out.1.moved hb1)
  have HC2 := Lib.hid (HC1.out.trans (Chg.ofBelow hb1))
  have HST := Lib.hid HM1.out.2
  have H9 := Lib.hid h9
  clear hb1 h9 hb9 HZ HM1 HC1 AH
  go_upto_region 6 with (first | (with_reducible refine wpList_load_row rfl 61 (.tmp 9) rfl b9 rfl 61 O (0, 0) _ H9.out Try.underlying61 rfl HO12.out.1 ?_) | (go_at_call 26; (with_reducible refine (FI.out _ _ HM2.out).mono ?_); rintro e w3 ⟨rfl, HB3⟩))
  have hM3 := HM2.out.moved HB3.out
  obtain ⟨B, o, rfl, x0, x1, x2⟩ := hM3.tow x hxT
  rw [← HOL.out] at x1
  obtain ⟨d0, d1, d2⟩ := hM3.cells
  have f1 := frozen_of_row _ _ 1 _ _ hM3.own
  have HM3 := Lib.hid hM3
  have HC3 := Lib.hid (HC2.out.trans (Chg.ofBelow HB3.out))
  obtain ⟨n, hn⟩ : ∃ n, n = T.length := ⟨_, rfl⟩
  have HN := Lib.hid hn
  rw [← hn] at d0 hxi hlen
  clear hM3 HM2 HC2 HB3 FI x0 x2 H9 HO12 hn hxT HOL
  refine wp_region_par 19 [25, 26, 27, 28, 29, 30, 31, 32, 33, 34, 35, 36, 37, 38, 39, 40, 41, 42, 43] [] (FctSP b B o n cap x bt value old) (by kernel_rfl) (by kernel_rfl) (FctSP_moved b B o n cap x bt value old) ?step ?tail
  case step =>
    intro i hi o ho us wx hus hB hdep K hK
    obtain ⟨u0, u1, u2, u3, u4, u5, u6, u7, u8, u9, u10, u11, u12, u13, u14, u15, u16, u17, u18, rfl⟩ := len19 us hus
    obtain rfl | rfl | rfl | rfl | rfl | rfl | rfl | rfl | rfl | rfl | rfl | rfl | rfl | rfl | rfl | rfl | rfl | rfl | rfl : i = 0 ∨ i = 1 ∨ i = 2 ∨ i = 3 ∨ i = 4 ∨ i = 5 ∨ i = 6 ∨ i = 7 ∨ i = 8 ∨ i = 9 ∨ i = 10 ∨ i = 11 ∨ i = 12 ∨ i = 13 ∨ i = 14 ∨ i = 15 ∨ i = 16 ∨ i = 17 ∨ i = 18 := by omega
    all_goals (simp only [List.getElem?_toArray, List.getElem?_cons_succ, List.getElem?_cons_zero, Option.some.injEq] at ho; subst ho; clear hi hus)
    all_goals (generalize hA : puts _ _ _ = A at hK ⊢)
    · have A0 : A.tmps[0]?.getD undef = .pointer (some ⟨b, 0, none⟩) := by rw [← hA]; kernel_rfl
      go_wp2
      exact hK _ _ _ rfl rfl (Below.refl _ _) (fun h => absurd h (by decide))
    · have q0 : u0 = .pointer (some ⟨b, 0, none⟩) := hdep 0 (by decide)
      have A25 : A.tmps[25]?.getD undef = u0 := by rw [← hA]; kernel_rfl
      rw [q0] at A25
      go_wp2
      exact hK _ _ _ rfl rfl (Below.refl _ _) (fun h => absurd h (by decide))
    · have q1 : u1 = .pointer (some ⟨b, 0, none⟩) := hdep 1 (by decide)
      have A26 : A.tmps[26]?.getD undef = u1 := by rw [← hA]; kernel_rfl
      rw [q1] at A26
      go_wp2
      exact hK _ _ _ rfl rfl (Below.refl _ _) (fun h => absurd h (by decide))
    · have q2 : u2 = .pointer (some ⟨b, 1, none⟩) := hdep 2 (by decide)
      have A27 : A.tmps[27]?.getD undef = u2 := by rw [← hA]; kernel_rfl
      rw [q2] at A27
      have z0 := (hB.cell (p := ⟨b, 1, none⟩) (cell_lt d1)).trans d1
      go_wp2
      exact hK _ _ _ rfl rfl (Below.refl _ _) (fun h => absurd h (by decide))
    · have A2 : A.tmps[2]?.getD undef = .string value := by rw [← hA]; kernel_rfl
      go_wp2
      exact hK _ _ _ rfl rfl (Below.refl _ _) (fun h => absurd h (by decide))
    · have q4 : u4 = .string value := hdep 4 (by decide)
      have A29 : A.tmps[29]?.getD undef = u4 := by rw [← hA]; kernel_rfl
      rw [q4] at A29
      go_wp2
      exact hK _ _ _ rfl rfl (Below.refl _ _) (fun h => absurd h (by decide))
    · have A0 : A.tmps[0]?.getD undef = .pointer (some ⟨b, 0, none⟩) := by rw [← hA]; kernel_rfl
      go_wp2
      exact hK _ _ _ rfl rfl (Below.refl _ _) (fun h => absurd h (by decide))
    · have q6 : u6 = .pointer (some ⟨b, 0, none⟩) := hdep 6 (by decide)
      have A31 : A.tmps[31]?.getD undef = u6 := by rw [← hA]; kernel_rfl
      rw [q6] at A31
      go_wp2
      exact hK _ _ _ rfl rfl (Below.refl _ _) (fun h => absurd h (by decide))
    · have q7 : u7 = .pointer (some ⟨b, 0, none⟩) := hdep 7 (by decide)
      have A32 : A.tmps[32]?.getD undef = u7 := by rw [← hA]; kernel_rfl
      rw [q7] at A32
      go_wp2
      exact hK _ _ _ rfl rfl (Below.refl _ _) (fun h => absurd h (by decide))
    · have q8 : u8 = .pointer (some ⟨b, 0, none⟩) := hdep 8 (by decide)
      have A33 : A.tmps[33]?.getD undef = u8 := by rw [← hA]; kernel_rfl
      rw [q8] at A33
      have z0 := (hB.cell (p := ⟨b, 0, none⟩) (cell_lt d0)).trans d0
      go_wp2
      exact hK _ _ _ rfl rfl (Below.refl _ _) (fun h => absurd h (by decide))
    · have A10 : A.tmps[10]?.getD undef = .int .i64 (x : Int) := by rw [← hA]; kernel_rfl
      go_wp2
      exact hK _ _ _ rfl rfl (Below.refl _ _) (fun h => absurd h (by decide))
    · have q9 : u9 = .slice (some ⟨B, o, none⟩) n cap := hdep 9 (by decide)
      have A34 : A.tmps[34]?.getD undef = u9 := by rw [← hA]; kernel_rfl
      rw [q9] at A34
      have q10 : u10 = .int .i64 (x : Int) := hdep 10 (by decide)
      have A35 : A.tmps[35]?.getD undef = u10 := by rw [← hA]; kernel_rfl
      rw [q10] at A35
      go_wp2
      exact hK _ _ _ rfl rfl (Below.refl _ _) (fun h => absurd h (by decide))
    · have q11 : u11 = .pointer (some ⟨B, o + x * 3, none⟩) := hdep 11 (by decide)
      have A36 : A.tmps[36]?.getD undef = u11 := by rw [← hA]; kernel_rfl
      rw [q11] at A36
      go_wp2
      exact hK _ _ _ rfl rfl (Below.refl _ _) (fun h => absurd h (by decide))
    · have q12 : u12 = .pointer (some ⟨B, o + x * 3 + 1, none⟩) := hdep 12 (by decide)
      have A37 : A.tmps[37]?.getD undef = u12 := by rw [← hA]; kernel_rfl
      rw [q12] at A37
      have z0 := (hB.cell (p := ⟨B, o + x * 3 + 1, none⟩) (cell_lt x1)).trans x1
      go_wp2
      exact hK _ _ _ rfl rfl (Below.refl _ _) (fun h => absurd h (by decide))
    · have q13 : u13 = .string old := hdep 13 (by decide)
      have A38 : A.tmps[38]?.getD undef = u13 := by rw [← hA]; kernel_rfl
      rw [q13] at A38
      go_wp2
      exact hK _ _ _ rfl rfl (Below.refl _ _) (fun h => absurd h (by decide))
    · have q5 : u5 = .int .i64 (value.size : Int) := hdep 5 (by decide)
      have A30 : A.tmps[30]?.getD undef = u5 := by rw [← hA]; kernel_rfl
      rw [q5] at A30
      have q14 : u14 = .int .i64 (old.size : Int) := hdep 14 (by decide)
      have A39 : A.tmps[39]?.getD undef = u14 := by rw [← hA]; kernel_rfl
      rw [q14] at A39
      go_wp2
      exact hK _ _ _ rfl rfl (Below.refl _ _) (fun h => absurd h (by decide))
    · have q3 : u3 = .int .i64 bt := hdep 3 (by decide)
      have A28 : A.tmps[28]?.getD undef = u3 := by rw [← hA]; kernel_rfl
      rw [q3] at A28
      have q15 : u15 = .int .i64 ((value.size : Int) - (old.size : Int)) := hdep 15 (by decide)
      have A40 : A.tmps[40]?.getD undef = u15 := by rw [← hA]; kernel_rfl
      rw [q15] at A40
      go_wp2
      exact hK _ _ _ rfl rfl (Below.refl _ _) (fun h => absurd h (by decide))
    · have q0 : u0 = .pointer (some ⟨b, 0, none⟩) := hdep 0 (by decide)
      have A25 : A.tmps[25]?.getD undef = u0 := by rw [← hA]; kernel_rfl
      rw [q0] at A25
      go_wp2
      exact hK _ _ _ rfl rfl (Below.refl _ _) (fun h => absurd h (by decide))
    · have q17 : u17 = .pointer (some ⟨b, 0, none⟩) := hdep 17 (by decide)
      have A42 : A.tmps[42]?.getD undef = u17 := by rw [← hA]; kernel_rfl
      rw [q17] at A42
      go_wp2
      exact hK _ _ _ rfl rfl (Below.refl _ _) (fun h => absurd h (by decide))
  case tail =>
    intro us wx hus hB hf hne
    obtain ⟨u0, u1, u2, u3, u4, u5, u6, u7, u8, u9, u10, u11, u12, u13, u14, u15, u16, u17, u18, rfl⟩ := len19 us hus
    have q42 : u18 = .pointer (some ⟨b, 1, none⟩) := hf 18 (by decide)
    have q41 : u16 = .int .i64 (bt + ((value.size : Int) - (old.size : Int))) := hf 16 (by decide)
    subst q42 q41
    have HBX := Lib.hid hB
    clear hf hne hus hB
    simp only [puts, Act.put, List.setIfInBounds_toArray, List.set_cons_succ, List.set_cons_zero, List.drop_succ_cons, List.drop_zero, List.drop_nil]
    have hM4 := HM3.out.moved HBX.out
    obtain ⟨e0, e1, e2⟩ := hM4.cells
    rw [← HN.out] at e0
    have g1 := frozen_of_row _ _ 1 _ _ hM4.own
    have y1 := (HBX.out.cell (p := ⟨B, o + x * 3 + 1, none⟩) (cell_lt x1)).trans x1
    have gB := hM4.row_frozen rfl (o + x * 3 + 1)
    have hBb := hM4.ne_row rfl
    have HM4 := Lib.hid hM4
    clear hM4 d0 d1 d2 f1 x1 HM3
    go_wp2
    go_ret
    refine ⟨rfl, st1, (HM4.out.setBytes _).setVal rfl (by rw [← HN.out]; omega) value, HST.out.1, HST.out.2, ?_⟩
    exact ((HC3.out.toQ.trans (ChgQ.of_below HBX.out)).trans (ChgQ.setCell _ _ _ _ (.inl rfl))).trans (ChgQ.setCell _ _ _ _ (.inr (.inl ⟨_, rfl⟩)))
end Go.Proofs.Ytacgpflheokkaaa
