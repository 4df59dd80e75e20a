/-
  A batch's bytes, by contract.
-/
import Derived.Test.YthhgijjdddcchaaBatChk
import Derived.Test.YthhgijjdddcchaaBldK
import Derived.Test.YthhgijjdddcchaaRegPar
namespace Go.Proofs.Ythhgijjdddcchaa
open Go.RowKit
set_option linter.unusedVariables false
set_option linter.unusedSimpArgs false

def oneB (c : ChangeR) : List UInt8 := UInt8.ofNat c.kind.toNat :: (numL c.key.size ++ c.key.data.toList ++ if c.kind = 1 then numL c.value.size ++ c.value.data.toList else [])
def bytesL (l : List ChangeR) : List UInt8 := l.flatMap oneB
def preB (seq : Int) (n : Nat) : List UInt8 := leL 8 seq.toNat ++ numL n
def bytesB (seq : Int) (l : List ChangeR) : List UInt8 := preB seq l.length ++ bytesL l
theorem badC_none {c : ChangeR} (h : badC c = 0) : (c.kind = 1 ∨ c.kind = 2) ∧ 0 < c.key.size ∧ c.key.size ≤ 200 ∧ c.value.size ≤ 4096 ∧ (c.kind = 2 → c.value.size = 0) := by
  unfold badC at h
  split at h
  · omega
  · split at h
    · omega
    · split at h
      · omega
      · rename_i h1 h2 h3
        refine ⟨by omega, by omega, by omega, by omega, fun h4 => by omega⟩
theorem oneB_len {c : ChangeR} (h : badC c = 0) : (oneB c).length ≤ 5000 := by
  obtain ⟨_, h1, h2, h3, _⟩ := badC_none h
  have e1 := numL_len64 c.key.size (by omega)
  have e2 := numL_len64 c.value.size (by omega)
  have e3 : c.key.data.toList.length = c.key.size := by simp
  have e4 : c.value.data.toList.length = c.value.size := by simp
  unfold oneB
  split <;> simp only [List.length_cons, List.length_append, List.length_nil] <;> omega
theorem bytesL_len : ∀ l : List ChangeR, (∀ c ∈ l, badC c = 0) → (bytesL l).length ≤ 5000 * l.length
  | [], _ => by simp [bytesL]
  | c :: l, h => by
    have h1 := bytesL_len l (fun d hd => h d (List.mem_cons_of_mem _ hd))
    have h2 := oneB_len (h c List.mem_cons_self)
    show (oneB c ++ bytesL l).length ≤ _
    rw [List.length_append, List.length_cons]
    omega
theorem preB_len (seq : Int) (n : Nat) (h : n ≤ 2000) : (preB seq n).length ≤ 18 := by
  unfold preB
  rw [List.length_append, leL_length]
  have := numL_len64 n (by omega)
  omega
theorem preB_ne (seq : Int) (n : Nat) (r : List UInt8) : preB seq n ++ r ≠ [] := by
  intro e
  have := congrArg List.length e
  unfold preB at this
  simp only [List.length_append, leL_length, List.length_nil] at this
  omega
theorem bytesL_take (l : List ChangeR) (k : Nat) (h : k < l.length) : bytesL (l.take (k + 1)) = bytesL (l.take k) ++ oneB l[k] := by
  unfold bytesL
  rw [List.take_succ_eq_append_getElem h, List.flatMap_append, List.flatMap_cons, List.flatMap_nil, List.append_nil]
theorem checkB_none {seq : Int} {l : List ChangeR} (h : checkB seq l = 0) : l.length ≤ 2000 ∧ badL l = 0 ∧ seq ≤ 72057594037927935 ∧ (0 < l.length → seq + (l.length : Int) - 1 ≤ 72057594037927935) := by
  unfold checkB at h
  split at h
  · omega
  · split at h
    · omega
    · split at h
      · omega
      · rename_i h1 h2 h3
        exact ⟨by omega, by omega, by omega, fun h4 => by omega⟩
theorem conv_cell (wx : World) (B : Nat) (b : UInt8) (h : wx.heap[B]? = some (.cells #[.int .u8 (b.toNat : Int)] 5 (0, 0))) : (convert 40 9 (.slice (some ⟨B, 0, none⟩) 1 1)).run Try.prog wx = .ok (.string (str [b])) wx := by
  have h := run_convert_bytes_arg (P := Try.prog) wx 40 5 Try.underlying40 Try.underlying5 B 0 1 1 [(b.toNat : Int)] rfl (fun i hi => by
    obtain rfl : i = 0 := by omega
    rw [cell_of_row _ _ _ _ _ _ h]; rfl) 9 Try.underlying9
  rw [h]
  have e : strOfNums [(b.toNat : Int)] = str [b] := strOf_u8 [b]
  rw [e]
theorem wide_num (s t : List UInt8) : str s ++ str t = str (s ++ t) := str_append s t
theorem cells3_of {w : World} {h : Nat} {k : Int} {s v : ByteArray} (hk : w.heap[h]? = some (.cells (cells3 k s v) 35 (0, 0))) : w.cell? ⟨h, 0, none⟩ = some (.int .i64 k) ∧ w.cell? ⟨h, 1, none⟩ = some (.string s) ∧ w.cell? ⟨h, 2, none⟩ = some (.string v) := by
  refine ⟨?_, ?_, ?_⟩ <;> (rw [cell_of_row _ _ _ _ _ _ hk]; rfl)
def FctB5P (seq : Int) (n h1 cap : Nat) (sa : Option Addr) : Nat → Value → Prop
  | 0, v => v = .pointer (some ⟨h1, 0, none⟩)
  | 1, v => v = .int .u64 seq
  | 2, v => v = .string (str (leL 8 seq.toNat))
  | 3, v => v = .pointer (some ⟨h1, 1, none⟩)
  | 4, v => v = .slice sa (n : Nat) cap
  | 5, v => v = .int .i64 (n : Int)
  | 6, v => v = .int .u64 (n : Int)
  | 7, v => v = .string (str (numL n))
  | 8, v => v = .string (str (preB seq n))
  | _, _ => True
def FctB5 (seq : Int) (n h1 cap : Nat) (sa : Option Addr) (j : Nat) (v : Value) (_ : World) : Prop := FctB5P seq n h1 cap sa j v
theorem FctB5_moved (seq : Int) (n h1 cap : Nat) (sa : Option Addr) (j : Nat) (v : Value) (w w' : World) (h : FctB5 seq n h1 cap sa j v w) (hb : Below w.heap.size w w') : FctB5 seq n h1 cap sa j v w' := h
def FctB9 (kd : Int) (kb : UInt8) (ky : ByteArray) (cb : Nat) : Nat → Value → World → Prop
  | 0, v, w => v = .pointer (some ⟨cb, 0, none⟩)
  | 1, v, w => v = .int .i64 kd
  | 2, v, w => v = .int .u8 (kb.toNat : Int)
  | 3, v, w => ∃ B, v = .slice (some ⟨B, 0, none⟩) 1 1 ∧ w.heap[B]? = some (.cells #[.int .u8 (kb.toNat : Int)] 5 (0, 0))
  | 4, v, w => v = .string (str [kb])
  | 5, v, w => v = .pointer (some ⟨cb, 1, none⟩)
  | 6, v, w => v = .string ky
  | 7, v, w => v = .string (str (numL ky.size) ++ ky)
  | 8, v, w => v = .string (str [kb] ++ (str (numL ky.size) ++ ky))
  | _, _, _ => True
theorem FctB9_moved (kd : Int) (kb : UInt8) (ky : ByteArray) (cb : Nat) (j : Nat) (v : Value) (w w' : World) (h : FctB9 kd kb ky cb j v w) (hb : Below w.heap.size w w') : FctB9 kd kb ky cb j v w' := by
  match j with
  | 3 => obtain ⟨B, h1, h2⟩ := h; exact ⟨B, h1, (hb.block _ (heap_lt h2)).trans h2⟩
  | 0 | 1 | 2 | 4 | 5 | 6 | 7 | 8 | _ + 9 => exact h
theorem len9 (us : List Value) (h : us.length = 9) : ∃ x0 x1 x2 x3 x4 x5 x6 x7 x8 : Value, us = [x0, x1, x2, x3, x4, x5, x6, x7, x8] := by
  match us, h with
  | [x0, x1, x2, x3, x4, x5, x6, x7, x8], _ => exact ⟨x0, x1, x2, x3, x4, x5, x6, x7, x8, rfl⟩
set_option maxRecDepth 100000 in
set_option maxHeartbeats 8000000 in
theorem batch_bytes_bad (seq : Int) (l : List ChangeR) (A : Option Addr) (cap : Nat) (w : World) (h0 : 0 ≤ seq) (h1 : seq < 18446744073709551616) (hr : RowsAt w A 3 ChangeR.row l) (hlen : l.length ≤ 1000000000) (hbad : ¬ checkB seq l = 0) :
    Calls Try.prog 6 #[.agg #[.int .u64 seq, .slice A l.length cap]] w fun e w' => e = .returned (.tuple #[.string ⟨#[]⟩, .int .i64 (checkB seq l)]) ∧ Below w.heap.size w w' := by
  have CK : Hid (∀ wx, Below w.heap.size w wx → Calls Try.prog 10 #[.agg #[.int .u64 seq, .slice A l.length cap]] wx fun e w' => e = .returned (.int .i64 (checkB seq l)) ∧ Below w.heap.size w w') := Lib.hid fun wx hB =>
    (batch_check seq l A cap wx h0 h1 (hr.moved hB) hlen).mono fun _ _ ⟨g1, g2⟩ => ⟨g1, below_at hB g2⟩
  obtain ⟨t, ht⟩ : ∃ t, t = checkB seq l := ⟨_, rfl⟩
  rw [← ht] at CK hbad ⊢
  obtain ⟨x0, x1⟩ := ne_bb hbad
  clear hr ht hbad
  go_enter Try.func6, Try.ntmps6
  go_wp2_with (go_at_call 10; (refine (CK.out _ (by (repeat (first | exact Below.refl _ _ | assumption | apply below_drewN | (refine Below.alloc ?_ (by first | assumption | omega | (simp; try omega)) _))))).mono ?_); rintro e w1 ⟨rfl, hB1⟩)
  go_ret2
  exact ⟨rfl, hB1⟩

set_option maxRecDepth 100000 in
set_option maxHeartbeats 8000000 in
theorem batch_bytes_ok (seq : Int) (l : List ChangeR) (sa : Option Addr) (cap : Nat) (w : World) (h0 : 0 ≤ seq) (h1 : seq < 18446744073709551616) (hr : RowsAt w sa 3 ChangeR.row l) (hok : checkB seq l = 0) :
    Calls Try.prog 6 #[.agg #[.int .u64 seq, .slice sa l.length cap]] w fun e w' => e = .returned (.tuple #[.string (str (bytesB seq l)), .int .i64 0]) ∧ Below w.heap.size w w' := by
  obtain ⟨hl2, hbl, hsq, -⟩ := checkB_none hok
  have CK : Hid (∀ wx, Below w.heap.size w wx → Calls Try.prog 10 #[.agg #[.int .u64 seq, .slice sa l.length cap]] wx fun e w' => e = .returned (.int .i64 0) ∧ Below w.heap.size w w' ∧ Hid (Below wx.heap.size wx w')) := Lib.hid fun wx hB =>
    (batch_check seq l sa cap wx h0 h1 (hr.moved hB) (by omega)).mono fun _ _ ⟨g1, g2⟩ => ⟨by rw [g1, hok], below_at hB g2, Lib.hid g2⟩
  have HR := Lib.hid hr
  have HBC := Lib.hid (badL_le hbl)
  have HWD : Hid (∀ wx, Calls Try.prog 12 #[.int .u64 seq] wx fun e w' => e = .returned (.string (str (leL 8 seq.toNat))) ∧ Below wx.heap.size wx w') := Lib.hid fun wx => varint_wide seq wx h0 h1
  have HNM : Hid (∀ wx, Calls Try.prog 13 #[.int .u64 (l.length : Int)] wx fun e w' => e = .returned (.string (str (numL l.length))) ∧ Below wx.heap.size wx w') := Lib.hid fun wx => by
    have h := varint_num (l.length : Int) wx (by omega) (by omega)
    rw [Int.toNat_natCast] at h
    exact h
  have hz8 : Hid ((str (leL 8 seq.toNat)).size = 8) := Lib.hid (by rw [str_size, leL_length])
  have hz9 : Hid ((str (numL l.length)).size ≤ 10) := Lib.hid (by rw [str_size]; exact numL_len64 _ (by omega))
  have HPL := Lib.hid (preB_len seq l.length hl2)
  clear hr hbl hok
  go_enter Try.func6, Try.ntmps6
  go_upto_region 5 with (go_at_call 10; (refine (CK.out _ (by (repeat (first | exact Below.refl _ _ | assumption | apply below_drewN | (refine Below.alloc ?_ (by first | assumption | omega | (simp; try omega)) _))))).mono ?_); rintro e w1 ⟨rfl, hB1, hB1'⟩; have HB1 := Lib.hid hB1; clear hB1)
  have hk1 := (hB1'.out.block _ (heap_lt (heap_alloc_new w (.cells #[.int .u64 seq, .slice sa (l.length : Nat) cap] 27)))).trans (heap_alloc_new w (.cells #[.int .u64 seq, .slice sa (l.length : Nat) cap] 27))
  have hk2 := (Below.heap_alloc w1 (.cells #[.pointer none, .slice none 0 0] 42) _ (heap_lt hk1)).trans hk1
  have hW2 : Below w.heap.size w (w1.alloc (.cells #[.pointer none, .slice none 0 0] 42)) := HB1.out.alloc HB1.out.size _
  have hBl := Bld.fresh w1 w1.heap.size (Nat.le_refl _)
  have hlt1 : w.heap.size < w1.heap.size := heap_lt hk1
  have hs2 : (w1.alloc (.cells #[.pointer none, .slice none 0 0] 42)).heap.size = w1.heap.size + 1 := by simp
  generalize w1.alloc (.cells #[.pointer none, .slice none 0 0] 42) = w2 at hk2 hW2 hBl hs2 ⊢
  clear hk1 hB1' HB1 CK
  generalize w1.heap.size = b0 at hBl hlt1 hs2 ⊢
  have k0 : w2.cell? ⟨w.heap.size, 0, none⟩ = some (.int .u64 seq) := by rw [cell_of_row _ _ _ _ _ _ hk2]; rfl
  have k1 : w2.cell? ⟨w.heap.size, 1, none⟩ = some (.slice sa (l.length : Nat) cap) := by rw [cell_of_row _ _ _ _ _ _ hk2]; rfl
  obtain ⟨n, hn⟩ : ∃ n, n = l.length := ⟨_, rfl⟩
  obtain ⟨h1, hh1⟩ : ∃ h, h = w.heap.size := ⟨_, rfl⟩
  have HW2 := Lib.hid hW2
  have HBL := Lib.hid hBl
  have HH := Lib.hid hh1
  have HN := Lib.hid hn
  rw [← hh1] at k0 k1 hlt1 ⊢
  rw [← hn] at k1 HNM hz9 HPL hl2 ⊢
  clear hk2 hW2 hBl hh1 hn
  refine wp_region_par 9 [13, 14, 15, 16, 17, 18, 19, 20, 21] [] (FctB5 seq n h1 cap sa) (by kernel_rfl) (by kernel_rfl) (FctB5_moved _ _ _ _ _) ?step ?tail
  case step =>
    intro i hi o ho us wx hus hB hdep K hK
    obtain ⟨u0, u1, u2, u3, u4, u5, u6, u7, u8, rfl⟩ := len9 us hus
    obtain rfl | rfl | rfl | rfl | rfl | rfl | rfl | rfl | rfl : i = 0 ∨ i = 1 ∨ i = 2 ∨ i = 3 ∨ i = 4 ∨ i = 5 ∨ i = 6 ∨ i = 7 ∨ i = 8 := by omega
    all_goals (simp only [List.getElem?_toArray, List.getElem?_cons_succ, List.getElem?_cons_zero, Option.some.injEq] at ho; subst ho; clear hi hus)
    all_goals (generalize hA : puts _ _ _ = A at hK ⊢)
    · have A1 : A.tmps[1]?.getD undef = .pointer (some ⟨h1, 0, none⟩) := by rw [← hA]; kernel_rfl
      go_wp2
      exact hK _ _ _ rfl rfl (Below.refl _ _) (fun h => absurd h (by decide))
    · have q0 : u0 = .pointer (some ⟨h1, 0, none⟩) := hdep 0 (by decide)
      have A13 : A.tmps[13]?.getD undef = u0 := by rw [← hA]; kernel_rfl
      rw [q0] at A13
      have e0 := (hB.cell (p := ⟨h1, 0, none⟩) (cell_lt k0)).trans k0
      go_wp2
      exact hK _ _ _ rfl rfl (Below.refl _ _) (fun h => absurd h (by decide))
    · have q1 : u1 = .int .u64 seq := hdep 1 (by decide)
      have A14 : A.tmps[14]?.getD undef = u1 := by rw [← hA]; kernel_rfl
      rw [q1] at A14
      go_wp2_with (go_at_call 12; (with_reducible refine (HWD.out _).mono ?_); rintro e wy ⟨rfl, hBy⟩)
      exact hK _ _ _ rfl rfl hBy (fun h => absurd h (by decide))
    · have A1 : A.tmps[1]?.getD undef = .pointer (some ⟨h1, 0, none⟩) := by rw [← hA]; kernel_rfl
      go_wp2
      exact hK _ _ _ rfl rfl (Below.refl _ _) (fun h => absurd h (by decide))
    · have q3 : u3 = .pointer (some ⟨h1, 1, none⟩) := hdep 3 (by decide)
      have A16 : A.tmps[16]?.getD undef = u3 := by rw [← hA]; kernel_rfl
      rw [q3] at A16
      have e1 := (hB.cell (p := ⟨h1, 1, none⟩) (cell_lt k1)).trans k1
      go_wp2
      exact hK _ _ _ rfl rfl (Below.refl _ _) (fun h => absurd h (by decide))
    · have q4 : u4 = .slice sa (n : Nat) cap := hdep 4 (by decide)
      have A17 : A.tmps[17]?.getD undef = u4 := by rw [← hA]; kernel_rfl
      rw [q4] at A17
      go_wp2
      exact hK _ _ _ rfl rfl (Below.refl _ _) (fun h => absurd h (by decide))
    · have q5 : u5 = .int .i64 (n : Int) := hdep 5 (by decide)
      have A18 : A.tmps[18]?.getD undef = u5 := by rw [← hA]; kernel_rfl
      rw [q5] at A18
      go_wp2
      exact hK _ _ _ rfl rfl (Below.refl _ _) (fun h => absurd h (by decide))
    · have q6 : u6 = .int .u64 (n : Int) := hdep 6 (by decide)
      have A19 : A.tmps[19]?.getD undef = u6 := by rw [← hA]; kernel_rfl
      rw [q6] at A19
      go_wp2_with (go_at_call 13; (with_reducible refine (HNM.out _).mono ?_); rintro e wy ⟨rfl, hBy⟩)
      exact hK _ _ _ rfl rfl hBy (fun h => absurd h (by decide))
    · have q2 : u2 = .string (str (leL 8 seq.toNat)) := hdep 2 (by decide)
      have A15 : A.tmps[15]?.getD undef = u2 := by rw [← hA]; kernel_rfl
      rw [q2] at A15
      have q7 : u7 = .string (str (numL n)) := hdep 7 (by decide)
      have A20 : A.tmps[20]?.getD undef = u7 := by rw [← hA]; kernel_rfl
      rw [q7] at A20
      have z8 := hz8.out
      have z9 := hz9.out
      go_wp2
      exact hK _ _ _ rfl (by show Value.string _ = _; rw [str_append]; rfl) (Below.refl _ _) (fun h => absurd h (by decide))
  case tail =>
    intro us wx hus hB hf hne
    obtain ⟨u0, u1, u2, u3, u4, u5, u6, u7, u8, rfl⟩ := len9 us hus
    have q : u8 = .string (str (preB seq n)) := hf 8 (by decide)
    subst q
    have HBW := Lib.hid hB
    clear hf hne hus
    simp only [puts, Act.put, List.setIfInBounds_toArray, List.set_cons_succ, List.set_cons_zero, List.drop_succ_cons, List.drop_zero]
    have WS0 : Hid (Calls Try.prog 11 #[.pointer (some ⟨b0, 0, none⟩), .string (str (preB seq n))] wx fun e w' => e = .returned (.tuple #[.int .i64 (str (preB seq n)).size, .nilIface]) ∧ Bld b0 b0 (preB seq n) w' ∧ Below b0 wx w') := Lib.hid (by
      have h := bld_str b0 b0 [] (str (preB seq n)) wx (HBL.out.moved HBW.out) (by rw [str_size]; have := HPL.out; simp; omega) (by have := HBW.out.size; omega)
      rw [str_data, List.nil_append] at h
      exact h)
    have e1 := (hB.cell (p := ⟨h1, 1, none⟩) (cell_lt k1)).trans k1
    have hBB := hB
    clear hB
    go_wp2_with (go_at_call 11; (with_reducible refine (WS0.out).mono ?_); rintro e w3 ⟨rfl, hBl3, hB3⟩; have e2 := (hB3.cell (p := ⟨h1, 1, none⟩) hlt1).trans e1)
    have HBR : Hid (Below w.heap.size w w3) := Lib.hid ((HW2.out.trans (HBW.out.mono HW2.out.size)).trans (hB3.mono (by have := HH.out; omega)))
    have HB03 := Lib.hid (hB3.size)
    have HBX := Lib.hid (Nat.le_trans HBW.out.size hB3.size)
    clear e1 hBB WS0 HWD HNM k0 k1 hB3
    go_loopw [26] (fun v26 wr => ∃ k : Nat, k ≤ n ∧ v26 = .int .i64 (k : Int) ∧ Hid (Bld b0 b0 (preB seq n ++ bytesL (l.take k)) wr) ∧ Below b0 w3 wr) (fun v _ => n - (intOf v).toNat)
    case atStart => exact ⟨0, by omega, rfl, Lib.hid (by rw [List.take_zero]; simpa [bytesL] using hBl3), Below.refl _ _⟩
    case round =>
      obtain ⟨k, hk, rfl, HBk, hBr⟩ := hrel
      have HBRr : Hid (Below w.heap.size w wr) := Lib.hid (HBR.out.trans (hBr.mono (by have := HH.out; omega)))
      have HBRB := Lib.hid hBr
      by_cases hlt : k < n
      · have hlt' : k < l.length := by have := HN.out; omega
        obtain ⟨b, o, rfl, c0, c1, c2⟩ := change_cells (HR.out.moved HBRr.out) k hlt'
        have hbk := HBC.out _ (List.getElem_mem hlt')
        obtain ⟨hkk, -, hky, hvl, -⟩ := badC_none hbk
        have HT2 := Lib.hid (bytesL_take l k hlt')
        have HBL5 := Lib.hid (bytesL_len (l.take k) (fun c hc => HBC.out c (List.mem_of_mem_take hc)))
        have HTL : Hid ((l.take k).length ≤ 2000) := Lib.hid (by rw [List.length_take]; omega)
        obtain ⟨acc, hacc⟩ : ∃ acc, acc = preB seq n ++ bytesL (l.take k) := ⟨_, rfl⟩
        have HAL : Hid (acc.length ≤ 100000000) := Lib.hid (by
          rw [hacc, List.length_append]; have := HPL.out; have := HBL5.out; have := HTL.out; omega)
        rw [← hacc] at HBk
        have HAC := Lib.hid hacc
        obtain ⟨kd, hkd0⟩ : ∃ x, x = l[k].kind := ⟨_, rfl⟩
        obtain ⟨ky, hky0⟩ : ∃ x, x = l[k].key := ⟨_, rfl⟩
        obtain ⟨vl, hvl0⟩ : ∃ x, x = l[k].value := ⟨_, rfl⟩
        have HLK : Hid (l[k] = ⟨kd, ky, vl⟩) := Lib.hid (by rw [hkd0, hky0, hvl0])
        rw [← hkd0] at c0 hkk; rw [← hky0] at c1 hky; rw [← hvl0] at c2 hvl
        clear hkd0 hky0 hvl0 hacc hbk hBr
        obtain ⟨kb, hkb⟩ : ∃ kb : UInt8, kb = UInt8.ofNat kd.toNat := ⟨_, rfl⟩
        have hkd : Hid ((kd = 1 ∧ kb = 1) ∨ (kd = 2 ∧ kb = 2)) := Lib.hid (by
          rcases hkk with e | e
          · left; subst e; exact ⟨rfl, hkb⟩
          · right; subst e; exact ⟨rfl, hkb⟩)
        have HKB := Lib.hid hkb
        clear hkb hkk
        have HTX : Hid (∀ wx, Calls Try.prog 14 #[.string ky] wx fun e w' => e = .returned (.string (str (numL ky.size) ++ ky)) ∧ Below wx.heap.size wx w') := Lib.hid fun wx => varint_text ky wx (by omega)
        have HTV : Hid (∀ wx, Calls Try.prog 14 #[.string vl] wx fun e w' => e = .returned (.string (str (numL vl.size) ++ vl)) ∧ Below wx.heap.size wx w') := Lib.hid fun wx => varint_text vl wx (by omega)
        have hz8 : Hid ((str [kb]).size = 1) := Lib.hid (by rw [str_size]; rfl)
        have hz9 : Hid ((str (numL ky.size)).size ≤ 10) := Lib.hid (by rw [str_size]; exact numL_len64 _ (by omega))
        have hz10 : Hid ((str (numL vl.size)).size ≤ 10) := Lib.hid (by rw [str_size]; exact numL_len64 _ (by omega))
        have hwb := HBk.out.le
        go_upto_region 9 with fail
        have hk5 := heap_alloc_new wr (.cells #[.int .i64 kd, .string ky, .string vl] 35)
        have hB5 : Below wr.heap.size wr (wr.alloc (.cells #[.int .i64 kd, .string ky, .string vl] 35)) := (Below.refl _ _).alloc (Nat.le_refl _) _
        have HBk5 := Lib.hid (HBk.out.moved hB5)
        have HB5 := Lib.hid hB5
        generalize wr.alloc (.cells #[.int .i64 kd, .string ky, .string vl] 35) = w5 at hk5 HBk5 HB5 ⊢
        obtain ⟨cb, hcb⟩ : ∃ h, h = wr.heap.size := ⟨_, rfl⟩
        have HCB := Lib.hid hcb
        rw [← hcb] at hk5 ⊢
        obtain ⟨k0, k1, k2⟩ := cells3_of hk5
        have HK5 := Lib.hid hk5
        clear hcb hk5 hB5 c0 c1 c2
        refine wp_region_par 9 [30, 31, 32, 33, 34, 35, 36, 37, 38] [] (FctB9 kd kb ky cb) (by kernel_rfl) (by kernel_rfl) (FctB9_moved _ _ _ _) ?step ?tail
        case step =>
          intro i hi o ho us wx hus hB hdep K hK
          obtain ⟨u0, u1, u2, u3, u4, u5, u6, u7, u8, rfl⟩ := len9 us hus
          obtain rfl | rfl | rfl | rfl | rfl | rfl | rfl | rfl | rfl : i = 0 ∨ i = 1 ∨ i = 2 ∨ i = 3 ∨ i = 4 ∨ i = 5 ∨ i = 6 ∨ i = 7 ∨ i = 8 := by omega
          all_goals (simp only [List.getElem?_toArray, List.getElem?_cons_succ, List.getElem?_cons_zero, Option.some.injEq] at ho; subst ho; clear hi hus)
          all_goals (generalize hA : puts _ _ _ = A at hK ⊢)
          · have A7 : A.tmps[7]?.getD undef = .pointer (some ⟨cb, 0, none⟩) := by rw [← hA]; kernel_rfl
            go_wp2
            exact hK _ _ _ rfl rfl (Below.refl _ _) (fun h => absurd h (by decide))
          · have q0 : u0 = .pointer (some ⟨cb, 0, none⟩) := hdep 0 (by decide)
            have A30 : A.tmps[30]?.getD undef = u0 := by rw [← hA]; kernel_rfl
            rw [q0] at A30
            have e0 := (hB.cell (p := ⟨cb, 0, none⟩) (cell_lt k0)).trans k0
            go_wp2
            exact hK _ _ _ rfl rfl (Below.refl _ _) (fun h => absurd h (by decide))
          · have q1 : u1 = .int .i64 kd := hdep 1 (by decide)
            have A31 : A.tmps[31]?.getD undef = u1 := by rw [← hA]; kernel_rfl
            rw [q1] at A31
            rcases hkd.out with ⟨rfl, rfl⟩ | ⟨rfl, rfl⟩
            all_goals (go_wp2; exact hK _ _ _ rfl rfl (Below.refl _ _) (fun h => absurd h (by decide)))
          · have q2 : u2 = .int .u8 (kb.toNat : Int) := hdep 2 (by decide)
            have A32 : A.tmps[32]?.getD undef = u2 := by rw [← hA]; kernel_rfl
            rw [q2] at A32
            go_wp2
            exact hK _ _ _ rfl ⟨_, rfl, heap_alloc_new _ _⟩ ((Below.refl _ _).alloc (Nat.le_refl _) _) (fun h => absurd h (by decide))
          · obtain ⟨B3, q3, hb3⟩ : ∃ B, u3 = .slice (some ⟨B, 0, none⟩) 1 1 ∧ wx.heap[B]? = some (.cells #[.int .u8 (kb.toNat : Int)] 5 (0, 0)) := hdep 3 (by decide)
            have A33 : A.tmps[33]?.getD undef = u3 := by rw [← hA]; kernel_rfl
            rw [q3] at A33
            have hcv := conv_cell wx B3 kb hb3
            go_wp2
            exact hK _ _ _ rfl rfl (Below.refl _ _) (fun h => absurd h (by decide))
          · have A7 : A.tmps[7]?.getD undef = .pointer (some ⟨cb, 0, none⟩) := by rw [← hA]; kernel_rfl
            go_wp2
            exact hK _ _ _ rfl rfl (Below.refl _ _) (fun h => absurd h (by decide))
          · have q5 : u5 = .pointer (some ⟨cb, 1, none⟩) := hdep 5 (by decide)
            have A35 : A.tmps[35]?.getD undef = u5 := by rw [← hA]; kernel_rfl
            rw [q5] at A35
            have e0 := (hB.cell (p := ⟨cb, 1, none⟩) (cell_lt k1)).trans k1
            go_wp2
            exact hK _ _ _ rfl rfl (Below.refl _ _) (fun h => absurd h (by decide))
          · have q6 : u6 = .string ky := hdep 6 (by decide)
            have A36 : A.tmps[36]?.getD undef = u6 := by rw [← hA]; kernel_rfl
            rw [q6] at A36
            go_wp2_with (go_at_call 14; (with_reducible refine (HTX.out _).mono ?_); rintro e wy ⟨rfl, hBy⟩)
            exact hK _ _ _ rfl rfl hBy (fun h => absurd h (by decide))
          · have q4 : u4 = .string (str [kb]) := hdep 4 (by decide)
            have A34 : A.tmps[34]?.getD undef = u4 := by rw [← hA]; kernel_rfl
            rw [q4] at A34
            have q7 : u7 = .string (str (numL ky.size) ++ ky) := hdep 7 (by decide)
            have A37 : A.tmps[37]?.getD undef = u7 := by rw [← hA]; kernel_rfl
            rw [q7] at A37
            have z8 := hz8.out
            have z9 := hz9.out
            go_wp2
            exact hK _ _ _ rfl rfl (Below.refl _ _) (fun h => absurd h (by decide))
        case tail =>
          intro us wx hus hB hf hne
          obtain ⟨u0, u1, u2, u3, u4, u5, u6, u7, u8, rfl⟩ := len9 us hus
          have q : u8 = .string (str [kb] ++ (str (numL ky.size) ++ ky)) := hf 8 (by decide)
          subst q
          have HBW9 := Lib.hid hB
          clear hf hne hus
          simp only [puts, Act.put, List.setIfInBounds_toArray, List.set_cons_succ, List.set_cons_zero, List.drop_succ_cons, List.drop_zero]
          have hkdne : cb ≠ b0 := by have := HCB.out; omega
          have WS9 : Hid (Calls Try.prog 11 #[.pointer (some ⟨b0, 0, none⟩), .string (str [kb] ++ (str (numL ky.size) ++ ky))] wx fun e w' => e = .returned (.tuple #[.int .i64 (str [kb] ++ (str (numL ky.size) ++ ky)).size, .nilIface]) ∧ Hid (Bld b0 b0 (acc ++ (kb :: (numL ky.size ++ ky.data.toList))) w') ∧ Below b0 wx w' ∧ w'.heap[cb]? = some (.cells (cells3 kd ky vl) 35 (0, 0))) := Lib.hid (by
            have h := bld_str_kept b0 b0 acc (str [kb] ++ (str (numL ky.size) ++ ky)) wx (HBk5.out.moved HBW9.out) (by
              have h1 := HAL.out; have h2 := hz8.out; have h3 := hz9.out
              rw [ByteArray.size_append, ByteArray.size_append]; omega) (by have h1 := HBW9.out.size; have h2 := HB5.out.size; omega)
            have e : (str [kb] ++ (str (numL ky.size) ++ ky)).data.toList = kb :: (numL ky.size ++ ky.data.toList) := by
              simp [str]
            rw [e] at h
            exact h.mono fun _ _ ⟨g1, g2, g3, g4⟩ => ⟨g1, Lib.hid g2, g3, g4 cb _ _ _ ((HBW9.out.block _ (heap_lt HK5.out)).trans HK5.out) (by decide) hkdne⟩)
          have HB5x : Hid (Below b0 wr wx) := Lib.hid ((HB5.out.mono (by omega)).trans (HBW9.out.mono (by have h2 := HB5.out.size; omega)))
          clear hB k0 k1 k2
          rcases hkd.out with ⟨rfl, rfl⟩ | ⟨rfl, rfl⟩
          · have HONE : Hid (oneB l[k] = (1 :: (numL ky.size ++ ky.data.toList)) ++ (numL vl.size ++ vl.data.toList)) := Lib.hid (by rw [HLK.out]; unfold oneB; simp)
            have WSV : Hid (∀ wy, Bld b0 b0 (acc ++ (1 :: (numL ky.size ++ ky.data.toList))) wy → b0 ≤ wy.heap.size → Calls Try.prog 11 #[.pointer (some ⟨b0, 0, none⟩), .string (str (numL vl.size) ++ vl)] wy fun e w' => e = .returned (.tuple #[.int .i64 (str (numL vl.size) ++ vl).size, .nilIface]) ∧ Hid (Bld b0 b0 (acc ++ oneB l[k]) w') ∧ Below b0 wy w') := Lib.hid fun wy hb hs => by
              have h := bld_str b0 b0 _ (str (numL vl.size) ++ vl) wy hb (by
                have h1 := HAL.out; have h2 := hz10.out; have h3 := hz9.out
                rw [str_size] at h2 h3
                rw [ByteArray.size_append, str_size, List.length_append, List.length_cons, List.length_append]
                have e3 : ky.data.toList.length = ky.size := by simp
                omega) hs
              have e : (str (numL vl.size) ++ vl).data.toList = numL vl.size ++ vl.data.toList := by simp [str]
              rw [e, List.append_assoc, ← HONE.out] at h
              exact h.mono fun _ _ ⟨g1, g2, g3⟩ => ⟨g1, Lib.hid g2, g3⟩
            have hwx : b0 ≤ wx.heap.size := by have := HB5x.out.size; omega
            go_wp2_with (first | (go_at_call 11; (with_reducible refine (WS9.out).mono ?_); rintro e w6 ⟨rfl, HB6, hB6, hk6⟩; obtain ⟨m0, m1, m2⟩ := cells3_of hk6; have hwx6 := Nat.le_trans hwx hB6.size; clear WS9) | (go_at_call 14; (with_reducible refine (HTV.out _).mono ?_); rintro e w7 ⟨rfl, hB7⟩; have hB7' := hB7.mono hwx6; have hwx7 := Nat.le_trans hwx6 hB7.size; have hbl7 := HB6.out.moved hB7) | (go_at_call 11; (with_reducible refine (WSV.out _ hbl7 hwx7).mono ?_); rintro e w8 ⟨rfl, HB8, hB8⟩))
            go_roundw
            case rel => exact ⟨k + 1, by omega, by go_num, Lib.hid (by rw [HT2.out, ← List.append_assoc, ← HAC.out]; exact HB8.out), HBRB.out.trans ((HB5x.out.trans hB6).trans (hB7'.trans hB8))⟩
            case measure => simp [intOf]; omega
          · have HONE : Hid (oneB l[k] = (2 :: (numL ky.size ++ ky.data.toList))) := Lib.hid (by rw [HLK.out]; unfold oneB; simp)
            go_wp2_with (go_at_call 11; (with_reducible refine (WS9.out).mono ?_); rintro e w6 ⟨rfl, HB6, hB6, hk6⟩; obtain ⟨m0, m1, m2⟩ := cells3_of hk6; clear WS9)
            go_roundw
            case rel => exact ⟨k + 1, by omega, by go_num, Lib.hid (by rw [HT2.out, ← List.append_assoc, ← HAC.out, HONE.out]; exact HB6.out), HBRB.out.trans (HB5x.out.trans hB6)⟩
            case measure => simp [intOf]; omega
      · obtain rfl : k = n := by omega
        have HSTR : Hid (Calls Try.prog 15 #[.pointer (some ⟨b0, 0, none⟩)] wr fun e w' => e = .returned (.string (str (bytesB seq l))) ∧ Below b0 wr w') := Lib.hid (by
          have h := bld_string b0 b0 _ wr HBk.out (preB_ne _ _ _)
          rw [List.take_of_length_le (by have := HN.out; omega), HN.out] at h
          exact h)
        go_wp2_with (go_at_call 15; (with_reducible refine (HSTR.out).mono ?_); rintro e w6 ⟨rfl, hB6⟩)
        go_ret2
        exact ⟨rfl, HBRr.out.trans (hB6.mono (by have := HH.out; omega))⟩

theorem batch_bytes (seq : Int) (l : List ChangeR) (A : Option Addr) (cap : Nat) (w : World) (h0 : 0 ≤ seq) (h1 : seq < 18446744073709551616) (hr : RowsAt w A 3 ChangeR.row l) (hlen : l.length ≤ 1000000000) :
    Calls Try.prog 6 #[.agg #[.int .u64 seq, .slice A l.length cap]] w fun e w' => e = .returned (.tuple #[.string (if checkB seq l = 0 then str (bytesB seq l) else ⟨#[]⟩), .int .i64 (checkB seq l)]) ∧ Below w.heap.size w w' := by
  by_cases h : checkB seq l = 0
  · have := batch_bytes_ok seq l A cap w h0 h1 hr h
    rw [if_pos h, h]; exact this
  · have := batch_bytes_bad seq l A cap w h0 h1 hr hlen h
    rw [if_neg h]; exact this
end Go.Proofs.Ythhgijjdddcchaa
