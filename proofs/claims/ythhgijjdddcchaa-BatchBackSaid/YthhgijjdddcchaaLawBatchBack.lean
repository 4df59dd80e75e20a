/-
  The walk of BatchBack: what is written is read as it was; what is read would be written so; of another number, or with a change more, it is another one.
-/
import Derived.Test.YthhgijjdddcchaaBatAwake
import Derived.Test.YthhgijjdddcchaaBatSame
import Derived.Test.YthhgijjdddcchaaAppFull
import Derived.Test.YthhgijjdddcchaaRegPar
namespace Go.Proofs.Ythhgijjdddcchaa
open Go.RowKit
set_option linter.unusedVariables false
set_option linter.unusedSimpArgs false

def zeroC : ChangeR := ⟨0, ByteArray.empty, ByteArray.empty⟩
theorem cells2b {w : World} {h : Nat} {k : Int} {s : Value} {t : TypeId} (hk : w.heap[h]? = some (.cells #[.int .u64 k, s] t (0, 0))) : w.cell? ⟨h, 0, none⟩ = some (.int .u64 k) ∧ w.cell? ⟨h, 1, none⟩ = some s := by
  refine ⟨?_, ?_⟩ <;> (rw [cell_of_row _ _ _ _ _ _ hk]; rfl)
theorem wanted_b {ops : Array Oper} {tmps : Array Value} {o : Oper} {j : Nat} {d : Tmp} {b : Bool} (hg : o.guard = some (j, b)) (hd : (ops[j]?).bind (·.dst) = some d) (h : tmps[d]?.getD undef = .bool b) : Region.wanted o (yielded ops tmps) = true := by
  unfold Region.wanted yielded
  rw [hg]
  simp only [hd, Option.bind_some]
  cases hv : tmps[d]? with
  | none => rw [hv] at h; cases h
  | some v => rw [hv] at h; simp only [Option.getD_some] at h; subst h; cases b <;> rfl
theorem wpList_free {P : Program} {ops : Array Oper} {Q : Exit → Act → World → Prop} {o : Oper} {a : Act} {w : World} (hw : Region.wanted o (yielded ops a.tmps) = true) (h : wpList P ops Q [{ o with guard := none }] a w) : wpList P ops Q [o] a w := by
  unfold wpList at h ⊢
  rw [if_pos hw]
  rw [if_pos (by simp [Region.wanted])] at h
  exact h
theorem len_cons {n : Nat} {us : List Value} (h : us.length = n + 1) : ∃ x vs, us = x :: vs ∧ vs.length = n := by
  cases us with
  | nil => simp at h
  | cons x vs => exact ⟨x, vs, rfl, by simpa using h⟩
theorem len31 (us : List Value) (h : us.length = 31) : ∃ x0 x1 x2 x3 x4 x5 x6 x7 x8 x9 x10 x11 x12 x13 x14 x15 x16 x17 x18 x19 x20 x21 x22 x23 x24 x25 x26 x27 x28 x29 x30 : Value, us = [x0, x1, x2, x3, x4, x5, x6, x7, x8, x9, x10, x11, x12, x13, x14, x15, x16, x17, x18, x19, x20, x21, x22, x23, x24, x25, x26, x27, x28, x29, x30] := by
  obtain ⟨x0, v0, e0, h0⟩ := len_cons h
  obtain ⟨x1, v1, e1, h1⟩ := len_cons h0
  obtain ⟨x2, v2, e2, h2⟩ := len_cons h1
  obtain ⟨x3, v3, e3, h3⟩ := len_cons h2
  obtain ⟨x4, v4, e4, h4⟩ := len_cons h3
  obtain ⟨x5, v5, e5, h5⟩ := len_cons h4
  obtain ⟨x6, v6, e6, h6⟩ := len_cons h5
  obtain ⟨x7, v7, e7, h7⟩ := len_cons h6
  obtain ⟨x8, v8, e8, h8⟩ := len_cons h7
  obtain ⟨x9, v9, e9, h9⟩ := len_cons h8
  obtain ⟨x10, v10, e10, h10⟩ := len_cons h9
  obtain ⟨x11, v11, e11, h11⟩ := len_cons h10
  obtain ⟨x12, v12, e12, h12⟩ := len_cons h11
  obtain ⟨x13, v13, e13, h13⟩ := len_cons h12
  obtain ⟨x14, v14, e14, h14⟩ := len_cons h13
  obtain ⟨x15, v15, e15, h15⟩ := len_cons h14
  obtain ⟨x16, v16, e16, h16⟩ := len_cons h15
  obtain ⟨x17, v17, e17, h17⟩ := len_cons h16
  obtain ⟨x18, v18, e18, h18⟩ := len_cons h17
  obtain ⟨x19, v19, e19, h19⟩ := len_cons h18
  obtain ⟨x20, v20, e20, h20⟩ := len_cons h19
  obtain ⟨x21, v21, e21, h21⟩ := len_cons h20
  obtain ⟨x22, v22, e22, h22⟩ := len_cons h21
  obtain ⟨x23, v23, e23, h23⟩ := len_cons h22
  obtain ⟨x24, v24, e24, h24⟩ := len_cons h23
  obtain ⟨x25, v25, e25, h25⟩ := len_cons h24
  obtain ⟨x26, v26, e26, h26⟩ := len_cons h25
  obtain ⟨x27, v27, e27, h27⟩ := len_cons h26
  obtain ⟨x28, v28, e28, h28⟩ := len_cons h27
  obtain ⟨x29, v29, e29, h29⟩ := len_cons h28
  obtain ⟨x30, v30, e30, h30⟩ := len_cons h29
  have en := List.eq_nil_of_length_eq_zero h30
  subst en
  subst e30
  subst e29
  subst e28
  subst e27
  subst e26
  subst e25
  subst e24
  subst e23
  subst e22
  subst e21
  subst e20
  subst e19
  subst e18
  subst e17
  subst e16
  subst e15
  subst e14
  subst e13
  subst e12
  subst e11
  subst e10
  subst e9
  subst e8
  subst e7
  subst e6
  subst e5
  subst e4
  subst e3
  subst e2
  subst e1
  subst e0
  exact ⟨x0, x1, x2, x3, x4, x5, x6, x7, x8, x9, x10, x11, x12, x13, x14, x15, x16, x17, x18, x19, x20, x21, x22, x23, x24, x25, x26, x27, x28, x29, x30, rfl⟩
def FctBB (q q1 : Int) (l : List ChangeR) (sa : Option Addr) (cap : Nat) (sx : Option Addr) (cx : Nat) : Nat → Value → World → Prop
  | 0, v, _ => v = .int .i64 0
  | 1, v, _ => v = .bool false
  | 2, v, _ => v = .bool false
  | 3, v, _ => v = .agg #[.int .u64 q, .slice sx l.length cx]
  | 4, v, _ => v = .agg #[.int .u64 q, .slice sa l.length cap]
  | 5, v, _ => v = .bool true
  | 6, v, _ => v = .bool false
  | 7, v, _ => v = .bool false
  | 8, v, _ => v = .bool false
  | 9, v, _ => v = .agg #[.int .u64 q, .slice sa l.length cap]
  | 10, v, _ => v = .int .u64 q
  | 11, v, _ => v = .int .u64 q1
  | 12, v, _ => v = .slice sa l.length cap
  | 13, v, _ => v = .agg #[.int .u64 q1, .slice sa l.length cap]
  | 14, v, _ => v = .bool false
  | 15, v, _ => v = .bool false
  | 16, v, _ => v = .bool false
  | 17, v, _ => v = .agg #[.int .u64 q, .slice sa l.length cap]
  | 18, v, _ => v = .int .u64 q
  | 19, v, _ => v = .slice sa l.length cap
  | 20, v, _ => v = .slice sa l.length cap
  | 21, v, _ => v = .int .i64 (l.length : Int)
  | 22, v, _ => v = .slice sa l.length cap
  | 23, v, _ => v = .int .i64 (l.length : Int)
  | 24, v, _ => v = .slice sa l.length l.length
  | 25, v, _ => v = .agg (cells3 0 ByteArray.empty ByteArray.empty)
  | 26, v, w => ∃ B, v = .slice (some ⟨B, 0, none⟩) 1 1 ∧ w.heap[B]? = some (.cells (cells3 0 ByteArray.empty ByteArray.empty) 35 (0, 0))
  | 27, v, w => ∃ g c, v = .slice (some ⟨g, 0, none⟩) (l.length + 1) c ∧ RowsAt w (some ⟨g, 0, none⟩) 3 ChangeR.row (l ++ [zeroC])
  | 28, v, w => ∃ g c, v = .agg #[.int .u64 q, .slice (some ⟨g, 0, none⟩) (l.length + 1) c] ∧ RowsAt w (some ⟨g, 0, none⟩) 3 ChangeR.row (l ++ [zeroC])
  | 29, v, _ => v = .bool false
  | 30, v, _ => v = .bool false
  | _, _, _ => True
theorem FctBB_moved (q q1 : Int) (l : List ChangeR) (sa : Option Addr) (cap : Nat) (sx : Option Addr) (cx : Nat) (j : Nat) (v : Value) (w w' : World) (h : FctBB q q1 l sa cap sx cx j v w) (hb : Below w.heap.size w w') : FctBB q q1 l sa cap sx cx j v w' := by
  match j with
  | 26 => obtain ⟨B, h0, hp0⟩ := h; exact ⟨B, h0, (hb.block _ (heap_lt hp0)).trans hp0⟩
  | 27 => obtain ⟨g, c, h0, hp0⟩ := h; exact ⟨g, c, h0, hp0.moved hb⟩
  | 28 => obtain ⟨g, c, h0, hp0⟩ := h; exact ⟨g, c, h0, hp0.moved hb⟩
  | 0 | 1 | 2 | 3 | 4 | 5 | 6 | 7 | 8 | 9 | 10 | 11 | 12 | 13 | 14 | 15 | 16 | 17 | 18 | 19 | 20 | 21 | 22 | 23 | 24 | 25 | 29 | 30 | _ + 31 => exact h
set_option maxRecDepth 100000 in
set_option maxHeartbeats 16000000 in
theorem BatchBack_walk (q : Int) (sa : Option Addr) (l : List ChangeR) (cap : Nat) (s : ByteArray) (W : World) (wq : (Lit.int .u64 q).wf = true) (hr : RowsAt W sa 3 ChangeR.row l) (hg : ∀ r ∈ l, r.good) (hb : l.length ≤ cap) (hm : cap ≤ maxLen) (ws : s.size ≤ 140737488351232) :
    Calls Try.prog 3 #[.int .u64 q, .slice sa l.length cap, .string s] W fun e w' => e = .returned (.bool true) ∧ Below W.heap.size W w' := by
  obtain ⟨g0, g1⟩ := wfU64 wq
  have hlm : l.length ≤ 9223372036854775807 := Nat.le_trans hb hm
  have HR := Lib.hid hr
  have HBI : Hid ((l.length : Int) ≤ (cap : Int)) := Lib.hid (by omega)
  have AW : Hid (∀ wx, Below W.heap.size W wx → Calls Try.prog 4 #[] wx fun e w' => e = .returned (.bool true) ∧ Below W.heap.size W w') := Lib.hid fun wx h => (awake06 wx).mono fun _ _ ⟨h1, h2⟩ => ⟨h1, below_at h h2⟩
  have hW0 : Below W.heap.size W W := Below.refl _ _
  by_cases hl : LightB l
  case neg =>
    have LT : Hid (∀ wx, Below W.heap.size W wx → Calls Try.prog 5 #[.slice sa l.length cap] wx fun e w' => e = .returned (.bool false) ∧ Below W.heap.size W w') := Lib.hid fun wx h =>
      (batch_light l sa cap wx (hr.moved h) hlm).mono fun _ _ ⟨b, h1, h2, h3⟩ => ⟨by rw [h1]; cases b with
        | false => rfl
        | true => exact absurd (h2.1 rfl) hl, below_at h h3⟩
    clear hr hg hb hm wq hlm hl
    go_enter Try.func3, Try.ntmps3
    go_wp2_with (first | (go_at_call 4; (with_reducible refine (AW.out _ (by assumption)).mono ?_); rintro e w1 ⟨rfl, hB1⟩) | (go_at_call 5; (with_reducible refine (LT.out _ (by assumption)).mono ?_); rintro e w2 ⟨rfl, hB2⟩))
    go_ret
    exact ⟨rfl, hB2⟩
  have LT : Hid (∀ wx, Below W.heap.size W wx → Calls Try.prog 5 #[.slice sa l.length cap] wx fun e w' => e = .returned (.bool true) ∧ Below W.heap.size W w') := Lib.hid fun wx h =>
    (batch_light l sa cap wx (hr.moved h) hlm).mono fun _ _ ⟨b, h1, h2, h3⟩ => ⟨by rw [h1, h2.2 hl], below_at h h3⟩
  have hl60 : l.length ≤ 60 := by
    cases l with
    | nil => simp
    | cons c t => exact (hl c List.mem_cons_self).1
  clear hl hlm
  by_cases hs5 : 5000 < s.size
  · clear hr hg hb hm wq hl60
    go_enter Try.func3, Try.ntmps3
    go_wp2_with (first | (go_at_call 4; (with_reducible refine (AW.out _ (by assumption)).mono ?_); rintro e w1 ⟨rfl, hB1⟩) | (go_at_call 5; (with_reducible refine (LT.out _ (by assumption)).mono ?_); rintro e w2 ⟨rfl, hB2⟩))
    go_ret
    exact ⟨rfl, hB2⟩
  -- the batch's own bytes
  obtain ⟨ec, hec⟩ : ∃ x, x = checkB q l := ⟨_, rfl⟩
  obtain ⟨T, hT⟩ : ∃ x : ByteArray, x = if ec = 0 then str (bytesB q l) else ⟨#[]⟩ := ⟨_, rfl⟩
  have BY : Hid (∀ wx, Below W.heap.size W wx → Calls Try.prog 6 #[.agg #[.int .u64 q, .slice sa l.length cap]] wx fun e w' => e = .returned (.tuple #[.string T, .int .i64 ec]) ∧ Below W.heap.size W w' ∧ Hid (Below wx.heap.size wx w')) := Lib.hid fun wx h => by
    by_cases h0 : ec = 0
    · rw [hT, if_pos h0, h0]
      exact (batch_bytes_ok q l sa cap wx g0 g1 (hr.moved h) (by rw [← hec, h0])).mono fun _ _ ⟨h1, h2⟩ => ⟨h1, below_at h h2, Lib.hid h2⟩
    · rw [hT, if_neg h0, hec]
      exact (batch_bytes_bad q l sa cap wx g0 g1 (hr.moved h) (by omega) (by rw [← hec]; exact h0)).mono fun _ _ ⟨h1, h2⟩ => ⟨h1, below_at h h2, Lib.hid h2⟩
  have PA : Hid (ec = 0 → ∀ wx, Below W.heap.size W wx → Calls Try.prog 7 #[.string T] wx fun e w' => ∃ a c, e = .returned (.tuple #[.agg #[.int .u64 q, .slice a l.length c], .int .i64 0]) ∧ Hid (RowsAt w' a 3 ChangeR.row l) ∧ Below W.heap.size W w' ∧ Hid (Below wx.heap.size wx w')) := Lib.hid fun h0 wx h => by
    have hok : checkB q l = 0 := by rw [← hec, h0]
    obtain ⟨hl2, hbl, _, _⟩ := checkB_none hok
    have hsz : T.size ≤ 140737488351232 := by
      rw [hT, if_pos h0, str_size]
      unfold bytesB
      have e1 := bytesL_len l (badL_le hbl)
      have e2 := preB_len q l.length hl2
      rw [List.length_append]
      omega
    have hp := batch_parse T wx hsz
    rw [hT, if_pos h0, parse_fwd q l g0 g1 hok] at hp
    rw [hT, if_pos h0]
    exact hp.mono fun _ _ ⟨a, c, h1, h2, h3⟩ => ⟨a, c, h1, Lib.hid h2, below_at h h3, Lib.hid h3⟩
  -- what the bytes s are
  obtain ⟨x2, hx2⟩ : ∃ x, x = (parseB s).1 := ⟨_, rfl⟩
  obtain ⟨m2, hm2⟩ : ∃ x, x = (parseB s).2.1 := ⟨_, rfl⟩
  obtain ⟨e2, he2⟩ : ∃ x, x = (parseB s).2.2 := ⟨_, rfl⟩
  have P2 : Hid (∀ wx, Below W.heap.size W wx → Calls Try.prog 7 #[.string s] wx fun e w' => ∃ a c, e = .returned (.tuple #[.agg #[.int .u64 x2, .slice a m2.length c], .int .i64 e2]) ∧ Hid (RowsAt w' a 3 ChangeR.row m2) ∧ Below W.heap.size W w') := Lib.hid fun wx h => by
    rw [hx2, hm2, he2]
    exact (batch_parse s wx ws).mono fun _ _ ⟨a, c, h1, h2, h3⟩ => ⟨a, c, h1, Lib.hid h2, below_at h h3⟩
  have hok2 : checkB x2 m2 = 0 ∧ 0 ≤ x2 ∧ x2 < 18446744073709551616 := by
    by_cases h0 : e2 = 0
    · obtain ⟨h1, h2, h3, _⟩ := parse_bwd s (by rw [← he2]; exact h0)
      rw [hx2, hm2]
      exact ⟨h1, h2, h3⟩
    · obtain ⟨h1, h2⟩ := parse_none s (by rw [← he2]; exact h0)
      rw [hx2, hm2, h1, h2]
      exact ⟨by decide, by decide, by decide⟩
  obtain ⟨T2, hT2⟩ : ∃ x, x = str (bytesB x2 m2) := ⟨_, rfl⟩
  have BY2 : Hid (∀ w1 wx a c, RowsAt w1 a 3 ChangeR.row m2 → Below w1.heap.size w1 wx → Calls Try.prog 6 #[.agg #[.int .u64 x2, .slice a m2.length c]] wx fun e w' => e = .returned (.tuple #[.string T2, .int .i64 0]) ∧ Hid (Below w1.heap.size w1 w') ∧ Hid (Below wx.heap.size wx w')) := Lib.hid fun w1 wx a c hrow h => by
    rw [hT2]
    exact (batch_bytes_ok x2 m2 a c wx hok2.2.1 hok2.2.2 (hrow.moved h) hok2.1).mono fun _ _ ⟨h1, h2⟩ => ⟨h1, Lib.hid (below_at h h2), Lib.hid h2⟩
  have L2 : Hid (e2 = 0 → T2 = s) := Lib.hid fun h0 => by rw [hT2, hx2, hm2]; exact (parse_bwd s (by rw [← he2]; exact h0)).2.2.2
  have L3 : Hid (¬ e2 = 0 → x2 = 0 ∧ m2 = []) := Lib.hid fun h0 => by rw [hx2, hm2]; exact parse_none s (by rw [← he2]; exact h0)
  have SZ : Hid (∀ wx a c, Calls Try.prog 8 #[.agg #[.int .u64 0, .slice a 0 c], .agg #[.int .u64 0, .slice none 0 0]] wx fun e w' => e = .returned (.bool true) ∧ Below wx.heap.size wx w') := Lib.hid fun wx a c =>
    (batch_same 0 0 [] [] a none c 0 wx ⟨.inl rfl⟩ ⟨.inl rfl⟩ (by decide) (by decide)).mono fun _ _ ⟨b, h1, h2, h3⟩ => ⟨by rw [h1, h2.2 ⟨rfl, rfl⟩], h3⟩
  clear hx2 hm2 he2 hT2 hok2 hT hec hr hg hb hm wq
  go_enter Try.func3, Try.ntmps3
  go_upto_region 6 with (first | (go_at_call 4; (with_reducible refine (AW.out _ (by assumption)).mono ?_); rintro e w1 ⟨rfl, hB1⟩) | (go_at_call 5; (with_reducible refine (LT.out _ (by assumption)).mono ?_); rintro e w2 ⟨rfl, hB2⟩))
  have h7 := heap_alloc_new w2 (.cells #[.int .u64 q, .slice sa l.length cap] 27)
  have hB3 : Below W.heap.size W (w2.alloc (.cells #[.int .u64 q, .slice sa l.length cap] 27)) := hB2.alloc hB2.size _
  obtain ⟨b7, hb7⟩ : ∃ b, b = w2.heap.size := ⟨_, rfl⟩
  rw [← hb7] at h7 ⊢
  generalize w2.alloc (.cells #[.int .u64 q, .slice sa l.length cap] 27) = w3 at h7 hB3 ⊢
  obtain ⟨z0, z1⟩ := cells2b h7
  have H7 := Lib.hid h7
  clear hB1 hB2 h7 hb7 AW LT hW0
  go_upto_if 35 with (go_at_call 6; (with_reducible refine (BY.out _ (by assumption)).mono ?_); rintro e w4 ⟨rfl, hB4, hB4'⟩)
  go_cut [9] (fun v9 wc => Hid (Below W.heap.size W wc))
  case first =>
    by_cases h0 : ec = 0
    case neg =>
      obtain ⟨t1, t2⟩ := ne_bb h0
      clear h0
      go_wp2_with fail
      go_meet
      exact Lib.hid hB4
    subst h0
    have PA' : Hid (∀ wx, Below W.heap.size W wx → Calls Try.prog 7 #[.string T] wx fun e w' => ∃ a c, e = .returned (.tuple #[.agg #[.int .u64 q, .slice a l.length c], .int .i64 0]) ∧ Hid (RowsAt w' a 3 ChangeR.row l) ∧ Below W.heap.size W w' ∧ Hid (Below wx.heap.size wx w')) := Lib.hid (PA.out rfl)
    have H74 : Hid (w4.heap[b7]? = some (.cells #[.int .u64 q, .slice sa l.length cap] 27 (0, 0))) := Lib.hid ((hB4'.out.block _ (heap_lt H7.out)).trans H7.out)
    clear PA z0 z1 H7 hB4' hB3 BY
    go_upto_region 9 with (go_at_call 7; (with_reducible refine (PA'.out _ (by assumption)).mono ?_); rintro e w5 ⟨sx, cx, rfl, hX5, hB5, hB5'⟩)
    have h10 := heap_alloc_new w5 (.cells #[.int .u64 q, .slice sx l.length cx] 27)
    have hB6 : Below W.heap.size W (w5.alloc (.cells #[.int .u64 q, .slice sx l.length cx] 27)) := hB5.alloc hB5.size _
    have hB56 : Below w5.heap.size w5 (w5.alloc (.cells #[.int .u64 q, .slice sx l.length cx] 27)) := (Below.refl _ _).alloc (Nat.le_refl _) _
    have h76 := (hB56.block _ (heap_lt ((hB5'.out.block _ (heap_lt H74.out)).trans H74.out))).trans ((hB5'.out.block _ (heap_lt H74.out)).trans H74.out)
    have hX6 := hX5.out.moved hB56
    obtain ⟨b10, hb10⟩ : ∃ b, b = w5.heap.size := ⟨_, rfl⟩
    rw [← hb10] at h10 ⊢
    generalize w5.alloc (.cells #[.int .u64 q, .slice sx l.length cx] 27) = wr at h10 hB6 h76 hX6 ⊢
    have HB7 := Lib.hid h76
    have HB10 := Lib.hid h10
    have HX := Lib.hid hX6
    have HRr : Hid (RowsAt wr sa 3 ChangeR.row l) := Lib.hid (HR.out.moved hB6)
    have HBW := Lib.hid hB6
    obtain ⟨q1, hq1⟩ : ∃ x, x = IntKind.u64.wrap (q + 1) := ⟨_, rfl⟩
    have HQ1 : Hid (IntKind.u64.wrap (q + 1) = q1) := Lib.hid hq1.symm
    have hqq : ¬ q = q1 := by
      rw [hq1, wrap_u64]
      omega
    have S1 : Hid (∀ wx, Below wr.heap.size wr wx → Calls Try.prog 8 #[.agg #[.int .u64 q, .slice sx l.length cx], .agg #[.int .u64 q, .slice sa l.length cap]] wx fun e w' => e = .returned (.bool true) ∧ Below wx.heap.size wx w') := Lib.hid fun wx h =>
      (batch_same q q l l sx sa cx cap wx (HX.out.moved h) (HRr.out.moved h) (by omega) (by omega)).mono fun _ _ ⟨b, h1, h2, h3⟩ => ⟨by rw [h1, h2.2 ⟨rfl, rfl⟩], h3⟩
    have S2 : Hid (∀ wx, Below wr.heap.size wr wx → Calls Try.prog 8 #[.agg #[.int .u64 q, .slice sa l.length cap], .agg #[.int .u64 q1, .slice sa l.length cap]] wx fun e w' => e = .returned (.bool false) ∧ Below wx.heap.size wx w') := Lib.hid fun wx h =>
      (batch_same q q1 l l sa sa cap cap wx (HRr.out.moved h) (HRr.out.moved h) (by omega) (by omega)).mono fun _ _ ⟨b, h1, h2, h3⟩ => ⟨by rw [h1]; cases b with
        | false => rfl
        | true => exact absurd (h2.1 rfl).1 hqq, h3⟩
    have S3 : Hid (∀ wx g c, RowsAt wx (some ⟨g, 0, none⟩) 3 ChangeR.row (l ++ [zeroC]) → Below wr.heap.size wr wx → Calls Try.prog 8 #[.agg #[.int .u64 q, .slice sa l.length cap], .agg #[.int .u64 q, .slice (some ⟨g, 0, none⟩) (l.length + 1) c]] wx fun e w' => e = .returned (.bool false) ∧ Below wx.heap.size wx w') := Lib.hid fun wx g c hrow h => by
      have hh := batch_same q q l (l ++ [zeroC]) sa (some ⟨g, 0, none⟩) cap c wx (HRr.out.moved h) hrow (by omega) (by simp; omega)
      rw [List.length_append, List.length_singleton] at hh
      exact hh.mono fun _ _ ⟨b, h1, h2, h3⟩ => ⟨by rw [h1]; cases b with
        | false => rfl
        | true =>
          have e := congrArg List.length (h2.1 rfl).2
          simp at e, h3⟩
    clear HR
    have HR := HRr
    clear HRr hq1 hqq hB6 h10 hX6 h76 hB56 hB5' hB5 hX5 H74 hB4 PA' HX hb10 P2 BY2 L2 L3 SZ
    refine wp_region_par 31 [41, 42, 43, 44, 45, 46, 47, 48, 49, 50, 51, 52, 53, 54, 55, 56, 57, 58, 59, 60, 61, 62, 63, 64, 65, 66, 67, 68, 69, 70, 71] [] (FctBB q q1 l sa cap sx cx) (by kernel_rfl) (by kernel_rfl) (FctBB_moved q q1 l sa cap sx cx) ?step ?tail
    case step =>
      intro i hi o ho us wx hus hB hdep K hK
      obtain ⟨u0, u1, u2, u3, u4, u5, u6, u7, u8, u9, u10, u11, u12, u13, u14, u15, u16, u17, u18, u19, u20, u21, u22, u23, u24, u25, u26, u27, u28, u29, u30, rfl⟩ := len31 us hus
      obtain rfl | rfl | rfl | rfl | rfl | rfl | rfl | rfl | rfl | rfl | rfl | rfl | rfl | rfl | rfl | rfl | rfl | rfl | rfl | rfl | rfl | rfl | rfl | rfl | rfl | rfl | rfl | rfl | rfl | rfl | rfl : i = 0 ∨ i = 1 ∨ i = 2 ∨ i = 3 ∨ i = 4 ∨ i = 5 ∨ i = 6 ∨ i = 7 ∨ i = 8 ∨ i = 9 ∨ i = 10 ∨ i = 11 ∨ i = 12 ∨ i = 13 ∨ i = 14 ∨ i = 15 ∨ i = 16 ∨ i = 17 ∨ i = 18 ∨ i = 19 ∨ i = 20 ∨ i = 21 ∨ i = 22 ∨ i = 23 ∨ i = 24 ∨ i = 25 ∨ i = 26 ∨ i = 27 ∨ i = 28 ∨ i = 29 ∨ i = 30 := by omega
      all_goals (simp only [List.getElem?_toArray, List.getElem?_cons_succ, List.getElem?_cons_zero, Option.some.injEq] at ho; subst ho; clear hi hus)
      all_goals (generalize hA : puts _ _ _ = A at hK ⊢)
      · have A11 : A.tmps[11]?.getD undef = .int .i64 0 := by rw [← hA]; kernel_rfl
        go_wp2
        exact hK _ _ _ rfl rfl (Below.refl _ _) (fun h => absurd h (by decide))
      · have q0 : u0 = .int .i64 0 := hdep 0 (by decide)
        have A41 : A.tmps[41]?.getD undef = u0 := by rw [← hA]; kernel_rfl
        rw [q0] at A41
        go_wp2
        exact hK _ _ _ rfl rfl (Below.refl _ _) (fun h => absurd h (by decide))
      · have q1 : u1 = .bool false := hdep 1 (by decide)
        have A42 : A.tmps[42]?.getD undef = u1 := by rw [← hA]; kernel_rfl
        rw [q1] at A42
        go_wp2
        exact hK _ _ _ rfl rfl (Below.refl _ _) (fun h => absurd h (by decide))
      · have A10 : A.tmps[10]?.getD undef = .pointer (some ⟨b10, 0, none⟩) := by rw [← hA]; kernel_rfl
        have q2 : u2 = .bool false := hdep 2 (by decide)
        have A43 : A.tmps[43]?.getD undef = u2 := by rw [← hA]; kernel_rfl
        rw [q2] at A43
        refine wpList_free (wanted_b (j := 2) (d := 43) rfl (by kernel_rfl) A43) ?_
        obtain ⟨z0, z1⟩ := cells2b ((hB.block _ (heap_lt HB10.out)).trans HB10.out)
        go_wp2
        exact hK _ _ _ rfl rfl (Below.refl _ _) (fun h => absurd h (by decide))
      · have A7 : A.tmps[7]?.getD undef = .pointer (some ⟨b7, 0, none⟩) := by rw [← hA]; kernel_rfl
        have q2 : u2 = .bool false := hdep 2 (by decide)
        have A43 : A.tmps[43]?.getD undef = u2 := by rw [← hA]; kernel_rfl
        rw [q2] at A43
        refine wpList_free (wanted_b (j := 2) (d := 43) rfl (by kernel_rfl) A43) ?_
        obtain ⟨z0, z1⟩ := cells2b ((hB.block _ (heap_lt HB7.out)).trans HB7.out)
        go_wp2
        exact hK _ _ _ rfl rfl (Below.refl _ _) (fun h => absurd h (by decide))
      · have q3 : u3 = .agg #[.int .u64 q, .slice sx l.length cx] := hdep 3 (by decide)
        have A44 : A.tmps[44]?.getD undef = u3 := by rw [← hA]; kernel_rfl
        rw [q3] at A44
        have q4 : u4 = .agg #[.int .u64 q, .slice sa l.length cap] := hdep 4 (by decide)
        have A45 : A.tmps[45]?.getD undef = u4 := by rw [← hA]; kernel_rfl
        rw [q4] at A45
        have q2 : u2 = .bool false := hdep 2 (by decide)
        have A43 : A.tmps[43]?.getD undef = u2 := by rw [← hA]; kernel_rfl
        rw [q2] at A43
        refine wpList_free (wanted_b (j := 2) (d := 43) rfl (by kernel_rfl) A43) ?_
        go_wp2_with (go_at_call 8; (with_reducible refine (S1.out _ hB).mono ?_); rintro e wy ⟨rfl, hBy⟩)
        exact hK _ _ _ rfl rfl hBy (fun h => absurd h (by decide))
      · have q5 : u5 = .bool true := hdep 5 (by decide)
        have A46 : A.tmps[46]?.getD undef = u5 := by rw [← hA]; kernel_rfl
        rw [q5] at A46
        have q2 : u2 = .bool false := hdep 2 (by decide)
        have A43 : A.tmps[43]?.getD undef = u2 := by rw [← hA]; kernel_rfl
        rw [q2] at A43
        refine wpList_free (wanted_b (j := 2) (d := 43) rfl (by kernel_rfl) A43) ?_
        go_wp2
        exact hK _ _ _ rfl rfl (Below.refl _ _) (fun h => absurd h (by decide))
      · have q2 : u2 = .bool false := hdep 2 (by decide)
        have A43 : A.tmps[43]?.getD undef = u2 := by rw [← hA]; kernel_rfl
        rw [q2] at A43
        have q6 : u6 = .bool false := hdep 6 (by decide)
        have A47 : A.tmps[47]?.getD undef = u6 := by rw [← hA]; kernel_rfl
        rw [q6] at A47
        go_wp2
        exact hK _ _ _ rfl rfl (Below.refl _ _) (fun h => absurd h (by decide))
      · have q7 : u7 = .bool false := hdep 7 (by decide)
        have A48 : A.tmps[48]?.getD undef = u7 := by rw [← hA]; kernel_rfl
        rw [q7] at A48
        go_wp2
        exact hK _ _ _ rfl rfl (Below.refl _ _) (fun h => absurd h (by decide))
      · have A7 : A.tmps[7]?.getD undef = .pointer (some ⟨b7, 0, none⟩) := by rw [← hA]; kernel_rfl
        have q8 : u8 = .bool false := hdep 8 (by decide)
        have A49 : A.tmps[49]?.getD undef = u8 := by rw [← hA]; kernel_rfl
        rw [q8] at A49
        refine wpList_free (wanted_b (j := 8) (d := 49) rfl (by kernel_rfl) A49) ?_
        obtain ⟨z0, z1⟩ := cells2b ((hB.block _ (heap_lt HB7.out)).trans HB7.out)
        go_wp2
        exact hK _ _ _ rfl rfl (Below.refl _ _) (fun h => absurd h (by decide))
      · have A0 : A.tmps[0]?.getD undef = .int .u64 q := by rw [← hA]; kernel_rfl
        have q8 : u8 = .bool false := hdep 8 (by decide)
        have A49 : A.tmps[49]?.getD undef = u8 := by rw [← hA]; kernel_rfl
        rw [q8] at A49
        refine wpList_free (wanted_b (j := 8) (d := 49) rfl (by kernel_rfl) A49) ?_
        go_wp2
        exact hK _ _ _ rfl rfl (Below.refl _ _) (fun h => absurd h (by decide))
      · have q10 : u10 = .int .u64 q := hdep 10 (by decide)
        have A51 : A.tmps[51]?.getD undef = u10 := by rw [← hA]; kernel_rfl
        rw [q10] at A51
        have q8 : u8 = .bool false := hdep 8 (by decide)
        have A49 : A.tmps[49]?.getD undef = u8 := by rw [← hA]; kernel_rfl
        rw [q8] at A49
        refine wpList_free (wanted_b (j := 8) (d := 49) rfl (by kernel_rfl) A49) ?_
        have hw1 := HQ1.out
        go_wp2
        exact hK _ _ _ rfl rfl (Below.refl _ _) (fun h => absurd h (by decide))
      · have A1 : A.tmps[1]?.getD undef = .slice sa l.length cap := by rw [← hA]; kernel_rfl
        have q8 : u8 = .bool false := hdep 8 (by decide)
        have A49 : A.tmps[49]?.getD undef = u8 := by rw [← hA]; kernel_rfl
        rw [q8] at A49
        refine wpList_free (wanted_b (j := 8) (d := 49) rfl (by kernel_rfl) A49) ?_
        go_wp2
        exact hK _ _ _ rfl rfl (Below.refl _ _) (fun h => absurd h (by decide))
      · have q11 : u11 = .int .u64 q1 := hdep 11 (by decide)
        have A52 : A.tmps[52]?.getD undef = u11 := by rw [← hA]; kernel_rfl
        rw [q11] at A52
        have q12 : u12 = .slice sa l.length cap := hdep 12 (by decide)
        have A53 : A.tmps[53]?.getD undef = u12 := by rw [← hA]; kernel_rfl
        rw [q12] at A53
        have q8 : u8 = .bool false := hdep 8 (by decide)
        have A49 : A.tmps[49]?.getD undef = u8 := by rw [← hA]; kernel_rfl
        rw [q8] at A49
        refine wpList_free (wanted_b (j := 8) (d := 49) rfl (by kernel_rfl) A49) ?_
        go_wp2
        exact hK _ _ _ rfl rfl (Below.refl _ _) (fun h => absurd h (by decide))
      · have q9 : u9 = .agg #[.int .u64 q, .slice sa l.length cap] := hdep 9 (by decide)
        have A50 : A.tmps[50]?.getD undef = u9 := by rw [← hA]; kernel_rfl
        rw [q9] at A50
        have q13 : u13 = .agg #[.int .u64 q1, .slice sa l.length cap] := hdep 13 (by decide)
        have A54 : A.tmps[54]?.getD undef = u13 := by rw [← hA]; kernel_rfl
        rw [q13] at A54
        have q8 : u8 = .bool false := hdep 8 (by decide)
        have A49 : A.tmps[49]?.getD undef = u8 := by rw [← hA]; kernel_rfl
        rw [q8] at A49
        refine wpList_free (wanted_b (j := 8) (d := 49) rfl (by kernel_rfl) A49) ?_
        go_wp2_with (go_at_call 8; (with_reducible refine (S2.out _ hB).mono ?_); rintro e wy ⟨rfl, hBy⟩)
        exact hK _ _ _ rfl rfl hBy (fun h => absurd h (by decide))
      · have q8 : u8 = .bool false := hdep 8 (by decide)
        have A49 : A.tmps[49]?.getD undef = u8 := by rw [← hA]; kernel_rfl
        rw [q8] at A49
        have q14 : u14 = .bool false := hdep 14 (by decide)
        have A55 : A.tmps[55]?.getD undef = u14 := by rw [← hA]; kernel_rfl
        rw [q14] at A55
        go_wp2
        exact hK _ _ _ rfl rfl (Below.refl _ _) (fun h => absurd h (by decide))
      · have q15 : u15 = .bool false := hdep 15 (by decide)
        have A56 : A.tmps[56]?.getD undef = u15 := by rw [← hA]; kernel_rfl
        rw [q15] at A56
        go_wp2
        exact hK _ _ _ rfl rfl (Below.refl _ _) (fun h => absurd h (by decide))
      · have A7 : A.tmps[7]?.getD undef = .pointer (some ⟨b7, 0, none⟩) := by rw [← hA]; kernel_rfl
        have q16 : u16 = .bool false := hdep 16 (by decide)
        have A57 : A.tmps[57]?.getD undef = u16 := by rw [← hA]; kernel_rfl
        rw [q16] at A57
        refine wpList_free (wanted_b (j := 16) (d := 57) rfl (by kernel_rfl) A57) ?_
        obtain ⟨z0, z1⟩ := cells2b ((hB.block _ (heap_lt HB7.out)).trans HB7.out)
        go_wp2
        exact hK _ _ _ rfl rfl (Below.refl _ _) (fun h => absurd h (by decide))
      · have A0 : A.tmps[0]?.getD undef = .int .u64 q := by rw [← hA]; kernel_rfl
        have q16 : u16 = .bool false := hdep 16 (by decide)
        have A57 : A.tmps[57]?.getD undef = u16 := by rw [← hA]; kernel_rfl
        rw [q16] at A57
        refine wpList_free (wanted_b (j := 16) (d := 57) rfl (by kernel_rfl) A57) ?_
        go_wp2
        exact hK _ _ _ rfl rfl (Below.refl _ _) (fun h => absurd h (by decide))
      · have A1 : A.tmps[1]?.getD undef = .slice sa l.length cap := by rw [← hA]; kernel_rfl
        have q16 : u16 = .bool false := hdep 16 (by decide)
        have A57 : A.tmps[57]?.getD undef = u16 := by rw [← hA]; kernel_rfl
        rw [q16] at A57
        refine wpList_free (wanted_b (j := 16) (d := 57) rfl (by kernel_rfl) A57) ?_
        go_wp2
        exact hK _ _ _ rfl rfl (Below.refl _ _) (fun h => absurd h (by decide))
      · have A1 : A.tmps[1]?.getD undef = .slice sa l.length cap := by rw [← hA]; kernel_rfl
        have q16 : u16 = .bool false := hdep 16 (by decide)
        have A57 : A.tmps[57]?.getD undef = u16 := by rw [← hA]; kernel_rfl
        rw [q16] at A57
        refine wpList_free (wanted_b (j := 16) (d := 57) rfl (by kernel_rfl) A57) ?_
        go_wp2
        exact hK _ _ _ rfl rfl (Below.refl _ _) (fun h => absurd h (by decide))
      · have q20 : u20 = .slice sa l.length cap := hdep 20 (by decide)
        have A61 : A.tmps[61]?.getD undef = u20 := by rw [← hA]; kernel_rfl
        rw [q20] at A61
        have q16 : u16 = .bool false := hdep 16 (by decide)
        have A57 : A.tmps[57]?.getD undef = u16 := by rw [← hA]; kernel_rfl
        rw [q16] at A57
        refine wpList_free (wanted_b (j := 16) (d := 57) rfl (by kernel_rfl) A57) ?_
        go_wp2
        exact hK _ _ _ rfl rfl (Below.refl _ _) (fun h => absurd h (by decide))
      · have A1 : A.tmps[1]?.getD undef = .slice sa l.length cap := by rw [← hA]; kernel_rfl
        have q16 : u16 = .bool false := hdep 16 (by decide)
        have A57 : A.tmps[57]?.getD undef = u16 := by rw [← hA]; kernel_rfl
        rw [q16] at A57
        refine wpList_free (wanted_b (j := 16) (d := 57) rfl (by kernel_rfl) A57) ?_
        go_wp2
        exact hK _ _ _ rfl rfl (Below.refl _ _) (fun h => absurd h (by decide))
      · have q22 : u22 = .slice sa l.length cap := hdep 22 (by decide)
        have A63 : A.tmps[63]?.getD undef = u22 := by rw [← hA]; kernel_rfl
        rw [q22] at A63
        have q16 : u16 = .bool false := hdep 16 (by decide)
        have A57 : A.tmps[57]?.getD undef = u16 := by rw [← hA]; kernel_rfl
        rw [q16] at A57
        refine wpList_free (wanted_b (j := 16) (d := 57) rfl (by kernel_rfl) A57) ?_
        go_wp2
        exact hK _ _ _ rfl rfl (Below.refl _ _) (fun h => absurd h (by decide))
      · have q19 : u19 = .slice sa l.length cap := hdep 19 (by decide)
        have A60 : A.tmps[60]?.getD undef = u19 := by rw [← hA]; kernel_rfl
        rw [q19] at A60
        have q21 : u21 = .int .i64 (l.length : Int) := hdep 21 (by decide)
        have A62 : A.tmps[62]?.getD undef = u21 := by rw [← hA]; kernel_rfl
        rw [q21] at A62
        have q23 : u23 = .int .i64 (l.length : Int) := hdep 23 (by decide)
        have A64 : A.tmps[64]?.getD undef = u23 := by rw [← hA]; kernel_rfl
        rw [q23] at A64
        have q16 : u16 = .bool false := hdep 16 (by decide)
        have A57 : A.tmps[57]?.getD undef = u16 := by rw [← hA]; kernel_rfl
        rw [q16] at A57
        refine wpList_free (wanted_b (j := 16) (d := 57) rfl (by kernel_rfl) A57) ?_
        have hbi := HBI.out
        have hbi0 : (0 : Int) ≤ (l.length : Int) := by omega
        go_wp2
        exact hK _ _ _ rfl rfl (Below.refl _ _) (fun h => absurd h (by decide))
      · have q16 : u16 = .bool false := hdep 16 (by decide)
        have A57 : A.tmps[57]?.getD undef = u16 := by rw [← hA]; kernel_rfl
        rw [q16] at A57
        refine wpList_free (wanted_b (j := 16) (d := 57) rfl (by kernel_rfl) A57) ?_
        go_wp2
        exact hK _ _ _ rfl rfl (Below.refl _ _) (fun h => absurd h (by decide))
      · have q25 : u25 = .agg (cells3 0 ByteArray.empty ByteArray.empty) := hdep 25 (by decide)
        have A66 : A.tmps[66]?.getD undef = u25 := by rw [← hA]; kernel_rfl
        rw [q25] at A66
        have q16 : u16 = .bool false := hdep 16 (by decide)
        have A57 : A.tmps[57]?.getD undef = u16 := by rw [← hA]; kernel_rfl
        rw [q16] at A57
        refine wpList_free (wanted_b (j := 16) (d := 57) rfl (by kernel_rfl) A57) ?_
        go_wp2
        exact hK _ _ _ rfl ⟨_, rfl, heap_alloc_new _ _⟩ ((Below.refl _ _).alloc (Nat.le_refl _) _) (fun h => absurd h (by decide))
      · have q24 : u24 = .slice sa l.length l.length := hdep 24 (by decide)
        have A65 : A.tmps[65]?.getD undef = u24 := by rw [← hA]; kernel_rfl
        rw [q24] at A65
        obtain ⟨B26, q26, hp26_0⟩ : ∃ B26, u26 = .slice (some ⟨B26, 0, none⟩) 1 1 ∧ wx.heap[B26]? = some (.cells (cells3 0 ByteArray.empty ByteArray.empty) 35 (0, 0)) := hdep 26 (by decide)
        have A67 : A.tmps[67]?.getD undef = u26 := by rw [← hA]; kernel_rfl
        rw [q26] at A67
        have q16 : u16 = .bool false := hdep 16 (by decide)
        have A57 : A.tmps[57]?.getD undef = u16 := by rw [← hA]; kernel_rfl
        rw [q16] at A57
        refine wpList_free (wanted_b (j := 16) (d := 57) rfl (by kernel_rfl) A57) ?_
        refine wp_append_full rfl (.tmp 65) (.tmp 67) 23 rfl wx 35 Try.underlying23 (.agg (cells3 0 ByteArray.empty ByteArray.empty)) 3 40 info_chg3 rfl (by decide) (by decide) ChangeR.row l sa (by simpa [Act.eval] using A65) B26 (by simpa [Act.eval] using A67) (fun _ => rfl) (fun r u hu => by simp [ChangeR.row] at hu; rcases hu with rfl | rfl | rfl <;> rfl) zeroC (cells3 0 ByteArray.empty ByteArray.empty) rfl (by omega) (HR.out.moved hB) hp26_0 ?_
        intro g cp w7 hr7 hB7' hc7
        exact hK _ _ _ rfl ⟨g, cp, rfl, hr7⟩ hB7' (fun h => absurd h (by decide))
      · have q18 : u18 = .int .u64 q := hdep 18 (by decide)
        have A59 : A.tmps[59]?.getD undef = u18 := by rw [← hA]; kernel_rfl
        rw [q18] at A59
        obtain ⟨g27, c27, q27, hp27_0⟩ : ∃ g27 c27, u27 = .slice (some ⟨g27, 0, none⟩) (l.length + 1) c27 ∧ RowsAt wx (some ⟨g27, 0, none⟩) 3 ChangeR.row (l ++ [zeroC]) := hdep 27 (by decide)
        have A68 : A.tmps[68]?.getD undef = u27 := by rw [← hA]; kernel_rfl
        rw [q27] at A68
        have q16 : u16 = .bool false := hdep 16 (by decide)
        have A57 : A.tmps[57]?.getD undef = u16 := by rw [← hA]; kernel_rfl
        rw [q16] at A57
        refine wpList_free (wanted_b (j := 16) (d := 57) rfl (by kernel_rfl) A57) ?_
        go_wp2
        exact hK _ _ _ rfl ⟨_, _, rfl, hp27_0⟩ (Below.refl _ _) (fun h => absurd h (by decide))
      · have q17 : u17 = .agg #[.int .u64 q, .slice sa l.length cap] := hdep 17 (by decide)
        have A58 : A.tmps[58]?.getD undef = u17 := by rw [← hA]; kernel_rfl
        rw [q17] at A58
        obtain ⟨g28, c28, q28, hp28_0⟩ : ∃ g28 c28, u28 = .agg #[.int .u64 q, .slice (some ⟨g28, 0, none⟩) (l.length + 1) c28] ∧ RowsAt wx (some ⟨g28, 0, none⟩) 3 ChangeR.row (l ++ [zeroC]) := hdep 28 (by decide)
        have A69 : A.tmps[69]?.getD undef = u28 := by rw [← hA]; kernel_rfl
        rw [q28] at A69
        have q16 : u16 = .bool false := hdep 16 (by decide)
        have A57 : A.tmps[57]?.getD undef = u16 := by rw [← hA]; kernel_rfl
        rw [q16] at A57
        refine wpList_free (wanted_b (j := 16) (d := 57) rfl (by kernel_rfl) A57) ?_
        go_wp2_with (go_at_call 8; (with_reducible refine (S3.out _ _ _ hp28_0 hB).mono ?_); rintro e wy ⟨rfl, hBy⟩)
        exact hK _ _ _ rfl rfl hBy (fun h => absurd h (by decide))
      · have q16 : u16 = .bool false := hdep 16 (by decide)
        have A57 : A.tmps[57]?.getD undef = u16 := by rw [← hA]; kernel_rfl
        rw [q16] at A57
        have q29 : u29 = .bool false := hdep 29 (by decide)
        have A70 : A.tmps[70]?.getD undef = u29 := by rw [← hA]; kernel_rfl
        rw [q29] at A70
        go_wp2
        exact hK _ _ _ rfl rfl (Below.refl _ _) (fun h => absurd h (by decide))
    case tail =>
      intro us wx hus hB hf hne
      obtain ⟨u0, u1, u2, u3, u4, u5, u6, u7, u8, u9, u10, u11, u12, u13, u14, u15, u16, u17, u18, u19, u20, u21, u22, u23, u24, u25, u26, u27, u28, u29, u30, rfl⟩ := len31 us hus
      have q : u30 = .bool false := hf 30 (by decide)
      subst q
      have HBX := Lib.hid hB
      clear hf hne hus hB
      simp only [puts, Act.put, List.setIfInBounds_toArray, List.set_cons_succ, List.set_cons_zero, List.drop_succ_cons, List.drop_zero, List.drop_nil]
      go_wp2_with fail
      go_meet
      exact Lib.hid (HBW.out.trans (HBX.out.mono HBW.out.size))
  case rest =>
    have hBC := hcut.out
    by_cases h0 : e2 = 0
    · subst h0
      obtain rfl := L2.out rfl
      clear L2 L3 SZ PA BY hB4 hB4' z0 z1 H7 hB3 hcut HR HBI
      go_upto_region 12 with (go_at_call 7; (with_reducible refine (P2.out _ (by assumption)).mono ?_); rintro e w5 ⟨sx, cx, rfl, hX5, hB5⟩)
      have h12 := heap_alloc_new w5 (.cells #[.int .u64 x2, .slice sx m2.length cx] 27)
      have hB56 : Below w5.heap.size w5 (w5.alloc (.cells #[.int .u64 x2, .slice sx m2.length cx] 27)) := (Below.refl _ _).alloc (Nat.le_refl _) _
      have CB : Hid (Calls Try.prog 6 #[.agg #[.int .u64 x2, .slice sx m2.length cx]] (w5.alloc (.cells #[.int .u64 x2, .slice sx m2.length cx] 27)) fun e w' => e = .returned (.tuple #[.string T2, .int .i64 0]) ∧ Hid (Below w5.heap.size w5 w') ∧ Hid (Below (w5.alloc (.cells #[.int .u64 x2, .slice sx m2.length cx] 27)).heap.size (w5.alloc (.cells #[.int .u64 x2, .slice sx m2.length cx] 27)) w')) := Lib.hid (BY2.out w5 _ sx cx hX5.out hB56)
      obtain ⟨b12, hb12⟩ : ∃ b, b = w5.heap.size := ⟨_, rfl⟩
      rw [← hb12] at h12 ⊢
      generalize w5.alloc (.cells #[.int .u64 x2, .slice sx m2.length cx] 27) = w6 at h12 hB56 CB ⊢
      obtain ⟨z0, z1⟩ := cells2b h12
      clear P2 BY2 hb12
      go_wp2_with (go_at_call 6; (with_reducible refine CB.out.mono ?_); rintro e w7 ⟨rfl, hB7, hB67⟩)
      go_ret
      exact ⟨rfl, below_at hB5 hB7.out⟩
    · obtain ⟨rfl, rfl⟩ := L3.out h0
      obtain ⟨t1, t2⟩ := ne_bb h0
      clear L2 L3 PA BY hB4 hB4' z0 z1 H7 hB3 hcut HR HBI h0
      simp only [List.length_nil] at P2 BY2
      go_upto_region 12 with (go_at_call 7; (with_reducible refine (P2.out _ (by assumption)).mono ?_); rintro e w5 ⟨sx, cx, rfl, hX5, hB5⟩)
      have h12 := heap_alloc_new w5 (.cells #[.int .u64 0, .slice sx 0 cx] 27)
      have hB56 : Below w5.heap.size w5 (w5.alloc (.cells #[.int .u64 0, .slice sx 0 cx] 27)) := (Below.refl _ _).alloc (Nat.le_refl _) _
      have CB : Hid (Calls Try.prog 6 #[.agg #[.int .u64 0, .slice sx 0 cx]] (w5.alloc (.cells #[.int .u64 0, .slice sx 0 cx] 27)) fun e w' => e = .returned (.tuple #[.string T2, .int .i64 0]) ∧ Hid (Below w5.heap.size w5 w') ∧ Hid (Below (w5.alloc (.cells #[.int .u64 0, .slice sx 0 cx] 27)).heap.size (w5.alloc (.cells #[.int .u64 0, .slice sx 0 cx] 27)) w')) := Lib.hid (BY2.out w5 _ sx cx hX5.out hB56)
      obtain ⟨b12, hb12⟩ : ∃ b, b = w5.heap.size := ⟨_, rfl⟩
      rw [← hb12] at h12 ⊢
      generalize w5.alloc (.cells #[.int .u64 0, .slice sx 0 cx] 27) = w6 at h12 hB56 CB ⊢
      obtain ⟨z0, z1⟩ := cells2b h12
      clear P2 BY2 hb12
      go_upto_region 13 with (go_at_call 6; (with_reducible refine CB.out.mono ?_); rintro e w7 ⟨rfl, hB7, hB67⟩)
      obtain ⟨y0, y1⟩ := cells2b ((hB67.out.block _ (heap_lt h12)).trans h12)
      have hz := zero_bat
      go_wp2_with (go_at_call 8; (with_reducible refine (SZ.out _ _ _).mono ?_); rintro e w8 ⟨rfl, hB8⟩)
      go_ret
      exact ⟨rfl, below_at (below_at hB5 hB7.out) hB8⟩
end Go.Proofs.Ythhgijjdddcchaa
