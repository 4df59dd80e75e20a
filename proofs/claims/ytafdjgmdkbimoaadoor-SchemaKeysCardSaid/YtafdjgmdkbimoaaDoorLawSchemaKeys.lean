/-
  The walk of SchemaKeys: the keys of all that can be told; what any key is of.
-/
import Derived.Test.YtafdjgmdkbimoaaDoorSchRpw
import Derived.Test.YtafdjgmdkbimoaaDoorSchOrd
import Derived.Test.YtafdjgmdkbimoaaDoorRegPar2
namespace Go.Proofs.YtafdjgmdkbimoaaDoor
open Go.RowKit
set_option linter.unusedVariables false
set_option linter.unusedSimpArgs false

theorem wanted_of {ops : Array Oper} {tmps : Array Value} {o : Oper} {j : Nat} {d : Tmp} (hg : o.guard = some (j, true)) (hd : (ops[j]?).bind (·.dst) = some d) (h : tmps[d]?.getD undef = .bool true) : Region.wanted o (yielded ops tmps) = true := by
  unfold Region.wanted yielded
  rw [hg]
  simp only [hd, Option.bind_some]
  cases hv : tmps[d]? with
  | none => rw [hv] at h; cases h
  | some v => rw [hv] at h; simp only [Option.getD_some] at h; subst h; rfl
theorem wpList_unguard {P : Program} {ops : Array Oper} {Q : Exit → Act → World → Prop} {o : Oper} {a : Act} {w : World} (hw : Region.wanted o (yielded ops a.tmps) = true) (h : wpList P ops Q [{ o with guard := none }] a w) : wpList P ops Q [o] a w := by
  unfold wpList at h ⊢
  rw [if_pos hw]
  rw [if_pos (by simp [Region.wanted])] at h
  exact h

set_option maxRecDepth 100000 in
set_option maxHeartbeats 4000000 in
theorem schema_number (s : ByteArray) (m : Int) (w : World) (hs : s.size ≤ 300) (hm : w.cell? ⟨0, 0, none⟩ = some (.int .i64 m)) :
    Calls Tryd.prog 13 #[.string s] w fun e w' => e = .returned (.tuple #[.string (str (makeGo [⟨116, 0, 0, ⟨#[110]⟩⟩, ⟨116, 0, 0, s⟩] []).1), .int .i64 (makeGo [⟨116, 0, 0, ⟨#[110]⟩⟩, ⟨116, 0, 0, s⟩] []).2]) ∧ Below w.heap.size w w' := by
  have W0 : Below w.heap.size w w := Below.refl _ _
  have KT : Hid (∀ s wx, Below w.heap.size w wx → Calls Tryd.prog 31 #[.string s] wx fun e w' => e = .returned (.agg (cells4 116 0 0 s)) ∧ Below w.heap.size w w') := Lib.hid fun s wx h => (key_text s wx).mono fun _ _ ⟨h1, h2⟩ => ⟨h1, below_at h h2⟩
  have MK : Hid (∀ wx B, Below w.heap.size w wx → wx.heap[B]? = some (.cells (#[.int .u8 116, .int .i64 0, .int .u64 0, .string ⟨#[110]⟩, .int .u8 116, .int .i64 0, .int .u64 0, .string s]) 51 (0, 0)) → Calls Tryd.prog 30 #[.slice (some ⟨B, 0, none⟩) 2 2] wx fun e w' => e = .returned (.tuple #[.string (str (makeGo [⟨116, 0, 0, ⟨#[110]⟩⟩, ⟨116, 0, 0, s⟩] []).1), .int .i64 (makeGo [⟨116, 0, 0, ⟨#[110]⟩⟩, ⟨116, 0, 0, s⟩] []).2]) ∧ Below w.heap.size w w') := Lib.hid fun wx B h hblk =>
    (key_make_any [⟨116, 0, 0, ⟨#[110]⟩⟩, ⟨116, 0, 0, s⟩] _ 2 wx m (rows_block (fun _ => rfl) hblk rfl) (by simp) (by
      intro p hp
      simp only [List.mem_cons, List.mem_nil_iff, or_false] at hp
      rcases hp with rfl | rfl
      · exact good_text _ (by decide)
      · exact good_text _ hs) (by
      intro p hp
      simp only [List.mem_cons, List.mem_nil_iff, or_false] at hp
      rcases hp with rfl | rfl
      · decide
      · exact hs) (cell0 hm h)).mono fun _ _ ⟨h1, h2⟩ => ⟨h1, below_at h h2⟩
  generalize makeGo [⟨116, 0, 0, ⟨#[110]⟩⟩, ⟨116, 0, 0, s⟩] [] = M at *
  clear hm
  go_enter Tryd.func13, Tryd.ntmps13
  go_wp2_with (first | (go_at_call 31; first | ((with_reducible refine (KT.out _ _ hB1).mono ?_); rintro e w2 ⟨rfl, hB2⟩) | ((with_reducible refine (KT.out _ _ W0).mono ?_); rintro e w1 ⟨rfl, hB1⟩)) | (go_at_call 30; refine (MK.out _ _ (hB2.alloc hB2.size _) (heap_new rfl)).mono ?_; rintro e w9 ⟨rfl, hB9⟩))
  go_ret2
  exact ⟨rfl, hB9⟩

set_option maxRecDepth 100000 in
set_option maxHeartbeats 4000000 in
theorem law_want (t : ThingR) (w : World) (hg : ∀ p ∈ rowR t, p.good) (hs : ∀ p ∈ rowR t, p.s.size ≤ 300) :
    Calls Tryd.prog 11 #[.agg (cellsT t.sort t.account t.id t.kind t.price t.rank t.at_ t.name)] w fun e w' => e = .returned (.string (str (makeGo (rowR t) []).1)) ∧ Below w.heap.size w w' := by
  have KY : Hid (∀ wx, Below w.heap.size w wx → Calls Tryd.prog 12 #[.agg (cellsT t.sort t.account t.id t.kind t.price t.rank t.at_ t.name)] wx fun e w' => e = .returned (.tuple #[.string (str (makeGo (rowR t) []).1), .int .i64 (makeGo (rowR t) []).2]) ∧ Below w.heap.size w w') := Lib.hid fun wx h => (ref_key21 t wx hg hs).mono fun _ _ ⟨h1, h2⟩ => ⟨h1, below_at h h2⟩
  obtain ⟨j0, j1, j2, j3, j4, j5, j6, j7⟩ := cellsT_of (heap_alloc_new w (.cells (cellsT t.sort t.account t.id t.kind t.price t.rank t.at_ t.name) 35))
  have hW1 : Below w.heap.size w (w.alloc (.cells (cellsT t.sort t.account t.id t.kind t.price t.rank t.at_ t.name) 35)) := (Below.refl _ _).alloc (Nat.le_refl _) _
  generalize makeGo (rowR t) [] = M at *
  clear hg hs
  go_enter Tryd.func11, Tryd.ntmps11
  go_wp2_with (go_at_call 12; (with_reducible refine (KY.out _ hW1).mono ?_); rintro e w2 ⟨rfl, hB2⟩)
  go_ret
  exact ⟨rfl, hB2⟩

theorem len10 (us : List Value) (h : us.length = 10) : ∃ x0 x1 x2 x3 x4 x5 x6 x7 x8 x9 : Value, us = [x0, x1, x2, x3, x4, x5, x6, x7, x8, x9] := by
  match us, h with
  | [x0, x1, x2, x3, x4, x5, x6, x7, x8, x9], _ => exact ⟨x0, x1, x2, x3, x4, x5, x6, x7, x8, x9, rfl⟩
def Fct7 (s0 : ByteArray) (ac id kd pr rk tm : Int) (nm : ByteArray) (h0 : Nat) : Nat → Value → World → Prop
  | 0, v, w => v = (.agg #[.string s0, .int .u64 ac, .int .u64 id, .int .i64 kd, .int .i64 pr, .int .u64 rk, .int .u64 tm, .string nm])
  | 1, v, w => v = (.agg #[.string s0, .int .u64 ac, .int .u64 id, .int .i64 kd, .int .i64 pr, .int .u64 rk, .int .u64 tm, .string nm])
  | 2, v, w => v = (.agg #[.string s0, .int .u64 ac, .int .u64 id, .int .i64 kd, .int .i64 pr, .int .u64 rk, .int .u64 tm, .string nm])
  | 3, v, w => v = (.agg #[.string s0, .int .u64 ac, .int .u64 id, .int .i64 kd, .int .i64 pr, .int .u64 rk, .int .u64 tm, .string nm])
  | 4, v, w => v = (.agg #[.string s0, .int .u64 ac, .int .u64 id, .int .i64 kd, .int .i64 pr, .int .u64 rk, .int .u64 tm, .string nm])
  | 5, v, w => ∃ A, v = .pointer (some ⟨A, 0, none⟩) ∧ h0 ≤ A ∧ w.heap[A]? = some (.cells zeroT 35 (0, 0))
  | 6, v, w => ∃ A, v = .pointer (some ⟨A, 0, none⟩) ∧ h0 ≤ A ∧ w.heap[A]? = some (.cells zeroT 35 (0, 0))
  | 7, v, w => ∃ A, v = .pointer (some ⟨A, 0, none⟩) ∧ h0 ≤ A ∧ w.heap[A]? = some (.cells zeroT 35 (0, 0))
  | 8, v, w => ∃ A, v = .pointer (some ⟨A, 0, none⟩) ∧ h0 ≤ A ∧ w.heap[A]? = some (.cells zeroT 35 (0, 0))
  | 9, v, w => ∃ A, v = .pointer (some ⟨A, 0, none⟩) ∧ h0 ≤ A ∧ w.heap[A]? = some (.cells zeroT 35 (0, 0))
  | _, _, _ => True
theorem Fct7_moved (s0 : ByteArray) (ac id kd pr rk tm : Int) (nm : ByteArray) (h0 : Nat) (j : Nat) (v : Value) (w w' : World) (h : Fct7 s0 ac id kd pr rk tm nm h0 j v w) (hb : Below w.heap.size w w') : Fct7 s0 ac id kd pr rk tm nm h0 j v w' := by
  match j with
  | 5 => obtain ⟨B, h1, h3, h2⟩ := h; exact ⟨B, h1, h3, (hb.block _ (heap_lt h2)).trans h2⟩
  | 6 => obtain ⟨B, h1, h3, h2⟩ := h; exact ⟨B, h1, h3, (hb.block _ (heap_lt h2)).trans h2⟩
  | 7 => obtain ⟨B, h1, h3, h2⟩ := h; exact ⟨B, h1, h3, (hb.block _ (heap_lt h2)).trans h2⟩
  | 8 => obtain ⟨B, h1, h3, h2⟩ := h; exact ⟨B, h1, h3, (hb.block _ (heap_lt h2)).trans h2⟩
  | 9 => obtain ⟨B, h1, h3, h2⟩ := h; exact ⟨B, h1, h3, (hb.block _ (heap_lt h2)).trans h2⟩
  | 0 | 1 | 2 | 3 | 4 | _ + 10 => exact h
theorem len_cons {n : Nat} {us : List Value} (h : us.length = n + 1) : ∃ x vs, us = x :: vs ∧ vs.length = n := by
  cases us with
  | nil => simp at h
  | cons x vs => exact ⟨x, vs, rfl, by simpa using h⟩
theorem len56 (us : List Value) (h : us.length = 56) : ∃ x0 x1 x2 x3 x4 x5 x6 x7 x8 x9 x10 x11 x12 x13 x14 x15 x16 x17 x18 x19 x20 x21 x22 x23 x24 x25 x26 x27 x28 x29 x30 x31 x32 x33 x34 x35 x36 x37 x38 x39 x40 x41 x42 x43 x44 x45 x46 x47 x48 x49 x50 x51 x52 x53 x54 x55 : Value, us = [x0, x1, x2, x3, x4, x5, x6, x7, x8, x9, x10, x11, x12, x13, x14, x15, x16, x17, x18, x19, x20, x21, x22, x23, x24, x25, x26, x27, x28, x29, x30, x31, x32, x33, x34, x35, x36, x37, x38, x39, x40, x41, x42, x43, x44, x45, x46, x47, x48, x49, x50, x51, x52, x53, x54, x55] := by
  obtain ⟨x0, v0, e0, h0⟩ := len_cons h
  obtain ⟨x1, v1, e1, h1⟩ := len_cons h0
  obtain ⟨x2, v2, e2, h2⟩ := len_cons h1
  obtain ⟨x3, v3, e3, h3⟩ := len_cons h2
  obtain ⟨x4, v4, e4, h4⟩ := len_cons h3
  obtain ⟨x5, v5, e5, h5⟩ := len_cons h4
  obtain ⟨x6, v6, e6, h6⟩ := len_cons h5
  obtain ⟨x7, v7, e7, h7⟩ := len_cons h6
  obtain ⟨x8, v8, e8, h8⟩ := len_cons h7
  obtain ⟨x9, v9, e9, h9⟩ := len_cons h8
  obtain ⟨x10, v10, e10, h10⟩ := len_cons h9
  obtain ⟨x11, v11, e11, h11⟩ := len_cons h10
  obtain ⟨x12, v12, e12, h12⟩ := len_cons h11
  obtain ⟨x13, v13, e13, h13⟩ := len_cons h12
  obtain ⟨x14, v14, e14, h14⟩ := len_cons h13
  obtain ⟨x15, v15, e15, h15⟩ := len_cons h14
  obtain ⟨x16, v16, e16, h16⟩ := len_cons h15
  obtain ⟨x17, v17, e17, h17⟩ := len_cons h16
  obtain ⟨x18, v18, e18, h18⟩ := len_cons h17
  obtain ⟨x19, v19, e19, h19⟩ := len_cons h18
  obtain ⟨x20, v20, e20, h20⟩ := len_cons h19
  obtain ⟨x21, v21, e21, h21⟩ := len_cons h20
  obtain ⟨x22, v22, e22, h22⟩ := len_cons h21
  obtain ⟨x23, v23, e23, h23⟩ := len_cons h22
  obtain ⟨x24, v24, e24, h24⟩ := len_cons h23
  obtain ⟨x25, v25, e25, h25⟩ := len_cons h24
  obtain ⟨x26, v26, e26, h26⟩ := len_cons h25
  obtain ⟨x27, v27, e27, h27⟩ := len_cons h26
  obtain ⟨x28, v28, e28, h28⟩ := len_cons h27
  obtain ⟨x29, v29, e29, h29⟩ := len_cons h28
  obtain ⟨x30, v30, e30, h30⟩ := len_cons h29
  obtain ⟨x31, v31, e31, h31⟩ := len_cons h30
  obtain ⟨x32, v32, e32, h32⟩ := len_cons h31
  obtain ⟨x33, v33, e33, h33⟩ := len_cons h32
  obtain ⟨x34, v34, e34, h34⟩ := len_cons h33
  obtain ⟨x35, v35, e35, h35⟩ := len_cons h34
  obtain ⟨x36, v36, e36, h36⟩ := len_cons h35
  obtain ⟨x37, v37, e37, h37⟩ := len_cons h36
  obtain ⟨x38, v38, e38, h38⟩ := len_cons h37
  obtain ⟨x39, v39, e39, h39⟩ := len_cons h38
  obtain ⟨x40, v40, e40, h40⟩ := len_cons h39
  obtain ⟨x41, v41, e41, h41⟩ := len_cons h40
  obtain ⟨x42, v42, e42, h42⟩ := len_cons h41
  obtain ⟨x43, v43, e43, h43⟩ := len_cons h42
  obtain ⟨x44, v44, e44, h44⟩ := len_cons h43
  obtain ⟨x45, v45, e45, h45⟩ := len_cons h44
  obtain ⟨x46, v46, e46, h46⟩ := len_cons h45
  obtain ⟨x47, v47, e47, h47⟩ := len_cons h46
  obtain ⟨x48, v48, e48, h48⟩ := len_cons h47
  obtain ⟨x49, v49, e49, h49⟩ := len_cons h48
  obtain ⟨x50, v50, e50, h50⟩ := len_cons h49
  obtain ⟨x51, v51, e51, h51⟩ := len_cons h50
  obtain ⟨x52, v52, e52, h52⟩ := len_cons h51
  obtain ⟨x53, v53, e53, h53⟩ := len_cons h52
  obtain ⟨x54, v54, e54, h54⟩ := len_cons h53
  obtain ⟨x55, v55, e55, h55⟩ := len_cons h54
  have en := List.eq_nil_of_length_eq_zero h55
  subst en
  subst e55
  subst e54
  subst e53
  subst e52
  subst e51
  subst e50
  subst e49
  subst e48
  subst e47
  subst e46
  subst e45
  subst e44
  subst e43
  subst e42
  subst e41
  subst e40
  subst e39
  subst e38
  subst e37
  subst e36
  subst e35
  subst e34
  subst e33
  subst e32
  subst e31
  subst e30
  subst e29
  subst e28
  subst e27
  subst e26
  subst e25
  subst e24
  subst e23
  subst e22
  subst e21
  subst e20
  subst e19
  subst e18
  subst e17
  subst e16
  subst e15
  subst e14
  subst e13
  subst e12
  subst e11
  subst e10
  subst e9
  subst e8
  subst e7
  subst e6
  subst e5
  subst e4
  subst e3
  subst e2
  subst e1
  subst e0
  exact ⟨x0, x1, x2, x3, x4, x5, x6, x7, x8, x9, x10, x11, x12, x13, x14, x15, x16, x17, x18, x19, x20, x21, x22, x23, x24, x25, x26, x27, x28, x29, x30, x31, x32, x33, x34, x35, x36, x37, x38, x39, x40, x41, x42, x43, x44, x45, x46, x47, x48, x49, x50, x51, x52, x53, x54, x55, rfl⟩
def Fct14P (ac id kd pr rk tm : Int) (nm : ByteArray) (S1 S2 S3 S4 S5 : ByteArray) (e5 xe : Int) (xs xn : ByteArray) (xa xi xk xp xr xt : Int) (h2 : Nat) : Nat → Value → Prop
  | 0, v => v = .pointer (some ⟨h2, 1, none⟩)
  | 1, v => v = .int .u64 ac
  | 2, v => v = .pointer (some ⟨h2, 3, none⟩)
  | 3, v => v = .int .i64 kd
  | 4, v => v = .string S1
  | 5, v => v = .func (.func 11) #[] #[]
  | 6, v => v = (.agg #[.string ⟨#[97]⟩, .int .u64 ac, .int .u64 id, .int .i64 kd, .int .i64 pr, .int .u64 rk, .int .u64 tm, .string nm])
  | 7, v => v = .string S1
  | 8, v => v = .bool true
  | 9, v => v = .bool true
  | 10, v => v = .pointer (some ⟨h2, 2, none⟩)
  | 11, v => v = .int .u64 id
  | 12, v => v = .string S2
  | 13, v => v = .func (.func 11) #[] #[]
  | 14, v => v = (.agg #[.string ⟨#[111]⟩, .int .u64 ac, .int .u64 id, .int .i64 kd, .int .i64 pr, .int .u64 rk, .int .u64 tm, .string nm])
  | 15, v => v = .string S2
  | 16, v => v = .bool true
  | 17, v => v = .bool true
  | 18, v => v = .bool true
  | 19, v => v = .string S3
  | 20, v => v = .func (.func 11) #[] #[]
  | 21, v => v = (.agg #[.string ⟨#[98]⟩, .int .u64 ac, .int .u64 id, .int .i64 kd, .int .i64 pr, .int .u64 rk, .int .u64 tm, .string nm])
  | 22, v => v = .string S3
  | 23, v => v = .bool true
  | 24, v => v = .bool true
  | 25, v => v = .bool true
  | 26, v => v = .pointer (some ⟨h2, 6, none⟩)
  | 27, v => v = .int .u64 tm
  | 28, v => v = .pointer (some ⟨h2, 2, none⟩)
  | 29, v => v = .int .u64 id
  | 30, v => v = .string S4
  | 31, v => v = .func (.func 11) #[] #[]
  | 32, v => v = (.agg #[.string ⟨#[101]⟩, .int .u64 ac, .int .u64 id, .int .i64 kd, .int .i64 pr, .int .u64 rk, .int .u64 tm, .string nm])
  | 33, v => v = .string S4
  | 34, v => v = .bool true
  | 35, v => v = .bool true
  | 36, v => v = .bool true
  | 37, v => v = .string S5
  | 38, v => v = .string S5
  | 39, v => v = .bool true
  | 40, v => v = .bool true
  | 41, v => v = .bool true
  | 42, v => v = .int .i64 e5
  | 43, v => v = .int .i64 e5
  | 44, v => v = .bool true
  | 45, v => v = .bool true
  | 46, v => v = .bool true
  | 47, v => v = (.agg #[.string xs, .int .u64 xa, .int .u64 xi, .int .i64 xk, .int .i64 xp, .int .u64 xr, .int .u64 xt, .string xn])
  | 48, v => v = (.agg #[.string xs, .int .u64 xa, .int .u64 xi, .int .i64 xk, .int .i64 xp, .int .u64 xr, .int .u64 xt, .string xn])
  | 49, v => v = .bool true
  | 50, v => v = .bool true
  | 51, v => v = .bool true
  | 52, v => v = .int .i64 xe
  | 53, v => v = .int .i64 xe
  | 54, v => v = .bool true
  | 55, v => v = .bool true
  | _, _ => True
def Fct14 (ac id kd pr rk tm : Int) (nm : ByteArray) (S1 S2 S3 S4 S5 : ByteArray) (e5 xe : Int) (xs xn : ByteArray) (xa xi xk xp xr xt : Int) (h2 : Nat) (j : Nat) (v : Value) (_ : World) : Prop := Fct14P ac id kd pr rk tm nm S1 S2 S3 S4 S5 e5 xe xs xn xa xi xk xp xr xt h2 j v
theorem Fct14_moved (ac id kd pr rk tm : Int) (nm : ByteArray) (S1 S2 S3 S4 S5 : ByteArray) (e5 xe : Int) (xs xn : ByteArray) (xa xi xk xp xr xt : Int) (h2 : Nat) (j : Nat) (v : Value) (w w' : World) (h : Fct14 ac id kd pr rk tm nm S1 S2 S3 S4 S5 e5 xe xs xn xa xi xk xp xr xt h2 j v w) (hb : Below w.heap.size w w') : Fct14 ac id kd pr rk tm nm S1 S2 S3 S4 S5 e5 xe xs xn xa xi xk xp xr xt h2 j v w' := h
theorem lt56 : ∀ i, i < 56 → (i = 0 ∨ i = 1 ∨ i = 2 ∨ i = 3 ∨ i = 4 ∨ i = 5 ∨ i = 6 ∨ i = 7 ∨ i = 8 ∨ i = 9 ∨ i = 10 ∨ i = 11 ∨ i = 12 ∨ i = 13 ∨ i = 14 ∨ i = 15 ∨ i = 16 ∨ i = 17 ∨ i = 18 ∨ i = 19 ∨ i = 20 ∨ i = 21 ∨ i = 22 ∨ i = 23 ∨ i = 24 ∨ i = 25 ∨ i = 26 ∨ i = 27 ∨ i = 28 ∨ i = 29 ∨ i = 30 ∨ i = 31 ∨ i = 32 ∨ i = 33 ∨ i = 34 ∨ i = 35 ∨ i = 36 ∨ i = 37 ∨ i = 38 ∨ i = 39 ∨ i = 40 ∨ i = 41 ∨ i = 42 ∨ i = 43 ∨ i = 44 ∨ i = 45 ∨ i = 46 ∨ i = 47 ∨ i = 48 ∨ i = 49 ∨ i = 50 ∨ i = 51 ∨ i = 52 ∨ i = 53 ∨ i = 54 ∨ i = 55) := by intro i hi; omega

/-- five copies in a row of stores -/
structure Five (w wx : World) (A1 A2 A3 A4 A5 : Nat) (c1 c2 c3 c4 c5 : Array Value) : Prop where
  bel : Below w.heap.size w wx
  h1 : wx.heap[A1]? = some (.cells c1 35 (0, 0))
  h2 : wx.heap[A2]? = some (.cells c2 35 (0, 0))
  h3 : wx.heap[A3]? = some (.cells c3 35 (0, 0))
  h4 : wx.heap[A4]? = some (.cells c4 35 (0, 0))
  h5 : wx.heap[A5]? = some (.cells c5 35 (0, 0))
structure Apart (n A1 A2 A3 A4 A5 : Nat) : Prop where
  n1 : n ≤ A1
  n2 : n ≤ A2
  n3 : n ≤ A3
  n4 : n ≤ A4
  n5 : n ≤ A5
  a12 : A1 ≠ A2
  a13 : A1 ≠ A3
  a14 : A1 ≠ A4
  a15 : A1 ≠ A5
  a23 : A2 ≠ A3
  a24 : A2 ≠ A4
  a25 : A2 ≠ A5
  a34 : A3 ≠ A4
  a35 : A3 ≠ A5
  a45 : A4 ≠ A5
theorem Five.set1 {w wx : World} {A1 A2 A3 A4 A5 : Nat} {c1 c2 c3 c4 c5 : Array Value} (h : Five w wx A1 A2 A3 A4 A5 c1 c2 c3 c4 c5) (k : Apart w.heap.size A1 A2 A3 A4 A5) (d : Array Value) : Five w (wx.setRow A1 d) A1 A2 A3 A4 A5 d c2 c3 c4 c5 :=
  ⟨below_setRow' h.bel k.n1 _, setRow_heap _ _ _ _ _ _ h.h1, (setRow_other _ _ _ _ k.a12.symm).trans h.h2, (setRow_other _ _ _ _ k.a13.symm).trans h.h3, (setRow_other _ _ _ _ k.a14.symm).trans h.h4, (setRow_other _ _ _ _ k.a15.symm).trans h.h5⟩
theorem Five.rot {w wx : World} {A1 A2 A3 A4 A5 : Nat} {c1 c2 c3 c4 c5 : Array Value} (h : Five w wx A1 A2 A3 A4 A5 c1 c2 c3 c4 c5) : Five w wx A2 A3 A4 A5 A1 c2 c3 c4 c5 c1 := ⟨h.bel, h.h2, h.h3, h.h4, h.h5, h.h1⟩
theorem Apart.rot {n A1 A2 A3 A4 A5 : Nat} (k : Apart n A1 A2 A3 A4 A5) : Apart n A2 A3 A4 A5 A1 := ⟨k.n2, k.n3, k.n4, k.n5, k.n1, k.a23, k.a24, k.a25, k.a12.symm, k.a34, k.a35, k.a13.symm, k.a45, k.a14.symm, k.a15.symm⟩
theorem Five.setC {w wx : World} {A1 A2 A3 A4 A5 : Nat} {s : ByteArray} {ac id kd pr rk t : Int} {nm : ByteArray} {c2 c3 c4 c5 : Array Value} (h : Five w wx A1 A2 A3 A4 A5 (cellsT s ac id kd pr rk t nm) c2 c3 c4 c5) (k : Apart w.heap.size A1 A2 A3 A4 A5) (s' : ByteArray) : Five w (wx.setCell ⟨A1, 0, none⟩ (.string s')) A1 A2 A3 A4 A5 (cellsT s' ac id kd pr rk t nm) c2 c3 c4 c5 :=
  ⟨h.bel.setCell (p := ⟨A1, 0, none⟩) k.n1 _, heap_setCell_at h.h1 0 _, heap_setCell_ne h.h2 k.a12.symm 0 _, heap_setCell_ne h.h3 k.a13.symm 0 _, heap_setCell_ne h.h4 k.a14.symm 0 _, heap_setCell_ne h.h5 k.a15.symm 0 _⟩
theorem Five.moved {w wx w' : World} {A1 A2 A3 A4 A5 : Nat} {c1 c2 c3 c4 c5 : Array Value} (h : Five w wx A1 A2 A3 A4 A5 c1 c2 c3 c4 c5) (hb : Below wx.heap.size wx w') : Five w w' A1 A2 A3 A4 A5 c1 c2 c3 c4 c5 :=
  ⟨below_at h.bel hb, (hb.block _ (heap_lt h.h1)).trans h.h1, (hb.block _ (heap_lt h.h2)).trans h.h2, (hb.block _ (heap_lt h.h3)).trans h.h3, (hb.block _ (heap_lt h.h4)).trans h.h4, (hb.block _ (heap_lt h.h5)).trans h.h5⟩
theorem row_ok (t : ThingR) (hs : t.sort.size ≤ 300) (hn : t.name.size ≤ 300) (ha : 0 ≤ t.account ∧ t.account < 18446744073709551616) (hi : 0 ≤ t.id ∧ t.id < 18446744073709551616) (hk : -9223372036854775808 ≤ t.kind ∧ t.kind ≤ 9223372036854775807) (hp : -9223372036854775808 ≤ t.price ∧ t.price ≤ 9223372036854775807) (hr : 0 ≤ t.rank ∧ t.rank < 18446744073709551616) (hat : 0 ≤ t.at_ ∧ t.at_ < 18446744073709551616) : (∀ p ∈ rowR t, p.good) ∧ ∀ p ∈ rowR t, p.s.size ≤ 300 := by
  refine ⟨fun p h => (rowR_fine t (Nat.le_trans hs (by decide)) (Nat.le_trans hn (by decide)) ha hi hk hp hr hat p h).1.good, fun p h => ?_⟩
  unfold rowR at h
  rcases List.mem_cons.1 h with rfl | h
  · exact hs
  repeat' split at h
  all_goals simp only [placeL, List.mem_cons, List.mem_nil_iff, or_false] at h
  all_goals first
    | (rcases h with rfl | rfl | rfl | rfl <;> exact Nat.zero_le _)
    | (rcases h with rfl | rfl <;> exact Nat.zero_le _)
    | (subst h; first | exact Nat.zero_le _ | exact hn)
abbrev pt (A : Nat) : Value := .pointer (some ⟨A, 0, none⟩)
def T7 (C : Array Value) (w : World) (k : Nat) (us : List Value) (wx : World) : Prop :=
  ∃ A1 A2 A3 A4 A5, us.getD 5 undef = pt A1 ∧ us.getD 6 undef = pt A2 ∧ us.getD 7 undef = pt A3 ∧ us.getD 8 undef = pt A4 ∧ us.getD 9 undef = pt A5 ∧ Apart w.heap.size A1 A2 A3 A4 A5 ∧
    Five w wx A1 A2 A3 A4 A5 (if 0 < k then C else zeroT) (if 1 < k then C else zeroT) (if 2 < k then C else zeroT) (if 3 < k then C else zeroT) (if 4 < k then C else zeroT)

set_option maxRecDepth 100000 in
set_option maxHeartbeats 16000000 in
theorem SchemaKeys_walk (r : ThingR) (k : ByteArray) (m : Int) (W : World) (g : r.good) (wk : k.size ≤ 140737488351232) (hm : W.cell? ⟨0, 0, none⟩ = some (.int .i64 m)) :
    Calls Tryd.prog 4 #[.agg r.row.toArray, .string k] W fun e w' => e = .returned (.bool true) ∧ Below W.heap.size W w' := by
  rw [show r.row.toArray = cellsT r.sort r.account r.id r.kind r.price r.rank r.at_ r.name from rfl]
  obtain ⟨s0, ac, id, kd, pr, rk, tm, nm⟩ := r
  obtain ⟨gs, ga, gi, gk, gp, gr, gt, gn⟩ := g
  simp only at gs ga gi gk gp gr gt gn ⊢
  have AW : Hid (∀ wx, Below W.heap.size W wx → Calls Tryd.prog 6 #[] wx fun e w' => e = .returned (.bool true) ∧ Below W.heap.size W w' ∧ Below wx.heap.size wx w') := Lib.hid fun wx h => (awake21 wx m (cell0 hm h)).mono fun _ _ ⟨h1, h2⟩ => ⟨h1, below_at h h2, h2⟩
  have hW1 : Below W.heap.size W (W.alloc (.cells (cellsT s0 ac id kd pr rk tm nm) 28)) := (Below.refl _ _).alloc (Nat.le_refl _) _
  have HK0 : Hid ((W.alloc (.cells (cellsT s0 ac id kd pr rk tm nm) 28)).heap[W.heap.size]? = some (.cells (cellsT s0 ac id kd pr rk tm nm) 28 (0, 0))) := Lib.hid (heap_alloc_new _ _)
  by_cases hb1 : 300 < nm.size
  · go_enter Tryd.func4, Tryd.ntmps4
    go_wp2_with (go_at_call 6; (with_reducible refine (AW.out _ hW1).mono ?_); rintro e w1 ⟨rfl, hB1, hC1⟩; have hk1 := (hC1.block _ (heap_lt HK0.out)).trans HK0.out; obtain ⟨k0, k1, k2, k3, k4, k5, k6, k7⟩ := cellsT_of hk1)
    go_ret
    exact ⟨rfl, hB1⟩
  by_cases hb2 : 300 < k.size
  · go_enter Tryd.func4, Tryd.ntmps4
    go_wp2_with (go_at_call 6; (with_reducible refine (AW.out _ hW1).mono ?_); rintro e w1 ⟨rfl, hB1, hC1⟩; have hk1 := (hC1.block _ (heap_lt HK0.out)).trans HK0.out; obtain ⟨k0, k1, k2, k3, k4, k5, k6, k7⟩ := cellsT_of hk1)
    go_ret
    exact ⟨rfl, hB1⟩
  have hn3 : nm.size ≤ 300 := by omega
  have HN3 := Lib.hid hn3
  have HG := Lib.hid (And.intro ga (And.intro gi (And.intro gk (And.intro gp (And.intro gr gt)))))
  have HM := Lib.hid hm
  clear gs ga gi gk gp gr gt gn hn3 hm
  go_enter Tryd.func4, Tryd.ntmps4
  go_upto_region 7 with (go_at_call 6; (with_reducible refine (AW.out _ hW1).mono ?_); rintro e w1 ⟨rfl, hB1, hC1⟩; have hk1 := (hC1.block _ (heap_lt HK0.out)).trans HK0.out; obtain ⟨k0, k1, k2, k3, k4, k5, k6, k7⟩ := cellsT_of hk1)
  have HK2 : Hid ((w1.alloc (.cells (cellsT s0 ac id kd pr rk tm nm) 35)).heap[W.heap.size]? = some (.cells (cellsT s0 ac id kd pr rk tm nm) 28 (0, 0))) := Lib.hid ((Below.heap_alloc _ _ _ (heap_lt hk1)).trans hk1)
  have H6 : Hid ((w1.alloc (.cells (cellsT s0 ac id kd pr rk tm nm) 35)).heap[w1.heap.size]? = some (.cells (cellsT s0 ac id kd pr rk tm nm) 35 (0, 0))) := Lib.hid (heap_alloc_new _ _)
  have HB2 : Hid (Below W.heap.size W (w1.alloc (.cells (cellsT s0 ac id kd pr rk tm nm) 35))) := Lib.hid (hB1.alloc hB1.size _)
  clear hk1 HK0 AW hW1 hB1 hC1 k0 k1 k2 k3 k4 k5 k6 k7
  generalize w1.alloc (.cells (cellsT s0 ac id kd pr rk tm nm) 35) = w2 at HK2 H6 HB2 ⊢
  generalize w1.heap.size = B6 at H6 ⊢
  refine wp_region_par2 10 [33, 34, 35, 36, 37, 7, 8, 9, 10, 11] [5, 6, 7, 8, 9] [0, 1, 2, 3, 4] (Fct7 s0 ac id kd pr rk tm nm w2.heap.size) (T7 (cellsT s0 ac id kd pr rk tm nm) w2) (by kernel_rfl) (by kernel_rfl) (Fct7_moved _ _ _ _ _ _ _ _ _) ?step (by decide +kernel) ?start ?float ?tail ?fin
  case step =>
    intro i hi o ho us wx hus hB hdep K hK
    obtain ⟨u0, u1, u2, u3, u4, u5, u6, u7, u8, u9, rfl⟩ := len10 us hus
    obtain rfl | rfl | rfl | rfl | rfl | rfl | rfl | rfl | rfl | rfl : i = 0 ∨ i = 1 ∨ i = 2 ∨ i = 3 ∨ i = 4 ∨ i = 5 ∨ i = 6 ∨ i = 7 ∨ i = 8 ∨ i = 9 := by omega
    all_goals (simp only [List.getElem?_toArray, List.getElem?_cons_succ, List.getElem?_cons_zero, Option.some.injEq] at ho; subst ho; clear hi hus)
    all_goals (generalize hA : puts _ _ _ = A at hK ⊢)
    · have A6 : A.tmps[6]?.getD undef = .pointer (some ⟨B6, 0, none⟩) := by rw [← hA]; kernel_rfl
      obtain ⟨n0, n1, n2, n3, n4, n5, n6, n7⟩ := cellsT_of ((hB.block _ (heap_lt H6.out)).trans H6.out)
      go_wp2
      exact hK _ _ _ rfl rfl (Below.refl _ _) (fun h => absurd h (by decide))
    · have A6 : A.tmps[6]?.getD undef = .pointer (some ⟨B6, 0, none⟩) := by rw [← hA]; kernel_rfl
      obtain ⟨n0, n1, n2, n3, n4, n5, n6, n7⟩ := cellsT_of ((hB.block _ (heap_lt H6.out)).trans H6.out)
      go_wp2
      exact hK _ _ _ rfl rfl (Below.refl _ _) (fun h => absurd h (by decide))
    · have A6 : A.tmps[6]?.getD undef = .pointer (some ⟨B6, 0, none⟩) := by rw [← hA]; kernel_rfl
      obtain ⟨n0, n1, n2, n3, n4, n5, n6, n7⟩ := cellsT_of ((hB.block _ (heap_lt H6.out)).trans H6.out)
      go_wp2
      exact hK _ _ _ rfl rfl (Below.refl _ _) (fun h => absurd h (by decide))
    · have A6 : A.tmps[6]?.getD undef = .pointer (some ⟨B6, 0, none⟩) := by rw [← hA]; kernel_rfl
      obtain ⟨n0, n1, n2, n3, n4, n5, n6, n7⟩ := cellsT_of ((hB.block _ (heap_lt H6.out)).trans H6.out)
      go_wp2
      exact hK _ _ _ rfl rfl (Below.refl _ _) (fun h => absurd h (by decide))
    · have A6 : A.tmps[6]?.getD undef = .pointer (some ⟨B6, 0, none⟩) := by rw [← hA]; kernel_rfl
      obtain ⟨n0, n1, n2, n3, n4, n5, n6, n7⟩ := cellsT_of ((hB.block _ (heap_lt H6.out)).trans H6.out)
      go_wp2
      exact hK _ _ _ rfl rfl (Below.refl _ _) (fun h => absurd h (by decide))
    · go_wp2
      refine hK _ _ _ rfl ⟨_, rfl, hB.size, heap_alloc_new _ _⟩ ((Below.refl _ _).alloc (Nat.le_refl _) _) (fun _ j hj v hv => ?_)
      simp only [List.mem_cons, List.mem_nil_iff, or_false] at hj
      rcases hj with rfl | rfl | rfl | rfl | rfl <;> (obtain ⟨A', rfl, -, h2⟩ := hv; intro e; cases e; have := heap_lt h2; omega)
    · go_wp2
      refine hK _ _ _ rfl ⟨_, rfl, hB.size, heap_alloc_new _ _⟩ ((Below.refl _ _).alloc (Nat.le_refl _) _) (fun _ j hj v hv => ?_)
      simp only [List.mem_cons, List.mem_nil_iff, or_false] at hj
      rcases hj with rfl | rfl | rfl | rfl | rfl <;> (obtain ⟨A', rfl, -, h2⟩ := hv; intro e; cases e; have := heap_lt h2; omega)
    · go_wp2
      refine hK _ _ _ rfl ⟨_, rfl, hB.size, heap_alloc_new _ _⟩ ((Below.refl _ _).alloc (Nat.le_refl _) _) (fun _ j hj v hv => ?_)
      simp only [List.mem_cons, List.mem_nil_iff, or_false] at hj
      rcases hj with rfl | rfl | rfl | rfl | rfl <;> (obtain ⟨A', rfl, -, h2⟩ := hv; intro e; cases e; have := heap_lt h2; omega)
    · go_wp2
      refine hK _ _ _ rfl ⟨_, rfl, hB.size, heap_alloc_new _ _⟩ ((Below.refl _ _).alloc (Nat.le_refl _) _) (fun _ j hj v hv => ?_)
      simp only [List.mem_cons, List.mem_nil_iff, or_false] at hj
      rcases hj with rfl | rfl | rfl | rfl | rfl <;> (obtain ⟨A', rfl, -, h2⟩ := hv; intro e; cases e; have := heap_lt h2; omega)
    · go_wp2
      refine hK _ _ _ rfl ⟨_, rfl, hB.size, heap_alloc_new _ _⟩ ((Below.refl _ _).alloc (Nat.le_refl _) _) (fun _ j hj v hv => ?_)
      simp only [List.mem_cons, List.mem_nil_iff, or_false] at hj
      rcases hj with rfl | rfl | rfl | rfl | rfl <;> (obtain ⟨A', rfl, -, h2⟩ := hv; intro e; cases e; have := heap_lt h2; omega)
  case start =>
    intro us wx hus hB hf hne
    obtain ⟨A1, r1, z1, h1⟩ : ∃ A, us.getD 5 undef = .pointer (some ⟨A, 0, none⟩) ∧ w2.heap.size ≤ A ∧ wx.heap[A]? = some (.cells zeroT 35 (0, 0)) := hf 5 (by decide) (by decide)
    obtain ⟨A2, r2, z2, h2⟩ : ∃ A, us.getD 6 undef = .pointer (some ⟨A, 0, none⟩) ∧ w2.heap.size ≤ A ∧ wx.heap[A]? = some (.cells zeroT 35 (0, 0)) := hf 6 (by decide) (by decide)
    obtain ⟨A3, r3, z3, h3⟩ : ∃ A, us.getD 7 undef = .pointer (some ⟨A, 0, none⟩) ∧ w2.heap.size ≤ A ∧ wx.heap[A]? = some (.cells zeroT 35 (0, 0)) := hf 7 (by decide) (by decide)
    obtain ⟨A4, r4, z4, h4⟩ : ∃ A, us.getD 8 undef = .pointer (some ⟨A, 0, none⟩) ∧ w2.heap.size ≤ A ∧ wx.heap[A]? = some (.cells zeroT 35 (0, 0)) := hf 8 (by decide) (by decide)
    obtain ⟨A5, r5, z5, h5⟩ : ∃ A, us.getD 9 undef = .pointer (some ⟨A, 0, none⟩) ∧ w2.heap.size ≤ A ∧ wx.heap[A]? = some (.cells zeroT 35 (0, 0)) := hf 9 (by decide) (by decide)
    have n12 : A1 ≠ A2 := fun e => hne 5 6 (by decide) (by decide) (by decide) (by decide) (by decide) (by decide) (by decide) (by rw [r1, r2, e])
    have n13 : A1 ≠ A3 := fun e => hne 5 7 (by decide) (by decide) (by decide) (by decide) (by decide) (by decide) (by decide) (by rw [r1, r3, e])
    have n14 : A1 ≠ A4 := fun e => hne 5 8 (by decide) (by decide) (by decide) (by decide) (by decide) (by decide) (by decide) (by rw [r1, r4, e])
    have n15 : A1 ≠ A5 := fun e => hne 5 9 (by decide) (by decide) (by decide) (by decide) (by decide) (by decide) (by decide) (by rw [r1, r5, e])
    have n23 : A2 ≠ A3 := fun e => hne 6 7 (by decide) (by decide) (by decide) (by decide) (by decide) (by decide) (by decide) (by rw [r2, r3, e])
    have n24 : A2 ≠ A4 := fun e => hne 6 8 (by decide) (by decide) (by decide) (by decide) (by decide) (by decide) (by decide) (by rw [r2, r4, e])
    have n25 : A2 ≠ A5 := fun e => hne 6 9 (by decide) (by decide) (by decide) (by decide) (by decide) (by decide) (by decide) (by rw [r2, r5, e])
    have n34 : A3 ≠ A4 := fun e => hne 7 8 (by decide) (by decide) (by decide) (by decide) (by decide) (by decide) (by decide) (by rw [r3, r4, e])
    have n35 : A3 ≠ A5 := fun e => hne 7 9 (by decide) (by decide) (by decide) (by decide) (by decide) (by decide) (by decide) (by rw [r3, r5, e])
    have n45 : A4 ≠ A5 := fun e => hne 8 9 (by decide) (by decide) (by decide) (by decide) (by decide) (by decide) (by decide) (by rw [r4, r5, e])
    exact ⟨A1, A2, A3, A4, A5, r1, r2, r3, r4, r5, ⟨z1, z2, z3, z4, z5, n12, n13, n14, n15, n23, n24, n25, n34, n35, n45⟩, ⟨hB, h1, h2, h3, h4, h5⟩⟩
  case float =>
    rintro k us wx i v w' hus hi ⟨A1, A2, A3, A4, A5, r1, r2, r3, r4, r5, ha, h5⟩ hb
    obtain ⟨u0, u1, u2, u3, u4, u5, u6, u7, u8, u9, rfl⟩ := len10 us hus
    simp only [List.mem_cons, List.mem_nil_iff, or_false] at hi
    rcases hi with rfl | rfl | rfl | rfl | rfl <;> exact ⟨A1, A2, A3, A4, A5, r1, r2, r3, r4, r5, ha, h5.moved hb⟩
  case tail =>
    rintro k o ho us wx hus hB ⟨A1, A2, A3, A4, A5, r1, r2, r3, r4, r5, ha, h5⟩ hfd K hK
    obtain ⟨u0, u1, u2, u3, u4, u5, u6, u7, u8, u9, rfl⟩ := len10 us hus
    have hk5 : k < 5 := by
      refine Nat.lt_of_not_le fun h => ?_
      rw [Array.getElem?_eq_none (show _ ≤ 10 + k by simp; omega)] at ho
      cases ho
    obtain rfl | rfl | rfl | rfl | rfl : k = 0 ∨ k = 1 ∨ k = 2 ∨ k = 3 ∨ k = 4 := by omega
    all_goals (simp only [Nat.reduceAdd, List.getElem?_toArray, List.getElem?_cons_succ, List.getElem?_cons_zero, Option.some.injEq] at ho; subst ho; clear hus hk5)
    all_goals (generalize hA : puts _ _ _ = A at hK ⊢)
    · have q : u0 = (.agg #[.string s0, .int .u64 ac, .int .u64 id, .int .i64 kd, .int .i64 pr, .int .u64 rk, .int .u64 tm, .string nm]) := hfd 0 (by decide) (by decide)
      have e1 : A.tmps[7]?.getD undef = u5 := by rw [← hA]; kernel_rfl
      have e2 : A.tmps[33]?.getD undef = u0 := by rw [← hA]; kernel_rfl
      rw [q] at e2
      rw [show u5 = pt A1 from r1] at e1
      refine wpList_store_row rfl 35 (.tmp 7) (.tmp 33) rfl A1 (cellsT s0 ac id kd pr rk tm nm) (by simpa [Act.eval] using e1) (by simpa [Act.eval] using e2) 35 (zeroT) (h5.h1) (info_T21 _ _ _ _ _ _ _ _) (size_T _ _ _ _ _ _ _ _ _ _ _ _ _ _ _ _) (one_T _ _ _ _ _ _ _ _) ?_
      have F := (h5.set1 ha (cellsT s0 ac id kd pr rk tm nm))
      refine hK _ ⟨A1, A2, A3, A4, A5, r1, r2, r3, r4, r5, ha, F⟩ F.bel ?_
      intro j hj v hv
      simp only [List.mem_cons, List.mem_nil_iff, or_false] at hj
      rcases hj with rfl | rfl | rfl | rfl | rfl <;> exact hv
    · have q : u1 = (.agg #[.string s0, .int .u64 ac, .int .u64 id, .int .i64 kd, .int .i64 pr, .int .u64 rk, .int .u64 tm, .string nm]) := hfd 1 (by decide) (by decide)
      have e1 : A.tmps[8]?.getD undef = u6 := by rw [← hA]; kernel_rfl
      have e2 : A.tmps[34]?.getD undef = u1 := by rw [← hA]; kernel_rfl
      rw [q] at e2
      rw [show u6 = pt A2 from r2] at e1
      refine wpList_store_row rfl 35 (.tmp 8) (.tmp 34) rfl A2 (cellsT s0 ac id kd pr rk tm nm) (by simpa [Act.eval] using e1) (by simpa [Act.eval] using e2) 35 (zeroT) (h5.h2) (info_T21 _ _ _ _ _ _ _ _) (size_T _ _ _ _ _ _ _ _ _ _ _ _ _ _ _ _) (one_T _ _ _ _ _ _ _ _) ?_
      have F := (h5.rot.set1 ha.rot (cellsT s0 ac id kd pr rk tm nm)).rot.rot.rot.rot
      refine hK _ ⟨A1, A2, A3, A4, A5, r1, r2, r3, r4, r5, ha, F⟩ F.bel ?_
      intro j hj v hv
      simp only [List.mem_cons, List.mem_nil_iff, or_false] at hj
      rcases hj with rfl | rfl | rfl | rfl | rfl <;> exact hv
    · have q : u2 = (.agg #[.string s0, .int .u64 ac, .int .u64 id, .int .i64 kd, .int .i64 pr, .int .u64 rk, .int .u64 tm, .string nm]) := hfd 2 (by decide) (by decide)
      have e1 : A.tmps[9]?.getD undef = u7 := by rw [← hA]; kernel_rfl
      have e2 : A.tmps[35]?.getD undef = u2 := by rw [← hA]; kernel_rfl
      rw [q] at e2
      rw [show u7 = pt A3 from r3] at e1
      refine wpList_store_row rfl 35 (.tmp 9) (.tmp 35) rfl A3 (cellsT s0 ac id kd pr rk tm nm) (by simpa [Act.eval] using e1) (by simpa [Act.eval] using e2) 35 (zeroT) (h5.h3) (info_T21 _ _ _ _ _ _ _ _) (size_T _ _ _ _ _ _ _ _ _ _ _ _ _ _ _ _) (one_T _ _ _ _ _ _ _ _) ?_
      have F := (h5.rot.rot.set1 ha.rot.rot (cellsT s0 ac id kd pr rk tm nm)).rot.rot.rot
      refine hK _ ⟨A1, A2, A3, A4, A5, r1, r2, r3, r4, r5, ha, F⟩ F.bel ?_
      intro j hj v hv
      simp only [List.mem_cons, List.mem_nil_iff, or_false] at hj
      rcases hj with rfl | rfl | rfl | rfl | rfl <;> exact hv
    · have q : u3 = (.agg #[.string s0, .int .u64 ac, .int .u64 id, .int .i64 kd, .int .i64 pr, .int .u64 rk, .int .u64 tm, .string nm]) := hfd 3 (by decide) (by decide)
      have e1 : A.tmps[10]?.getD undef = u8 := by rw [← hA]; kernel_rfl
      have e2 : A.tmps[36]?.getD undef = u3 := by rw [← hA]; kernel_rfl
      rw [q] at e2
      rw [show u8 = pt A4 from r4] at e1
      refine wpList_store_row rfl 35 (.tmp 10) (.tmp 36) rfl A4 (cellsT s0 ac id kd pr rk tm nm) (by simpa [Act.eval] using e1) (by simpa [Act.eval] using e2) 35 (zeroT) (h5.h4) (info_T21 _ _ _ _ _ _ _ _) (size_T _ _ _ _ _ _ _ _ _ _ _ _ _ _ _ _) (one_T _ _ _ _ _ _ _ _) ?_
      have F := (h5.rot.rot.rot.set1 ha.rot.rot.rot (cellsT s0 ac id kd pr rk tm nm)).rot.rot
      refine hK _ ⟨A1, A2, A3, A4, A5, r1, r2, r3, r4, r5, ha, F⟩ F.bel ?_
      intro j hj v hv
      simp only [List.mem_cons, List.mem_nil_iff, or_false] at hj
      rcases hj with rfl | rfl | rfl | rfl | rfl <;> exact hv
    · have q : u4 = (.agg #[.string s0, .int .u64 ac, .int .u64 id, .int .i64 kd, .int .i64 pr, .int .u64 rk, .int .u64 tm, .string nm]) := hfd 4 (by decide) (by decide)
      have e1 : A.tmps[11]?.getD undef = u9 := by rw [← hA]; kernel_rfl
      have e2 : A.tmps[37]?.getD undef = u4 := by rw [← hA]; kernel_rfl
      rw [q] at e2
      rw [show u9 = pt A5 from r5] at e1
      refine wpList_store_row rfl 35 (.tmp 11) (.tmp 37) rfl A5 (cellsT s0 ac id kd pr rk tm nm) (by simpa [Act.eval] using e1) (by simpa [Act.eval] using e2) 35 (zeroT) (h5.h5) (info_T21 _ _ _ _ _ _ _ _) (size_T _ _ _ _ _ _ _ _ _ _ _ _ _ _ _ _) (one_T _ _ _ _ _ _ _ _) ?_
      have F := (h5.rot.rot.rot.rot.set1 ha.rot.rot.rot.rot (cellsT s0 ac id kd pr rk tm nm)).rot
      refine hK _ ⟨A1, A2, A3, A4, A5, r1, r2, r3, r4, r5, ha, F⟩ F.bel ?_
      intro j hj v hv
      simp only [List.mem_cons, List.mem_nil_iff, or_false] at hj
      rcases hj with rfl | rfl | rfl | rfl | rfl <;> exact hv
  case fin =>
    rintro us wx hus hB ⟨A1, A2, A3, A4, A5, r1, r2, r3, r4, r5, ha, h5⟩ hfd
    obtain ⟨u0, u1, u2, u3, u4, u5, u6, u7, u8, u9, rfl⟩ := len10 us hus
    have q0 : u0 = (.agg #[.string s0, .int .u64 ac, .int .u64 id, .int .i64 kd, .int .i64 pr, .int .u64 rk, .int .u64 tm, .string nm]) := hfd 0 (by decide)
    have q1 : u1 = (.agg #[.string s0, .int .u64 ac, .int .u64 id, .int .i64 kd, .int .i64 pr, .int .u64 rk, .int .u64 tm, .string nm]) := hfd 1 (by decide)
    have q2 : u2 = (.agg #[.string s0, .int .u64 ac, .int .u64 id, .int .i64 kd, .int .i64 pr, .int .u64 rk, .int .u64 tm, .string nm]) := hfd 2 (by decide)
    have q3 : u3 = (.agg #[.string s0, .int .u64 ac, .int .u64 id, .int .i64 kd, .int .i64 pr, .int .u64 rk, .int .u64 tm, .string nm]) := hfd 3 (by decide)
    have q4 : u4 = (.agg #[.string s0, .int .u64 ac, .int .u64 id, .int .i64 kd, .int .i64 pr, .int .u64 rk, .int .u64 tm, .string nm]) := hfd 4 (by decide)
    have t1 : u5 = .pointer (some ⟨A1, 0, none⟩) := r1
    have t2 : u6 = .pointer (some ⟨A2, 0, none⟩) := r2
    have t3 : u7 = .pointer (some ⟨A3, 0, none⟩) := r3
    have t4 : u8 = .pointer (some ⟨A4, 0, none⟩) := r4
    have t5 : u9 = .pointer (some ⟨A5, 0, none⟩) := r5
    subst q0 q1 q2 q3 q4 t1 t2 t3 t4 t5
    have KA := Lib.hid ha
    have G0 : Hid (Five w2 wx A1 A2 A3 A4 A5 (cellsT s0 ac id kd pr rk tm nm) (cellsT s0 ac id kd pr rk tm nm) (cellsT s0 ac id kd pr rk tm nm) (cellsT s0 ac id kd pr rk tm nm) (cellsT s0 ac id kd pr rk tm nm)) := Lib.hid h5
    clear hus hB r1 r2 r3 r4 r5 ha h5 hfd
    simp only [puts, Act.put, List.setIfInBounds_toArray, List.set_cons_succ, List.set_cons_zero]
    generalize wx = w3 at G0 ⊢
    have c0 : (w3).cell? ⟨A1, 0, none⟩ = some (.string s0) := (cellsT_of G0.out.h1).1
    have f0 : (w3).frozen? ⟨A1, 0, none⟩ = false := Lib.frozen_of_heap G0.out.h1 0
    have G1 := Lib.hid ((G0.out.setC KA.out ⟨#[97]⟩).rot)
    have c1 : ((w3.setCell ⟨A1, 0, none⟩ (.string ⟨#[97]⟩))).cell? ⟨A2, 0, none⟩ = some (.string s0) := (cellsT_of G1.out.h1).1
    have f1 : ((w3.setCell ⟨A1, 0, none⟩ (.string ⟨#[97]⟩))).frozen? ⟨A2, 0, none⟩ = false := Lib.frozen_of_heap G1.out.h1 0
    have G2 := Lib.hid ((G1.out.setC KA.out.rot ⟨#[111]⟩).rot)
    have c2 : (((w3.setCell ⟨A1, 0, none⟩ (.string ⟨#[97]⟩)).setCell ⟨A2, 0, none⟩ (.string ⟨#[111]⟩))).cell? ⟨A3, 0, none⟩ = some (.string s0) := (cellsT_of G2.out.h1).1
    have f2 : (((w3.setCell ⟨A1, 0, none⟩ (.string ⟨#[97]⟩)).setCell ⟨A2, 0, none⟩ (.string ⟨#[111]⟩))).frozen? ⟨A3, 0, none⟩ = false := Lib.frozen_of_heap G2.out.h1 0
    have G3 := Lib.hid ((G2.out.setC KA.out.rot.rot ⟨#[98]⟩).rot)
    have c3 : ((((w3.setCell ⟨A1, 0, none⟩ (.string ⟨#[97]⟩)).setCell ⟨A2, 0, none⟩ (.string ⟨#[111]⟩)).setCell ⟨A3, 0, none⟩ (.string ⟨#[98]⟩))).cell? ⟨A4, 0, none⟩ = some (.string s0) := (cellsT_of G3.out.h1).1
    have f3 : ((((w3.setCell ⟨A1, 0, none⟩ (.string ⟨#[97]⟩)).setCell ⟨A2, 0, none⟩ (.string ⟨#[111]⟩)).setCell ⟨A3, 0, none⟩ (.string ⟨#[98]⟩))).frozen? ⟨A4, 0, none⟩ = false := Lib.frozen_of_heap G3.out.h1 0
    have G4 := Lib.hid ((G3.out.setC KA.out.rot.rot.rot ⟨#[101]⟩).rot)
    have c4 : (((((w3.setCell ⟨A1, 0, none⟩ (.string ⟨#[97]⟩)).setCell ⟨A2, 0, none⟩ (.string ⟨#[111]⟩)).setCell ⟨A3, 0, none⟩ (.string ⟨#[98]⟩)).setCell ⟨A4, 0, none⟩ (.string ⟨#[101]⟩))).cell? ⟨A5, 0, none⟩ = some (.string s0) := (cellsT_of G4.out.h1).1
    have f4 : (((((w3.setCell ⟨A1, 0, none⟩ (.string ⟨#[97]⟩)).setCell ⟨A2, 0, none⟩ (.string ⟨#[111]⟩)).setCell ⟨A3, 0, none⟩ (.string ⟨#[98]⟩)).setCell ⟨A4, 0, none⟩ (.string ⟨#[101]⟩))).frozen? ⟨A5, 0, none⟩ = false := Lib.frozen_of_heap G4.out.h1 0
    have G5 := Lib.hid ((G4.out.setC KA.out.rot.rot.rot.rot ⟨#[110]⟩).rot)
    go_upto_region 9 with fail
    have GG := G5
    clear G0 G1 G2 G3 G4 G5 c0 c1 c2 c3 c4 f0 f1 f2 f3 f4
    generalize (((((w3.setCell ⟨A1, 0, none⟩ (.string ⟨#[97]⟩)).setCell ⟨A2, 0, none⟩ (.string ⟨#[111]⟩)).setCell ⟨A3, 0, none⟩ (.string ⟨#[98]⟩)).setCell ⟨A4, 0, none⟩ (.string ⟨#[101]⟩)).setCell ⟨A5, 0, none⟩ (.string ⟨#[110]⟩)) = w4 at GG ⊢
    have hW4 : Below W.heap.size W w4 := HB2.out.trans (GG.out.bel.mono HB2.out.size)
    have hk4 := (GG.out.bel.block _ (heap_lt HK2.out)).trans HK2.out
    obtain ⟨k0, k1, k2, k3, k4, k5, k6, k7⟩ := cellsT_of hk4
    have HK4 := Lib.hid hk4
    have HW4 := Lib.hid hW4
    obtain ⟨ga, gi, gk, gp, gr, gt⟩ := HG.out
    have hrow : ∀ c : UInt8, (∀ p ∈ rowR ⟨⟨#[c]⟩, ac, id, kd, pr, rk, tm, nm⟩, p.good) ∧ ∀ p ∈ rowR ⟨⟨#[c]⟩, ac, id, kd, pr, rk, tm, nm⟩, p.s.size ≤ 300 := fun c => row_ok _ (by show 1 ≤ 300; decide) HN3.out ga gi gk gp gr gt
    have HRO := Lib.hid hrow
    have WANT : Hid (∀ (c : UInt8) wx, Calls Tryd.prog 11 #[.agg (cellsT ⟨#[c]⟩ ac id kd pr rk tm nm)] wx fun e w' => e = .returned (.string (str (makeGo (rowR ⟨⟨#[c]⟩, ac, id, kd, pr, rk, tm, nm⟩) []).1)) ∧ Below wx.heap.size wx w') := Lib.hid fun c wx => law_want ⟨⟨#[c]⟩, ac, id, kd, pr, rk, tm, nm⟩ wx (hrow c).1 (hrow c).2
    obtain ⟨M5, hM5⟩ : ∃ M, M = makeGo (rowR ⟨⟨#[110]⟩, ac, id, kd, pr, rk, tm, nm⟩) [] := ⟨_, rfl⟩
    have NU : Hid (∀ wx, Below w4.heap.size w4 wx → Calls Tryd.prog 13 #[.string nm] wx fun e w' => e = .returned (.tuple #[.string (str M5.1), .int .i64 M5.2]) ∧ Below w4.heap.size w4 w') := Lib.hid fun wx h => by
      have q := schema_number nm m wx HN3.out (cell0 HM.out (HW4.out.trans (h.mono HW4.out.size)))
      rw [hM5, show rowR ⟨⟨#[110]⟩, ac, id, kd, pr, rk, tm, nm⟩ = [⟨116, 0, 0, ⟨#[110]⟩⟩, ⟨116, 0, 0, nm⟩] by simp [rowR, ne_s]]
      exact q.mono fun _ _ ⟨h1, h2⟩ => ⟨h1, below_at h h2⟩
    have KY : Hid (∀ wx, Below w4.heap.size w4 wx → Calls Tryd.prog 12 #[.agg (cellsT ⟨#[110]⟩ ac id kd pr rk tm nm)] wx fun e w' => e = .returned (.tuple #[.string (str M5.1), .int .i64 M5.2]) ∧ Below w4.heap.size w4 w') := Lib.hid fun wx h => by
      rw [hM5]
      exact (ref_key21 ⟨⟨#[110]⟩, ac, id, kd, pr, rk, tm, nm⟩ wx (hrow 110).1 (hrow 110).2).mono fun _ _ ⟨h1, h2⟩ => ⟨h1, below_at h h2⟩
    obtain ⟨X, hX⟩ : ∃ X, X = thingR k.data.toList := ⟨_, rfl⟩
    have hY : outT (parse21 k.data.toList) = X := by rw [hX, ← thing_same]; rfl
    obtain ⟨⟨xs, xa, xi, xk, xp, xr, xt, xn⟩, xe⟩ := X
    have PA : Hid (∀ wx, Below w4.heap.size w4 wx → Calls Tryd.prog 8 #[.string k] wx fun e w' => e = .returned (.tuple #[.agg (cellsT xs xa xi xk xp xr xt xn), .int .i64 xe]) ∧ Below w4.heap.size w4 w') := Lib.hid fun wx h => by
      have q := schema_parse k wx wk
      rw [← hX] at q
      exact q.mono fun _ _ ⟨h1, h2⟩ => ⟨h1, below_at h h2⟩
    have RP : Hid (∀ wx, (Below w4.heap.size w4 wx) → Calls Tryd.prog 14 #[.string k] wx fun e w' => e = .returned (.tuple #[.agg (cellsT xs xa xi xk xp xr xt xn), .int .i64 xe]) ∧ Below wx.heap.size wx w' ∧ Below w4.heap.size w4 w') := Lib.hid fun wx h => by
      have q := ref_parse21 k wx wk
      rw [hY] at q
      exact q.mono fun _ _ ⟨h1, h2⟩ => ⟨h1, h2, below_at h h2⟩
    obtain ⟨S3, hS3⟩ : ∃ S, S = str (makeGo (rowR ⟨⟨#[98]⟩, ac, id, kd, pr, rk, tm, nm⟩) []).1 := ⟨_, rfl⟩
    have PL : Hid (∀ wx, Below w4.heap.size w4 wx → Calls Tryd.prog 9 #[.agg #[.int .u64 id, .int .u64 0, .int .i64 kd, .int .i64 pr, .int .i64 0, .int .i64 0, .int .u64 rk, .int .u64 0, .int .i64 0]] wx fun e w' => e = .returned (.string S3) ∧ Below wx.heap.size wx w' ∧ Below w4.heap.size w4 w') := Lib.hid fun wx h => by
      have q := schema_place id 0 kd pr 0 0 rk 0 0 m wx gk gp gr gi (cell0 HM.out (HW4.out.trans (h.mono HW4.out.size)))
      rw [hS3, show rowR ⟨⟨#[98]⟩, ac, id, kd, pr, rk, tm, nm⟩ = ofL ⟨#[98]⟩ (placeL kd pr rk id) by simp [rowR, ne_s, ofL]]
      exact q.mono fun _ _ ⟨h1, h2⟩ => ⟨h1, h2, below_at h h2⟩
    have hB44 : Below w4.heap.size w4 w4 := Below.refl _ _
    have HM5 := Lib.hid hM5
    have HS3 := Lib.hid hS3
    clear hM5 hX hY hS3 hrow ga gi gk gp gr gt hW4 hk4
    obtain ⟨m5a, m5b⟩ := M5
    simp only at NU KY
    go_upto_region 13 with (first
      | (go_at_call 13; (with_reducible refine (NU.out _ hB44).mono ?_); rintro e w5 ⟨rfl, hB5⟩; have H5N := Lib.hid ((hB5.block _ (heap_lt GG.out.h5)).trans GG.out.h5))
      | (with_reducible refine wpList_load_row rfl 35 (.tmp 11) rfl A5 rfl 35 (cellsT ⟨#[110]⟩ ac id kd pr rk tm nm) (0, 0) _ H5N.out Tryd.underlying35 rfl (info_T21 _ _ _ _ _ _ _ _) ?_)
      | (go_at_call 12; (with_reducible refine (KY.out _ hB5).mono ?_); rintro e w6 ⟨rfl, hB6⟩)
      | (go_at_call 8; (with_reducible refine (PA.out _ hB6).mono ?_); rintro e w7 ⟨rfl, hB7⟩; have hB7a : Below w4.heap.size w4 (w7.alloc (.cells (cellsT xs xa xi xk xp xr xt xn) 28)) := hB7.alloc hB7.size _)
      | (go_at_call 14; (with_reducible refine (RP.out _ hB7a).mono ?_); rintro e w8 ⟨rfl, hC8, hB8⟩; have HX1 := Lib.hid ((hC8.block _ (by simp)).trans (heap_alloc_new w7 (.cells (cellsT xs xa xi xk xp xr xt xn) 28)))))
    have hB9 : Below w4.heap.size w4 (w8.alloc (.cells (cellsT xs xa xi xk xp xr xt xn) 35)) := hB8.alloc hB8.size _
    have hx2 := heap_alloc_new w8 (.cells (cellsT xs xa xi xk xp xr xt xn) 35)
    have hx1 := (Below.heap_alloc w8 (.cells (cellsT xs xa xi xk xp xr xt xn) 35) _ (heap_lt HX1.out)).trans HX1.out
    clear HX1 H5N hB8 hC8 hB7a
    generalize w8.alloc (.cells #[.string xs, .int .u64 xa, .int .u64 xi, .int .i64 xk, .int .i64 xp, .int .u64 xr, .int .u64 xt, .string xn] 35) = w9 at hB9 hx1 hx2 ⊢
    generalize w8.heap.size = X2 at hx2 ⊢
    generalize w7.heap.size = X1 at hx1 ⊢
    have l0 := cell_stays hB9 k0
    have l1 := cell_stays hB9 k1
    have l2 := cell_stays hB9 k2
    have l3 := cell_stays hB9 k3
    have l4 := cell_stays hB9 k4
    have l5 := cell_stays hB9 k5
    have l6 := cell_stays hB9 k6
    have l7 := cell_stays hB9 k7
    clear k0 k1 k2 k3 k4 k5 k6 k7 hB5 hB6 hB7 NU KY PA RP
    have HX1 := Lib.hid hx1
    have HX2 := Lib.hid hx2
    clear hx1 hx2
    go_upto_region 14 with (go_at_call 9; (with_reducible refine (PL.out _ hB9).mono ?_); rintro e wz ⟨rfl, hCz, hBz⟩)
    have HZ1 := Lib.hid ((hCz.block _ (heap_lt HX1.out)).trans HX1.out)
    have HZ2 := Lib.hid ((hCz.block _ (heap_lt HX2.out)).trans HX2.out)
    have HBZ := Lib.hid hBz
    clear l0 l1 l2 l3 l4 l5 l6 l7 HX1 HX2 hB9 hCz PL hBz hB44
    have HA1 := Lib.hid ((HBZ.out.block _ (heap_lt GG.out.h1)).trans GG.out.h1)
    have HA2 := Lib.hid ((HBZ.out.block _ (heap_lt GG.out.h2)).trans GG.out.h2)
    have HA3 := Lib.hid ((HBZ.out.block _ (heap_lt GG.out.h3)).trans GG.out.h3)
    have HA4 := Lib.hid ((HBZ.out.block _ (heap_lt GG.out.h4)).trans GG.out.h4)
    obtain ⟨l0, l1, l2, l3, l4, l5, l6, l7⟩ := cellsT_of ((HBZ.out.block _ (heap_lt HK4.out)).trans HK4.out)
    have HWZ := Lib.hid (HW4.out.trans (HBZ.out.mono HW4.out.size))
    obtain ⟨ga, gi, gk, gp, gr, gt⟩ := HG.out
    obtain ⟨S1, hS1⟩ : ∃ S, S = str (makeGo (rowR ⟨⟨#[97]⟩, ac, id, kd, pr, rk, tm, nm⟩) []).1 := ⟨_, rfl⟩
    obtain ⟨S2, hS2⟩ : ∃ S, S = str (makeGo (rowR ⟨⟨#[111]⟩, ac, id, kd, pr, rk, tm, nm⟩) []).1 := ⟨_, rfl⟩
    obtain ⟨S4, hS4⟩ : ∃ S, S = str (makeGo (rowR ⟨⟨#[101]⟩, ac, id, kd, pr, rk, tm, nm⟩) []).1 := ⟨_, rfl⟩
    have W1 : Hid (∀ wx, Calls Tryd.prog 11 #[.agg (cellsT ⟨#[97]⟩ ac id kd pr rk tm nm)] wx fun e w' => e = .returned (.string S1) ∧ Below wx.heap.size wx w') := Lib.hid (by rw [hS1]; exact WANT.out 97)
    have W2 : Hid (∀ wx, Calls Tryd.prog 11 #[.agg (cellsT ⟨#[111]⟩ ac id kd pr rk tm nm)] wx fun e w' => e = .returned (.string S2) ∧ Below wx.heap.size wx w') := Lib.hid (by rw [hS2]; exact WANT.out 111)
    have W3 : Hid (∀ wx, Calls Tryd.prog 11 #[.agg (cellsT ⟨#[98]⟩ ac id kd pr rk tm nm)] wx fun e w' => e = .returned (.string S3) ∧ Below wx.heap.size wx w') := Lib.hid (by rw [HS3.out]; exact WANT.out 98)
    have W4 : Hid (∀ wx, Calls Tryd.prog 11 #[.agg (cellsT ⟨#[101]⟩ ac id kd pr rk tm nm)] wx fun e w' => e = .returned (.string S4) ∧ Below wx.heap.size wx w') := Lib.hid (by rw [hS4]; exact WANT.out 101)
    have hcm : ∀ wx, Below wz.heap.size wz wx → wx.cell? ⟨0, 0, none⟩ = some (.int .i64 m) := fun wx h => cell0 HM.out (HWZ.out.trans (h.mono HWZ.out.size))
    have BA : Hid (∀ wx, Below wz.heap.size wz wx → Calls Tryd.prog 15 #[.int .u64 ac, .int .i64 kd] wx fun e w' => e = .returned (.string S1) ∧ Below wx.heap.size wx w') := Lib.hid fun wx h => by
      rw [hS1, show rowR ⟨⟨#[97]⟩, ac, id, kd, pr, rk, tm, nm⟩ = ofL ⟨#[97]⟩ [⟨117, 0, ac, ByteArray.empty⟩, ⟨105, kd, 0, ByteArray.empty⟩] by simp [rowR, ofL]]
      exact schema_balance ac kd m wx ga gk (hcm wx h)
    have OR : Hid (∀ wx, Below wz.heap.size wz wx → Calls Tryd.prog 16 #[.int .u64 id] wx fun e w' => e = .returned (.string S2) ∧ Below wx.heap.size wx w') := Lib.hid fun wx h => by
      rw [hS2, show rowR ⟨⟨#[111]⟩, ac, id, kd, pr, rk, tm, nm⟩ = ofL ⟨#[111]⟩ [⟨117, 0, id, ByteArray.empty⟩] by simp [rowR, ofL, ne_s]]
      exact schema_order id m wx gi (hcm wx h)
    have EX : Hid (∀ wx, Below wz.heap.size wz wx → Calls Tryd.prog 10 #[.int .u64 tm, .int .u64 id] wx fun e w' => e = .returned (.string S4) ∧ Below wx.heap.size wx w') := Lib.hid fun wx h => by
      rw [hS4, show rowR ⟨⟨#[101]⟩, ac, id, kd, pr, rk, tm, nm⟩ = ofL ⟨#[101]⟩ [⟨117, 0, tm, ByteArray.empty⟩, ⟨117, 0, id, ByteArray.empty⟩] by simp [rowR, ofL, ne_s]]
      exact schema_expiry tm id m wx gt gi (hcm wx h)
    clear hS1 hS2 hS4 HS3 WANT hcm ga gi gk gp gr gt GG HBZ HK4
    generalize str m5a = S5
    generalize m5b = e5
    refine wp_region_par 56 [74, 75, 76, 77, 78, 79, 80, 81, 82, 83, 84, 85, 86, 87, 88, 89, 90, 91, 92, 93, 94, 95, 96, 97, 98, 99, 100, 101, 102, 103, 104, 105, 106, 107, 108, 109, 110, 111, 112, 113, 114, 115, 116, 117, 118, 119, 120, 121, 122, 123, 124, 125, 126, 127, 128, 129] [] (Fct14 ac id kd pr rk tm nm S1 S2 S3 S4 S5 e5 xe xs xn xa xi xk xp xr xt W.heap.size) (by kernel_rfl) (by kernel_rfl) (Fct14_moved _ _ _ _ _ _ _ _ _ _ _ _ _ _ _ _ _ _ _ _ _ _ _) ?step ?tail
    case step =>
      intro i hi o ho us wx hus hB hdep K hK
      obtain ⟨u0, u1, u2, u3, u4, u5, u6, u7, u8, u9, u10, u11, u12, u13, u14, u15, u16, u17, u18, u19, u20, u21, u22, u23, u24, u25, u26, u27, u28, u29, u30, u31, u32, u33, u34, u35, u36, u37, u38, u39, u40, u41, u42, u43, u44, u45, u46, u47, u48, u49, u50, u51, u52, u53, u54, u55, rfl⟩ := len56 us hus
      obtain rfl | rfl | rfl | rfl | rfl | rfl | rfl | rfl | rfl | rfl | rfl | rfl | rfl | rfl | rfl | rfl | rfl | rfl | rfl | rfl | rfl | rfl | rfl | rfl | rfl | rfl | rfl | rfl | rfl | rfl | rfl | rfl | rfl | rfl | rfl | rfl | rfl | rfl | rfl | rfl | rfl | rfl | rfl | rfl | rfl | rfl | rfl | rfl | rfl | rfl | rfl | rfl | rfl | rfl | rfl | rfl := lt56 i hi
      all_goals (simp only [List.getElem?_toArray, List.getElem?_cons_succ, List.getElem?_cons_zero, Option.some.injEq] at ho; subst ho; clear hi hus)
      all_goals (generalize hA : puts _ _ _ = A at hK ⊢)
      · have A2 : A.tmps[2]?.getD undef = .pointer (some ⟨W.heap.size, 0, none⟩) := by rw [← hA]; kernel_rfl
        go_wp2
        exact hK _ _ _ rfl rfl (Below.refl _ _) (fun h => absurd h (by decide))
      · have q0 : u0 = .pointer (some ⟨W.heap.size, 1, none⟩) := hdep 0 (by decide)
        have A74 : A.tmps[74]?.getD undef = u0 := by rw [← hA]; kernel_rfl
        rw [q0] at A74
        have e0 := (hB.cell (p := ⟨W.heap.size, 1, none⟩) (cell_lt l1)).trans l1
        go_wp2
        exact hK _ _ _ rfl rfl (Below.refl _ _) (fun h => absurd h (by decide))
      · have A2 : A.tmps[2]?.getD undef = .pointer (some ⟨W.heap.size, 0, none⟩) := by rw [← hA]; kernel_rfl
        go_wp2
        exact hK _ _ _ rfl rfl (Below.refl _ _) (fun h => absurd h (by decide))
      · have q2 : u2 = .pointer (some ⟨W.heap.size, 3, none⟩) := hdep 2 (by decide)
        have A76 : A.tmps[76]?.getD undef = u2 := by rw [← hA]; kernel_rfl
        rw [q2] at A76
        have e0 := (hB.cell (p := ⟨W.heap.size, 3, none⟩) (cell_lt l3)).trans l3
        go_wp2
        exact hK _ _ _ rfl rfl (Below.refl _ _) (fun h => absurd h (by decide))
      · have q1 : u1 = .int .u64 ac := hdep 1 (by decide)
        have A75 : A.tmps[75]?.getD undef = u1 := by rw [← hA]; kernel_rfl
        rw [q1] at A75
        have q3 : u3 = .int .i64 kd := hdep 3 (by decide)
        have A77 : A.tmps[77]?.getD undef = u3 := by rw [← hA]; kernel_rfl
        rw [q3] at A77
        go_wp2_with (go_at_call 15; (with_reducible refine (BA.out _ hB).mono ?_); rintro e wy ⟨rfl, hBy⟩)
        exact hK _ _ _ rfl rfl hBy (fun h => absurd h (by decide))
      · have A5 : A.tmps[5]?.getD undef = .func (.func 11) #[] #[] := by rw [← hA]; kernel_rfl
        go_wp2
        exact hK _ _ _ rfl rfl (Below.refl _ _) (fun h => absurd h (by decide))
      · have A7 : A.tmps[7]?.getD undef = pt A1 := by rw [← hA]; kernel_rfl
        obtain ⟨n0, n1, n2, n3, n4, n5, n6, n7⟩ := cellsT_of ((hB.block _ (heap_lt HA1.out)).trans HA1.out)
        go_wp2
        exact hK _ _ _ rfl rfl (Below.refl _ _) (fun h => absurd h (by decide))
      · have q5 : u5 = .func (.func 11) #[] #[] := hdep 5 (by decide)
        have A79 : A.tmps[79]?.getD undef = u5 := by rw [← hA]; kernel_rfl
        rw [q5] at A79
        have q6 : u6 = (.agg #[.string ⟨#[97]⟩, .int .u64 ac, .int .u64 id, .int .i64 kd, .int .i64 pr, .int .u64 rk, .int .u64 tm, .string nm]) := hdep 6 (by decide)
        have A80 : A.tmps[80]?.getD undef = u6 := by rw [← hA]; kernel_rfl
        rw [q6] at A80
        go_wp2_with (go_at_call 11; (with_reducible refine (W1.out _).mono ?_); rintro e wy ⟨rfl, hBy⟩)
        exact hK _ _ _ rfl rfl hBy (fun h => absurd h (by decide))
      · have q4 : u4 = .string S1 := hdep 4 (by decide)
        have A78 : A.tmps[78]?.getD undef = u4 := by rw [← hA]; kernel_rfl
        rw [q4] at A78
        have q7 : u7 = .string S1 := hdep 7 (by decide)
        have A81 : A.tmps[81]?.getD undef = u7 := by rw [← hA]; kernel_rfl
        rw [q7] at A81
        go_wp2
        exact hK _ _ _ rfl rfl (Below.refl _ _) (fun h => absurd h (by decide))
      · have q8 : u8 = .bool true := hdep 8 (by decide)
        have A82 : A.tmps[82]?.getD undef = u8 := by rw [← hA]; kernel_rfl
        rw [q8] at A82
        go_wp2
        exact hK _ _ _ rfl rfl (Below.refl _ _) (fun h => absurd h (by decide))
      · have A2 : A.tmps[2]?.getD undef = .pointer (some ⟨W.heap.size, 0, none⟩) := by rw [← hA]; kernel_rfl
        have q9 : u9 = .bool true := hdep 9 (by decide)
        have A83 : A.tmps[83]?.getD undef = u9 := by rw [← hA]; kernel_rfl
        rw [q9] at A83
        refine wpList_unguard (wanted_of (j := 9) (d := 83) rfl (by kernel_rfl) A83) ?_
        go_wp2
        exact hK _ _ _ rfl rfl (Below.refl _ _) (fun h => absurd h (by decide))
      · have q10 : u10 = .pointer (some ⟨W.heap.size, 2, none⟩) := hdep 10 (by decide)
        have A84 : A.tmps[84]?.getD undef = u10 := by rw [← hA]; kernel_rfl
        rw [q10] at A84
        have q9 : u9 = .bool true := hdep 9 (by decide)
        have A83 : A.tmps[83]?.getD undef = u9 := by rw [← hA]; kernel_rfl
        rw [q9] at A83
        refine wpList_unguard (wanted_of (j := 9) (d := 83) rfl (by kernel_rfl) A83) ?_
        have e0 := (hB.cell (p := ⟨W.heap.size, 2, none⟩) (cell_lt l2)).trans l2
        go_wp2
        exact hK _ _ _ rfl rfl (Below.refl _ _) (fun h => absurd h (by decide))
      · have q11 : u11 = .int .u64 id := hdep 11 (by decide)
        have A85 : A.tmps[85]?.getD undef = u11 := by rw [← hA]; kernel_rfl
        rw [q11] at A85
        have q9 : u9 = .bool true := hdep 9 (by decide)
        have A83 : A.tmps[83]?.getD undef = u9 := by rw [← hA]; kernel_rfl
        rw [q9] at A83
        refine wpList_unguard (wanted_of (j := 9) (d := 83) rfl (by kernel_rfl) A83) ?_
        go_wp2_with (go_at_call 16; (with_reducible refine (OR.out _ hB).mono ?_); rintro e wy ⟨rfl, hBy⟩)
        exact hK _ _ _ rfl rfl hBy (fun h => absurd h (by decide))
      · have A5 : A.tmps[5]?.getD undef = .func (.func 11) #[] #[] := by rw [← hA]; kernel_rfl
        have q9 : u9 = .bool true := hdep 9 (by decide)
        have A83 : A.tmps[83]?.getD undef = u9 := by rw [← hA]; kernel_rfl
        rw [q9] at A83
        refine wpList_unguard (wanted_of (j := 9) (d := 83) rfl (by kernel_rfl) A83) ?_
        go_wp2
        exact hK _ _ _ rfl rfl (Below.refl _ _) (fun h => absurd h (by decide))
      · have A8 : A.tmps[8]?.getD undef = pt A2 := by rw [← hA]; kernel_rfl
        have q9 : u9 = .bool true := hdep 9 (by decide)
        have A83 : A.tmps[83]?.getD undef = u9 := by rw [← hA]; kernel_rfl
        rw [q9] at A83
        refine wpList_unguard (wanted_of (j := 9) (d := 83) rfl (by kernel_rfl) A83) ?_
        obtain ⟨n0, n1, n2, n3, n4, n5, n6, n7⟩ := cellsT_of ((hB.block _ (heap_lt HA2.out)).trans HA2.out)
        go_wp2
        exact hK _ _ _ rfl rfl (Below.refl _ _) (fun h => absurd h (by decide))
      · have q13 : u13 = .func (.func 11) #[] #[] := hdep 13 (by decide)
        have A87 : A.tmps[87]?.getD undef = u13 := by rw [← hA]; kernel_rfl
        rw [q13] at A87
        have q14 : u14 = (.agg #[.string ⟨#[111]⟩, .int .u64 ac, .int .u64 id, .int .i64 kd, .int .i64 pr, .int .u64 rk, .int .u64 tm, .string nm]) := hdep 14 (by decide)
        have A88 : A.tmps[88]?.getD undef = u14 := by rw [← hA]; kernel_rfl
        rw [q14] at A88
        have q9 : u9 = .bool true := hdep 9 (by decide)
        have A83 : A.tmps[83]?.getD undef = u9 := by rw [← hA]; kernel_rfl
        rw [q9] at A83
        refine wpList_unguard (wanted_of (j := 9) (d := 83) rfl (by kernel_rfl) A83) ?_
        go_wp2_with (go_at_call 11; (with_reducible refine (W2.out _).mono ?_); rintro e wy ⟨rfl, hBy⟩)
        exact hK _ _ _ rfl rfl hBy (fun h => absurd h (by decide))
      · have q12 : u12 = .string S2 := hdep 12 (by decide)
        have A86 : A.tmps[86]?.getD undef = u12 := by rw [← hA]; kernel_rfl
        rw [q12] at A86
        have q15 : u15 = .string S2 := hdep 15 (by decide)
        have A89 : A.tmps[89]?.getD undef = u15 := by rw [← hA]; kernel_rfl
        rw [q15] at A89
        have q9 : u9 = .bool true := hdep 9 (by decide)
        have A83 : A.tmps[83]?.getD undef = u9 := by rw [← hA]; kernel_rfl
        rw [q9] at A83
        refine wpList_unguard (wanted_of (j := 9) (d := 83) rfl (by kernel_rfl) A83) ?_
        go_wp2
        exact hK _ _ _ rfl rfl (Below.refl _ _) (fun h => absurd h (by decide))
      · have q9 : u9 = .bool true := hdep 9 (by decide)
        have A83 : A.tmps[83]?.getD undef = u9 := by rw [← hA]; kernel_rfl
        rw [q9] at A83
        have q16 : u16 = .bool true := hdep 16 (by decide)
        have A90 : A.tmps[90]?.getD undef = u16 := by rw [← hA]; kernel_rfl
        rw [q16] at A90
        go_wp2
        exact hK _ _ _ rfl rfl (Below.refl _ _) (fun h => absurd h (by decide))
      · have q17 : u17 = .bool true := hdep 17 (by decide)
        have A91 : A.tmps[91]?.getD undef = u17 := by rw [← hA]; kernel_rfl
        rw [q17] at A91
        go_wp2
        exact hK _ _ _ rfl rfl (Below.refl _ _) (fun h => absurd h (by decide))
      · have A20 : A.tmps[20]?.getD undef = .string S3 := by rw [← hA]; kernel_rfl
        have q18 : u18 = .bool true := hdep 18 (by decide)
        have A92 : A.tmps[92]?.getD undef = u18 := by rw [← hA]; kernel_rfl
        rw [q18] at A92
        refine wpList_unguard (wanted_of (j := 18) (d := 92) rfl (by kernel_rfl) A92) ?_
        go_wp2
        exact hK _ _ _ rfl rfl (Below.refl _ _) (fun h => absurd h (by decide))
      · have A5 : A.tmps[5]?.getD undef = .func (.func 11) #[] #[] := by rw [← hA]; kernel_rfl
        have q18 : u18 = .bool true := hdep 18 (by decide)
        have A92 : A.tmps[92]?.getD undef = u18 := by rw [← hA]; kernel_rfl
        rw [q18] at A92
        refine wpList_unguard (wanted_of (j := 18) (d := 92) rfl (by kernel_rfl) A92) ?_
        go_wp2
        exact hK _ _ _ rfl rfl (Below.refl _ _) (fun h => absurd h (by decide))
      · have A9 : A.tmps[9]?.getD undef = pt A3 := by rw [← hA]; kernel_rfl
        have q18 : u18 = .bool true := hdep 18 (by decide)
        have A92 : A.tmps[92]?.getD undef = u18 := by rw [← hA]; kernel_rfl
        rw [q18] at A92
        refine wpList_unguard (wanted_of (j := 18) (d := 92) rfl (by kernel_rfl) A92) ?_
        obtain ⟨n0, n1, n2, n3, n4, n5, n6, n7⟩ := cellsT_of ((hB.block _ (heap_lt HA3.out)).trans HA3.out)
        go_wp2
        exact hK _ _ _ rfl rfl (Below.refl _ _) (fun h => absurd h (by decide))
      · have q20 : u20 = .func (.func 11) #[] #[] := hdep 20 (by decide)
        have A94 : A.tmps[94]?.getD undef = u20 := by rw [← hA]; kernel_rfl
        rw [q20] at A94
        have q21 : u21 = (.agg #[.string ⟨#[98]⟩, .int .u64 ac, .int .u64 id, .int .i64 kd, .int .i64 pr, .int .u64 rk, .int .u64 tm, .string nm]) := hdep 21 (by decide)
        have A95 : A.tmps[95]?.getD undef = u21 := by rw [← hA]; kernel_rfl
        rw [q21] at A95
        have q18 : u18 = .bool true := hdep 18 (by decide)
        have A92 : A.tmps[92]?.getD undef = u18 := by rw [← hA]; kernel_rfl
        rw [q18] at A92
        refine wpList_unguard (wanted_of (j := 18) (d := 92) rfl (by kernel_rfl) A92) ?_
        go_wp2_with (go_at_call 11; (with_reducible refine (W3.out _).mono ?_); rintro e wy ⟨rfl, hBy⟩)
        exact hK _ _ _ rfl rfl hBy (fun h => absurd h (by decide))
      · have q19 : u19 = .string S3 := hdep 19 (by decide)
        have A93 : A.tmps[93]?.getD undef = u19 := by rw [← hA]; kernel_rfl
        rw [q19] at A93
        have q22 : u22 = .string S3 := hdep 22 (by decide)
        have A96 : A.tmps[96]?.getD undef = u22 := by rw [← hA]; kernel_rfl
        rw [q22] at A96
        have q18 : u18 = .bool true := hdep 18 (by decide)
        have A92 : A.tmps[92]?.getD undef = u18 := by rw [← hA]; kernel_rfl
        rw [q18] at A92
        refine wpList_unguard (wanted_of (j := 18) (d := 92) rfl (by kernel_rfl) A92) ?_
        go_wp2
        exact hK _ _ _ rfl rfl (Below.refl _ _) (fun h => absurd h (by decide))
      · have q18 : u18 = .bool true := hdep 18 (by decide)
        have A92 : A.tmps[92]?.getD undef = u18 := by rw [← hA]; kernel_rfl
        rw [q18] at A92
        have q23 : u23 = .bool true := hdep 23 (by decide)
        have A97 : A.tmps[97]?.getD undef = u23 := by rw [← hA]; kernel_rfl
        rw [q23] at A97
        go_wp2
        exact hK _ _ _ rfl rfl (Below.refl _ _) (fun h => absurd h (by decide))
      · have q24 : u24 = .bool true := hdep 24 (by decide)
        have A98 : A.tmps[98]?.getD undef = u24 := by rw [← hA]; kernel_rfl
        rw [q24] at A98
        go_wp2
        exact hK _ _ _ rfl rfl (Below.refl _ _) (fun h => absurd h (by decide))
      · have A2 : A.tmps[2]?.getD undef = .pointer (some ⟨W.heap.size, 0, none⟩) := by rw [← hA]; kernel_rfl
        have q25 : u25 = .bool true := hdep 25 (by decide)
        have A99 : A.tmps[99]?.getD undef = u25 := by rw [← hA]; kernel_rfl
        rw [q25] at A99
        refine wpList_unguard (wanted_of (j := 25) (d := 99) rfl (by kernel_rfl) A99) ?_
        go_wp2
        exact hK _ _ _ rfl rfl (Below.refl _ _) (fun h => absurd h (by decide))
      · have q26 : u26 = .pointer (some ⟨W.heap.size, 6, none⟩) := hdep 26 (by decide)
        have A100 : A.tmps[100]?.getD undef = u26 := by rw [← hA]; kernel_rfl
        rw [q26] at A100
        have q25 : u25 = .bool true := hdep 25 (by decide)
        have A99 : A.tmps[99]?.getD undef = u25 := by rw [← hA]; kernel_rfl
        rw [q25] at A99
        refine wpList_unguard (wanted_of (j := 25) (d := 99) rfl (by kernel_rfl) A99) ?_
        have e0 := (hB.cell (p := ⟨W.heap.size, 6, none⟩) (cell_lt l6)).trans l6
        go_wp2
        exact hK _ _ _ rfl rfl (Below.refl _ _) (fun h => absurd h (by decide))
      · have A2 : A.tmps[2]?.getD undef = .pointer (some ⟨W.heap.size, 0, none⟩) := by rw [← hA]; kernel_rfl
        have q25 : u25 = .bool true := hdep 25 (by decide)
        have A99 : A.tmps[99]?.getD undef = u25 := by rw [← hA]; kernel_rfl
        rw [q25] at A99
        refine wpList_unguard (wanted_of (j := 25) (d := 99) rfl (by kernel_rfl) A99) ?_
        go_wp2
        exact hK _ _ _ rfl rfl (Below.refl _ _) (fun h => absurd h (by decide))
      · have q28 : u28 = .pointer (some ⟨W.heap.size, 2, none⟩) := hdep 28 (by decide)
        have A102 : A.tmps[102]?.getD undef = u28 := by rw [← hA]; kernel_rfl
        rw [q28] at A102
        have q25 : u25 = .bool true := hdep 25 (by decide)
        have A99 : A.tmps[99]?.getD undef = u25 := by rw [← hA]; kernel_rfl
        rw [q25] at A99
        refine wpList_unguard (wanted_of (j := 25) (d := 99) rfl (by kernel_rfl) A99) ?_
        have e0 := (hB.cell (p := ⟨W.heap.size, 2, none⟩) (cell_lt l2)).trans l2
        go_wp2
        exact hK _ _ _ rfl rfl (Below.refl _ _) (fun h => absurd h (by decide))
      · have q27 : u27 = .int .u64 tm := hdep 27 (by decide)
        have A101 : A.tmps[101]?.getD undef = u27 := by rw [← hA]; kernel_rfl
        rw [q27] at A101
        have q29 : u29 = .int .u64 id := hdep 29 (by decide)
        have A103 : A.tmps[103]?.getD undef = u29 := by rw [← hA]; kernel_rfl
        rw [q29] at A103
        have q25 : u25 = .bool true := hdep 25 (by decide)
        have A99 : A.tmps[99]?.getD undef = u25 := by rw [← hA]; kernel_rfl
        rw [q25] at A99
        refine wpList_unguard (wanted_of (j := 25) (d := 99) rfl (by kernel_rfl) A99) ?_
        go_wp2_with (go_at_call 10; (with_reducible refine (EX.out _ hB).mono ?_); rintro e wy ⟨rfl, hBy⟩)
        exact hK _ _ _ rfl rfl hBy (fun h => absurd h (by decide))
      · have A5 : A.tmps[5]?.getD undef = .func (.func 11) #[] #[] := by rw [← hA]; kernel_rfl
        have q25 : u25 = .bool true := hdep 25 (by decide)
        have A99 : A.tmps[99]?.getD undef = u25 := by rw [← hA]; kernel_rfl
        rw [q25] at A99
        refine wpList_unguard (wanted_of (j := 25) (d := 99) rfl (by kernel_rfl) A99) ?_
        go_wp2
        exact hK _ _ _ rfl rfl (Below.refl _ _) (fun h => absurd h (by decide))
      · have A10 : A.tmps[10]?.getD undef = pt A4 := by rw [← hA]; kernel_rfl
        have q25 : u25 = .bool true := hdep 25 (by decide)
        have A99 : A.tmps[99]?.getD undef = u25 := by rw [← hA]; kernel_rfl
        rw [q25] at A99
        refine wpList_unguard (wanted_of (j := 25) (d := 99) rfl (by kernel_rfl) A99) ?_
        obtain ⟨n0, n1, n2, n3, n4, n5, n6, n7⟩ := cellsT_of ((hB.block _ (heap_lt HA4.out)).trans HA4.out)
        go_wp2
        exact hK _ _ _ rfl rfl (Below.refl _ _) (fun h => absurd h (by decide))
      · have q31 : u31 = .func (.func 11) #[] #[] := hdep 31 (by decide)
        have A105 : A.tmps[105]?.getD undef = u31 := by rw [← hA]; kernel_rfl
        rw [q31] at A105
        have q32 : u32 = (.agg #[.string ⟨#[101]⟩, .int .u64 ac, .int .u64 id, .int .i64 kd, .int .i64 pr, .int .u64 rk, .int .u64 tm, .string nm]) := hdep 32 (by decide)
        have A106 : A.tmps[106]?.getD undef = u32 := by rw [← hA]; kernel_rfl
        rw [q32] at A106
        have q25 : u25 = .bool true := hdep 25 (by decide)
        have A99 : A.tmps[99]?.getD undef = u25 := by rw [← hA]; kernel_rfl
        rw [q25] at A99
        refine wpList_unguard (wanted_of (j := 25) (d := 99) rfl (by kernel_rfl) A99) ?_
        go_wp2_with (go_at_call 11; (with_reducible refine (W4.out _).mono ?_); rintro e wy ⟨rfl, hBy⟩)
        exact hK _ _ _ rfl rfl hBy (fun h => absurd h (by decide))
      · have q30 : u30 = .string S4 := hdep 30 (by decide)
        have A104 : A.tmps[104]?.getD undef = u30 := by rw [← hA]; kernel_rfl
        rw [q30] at A104
        have q33 : u33 = .string S4 := hdep 33 (by decide)
        have A107 : A.tmps[107]?.getD undef = u33 := by rw [← hA]; kernel_rfl
        rw [q33] at A107
        have q25 : u25 = .bool true := hdep 25 (by decide)
        have A99 : A.tmps[99]?.getD undef = u25 := by rw [← hA]; kernel_rfl
        rw [q25] at A99
        refine wpList_unguard (wanted_of (j := 25) (d := 99) rfl (by kernel_rfl) A99) ?_
        go_wp2
        exact hK _ _ _ rfl rfl (Below.refl _ _) (fun h => absurd h (by decide))
      · have q25 : u25 = .bool true := hdep 25 (by decide)
        have A99 : A.tmps[99]?.getD undef = u25 := by rw [← hA]; kernel_rfl
        rw [q25] at A99
        have q34 : u34 = .bool true := hdep 34 (by decide)
        have A108 : A.tmps[108]?.getD undef = u34 := by rw [← hA]; kernel_rfl
        rw [q34] at A108
        go_wp2
        exact hK _ _ _ rfl rfl (Below.refl _ _) (fun h => absurd h (by decide))
      · have q35 : u35 = .bool true := hdep 35 (by decide)
        have A109 : A.tmps[109]?.getD undef = u35 := by rw [← hA]; kernel_rfl
        rw [q35] at A109
        go_wp2
        exact hK _ _ _ rfl rfl (Below.refl _ _) (fun h => absurd h (by decide))
      · have A12 : A.tmps[12]?.getD undef = .string S5 := by rw [← hA]; kernel_rfl
        have q36 : u36 = .bool true := hdep 36 (by decide)
        have A110 : A.tmps[110]?.getD undef = u36 := by rw [← hA]; kernel_rfl
        rw [q36] at A110
        refine wpList_unguard (wanted_of (j := 36) (d := 110) rfl (by kernel_rfl) A110) ?_
        go_wp2
        exact hK _ _ _ rfl rfl (Below.refl _ _) (fun h => absurd h (by decide))
      · have A14 : A.tmps[14]?.getD undef = .string S5 := by rw [← hA]; kernel_rfl
        have q36 : u36 = .bool true := hdep 36 (by decide)
        have A110 : A.tmps[110]?.getD undef = u36 := by rw [← hA]; kernel_rfl
        rw [q36] at A110
        refine wpList_unguard (wanted_of (j := 36) (d := 110) rfl (by kernel_rfl) A110) ?_
        go_wp2
        exact hK _ _ _ rfl rfl (Below.refl _ _) (fun h => absurd h (by decide))
      · have q37 : u37 = .string S5 := hdep 37 (by decide)
        have A111 : A.tmps[111]?.getD undef = u37 := by rw [← hA]; kernel_rfl
        rw [q37] at A111
        have q38 : u38 = .string S5 := hdep 38 (by decide)
        have A112 : A.tmps[112]?.getD undef = u38 := by rw [← hA]; kernel_rfl
        rw [q38] at A112
        have q36 : u36 = .bool true := hdep 36 (by decide)
        have A110 : A.tmps[110]?.getD undef = u36 := by rw [← hA]; kernel_rfl
        rw [q36] at A110
        refine wpList_unguard (wanted_of (j := 36) (d := 110) rfl (by kernel_rfl) A110) ?_
        go_wp2
        exact hK _ _ _ rfl rfl (Below.refl _ _) (fun h => absurd h (by decide))
      · have q36 : u36 = .bool true := hdep 36 (by decide)
        have A110 : A.tmps[110]?.getD undef = u36 := by rw [← hA]; kernel_rfl
        rw [q36] at A110
        have q39 : u39 = .bool true := hdep 39 (by decide)
        have A113 : A.tmps[113]?.getD undef = u39 := by rw [← hA]; kernel_rfl
        rw [q39] at A113
        go_wp2
        exact hK _ _ _ rfl rfl (Below.refl _ _) (fun h => absurd h (by decide))
      · have q40 : u40 = .bool true := hdep 40 (by decide)
        have A114 : A.tmps[114]?.getD undef = u40 := by rw [← hA]; kernel_rfl
        rw [q40] at A114
        go_wp2
        exact hK _ _ _ rfl rfl (Below.refl _ _) (fun h => absurd h (by decide))
      · have A13 : A.tmps[13]?.getD undef = .int .i64 e5 := by rw [← hA]; kernel_rfl
        have q41 : u41 = .bool true := hdep 41 (by decide)
        have A115 : A.tmps[115]?.getD undef = u41 := by rw [← hA]; kernel_rfl
        rw [q41] at A115
        refine wpList_unguard (wanted_of (j := 41) (d := 115) rfl (by kernel_rfl) A115) ?_
        go_wp2
        exact hK _ _ _ rfl rfl (Below.refl _ _) (fun h => absurd h (by decide))
      · have A15 : A.tmps[15]?.getD undef = .int .i64 e5 := by rw [← hA]; kernel_rfl
        have q41 : u41 = .bool true := hdep 41 (by decide)
        have A115 : A.tmps[115]?.getD undef = u41 := by rw [← hA]; kernel_rfl
        rw [q41] at A115
        refine wpList_unguard (wanted_of (j := 41) (d := 115) rfl (by kernel_rfl) A115) ?_
        go_wp2
        exact hK _ _ _ rfl rfl (Below.refl _ _) (fun h => absurd h (by decide))
      · have q42 : u42 = .int .i64 e5 := hdep 42 (by decide)
        have A116 : A.tmps[116]?.getD undef = u42 := by rw [← hA]; kernel_rfl
        rw [q42] at A116
        have q43 : u43 = .int .i64 e5 := hdep 43 (by decide)
        have A117 : A.tmps[117]?.getD undef = u43 := by rw [← hA]; kernel_rfl
        rw [q43] at A117
        have q41 : u41 = .bool true := hdep 41 (by decide)
        have A115 : A.tmps[115]?.getD undef = u41 := by rw [← hA]; kernel_rfl
        rw [q41] at A115
        refine wpList_unguard (wanted_of (j := 41) (d := 115) rfl (by kernel_rfl) A115) ?_
        go_wp2
        exact hK _ _ _ rfl rfl (Below.refl _ _) (fun h => absurd h (by decide))
      · have q41 : u41 = .bool true := hdep 41 (by decide)
        have A115 : A.tmps[115]?.getD undef = u41 := by rw [← hA]; kernel_rfl
        rw [q41] at A115
        have q44 : u44 = .bool true := hdep 44 (by decide)
        have A118 : A.tmps[118]?.getD undef = u44 := by rw [← hA]; kernel_rfl
        rw [q44] at A118
        go_wp2
        exact hK _ _ _ rfl rfl (Below.refl _ _) (fun h => absurd h (by decide))
      · have q45 : u45 = .bool true := hdep 45 (by decide)
        have A119 : A.tmps[119]?.getD undef = u45 := by rw [← hA]; kernel_rfl
        rw [q45] at A119
        go_wp2
        exact hK _ _ _ rfl rfl (Below.refl _ _) (fun h => absurd h (by decide))
      · have A16 : A.tmps[16]?.getD undef = pt X1 := by rw [← hA]; kernel_rfl
        have q46 : u46 = .bool true := hdep 46 (by decide)
        have A120 : A.tmps[120]?.getD undef = u46 := by rw [← hA]; kernel_rfl
        rw [q46] at A120
        refine wpList_unguard (wanted_of (j := 46) (d := 120) rfl (by kernel_rfl) A120) ?_
        obtain ⟨n0, n1, n2, n3, n4, n5, n6, n7⟩ := cellsT_of ((hB.block _ (heap_lt HZ1.out)).trans HZ1.out)
        go_wp2
        exact hK _ _ _ rfl rfl (Below.refl _ _) (fun h => absurd h (by decide))
      · have A18 : A.tmps[18]?.getD undef = pt X2 := by rw [← hA]; kernel_rfl
        have q46 : u46 = .bool true := hdep 46 (by decide)
        have A120 : A.tmps[120]?.getD undef = u46 := by rw [← hA]; kernel_rfl
        rw [q46] at A120
        refine wpList_unguard (wanted_of (j := 46) (d := 120) rfl (by kernel_rfl) A120) ?_
        obtain ⟨n0, n1, n2, n3, n4, n5, n6, n7⟩ := cellsT_of ((hB.block _ (heap_lt HZ2.out)).trans HZ2.out)
        go_wp2
        exact hK _ _ _ rfl rfl (Below.refl _ _) (fun h => absurd h (by decide))
      · have q47 : u47 = (.agg #[.string xs, .int .u64 xa, .int .u64 xi, .int .i64 xk, .int .i64 xp, .int .u64 xr, .int .u64 xt, .string xn]) := hdep 47 (by decide)
        have A121 : A.tmps[121]?.getD undef = u47 := by rw [← hA]; kernel_rfl
        rw [q47] at A121
        have q48 : u48 = (.agg #[.string xs, .int .u64 xa, .int .u64 xi, .int .i64 xk, .int .i64 xp, .int .u64 xr, .int .u64 xt, .string xn]) := hdep 48 (by decide)
        have A122 : A.tmps[122]?.getD undef = u48 := by rw [← hA]; kernel_rfl
        rw [q48] at A122
        have q46 : u46 = .bool true := hdep 46 (by decide)
        have A120 : A.tmps[120]?.getD undef = u46 := by rw [← hA]; kernel_rfl
        rw [q46] at A120
        refine wpList_unguard (wanted_of (j := 46) (d := 120) rfl (by kernel_rfl) A120) ?_
        go_wp2
        exact hK _ _ _ rfl rfl (Below.refl _ _) (fun h => absurd h (by decide))
      · have q46 : u46 = .bool true := hdep 46 (by decide)
        have A120 : A.tmps[120]?.getD undef = u46 := by rw [← hA]; kernel_rfl
        rw [q46] at A120
        have q49 : u49 = .bool true := hdep 49 (by decide)
        have A123 : A.tmps[123]?.getD undef = u49 := by rw [← hA]; kernel_rfl
        rw [q49] at A123
        go_wp2
        exact hK _ _ _ rfl rfl (Below.refl _ _) (fun h => absurd h (by decide))
      · have q50 : u50 = .bool true := hdep 50 (by decide)
        have A124 : A.tmps[124]?.getD undef = u50 := by rw [← hA]; kernel_rfl
        rw [q50] at A124
        go_wp2
        exact hK _ _ _ rfl rfl (Below.refl _ _) (fun h => absurd h (by decide))
      · have A17 : A.tmps[17]?.getD undef = .int .i64 xe := by rw [← hA]; kernel_rfl
        have q51 : u51 = .bool true := hdep 51 (by decide)
        have A125 : A.tmps[125]?.getD undef = u51 := by rw [← hA]; kernel_rfl
        rw [q51] at A125
        refine wpList_unguard (wanted_of (j := 51) (d := 125) rfl (by kernel_rfl) A125) ?_
        go_wp2
        exact hK _ _ _ rfl rfl (Below.refl _ _) (fun h => absurd h (by decide))
      · have A19 : A.tmps[19]?.getD undef = .int .i64 xe := by rw [← hA]; kernel_rfl
        have q51 : u51 = .bool true := hdep 51 (by decide)
        have A125 : A.tmps[125]?.getD undef = u51 := by rw [← hA]; kernel_rfl
        rw [q51] at A125
        refine wpList_unguard (wanted_of (j := 51) (d := 125) rfl (by kernel_rfl) A125) ?_
        go_wp2
        exact hK _ _ _ rfl rfl (Below.refl _ _) (fun h => absurd h (by decide))
      · have q52 : u52 = .int .i64 xe := hdep 52 (by decide)
        have A126 : A.tmps[126]?.getD undef = u52 := by rw [← hA]; kernel_rfl
        rw [q52] at A126
        have q53 : u53 = .int .i64 xe := hdep 53 (by decide)
        have A127 : A.tmps[127]?.getD undef = u53 := by rw [← hA]; kernel_rfl
        rw [q53] at A127
        have q51 : u51 = .bool true := hdep 51 (by decide)
        have A125 : A.tmps[125]?.getD undef = u51 := by rw [← hA]; kernel_rfl
        rw [q51] at A125
        refine wpList_unguard (wanted_of (j := 51) (d := 125) rfl (by kernel_rfl) A125) ?_
        go_wp2
        exact hK _ _ _ rfl rfl (Below.refl _ _) (fun h => absurd h (by decide))
      · have q51 : u51 = .bool true := hdep 51 (by decide)
        have A125 : A.tmps[125]?.getD undef = u51 := by rw [← hA]; kernel_rfl
        rw [q51] at A125
        have q54 : u54 = .bool true := hdep 54 (by decide)
        have A128 : A.tmps[128]?.getD undef = u54 := by rw [← hA]; kernel_rfl
        rw [q54] at A128
        go_wp2
        exact hK _ _ _ rfl rfl (Below.refl _ _) (fun h => absurd h (by decide))
    case tail =>
      intro us wx hus hB hf hne
      obtain ⟨u0, u1, u2, u3, u4, u5, u6, u7, u8, u9, u10, u11, u12, u13, u14, u15, u16, u17, u18, u19, u20, u21, u22, u23, u24, u25, u26, u27, u28, u29, u30, u31, u32, u33, u34, u35, u36, u37, u38, u39, u40, u41, u42, u43, u44, u45, u46, u47, u48, u49, u50, u51, u52, u53, u54, u55, rfl⟩ := len56 us hus
      have q : u55 = .bool true := hf 55 (by decide)
      subst q
      have HBX := Lib.hid hB
      clear hf hne hus hB
      simp only [puts, Act.put, List.setIfInBounds_toArray, List.set_cons_succ, List.set_cons_zero, List.drop_succ_cons, List.drop_zero]
      go_wp2
      go_ret
      exact ⟨rfl, HWZ.out.trans (HBX.out.mono HWZ.out.size)⟩

end Go.Proofs.YtafdjgmdkbimoaaDoor
