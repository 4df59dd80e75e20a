/-
  The walk of WalkGoes: where a walk of any trades is, heads, has been, how wide it is, where each trade ended; left off anywhere.
-/
import Derived.Test.YtkllcidmahhkoaaWlkRefV
import Derived.Test.YtkllcidmahhkoaaWlkPlc
import Derived.Test.YtkllcidmahhkoaaWlkAwake
import Derived.Test.YtkllcidmahhkoaaRegParIn
import Derived.Sort.CutIn
namespace Go.Proofs.Ytkllcidmahhkoaa
open Go.RowKit Go.Shelf
set_option linter.unusedVariables false
set_option linter.unusedSimpArgs false
attribute [local go_sem] Oper.semAt_some

theorem ref_cells {w : World} {B : Nat} {x y hd co : Int} {v u : Value} {t : TypeId} (h : w.heap[B]? = some (.cells (refP x y hd co v u) t (0, 0))) :
    w.cell? ⟨B, 0, none⟩ = some (.int .i64 x) ∧ w.cell? ⟨B, 1, none⟩ = some (.int .i64 y) ∧ w.cell? ⟨B, 2, none⟩ = some (.int .i64 hd) ∧ w.cell? ⟨B, 3, none⟩ = some (.int .i64 co) ∧ w.cell? ⟨B, 4, none⟩ = some v ∧ w.cell? ⟨B, 5, none⟩ = some u := by
  simp [World.cell?, h]
theorem low_after (l : List TradeR) : ∀ k, k ≤ l.length → lowL ((xsZ l).take k) = (afterZ l k).lx ∧ highL ((xsZ l).take k) = (afterZ l k).ux ∧ lowL ((ysZ l).take k) = (afterZ l k).ly ∧ highL ((ysZ l).take k) = (afterZ l k).uy
  | 0, _ => by simp [lowL, highL, afterZ, begunZ]
  | k + 1, h => by
    obtain ⟨h1, h2, h3, h4⟩ := low_after l k (by omega)
    have hx : k < (xsZ l).length := by simp [xsZ, paths_len]; omega
    have hy : k < (ysZ l).length := by simp [ysZ, paths_len]; omega
    have ex : (xsZ l)[k] = (afterZ l (k + 1)).x := by simp [xsZ, pathsZ]
    have ey : (ysZ l)[k] = (afterZ l (k + 1)).y := by simp [ysZ, pathsZ]
    rw [lowL_take _ k hx, highL_take _ k hx, lowL_take _ k hy, highL_take _ k hy, h1, h2, h3, h4, ex, ey, afterZ_succ l k (by omega)]
    exact ⟨rfl, rfl, rfl, rfl⟩
theorem low_all (l : List TradeR) : lowL (xsZ l) = (afterZ l l.length).lx ∧ highL (xsZ l) = (afterZ l l.length).ux ∧ lowL (ysZ l) = (afterZ l l.length).ly ∧ highL (ysZ l) = (afterZ l l.length).uy := by
  have h := low_after l l.length (Nat.le_refl _)
  rwa [List.take_of_length_le (by simp [xsZ, paths_len]), List.take_of_length_le (by simp [ysZ, paths_len])] at h
theorem results_box1 {P : Program} {fn : Func} {p : Tmp} {tp : TypeId} (h : fn.results = #[.cell p tp]) (tmps : Array Value) (w : World) (A : Nat) (va : Value)
    (hp : tmps.getD p undef = .pointer (some ⟨A, 0, none⟩)) (ha : w.heap[A]? = some (.cells #[va] tp (0, 0)))
    (hsp : ∀ w, (isAgg tp : Sem Bool).run P w = .ok false w) : (results fn tmps).run P w = .ok va w := by
  have ha1 := run_loadVar_one (v := va) (B := A) (t := tp) ha (hsp w)
  simp only [results, h]
  have hp' : tmps[p]?.getD undef = .pointer (some ⟨A, 0, none⟩) := by simpa using hp
  simp [Sem.run_bind, Result.andThen, hp', asAddr, ha1]
theorem ChgQ.cell {q : Nat → Prop} {A B : World} (h : ChgQ q A B) {a : Addr} {v : Value} (hq : ¬ q a.block) (hc : A.cell? a = some v) : B.cell? a = some v := by
  have hb := World.block_lt_of_cell? A a hc
  have e := h.block a.block hb hq
  unfold World.cell? at hc ⊢
  rw [e]; exact hc
theorem isAgg_bool (w : World) : (isAgg 4 : Sem Bool).run Try.prog w = .ok false w := by simp [isAgg, go_sem, Try.underlying4]
theorem run_ix4_0 (w : World) : (Instr.index 43 (.agg #[.complex .f64 4607182418800017408 0, .complex .f64 0 4607182418800017408, .complex .f64 13830554455654793216 0, .complex .f64 0 13830554455654793216]) (.int .i64 0)).run Try.prog w = .ok (.complex .f64 4607182418800017408 0) w := by kernel_rfl
theorem run_ix4_1 (w : World) : (Instr.index 43 (.agg #[.complex .f64 4607182418800017408 0, .complex .f64 0 4607182418800017408, .complex .f64 13830554455654793216 0, .complex .f64 0 13830554455654793216]) (.int .i64 1)).run Try.prog w = .ok (.complex .f64 0 4607182418800017408) w := by kernel_rfl
theorem run_ix4_2 (w : World) : (Instr.index 43 (.agg #[.complex .f64 4607182418800017408 0, .complex .f64 0 4607182418800017408, .complex .f64 13830554455654793216 0, .complex .f64 0 13830554455654793216]) (.int .i64 2)).run Try.prog w = .ok (.complex .f64 13830554455654793216 0) w := by kernel_rfl
theorem run_ix4_3 (w : World) : (Instr.index 43 (.agg #[.complex .f64 4607182418800017408 0, .complex .f64 0 4607182418800017408, .complex .f64 13830554455654793216 0, .complex .f64 0 13830554455654793216]) (.int .i64 3)).run Try.prog w = .ok (.complex .f64 0 13830554455654793216) w := by kernel_rfl
theorem places_get (l : List TradeR) (n : Nat) (h : n < l.length) : (placesZ l)[n]? = some ((xsZ l)[n]'(by simp [xsZ, paths_len]; exact h), (ysZ l)[n]'(by simp [ysZ, paths_len]; exact h)) := by
  simp [placesZ, xsZ, ysZ, pathsZ, h]
theorem wanted_b {ops : Array Oper} {tmps : Array Value} {o : Oper} {j : Nat} {d : Tmp} {b : Bool} (hg : o.guard = some (j, b)) (hd : (ops[j]?).bind (·.dst) = some d) (h : tmps[d]?.getD undef = .bool b) : Region.wanted o (yielded ops tmps) = true := by
  unfold Region.wanted yielded
  rw [hg]
  simp only [hd, Option.bind_some]
  cases hv : tmps[d]? with
  | none => rw [hv] at h; cases h
  | some v => rw [hv] at h; simp only [Option.getD_some] at h; subst h; cases b <;> rfl
theorem wpList_free {P : Program} {ops : Array Oper} {Q : Exit → Act → World → Prop} {o : Oper} {a : Act} {w : World} (hw : Region.wanted o (yielded ops a.tmps) = true) (h : wpList P ops Q [{ o with guard := none }] a w) : wpList P ops Q [o] a w := by
  unfold wpList at h ⊢
  rw [if_pos hw]
  rw [if_pos (by simp [Region.wanted])] at h
  exact h
theorem wpListIn_free {F : Fence} {nf : Nat} {P : Program} {ops : Array Oper} {Q : Exit → Act → World → Prop} {o : Oper} {a : Act} {w : World} (hw : Region.wanted o (yielded ops a.tmps) = true) (h : wpListIn F nf P ops Q [{ o with guard := none }] a w) : wpListIn F nf P ops Q [o] a w := by
  unfold wpListIn at h ⊢
  rw [if_pos hw]
  rw [if_pos (by simp [Region.wanted])] at h
  exact h
theorem len_cons {n : Nat} {us : List Value} (h : us.length = n + 1) : ∃ x vs, us = x :: vs ∧ vs.length = n := by
  cases us with
  | nil => simp at h
  | cons x vs => exact ⟨x, vs, rfl, by simpa using h⟩
theorem len6 (us : List Value) (h : us.length = 6) : ∃ x0 x1 x2 x3 x4 x5 : Value, us = [x0, x1, x2, x3, x4, x5] := by
  obtain ⟨x0, v0, e0, h0⟩ := len_cons h
  obtain ⟨x1, v1, e1, h1⟩ := len_cons h0
  obtain ⟨x2, v2, e2, h2⟩ := len_cons h1
  obtain ⟨x3, v3, e3, h3⟩ := len_cons h2
  obtain ⟨x4, v4, e4, h4⟩ := len_cons h3
  obtain ⟨x5, v5, e5, h5⟩ := len_cons h4
  have en := List.eq_nil_of_length_eq_zero h5
  subst en
  subst e5
  subst e4
  subst e3
  subst e2
  subst e1
  subst e0
  exact ⟨x0, x1, x2, x3, x4, x5, rfl⟩
theorem len7 (us : List Value) (h : us.length = 7) : ∃ x0 x1 x2 x3 x4 x5 x6 : Value, us = [x0, x1, x2, x3, x4, x5, x6] := by
  obtain ⟨x0, v0, e0, h0⟩ := len_cons h
  obtain ⟨x1, v1, e1, h1⟩ := len_cons h0
  obtain ⟨x2, v2, e2, h2⟩ := len_cons h1
  obtain ⟨x3, v3, e3, h3⟩ := len_cons h2
  obtain ⟨x4, v4, e4, h4⟩ := len_cons h3
  obtain ⟨x5, v5, e5, h5⟩ := len_cons h4
  obtain ⟨x6, v6, e6, h6⟩ := len_cons h5
  have en := List.eq_nil_of_length_eq_zero h6
  subst en
  subst e6
  subst e5
  subst e4
  subst e3
  subst e2
  subst e1
  subst e0
  exact ⟨x0, x1, x2, x3, x4, x5, x6, rfl⟩
theorem len19 (us : List Value) (h : us.length = 19) : ∃ x0 x1 x2 x3 x4 x5 x6 x7 x8 x9 x10 x11 x12 x13 x14 x15 x16 x17 x18 : Value, us = [x0, x1, x2, x3, x4, x5, x6, x7, x8, x9, x10, x11, x12, x13, x14, x15, x16, x17, x18] := by
  obtain ⟨x0, v0, e0, h0⟩ := len_cons h
  obtain ⟨x1, v1, e1, h1⟩ := len_cons h0
  obtain ⟨x2, v2, e2, h2⟩ := len_cons h1
  obtain ⟨x3, v3, e3, h3⟩ := len_cons h2
  obtain ⟨x4, v4, e4, h4⟩ := len_cons h3
  obtain ⟨x5, v5, e5, h5⟩ := len_cons h4
  obtain ⟨x6, v6, e6, h6⟩ := len_cons h5
  obtain ⟨x7, v7, e7, h7⟩ := len_cons h6
  obtain ⟨x8, v8, e8, h8⟩ := len_cons h7
  obtain ⟨x9, v9, e9, h9⟩ := len_cons h8
  obtain ⟨x10, v10, e10, h10⟩ := len_cons h9
  obtain ⟨x11, v11, e11, h11⟩ := len_cons h10
  obtain ⟨x12, v12, e12, h12⟩ := len_cons h11
  obtain ⟨x13, v13, e13, h13⟩ := len_cons h12
  obtain ⟨x14, v14, e14, h14⟩ := len_cons h13
  obtain ⟨x15, v15, e15, h15⟩ := len_cons h14
  obtain ⟨x16, v16, e16, h16⟩ := len_cons h15
  obtain ⟨x17, v17, e17, h17⟩ := len_cons h16
  obtain ⟨x18, v18, e18, h18⟩ := len_cons h17
  have en := List.eq_nil_of_length_eq_zero h18
  subst en
  subst e18
  subst e17
  subst e16
  subst e15
  subst e14
  subst e13
  subst e12
  subst e11
  subst e10
  subst e9
  subst e8
  subst e7
  subst e6
  subst e5
  subst e4
  subst e3
  subst e2
  subst e1
  subst e0
  exact ⟨x0, x1, x2, x3, x4, x5, x6, x7, x8, x9, x10, x11, x12, x13, x14, x15, x16, x17, x18, rfl⟩
theorem len52 (us : List Value) (h : us.length = 52) : ∃ x0 x1 x2 x3 x4 x5 x6 x7 x8 x9 x10 x11 x12 x13 x14 x15 x16 x17 x18 x19 x20 x21 x22 x23 x24 x25 x26 x27 x28 x29 x30 x31 x32 x33 x34 x35 x36 x37 x38 x39 x40 x41 x42 x43 x44 x45 x46 x47 x48 x49 x50 x51 : Value, us = [x0, x1, x2, x3, x4, x5, x6, x7, x8, x9, x10, x11, x12, x13, x14, x15, x16, x17, x18, x19, x20, x21, x22, x23, x24, x25, x26, x27, x28, x29, x30, x31, x32, x33, x34, x35, x36, x37, x38, x39, x40, x41, x42, x43, x44, x45, x46, x47, x48, x49, x50, x51] := by
  obtain ⟨x0, v0, e0, h0⟩ := len_cons h
  obtain ⟨x1, v1, e1, h1⟩ := len_cons h0
  obtain ⟨x2, v2, e2, h2⟩ := len_cons h1
  obtain ⟨x3, v3, e3, h3⟩ := len_cons h2
  obtain ⟨x4, v4, e4, h4⟩ := len_cons h3
  obtain ⟨x5, v5, e5, h5⟩ := len_cons h4
  obtain ⟨x6, v6, e6, h6⟩ := len_cons h5
  obtain ⟨x7, v7, e7, h7⟩ := len_cons h6
  obtain ⟨x8, v8, e8, h8⟩ := len_cons h7
  obtain ⟨x9, v9, e9, h9⟩ := len_cons h8
  obtain ⟨x10, v10, e10, h10⟩ := len_cons h9
  obtain ⟨x11, v11, e11, h11⟩ := len_cons h10
  obtain ⟨x12, v12, e12, h12⟩ := len_cons h11
  obtain ⟨x13, v13, e13, h13⟩ := len_cons h12
  obtain ⟨x14, v14, e14, h14⟩ := len_cons h13
  obtain ⟨x15, v15, e15, h15⟩ := len_cons h14
  obtain ⟨x16, v16, e16, h16⟩ := len_cons h15
  obtain ⟨x17, v17, e17, h17⟩ := len_cons h16
  obtain ⟨x18, v18, e18, h18⟩ := len_cons h17
  obtain ⟨x19, v19, e19, h19⟩ := len_cons h18
  obtain ⟨x20, v20, e20, h20⟩ := len_cons h19
  obtain ⟨x21, v21, e21, h21⟩ := len_cons h20
  obtain ⟨x22, v22, e22, h22⟩ := len_cons h21
  obtain ⟨x23, v23, e23, h23⟩ := len_cons h22
  obtain ⟨x24, v24, e24, h24⟩ := len_cons h23
  obtain ⟨x25, v25, e25, h25⟩ := len_cons h24
  obtain ⟨x26, v26, e26, h26⟩ := len_cons h25
  obtain ⟨x27, v27, e27, h27⟩ := len_cons h26
  obtain ⟨x28, v28, e28, h28⟩ := len_cons h27
  obtain ⟨x29, v29, e29, h29⟩ := len_cons h28
  obtain ⟨x30, v30, e30, h30⟩ := len_cons h29
  obtain ⟨x31, v31, e31, h31⟩ := len_cons h30
  obtain ⟨x32, v32, e32, h32⟩ := len_cons h31
  obtain ⟨x33, v33, e33, h33⟩ := len_cons h32
  obtain ⟨x34, v34, e34, h34⟩ := len_cons h33
  obtain ⟨x35, v35, e35, h35⟩ := len_cons h34
  obtain ⟨x36, v36, e36, h36⟩ := len_cons h35
  obtain ⟨x37, v37, e37, h37⟩ := len_cons h36
  obtain ⟨x38, v38, e38, h38⟩ := len_cons h37
  obtain ⟨x39, v39, e39, h39⟩ := len_cons h38
  obtain ⟨x40, v40, e40, h40⟩ := len_cons h39
  obtain ⟨x41, v41, e41, h41⟩ := len_cons h40
  obtain ⟨x42, v42, e42, h42⟩ := len_cons h41
  obtain ⟨x43, v43, e43, h43⟩ := len_cons h42
  obtain ⟨x44, v44, e44, h44⟩ := len_cons h43
  obtain ⟨x45, v45, e45, h45⟩ := len_cons h44
  obtain ⟨x46, v46, e46, h46⟩ := len_cons h45
  obtain ⟨x47, v47, e47, h47⟩ := len_cons h46
  obtain ⟨x48, v48, e48, h48⟩ := len_cons h47
  obtain ⟨x49, v49, e49, h49⟩ := len_cons h48
  obtain ⟨x50, v50, e50, h50⟩ := len_cons h49
  obtain ⟨x51, v51, e51, h51⟩ := len_cons h50
  have en := List.eq_nil_of_length_eq_zero h51
  subst en
  subst e51
  subst e50
  subst e49
  subst e48
  subst e47
  subst e46
  subst e45
  subst e44
  subst e43
  subst e42
  subst e41
  subst e40
  subst e39
  subst e38
  subst e37
  subst e36
  subst e35
  subst e34
  subst e33
  subst e32
  subst e31
  subst e30
  subst e29
  subst e28
  subst e27
  subst e26
  subst e25
  subst e24
  subst e23
  subst e22
  subst e21
  subst e20
  subst e19
  subst e18
  subst e17
  subst e16
  subst e15
  subst e14
  subst e13
  subst e12
  subst e11
  subst e10
  subst e9
  subst e8
  subst e7
  subst e6
  subst e5
  subst e4
  subst e3
  subst e2
  subst e1
  subst e0
  exact ⟨x0, x1, x2, x3, x4, x5, x6, x7, x8, x9, x10, x11, x12, x13, x14, x15, x16, x17, x18, x19, x20, x21, x22, x23, x24, x25, x26, x27, x28, x29, x30, x31, x32, x33, x34, x35, x36, x37, x38, x39, x40, x41, x42, x43, x44, x45, x46, x47, x48, x49, x50, x51, rfl⟩
def FctG5 (l : List TradeR) (a0 : Option Addr) (cap h0 : Nat) : Nat → Value → World → Prop
  | 0, v, _ => v = .slice a0 l.length cap
  | 1, v, _ => ∃ p, v = .agg p.arr ∧ PRep p (afterZ l l.length)
  | 2, v, _ => v = .slice a0 l.length cap
  | 3, v, w => ∃ r, v = r ∧ refOut l w r
  | 4, v, w => ∃ A, v = .pointer (some ⟨A, 0, none⟩) ∧ h0 ≤ A ∧ w.heap[A]? = some (.cells zeroP.arr 29 (0, 0))
  | 5, v, w => ∃ A, v = .pointer (some ⟨A, 0, none⟩) ∧ h0 ≤ A ∧ w.heap[A]? = some (.cells (refP 0 0 0 0 (.slice none 0 0) (.slice none 0 0)) 37 (0, 0))
  | _, _, _ => True
theorem FctG5_moved (l : List TradeR) (a0 : Option Addr) (cap h0 : Nat) (j : Nat) (v : Value) (w w' : World) (h : FctG5 l a0 cap h0 j v w) (hb : Below w.heap.size w w') : FctG5 l a0 cap h0 j v w' := by
  match j with
  | 3 => obtain ⟨r, h0, hp0⟩ := h; exact ⟨r, h0, hp0.moved hb⟩
  | 4 => obtain ⟨A, h0, hp0, hp1⟩ := h; exact ⟨A, h0, hp0, (hb.block _ (heap_lt hp1)).trans hp1⟩
  | 5 => obtain ⟨A, h0, hp0, hp1⟩ := h; exact ⟨A, h0, hp0, (hb.block _ (heap_lt hp1)).trans hp1⟩
  | 0 | 1 | 2 | _ + 6 => exact h
def FctG9 (l : List TradeR) (a0 : Option Addr) (cap b5 b6 : Nat) (ar ai lr li ur ui wa1 wb1 wa2 wb2 wa3 wb3 : Nat) (x y lx ly ux uy CO : Int) : Nat → Value → World → Prop
  | 0, v, _ => v = .pointer (some ⟨b5, 0, none⟩)
  | 1, v, _ => v = .complex .f64 ar ai
  | 2, v, _ => v = .pointer (some ⟨b6, 0, none⟩)
  | 3, v, _ => v = .int .i64 x
  | 4, v, _ => v = .pointer (some ⟨b6, 1, none⟩)
  | 5, v, _ => v = .int .i64 y
  | 6, v, _ => v = .complex .f64 wa1 wb1
  | 7, v, _ => v = .bool false
  | 8, v, _ => v = .bool false
  | 9, v, _ => v = .pointer (some ⟨b5, 2, none⟩)
  | 10, v, _ => v = .int .i64 (l.length : Int)
  | 11, v, _ => v = .slice a0 l.length cap
  | 12, v, _ => v = .int .i64 (l.length : Int)
  | 13, v, _ => v = .bool false
  | 14, v, _ => v = .bool false
  | 15, v, _ => v = .bool false
  | 16, v, _ => v = .pointer (some ⟨b5, 3, none⟩)
  | 17, v, _ => v = .complex .f64 lr li
  | 18, v, _ => v = .int .i64 lx
  | 19, v, _ => v = .int .i64 ly
  | 20, v, _ => v = .complex .f64 wa2 wb2
  | 21, v, _ => v = .bool false
  | 22, v, _ => v = .bool false
  | 23, v, _ => v = .bool false
  | 24, v, _ => v = .pointer (some ⟨b5, 4, none⟩)
  | 25, v, _ => v = .complex .f64 ur ui
  | 26, v, _ => v = .int .i64 ux
  | 27, v, _ => v = .int .i64 uy
  | 28, v, _ => v = .complex .f64 wa3 wb3
  | 29, v, _ => v = .bool false
  | 30, v, _ => v = .bool false
  | 31, v, _ => v = .bool false
  | 32, v, _ => v = .int .i64 (ux - lx)
  | 33, v, _ => v = .int .i64 ux
  | 34, v, _ => v = .int .i64 lx
  | 35, v, _ => v = .int .i64 (ux - lx)
  | 36, v, _ => v = .bool false
  | 37, v, _ => v = .bool false
  | 38, v, _ => v = .bool false
  | 39, v, _ => v = .int .i64 (uy - ly)
  | 40, v, _ => v = .int .i64 uy
  | 41, v, _ => v = .int .i64 ly
  | 42, v, _ => v = .int .i64 (uy - ly)
  | 43, v, _ => v = .bool false
  | 44, v, _ => v = .bool false
  | 45, v, _ => v = .bool false
  | 46, v, _ => v = .slice a0 l.length cap
  | 47, v, _ => v = .int .i64 CO
  | 48, v, _ => v = .pointer (some ⟨b6, 3, none⟩)
  | 49, v, _ => v = .int .i64 CO
  | 50, v, _ => v = .bool false
  | 51, v, _ => v = .bool false
  | _, _, _ => True
theorem FctG9_moved (l : List TradeR) (a0 : Option Addr) (cap b5 b6 : Nat) (ar ai lr li ur ui wa1 wb1 wa2 wb2 wa3 wb3 : Nat) (x y lx ly ux uy CO : Int) (j : Nat) (v : Value) (w w' : World) (h : FctG9 l a0 cap b5 b6 ar ai lr li ur ui wa1 wb1 wa2 wb2 wa3 wb3 x y lx ly ux uy CO j v w) (hb : Below w.heap.size w w') : FctG9 l a0 cap b5 b6 ar ai lr li ur ui wa1 wb1 wa2 wb2 wa3 wb3 x y lx ly ux uy CO j v w' := by
  match j with
  | 0 | 1 | 2 | 3 | 4 | 5 | 6 | 7 | 8 | 9 | 10 | 11 | 12 | 13 | 14 | 15 | 16 | 17 | 18 | 19 | 20 | 21 | 22 | 23 | 24 | 25 | 26 | 27 | 28 | 29 | 30 | 31 | 32 | 33 | 34 | 35 | 36 | 37 | 38 | 39 | 40 | 41 | 42 | 43 | 44 | 45 | 46 | 47 | 48 | 49 | 50 | 51 | _ + 52 => exact h
def FctG11 (b5 b6 hr hi hwc hwd : Nat) (HD : Int) : Nat → Value → World → Prop
  | 0, v, _ => v = .pointer (some ⟨b5, 1, none⟩)
  | 1, v, _ => v = .complex .f64 hr hi
  | 2, v, _ => v = .agg #[.complex .f64 4607182418800017408 0, .complex .f64 0 4607182418800017408, .complex .f64 13830554455654793216 0, .complex .f64 0 13830554455654793216]
  | 3, v, _ => v = .pointer (some ⟨b6, 2, none⟩)
  | 4, v, _ => v = .int .i64 HD
  | 5, v, _ => v = .complex .f64 hwc hwd
  | 6, v, _ => v = .bool false
  | _, _, _ => True
theorem FctG11_moved (b5 b6 hr hi hwc hwd : Nat) (HD : Int) (j : Nat) (v : Value) (w w' : World) (h : FctG11 b5 b6 hr hi hwc hwd HD j v w) (hb : Below w.heap.size w w') : FctG11 b5 b6 hr hi hwc hwd HD j v w' := by
  match j with
  | 0 | 1 | 2 | 3 | 4 | 5 | 6 | _ + 7 => exact h
def FctG16 (l : List TradeR) (a0 : Option Addr) (cap b6 bx ox by_ oy ca cb n : Nat) (xa xb pu pv : Nat) (gx gy : Int) (bz : Bool) : Nat → Value → World → Prop
  | 0, v, _ => v = .int .i64 (n : Int)
  | 1, v, _ => v = .slice a0 l.length cap
  | 2, v, _ => v = .int .i64 (l.length : Int)
  | 3, v, _ => v = .bool false
  | 4, v, _ => v = .bool false
  | 5, v, _ => v = .complex .f64 xa xb
  | 6, v, _ => v = .pointer (some ⟨b6, 4, none⟩)
  | 7, v, _ => v = .slice (some ⟨bx, ox, none⟩) l.length ca
  | 8, v, _ => v = .int .i64 (n : Int)
  | 9, v, _ => v = .pointer (some ⟨bx, ox + n, none⟩)
  | 10, v, _ => v = .int .i64 gx
  | 11, v, _ => v = .pointer (some ⟨b6, 5, none⟩)
  | 12, v, _ => v = .slice (some ⟨by_, oy, none⟩) l.length cb
  | 13, v, _ => v = .int .i64 (n : Int)
  | 14, v, _ => v = .pointer (some ⟨by_, oy + n, none⟩)
  | 15, v, _ => v = .int .i64 gy
  | 16, v, _ => v = .complex .f64 pu pv
  | 17, v, _ => v = .bool bz
  | 18, v, _ => v = .bool bz
  | _, _, _ => True
theorem FctG16_moved (l : List TradeR) (a0 : Option Addr) (cap b6 bx ox by_ oy ca cb n : Nat) (xa xb pu pv : Nat) (gx gy : Int) (bz : Bool) (j : Nat) (v : Value) (w w' : World) (h : FctG16 l a0 cap b6 bx ox by_ oy ca cb n xa xb pu pv gx gy bz j v w) (hb : Below w.heap.size w w') : FctG16 l a0 cap b6 bx ox by_ oy ca cb n xa xb pu pv gx gy bz j v w' := by
  match j with
  | 0 | 1 | 2 | 3 | 4 | 5 | 6 | 7 | 8 | 9 | 10 | 11 | 12 | 13 | 14 | 15 | 16 | 17 | 18 | _ + 19 => exact h
set_option maxRecDepth 100000 in
set_option maxHeartbeats 32000000 in
theorem WalkGoes_walk (a0 : Option Addr) (l : List TradeR) (cap : Nat) (mo : Int) (W : World) (hr : RowsAt W a0 4 TradeR.row l) (hg : ∀ r ∈ l, r.good) (hb : l.length ≤ cap) (hm : cap ≤ maxLen) (wm : (Lit.int .u8 mo).wf = true) :
    Calls Try.prog 4 #[.slice a0 l.length cap, .int .u8 mo] W fun e w' => e = .returned (.bool true) ∧ Below W.heap.size W w' := by
  have hmo := wfU8 wm
  have hlm : l.length ≤ 9223372036854775807 := Nat.le_trans hb hm
  have HR := Lib.hid hr
  have HG := Lib.hid hg
  have AW : Hid (∀ wx, Calls Try.prog 6 #[] wx fun e w' => e = .returned (.bool true) ∧ Below wx.heap.size wx w') := Lib.hid fun wx => awake34w wx
  clear hr hg hb hm wm
  refine (callsIn_wide (n := 6)).1 ?_
  refine callsIn_of_wp_marks Try.func4 rfl trivial ?_ rfl
  simp only [Try.ntmps4, List.size_toArray, List.length_cons, List.length_nil, Nat.reduceAdd, Nat.reduceSub, Array.replicate_succ, Array.replicate_zero, List.push_toArray, List.append_toArray, List.nil_append, List.cons_append]
  refine wpIn_wide.2 ?_
  go_upto_region 3 with (go_at_call 6; (with_reducible refine (AW.out _).mono ?_); rintro e w4 ⟨rfl, hB4⟩)
  obtain ⟨W3, hW3⟩ : ∃ V, V = ((W.alloc (.cells #[.slice a0 l.length cap] 22)).alloc (.cells #[.int .u8 mo] 5)).alloc (.cells #[.bool false] 4) := ⟨_, rfl⟩
  have hb3 : Below W.heap.size W W3 := by rw [hW3]; (repeat (first | exact Below.refl _ _ | assumption | apply below_drewN | (refine Below.setCell ?_ (by first | assumption | omega | (simp; try omega)) _) | (refine Below.alloc ?_ (by first | assumption | omega | (simp; try omega)) _)))
  have hx2 : W3.heap[W.heap.size]? = some (.cells #[.slice a0 l.length cap] 22 (0, 0)) := by rw [hW3]; exact (Below.heap_alloc _ _ _ (by simp; omega)).trans (heap_alloc2_old _ _ _)
  have hx3 : W3.heap[W.heap.size + 1]? = some (.cells #[.int .u8 mo] 5 (0, 0)) := by rw [hW3]; exact (Below.heap_alloc _ _ _ (by simp)).trans (heap_alloc2_new _ _ _)
  have hx4 : W3.heap[W.heap.size + 2]? = some (.cells #[.bool false] 4 (0, 0)) := by rw [hW3]; exact heap_new (by simp)
  rw [← hW3] at hB4
  have hBW := hb3.trans (hB4.mono hb3.size)
  have h2 := (hB4.block _ (heap_lt hx2)).trans hx2
  have h3 := (hB4.block _ (heap_lt hx3)).trans hx3
  have h4 := (hB4.block _ (heap_lt hx4)).trans hx4
  have c2 : w4.cell? ⟨W.heap.size, 0, none⟩ = some (.slice a0 l.length cap) := by rw [cell_of_row _ _ _ _ _ _ h2]; rfl
  have c4 : w4.cell? ⟨W.heap.size + 2, 0, none⟩ = some (.bool false) := by rw [cell_of_row _ _ _ _ _ _ h4]; rfl
  have f4 := frozen_of_row _ _ 0 _ _ h4
  have H3 := Lib.hid h3
  have H4 := Lib.hid h4
  have HBW := Lib.hid hBW
  clear hW3 hb3 hx2 hx3 hx4 hB4 hBW h2 h3 h4 AW W3
  by_cases h100 : 100 < l.length
  · go_wp2_with fail
    refine ⟨_, results_box1 Try.results4 _ _ (W.heap.size + 2) (.bool true) rfl (heap_set4 H4.out 0 (.bool true) _ rfl) isAgg_bool, rfl, HBW.out.setCell (by simp; omega) _⟩
  have HRr : Hid (RowsAt w4 a0 4 TradeR.row l) := Lib.hid (HR.out.moved HBW.out)
  have OF : Hid (∀ wx, Below w4.heap.size w4 wx → Calls Try.prog 7 #[.slice a0 l.length cap] wx fun e w' => ∃ p, e = .returned (.agg p.arr) ∧ Hid (PRep p (afterZ l l.length)) ∧ Below wx.heap.size wx w') := Lib.hid fun wx h =>
    (walk_of l a0 cap wx (by omega) HG.out (HRr.out.moved h)).mono fun _ _ ⟨p, h1, h2, h3⟩ => ⟨p, h1, Lib.hid h2, h3⟩
  have RO : Hid (∀ wx, Below w4.heap.size w4 wx → Calls Try.prog 10 #[.slice a0 l.length cap] wx fun e w' => (∃ v, e = .returned v ∧ Hid (refOut l w' v)) ∧ Below wx.heap.size wx w') := Lib.hid fun wx h =>
    (ref34_of l a0 cap wx (by omega) HG.out (HRr.out.moved h)).mono fun _ _ ⟨⟨v, h1, h2⟩, h3⟩ => ⟨⟨v, h1, Lib.hid h2⟩, h3⟩
  have CN : Hid (∀ wx, Below w4.heap.size w4 wx → Calls Try.prog 9 #[.slice a0 l.length cap] wx fun e w' => e = .returned (.int .i64 (cornersZ l)) ∧ Below wx.heap.size wx w') := Lib.hid fun wx h =>
    walk_corners l a0 cap wx (by omega) HG.out (HRr.out.moved h)
  have hfine : (afterZ l l.length).fine 1000 := fine_mono (afterZ_fine l l.length (Nat.le_refl _)) (by omega)
  have HFACTS : Hid ((afterZ l l.length).fine 1000 ∧ (afterZ l l.length).n = l.length ∧ lowL (xsZ l) = (afterZ l l.length).lx ∧ highL (xsZ l) = (afterZ l l.length).ux ∧ lowL (ysZ l) = (afterZ l l.length).ly ∧ highL (ysZ l) = (afterZ l l.length).uy) :=
    Lib.hid ⟨hfine, afterZ_n l l.length (Nat.le_refl _), (low_all l).1, (low_all l).2.1, (low_all l).2.2.1, (low_all l).2.2.2⟩
  have HA0 : Hid (0 < l.length → ∀ b o, a0 = some ⟨b, o, none⟩ → b < W.heap.size) := Lib.hid fun h b o e => by
    obtain ⟨b', o', e', g0, _⟩ := trade_cells HR.out 0 h
    rw [e] at e'; cases e'
    exact cell_lt g0
  clear hfine HR
  go_upto_region 5 with fail
  refine wp_region_par 6 [20, 21, 22, 23, 5, 6] [4, 5] (FctG5 l a0 cap w4.heap.size) (by kernel_rfl) (by kernel_rfl) (FctG5_moved l a0 cap w4.heap.size) ?step ?tail
  case step =>
    intro i hi o ho us wx hus hB hdep K hK
    obtain ⟨u0, u1, u2, u3, u4, u5, rfl⟩ := len6 us hus
    obtain rfl | rfl | rfl | rfl | rfl | rfl : i = 0 ∨ i = 1 ∨ i = 2 ∨ i = 3 ∨ i = 4 ∨ i = 5 := by omega
    all_goals (simp only [List.getElem?_toArray, List.getElem?_cons_succ, List.getElem?_cons_zero, Option.some.injEq] at ho; subst ho; clear hi hus)
    all_goals (generalize hA : puts _ _ _ = A at hK ⊢)
    · have A2 : A.tmps[2]?.getD undef = .pointer (some ⟨W.heap.size, 0, none⟩) := by rw [← hA]; kernel_rfl
      have z0 := (hB.cell (p := ⟨W.heap.size, 0, none⟩) (cell_lt c2)).trans c2
      go_wp2
      exact hK _ _ _ rfl rfl (Below.refl _ _) (fun h => absurd h (by decide))
    · have q0 : u0 = .slice a0 l.length cap := hdep 0 (by decide)
      have A20 : A.tmps[20]?.getD undef = u0 := by rw [← hA]; kernel_rfl
      rw [q0] at A20
      go_wp2_with (go_at_call 7; (with_reducible refine (OF.out _ hB).mono ?_); rintro e wy ⟨p, rfl, hpr, hBy⟩)
      exact hK _ _ _ rfl ⟨p, rfl, hpr.out⟩ hBy (fun h => absurd h (by decide))
    · have A2 : A.tmps[2]?.getD undef = .pointer (some ⟨W.heap.size, 0, none⟩) := by rw [← hA]; kernel_rfl
      have z0 := (hB.cell (p := ⟨W.heap.size, 0, none⟩) (cell_lt c2)).trans c2
      go_wp2
      exact hK _ _ _ rfl rfl (Below.refl _ _) (fun h => absurd h (by decide))
    · have q2 : u2 = .slice a0 l.length cap := hdep 2 (by decide)
      have A22 : A.tmps[22]?.getD undef = u2 := by rw [← hA]; kernel_rfl
      rw [q2] at A22
      go_wp2_with (go_at_call 10; (with_reducible refine (RO.out _ hB).mono ?_); rintro e wy ⟨⟨r, rfl, hro⟩, hBy⟩)
      exact hK _ _ _ rfl ⟨_, rfl, hro.out⟩ hBy (fun h => absurd h (by decide))
    · go_wp2
      refine hK _ _ _ rfl ⟨_, rfl, hB.size, heap_alloc_new _ _⟩ ((Below.refl _ _).alloc (Nat.le_refl _) _) (fun _ j hj v hv => ?_)
      simp only [List.mem_cons, List.mem_nil_iff, or_false] at hj
      rcases hj with rfl | rfl <;> (obtain ⟨A', rfl, -, h2⟩ := hv; intro e; cases e; have := heap_lt h2; omega)
    · go_wp2
      refine hK _ _ _ rfl ⟨_, rfl, hB.size, heap_alloc_new _ _⟩ ((Below.refl _ _).alloc (Nat.le_refl _) _) (fun _ j hj v hv => ?_)
      simp only [List.mem_cons, List.mem_nil_iff, or_false] at hj
      rcases hj with rfl | rfl <;> (obtain ⟨A', rfl, -, h2⟩ := hv; intro e; cases e; have := heap_lt h2; omega)
  case tail =>
    intro us wx hus hB hf hne
    obtain ⟨u0, u1, u2, u3, u4, u5, rfl⟩ := len6 us hus
    obtain ⟨p, q1, hpr⟩ : ∃ p : PathW, u1 = .agg p.arr ∧ PRep p (afterZ l l.length) := hf 1 (by decide)
    obtain ⟨r, q3, hro⟩ : ∃ r, u3 = r ∧ refOut l wx r := hf 3 (by decide)
    obtain ⟨b5, q4, z4, h5⟩ : ∃ A, u4 = .pointer (some ⟨A, 0, none⟩) ∧ w4.heap.size ≤ A ∧ wx.heap[A]? = some (.cells zeroP.arr 29 (0, 0)) := hf 4 (by decide)
    obtain ⟨b6, q5, z5, h6⟩ : ∃ A, u5 = .pointer (some ⟨A, 0, none⟩) ∧ w4.heap.size ≤ A ∧ wx.heap[A]? = some (.cells (refP 0 0 0 0 (.slice none 0 0) (.slice none 0 0)) 37 (0, 0)) := hf 5 (by decide)
    obtain ⟨XA, YB, ca, cb, e3, ⟨hX, hXt⟩, hY, hYt⟩ := hro
    subst e3
    subst q1 q3 q4 q5
    have h56 : b5 ≠ b6 := fun e => by subst e; rw [h5] at h6; cases h6
    obtain ⟨z, hz⟩ : ∃ z, z = afterZ l l.length := ⟨_, rfl⟩
    rw [← hz] at hpr HFACTS
    obtain ⟨HD, hHD⟩ : ∃ z, z = hdZ (afterZ l l.length).hx (afterZ l l.length).hy := ⟨_, rfl⟩
    have HHD : Hid (HD = hdZ z.hx z.hy) := Lib.hid (by rw [hHD, hz])
    obtain ⟨CO, hCO⟩ : ∃ z, z = cornersZ l := ⟨_, rfl⟩
    rw [← hHD, ← hCO, ← hz]
    rw [← hCO] at CN
    have hXn := hXt.ne h5 (by decide)
    have hYn := hYt.ne h5 (by decide)
    have hXm := hXt.ne h6 (by decide)
    have hYm := hYt.ne h6 (by decide)
    have HX := Lib.hid (And.intro hX hXt)
    have HY := Lib.hid (And.intro hY hYt)
    have H5 := Lib.hid h5
    have H6 := Lib.hid ((setRow_other wx b5 b6 p.arr (Ne.symm h56)).trans h6)
    have HBX := Lib.hid hB
    have HPR := Lib.hid hpr
    have HXN := Lib.hid (And.intro hXn hXm)
    have HYN := Lib.hid (And.intro hYn hYm)
    have H56 := Lib.hid h56
    clear hf hne h5 h6 hpr hus hB hX hXt hY hYt hz hHD hCO hXn hYn hXm hYm h56
    simp only [puts, Act.put, List.setIfInBounds_toArray, List.set_cons_succ, List.set_cons_zero, List.drop_succ_cons, List.drop_zero, List.drop_nil]
    go_upto_region 6 with (first | (with_reducible refine wpList_store_row rfl 29 (.tmp 5) (.tmp 21) rfl b5 p.arr rfl rfl 29 zeroP.arr H5.out (p5_info _) (p5_size _ _) (p5_one _) ?_) | (with_reducible refine wpList_store_row rfl 37 (.tmp 6) (.tmp 23) rfl b6 (refP z.x z.y HD CO (.slice XA l.length ca) (.slice YB l.length cb)) rfl rfl 37 (refP 0 0 0 0 (.slice none 0 0) (.slice none 0 0)) H6.out (p6_info _ _ _ _ _ _) (p6_size _ _ _ _ _ _ _ _ _ _ _ _) (p6_one _ _ _ _ _ _ _ _ _ _) ?_))
    have hB9 : Below w4.heap.size w4 ((wx.setRow b5 p.arr).setRow b6 (refP z.x z.y HD CO (.slice XA l.length ca) (.slice YB l.length cb))) := below_setRow (below_setRow HBX.out _ _ z4) _ _ z5
    have h9p : ((wx.setRow b5 p.arr).setRow b6 (refP z.x z.y HD CO (.slice XA l.length ca) (.slice YB l.length cb))).heap[b5]? = some (.cells p.arr 29 (0, 0)) := (setRow_other _ _ _ _ H56.out).trans (setRow_heap _ _ _ _ _ _ H5.out)
    have h9r : ((wx.setRow b5 p.arr).setRow b6 (refP z.x z.y HD CO (.slice XA l.length ca) (.slice YB l.length cb))).heap[b6]? = some (.cells (refP z.x z.y HD CO (.slice XA l.length ca) (.slice YB l.length cb)) 37 (0, 0)) := setRow_heap _ _ _ _ _ _ H6.out
    have h9x : RowsAt ((wx.setRow b5 p.arr).setRow b6 (refP z.x z.y HD CO (.slice XA l.length ca) (.slice YB l.length cb))) XA 1 intRow (xsZ l) ∧ TypedAt ((wx.setRow b5 p.arr).setRow b6 (refP z.x z.y HD CO (.slice XA l.length ca) (.slice YB l.length cb))) XA 3 := ⟨rows_setRow (rows_setRow HX.out.1 HXN.out.1 _) HXN.out.2 _, (HX.out.2.setRow HXN.out.1 _).setRow HXN.out.2 _⟩
    have h9y : RowsAt ((wx.setRow b5 p.arr).setRow b6 (refP z.x z.y HD CO (.slice XA l.length ca) (.slice YB l.length cb))) YB 1 intRow (ysZ l) ∧ TypedAt ((wx.setRow b5 p.arr).setRow b6 (refP z.x z.y HD CO (.slice XA l.length ca) (.slice YB l.length cb))) YB 3 := ⟨rows_setRow (rows_setRow HY.out.1 HYN.out.1 _) HYN.out.2 _, (HY.out.2.setRow HYN.out.1 _).setRow HYN.out.2 _⟩
    generalize (wx.setRow b5 p.arr).setRow b6 (refP z.x z.y HD CO (.slice XA l.length ca) (.slice YB l.length cb)) = w9 at hB9 h9p h9r h9x h9y ⊢
    have HP := Lib.hid h9p
    have HRF := Lib.hid h9r
    have HXR := Lib.hid h9x
    have HYR := Lib.hid h9y
    have HB9 := Lib.hid hB9
    clear hB9 h9p h9r h9x h9y H5 H6 H56 HX HY HXN HYN HBX z4 z5 OF RO
    obtain ⟨hfz, hzn, hl1, hl2, hl3, hl4⟩ := HFACTS.out
    obtain ⟨x, y, zh, zk, zn, lx, ly, ux, uy⟩ := z
    obtain ⟨ar, ai, hr, hi, pn, lr, li, ur, ui⟩ := p
    simp only at hzn hl1 hl2 hl3 hl4 HRF HHD
    have hpn : pn = (l.length : Int) := by have h := HPR.out.n; simp only at h; rw [h, hzn]
    subst hpn
    have hbx := hfz.x; have hby := hfz.y; have hblx := hfz.lx; have hbly := hfz.ly; have hbux := hfz.ux; have hbuy := hfz.uy
    simp only at hbx hby hblx hbly hbux hbuy
    obtain ⟨wa1, wb1, C1, P1⟩ := law_place x y (by omega) (by omega)
    obtain ⟨wa2, wb2, C2, P2⟩ := law_place lx ly (by omega) (by omega)
    obtain ⟨wa3, wb3, C3, P3⟩ := law_place ux uy (by omega) (by omega)
    have L1 := Lib.hid P1; have L2 := Lib.hid P2; have L3 := Lib.hid P3
    have E1 : Hid (∀ w, (binOp .neq 27 (.complex .f64 ar ai) (.complex .f64 wa1 wb1)).run Try.prog w = .ok (.bool false) w) := Lib.hid fun w => by rw [run_neq_cc HPR.out.at_ C1]; simp
    have E2 : Hid (∀ w, (binOp .neq 27 (.complex .f64 lr li) (.complex .f64 wa2 wb2)).run Try.prog w = .ok (.bool false) w) := Lib.hid fun w => by rw [run_neq_cc HPR.out.l C2]; simp
    have E3 : Hid (∀ w, (binOp .neq 27 (.complex .f64 ur ui) (.complex .f64 wa3 wb3)).run Try.prog w = .ok (.bool false) w) := Lib.hid fun w => by rw [run_neq_cc HPR.out.u C3]; simp
    have HBD : Hid ((-1000000 ≤ lx ∧ lx ≤ 0) ∧ (-1000000 ≤ ly ∧ ly ≤ 0) ∧ (0 ≤ ux ∧ ux ≤ 1000000) ∧ (0 ≤ uy ∧ uy ≤ 1000000)) := Lib.hid (by omega)
    have HHR : Hid (CRep hr hi zh zk ∧ unit4 zh zk) := Lib.hid ⟨HPR.out.h, hfz.h⟩
    have EX : Hid (∀ wx, Below w9.heap.size w9 wx → Calls Try.prog 11 #[.slice XA l.length ca] wx fun e w' => e = .returned (.tuple #[.int .i64 lx, .int .i64 ux]) ∧ Below w9.heap.size w9 w') := Lib.hid fun wx h => by
      have hh := ref34_ends (xsZ l) XA ca wx (HXR.out.1.moved h) (by simp [xsZ, paths_len]; omega)
      rw [show (xsZ l).length = l.length by simp [xsZ, paths_len], hl1, hl2] at hh
      exact hh.mono fun _ _ ⟨h1, h2⟩ => ⟨h1, below_at h h2⟩
    have EY : Hid (∀ wx, Below w9.heap.size w9 wx → Calls Try.prog 11 #[.slice YB l.length cb] wx fun e w' => e = .returned (.tuple #[.int .i64 ly, .int .i64 uy]) ∧ Below w9.heap.size w9 w') := Lib.hid fun wx h => by
      have hh := ref34_ends (ysZ l) YB cb wx (HYR.out.1.moved h) (by simp [ysZ, paths_len]; omega)
      rw [show (ysZ l).length = l.length by simp [ysZ, paths_len], hl3, hl4] at hh
      exact hh.mono fun _ _ ⟨h1, h2⟩ => ⟨h1, below_at h h2⟩
    have BX : Hid (∀ wx, Below w9.heap.size w9 wx → Calls Try.prog 12 #[.agg #[.complex .f64 ar ai, .complex .f64 hr hi, .int .i64 (l.length : Int), .complex .f64 lr li, .complex .f64 ur ui]] wx fun e w' => e = .returned (.tuple #[.int .i64 (ux - lx), .int .i64 (uy - ly)]) ∧ Below w9.heap.size w9 w') := Lib.hid fun wx h =>
      (walk_box _ _ HPR.out hfz wx).mono fun _ _ ⟨h1, h2⟩ => ⟨h1, below_at h h2⟩
    clear HFACTS hfz hzn hl1 hl2 hl3 hl4 hbx hby hblx hbly hbux hbuy C1 C2 C3 P1 P2 P3 HPR
    obtain ⟨k0, k1, k2, k3, k4, k5⟩ := ref_cells HRF.out
    have hB99 : Below w9.heap.size w9 w9 := Below.refl _ _
    go_upto_region 8 with (go_at_call 11; first | ((with_reducible refine (EX.out _ (by assumption)).mono ?_); clear EX; rintro e w10 ⟨rfl, hB10⟩; obtain ⟨k0, k1, k2, k3, k4, k5⟩ := ref_cells ((hB10.block _ (heap_lt HRF.out)).trans HRF.out)) | ((with_reducible refine (EY.out _ (by assumption)).mono ?_); rintro e w11 ⟨rfl, hB11⟩))
    obtain ⟨m0, m1, m2, m3, m4⟩ := heap_cells_p ((hB11.block _ (heap_lt HP.out)).trans HP.out)
    simp only at m0 m1 m2 m3 m4
    clear k0 k1 k2 k3 k4 k5 EY
    go_upto_region 9 with (go_at_call 12; (with_reducible refine (BX.out _ hB11).mono ?_); rintro e w12 ⟨rfl, hB12⟩)
    have hc2 := (hB12.cell (p := ⟨W.heap.size, 0, none⟩) (Nat.lt_of_lt_of_le (cell_lt c2) HB9.out.size)).trans ((HB9.out.cell (p := ⟨W.heap.size, 0, none⟩) (cell_lt c2)).trans c2)
    have hP12 := (hB12.block _ (heap_lt HP.out)).trans HP.out
    have hR12 := (hB12.block _ (heap_lt HRF.out)).trans HRF.out
    have hX12 : RowsAt w12 XA 1 intRow (xsZ l) ∧ TypedAt w12 XA 3 := ⟨HXR.out.1.moved hB12, HXR.out.2.moved hB12⟩
    have hY12 : RowsAt w12 YB 1 intRow (ysZ l) ∧ TypedAt w12 YB 3 := ⟨HYR.out.1.moved hB12, HYR.out.2.moved hB12⟩
    have hB412 := below_at HB9.out hB12
    have h412 := (hB412.block _ (heap_lt H4.out)).trans H4.out
    have h312 := (hB412.block _ (heap_lt H3.out)).trans H3.out
    clear HP HRF HXR HYR HB9 H3 H4 BX hB99 hB10 hB11 hB12 m0 m1 m2 m3 m4 c2 c4 f4
    have HP := Lib.hid hP12; have HRF := Lib.hid hR12; have HXR := Lib.hid hX12; have HYR := Lib.hid hY12; have HB9 := Lib.hid hB412; have H4 := Lib.hid h412; have H3 := Lib.hid h312
    clear hP12 hR12 hX12 hY12 hB412 h412 h312
    have c2 := hc2
    clear hc2
    refine wp_region_par 52 [41, 42, 43, 44, 45, 46, 47, 48, 49, 50, 51, 52, 53, 54, 55, 56, 57, 58, 59, 60, 61, 62, 63, 64, 65, 66, 67, 68, 69, 70, 71, 72, 73, 74, 75, 76, 77, 78, 79, 80, 81, 82, 83, 84, 85, 86, 87, 88, 89, 90, 91, 92] [] (FctG9 l a0 cap b5 b6 ar ai lr li ur ui wa1 wb1 wa2 wb2 wa3 wb3 x y lx ly ux uy CO) (by kernel_rfl) (by kernel_rfl) (FctG9_moved l a0 cap b5 b6 ar ai lr li ur ui wa1 wb1 wa2 wb2 wa3 wb3 x y lx ly ux uy CO) ?step ?tail
    case step =>
      intro i hi o ho us wx hus hB hdep K hK
      obtain ⟨u0, u1, u2, u3, u4, u5, u6, u7, u8, u9, u10, u11, u12, u13, u14, u15, u16, u17, u18, u19, u20, u21, u22, u23, u24, u25, u26, u27, u28, u29, u30, u31, u32, u33, u34, u35, u36, u37, u38, u39, u40, u41, u42, u43, u44, u45, u46, u47, u48, u49, u50, u51, rfl⟩ := len52 us hus
      obtain rfl | rfl | rfl | rfl | rfl | rfl | rfl | rfl | rfl | rfl | rfl | rfl | rfl | rfl | rfl | rfl | rfl | rfl | rfl | rfl | rfl | rfl | rfl | rfl | rfl | rfl | rfl | rfl | rfl | rfl | rfl | rfl | rfl | rfl | rfl | rfl | rfl | rfl | rfl | rfl | rfl | rfl | rfl | rfl | rfl | rfl | rfl | rfl | rfl | rfl | rfl | rfl : i = 0 ∨ i = 1 ∨ i = 2 ∨ i = 3 ∨ i = 4 ∨ i = 5 ∨ i = 6 ∨ i = 7 ∨ i = 8 ∨ i = 9 ∨ i = 10 ∨ i = 11 ∨ i = 12 ∨ i = 13 ∨ i = 14 ∨ i = 15 ∨ i = 16 ∨ i = 17 ∨ i = 18 ∨ i = 19 ∨ i = 20 ∨ i = 21 ∨ i = 22 ∨ i = 23 ∨ i = 24 ∨ i = 25 ∨ i = 26 ∨ i = 27 ∨ i = 28 ∨ i = 29 ∨ i = 30 ∨ i = 31 ∨ i = 32 ∨ i = 33 ∨ i = 34 ∨ i = 35 ∨ i = 36 ∨ i = 37 ∨ i = 38 ∨ i = 39 ∨ i = 40 ∨ i = 41 ∨ i = 42 ∨ i = 43 ∨ i = 44 ∨ i = 45 ∨ i = 46 ∨ i = 47 ∨ i = 48 ∨ i = 49 ∨ i = 50 ∨ i = 51 := by omega
      all_goals (simp only [List.getElem?_toArray, List.getElem?_cons_succ, List.getElem?_cons_zero, Option.some.injEq] at ho; subst ho; clear hi hus)
      all_goals (generalize hA : puts _ _ _ = A at hK ⊢)
      · have A5 : A.tmps[5]?.getD undef = .pointer (some ⟨b5, 0, none⟩) := by rw [← hA]; kernel_rfl
        go_wp2
        exact hK _ _ _ rfl rfl (Below.refl _ _) (fun h => absurd h (by decide))
      · have q0 : u0 = .pointer (some ⟨b5, 0, none⟩) := hdep 0 (by decide)
        have A41 : A.tmps[41]?.getD undef = u0 := by rw [← hA]; kernel_rfl
        rw [q0] at A41
        obtain ⟨k0, k1, k2, k3, k4⟩ := heap_cells_p (p := ⟨ar, ai, hr, hi, (l.length : Int), lr, li, ur, ui⟩) ((hB.block _ (heap_lt HP.out)).trans HP.out)
        simp only at k0 k1 k2 k3 k4
        go_wp2
        exact hK _ _ _ rfl rfl (Below.refl _ _) (fun h => absurd h (by decide))
      · have A6 : A.tmps[6]?.getD undef = .pointer (some ⟨b6, 0, none⟩) := by rw [← hA]; kernel_rfl
        go_wp2
        exact hK _ _ _ rfl rfl (Below.refl _ _) (fun h => absurd h (by decide))
      · have q2 : u2 = .pointer (some ⟨b6, 0, none⟩) := hdep 2 (by decide)
        have A43 : A.tmps[43]?.getD undef = u2 := by rw [← hA]; kernel_rfl
        rw [q2] at A43
        obtain ⟨k0, k1, k2, k3, k4, k5⟩ := ref_cells ((hB.block _ (heap_lt HRF.out)).trans HRF.out)
        go_wp2
        exact hK _ _ _ rfl rfl (Below.refl _ _) (fun h => absurd h (by decide))
      · have A6 : A.tmps[6]?.getD undef = .pointer (some ⟨b6, 0, none⟩) := by rw [← hA]; kernel_rfl
        go_wp2
        exact hK _ _ _ rfl rfl (Below.refl _ _) (fun h => absurd h (by decide))
      · have q4 : u4 = .pointer (some ⟨b6, 1, none⟩) := hdep 4 (by decide)
        have A45 : A.tmps[45]?.getD undef = u4 := by rw [← hA]; kernel_rfl
        rw [q4] at A45
        obtain ⟨k0, k1, k2, k3, k4, k5⟩ := ref_cells ((hB.block _ (heap_lt HRF.out)).trans HRF.out)
        go_wp2
        exact hK _ _ _ rfl rfl (Below.refl _ _) (fun h => absurd h (by decide))
      · have q3 : u3 = .int .i64 x := hdep 3 (by decide)
        have A44 : A.tmps[44]?.getD undef = u3 := by rw [← hA]; kernel_rfl
        rw [q3] at A44
        have q5 : u5 = .int .i64 y := hdep 5 (by decide)
        have A46 : A.tmps[46]?.getD undef = u5 := by rw [← hA]; kernel_rfl
        rw [q5] at A46
        go_wp2_with (go_at_call 13; (with_reducible refine (L1.out _).mono ?_); rintro e wy ⟨rfl, hBy⟩; cases hBy)
        exact hK _ _ _ rfl rfl (Below.refl _ _) (fun h => absurd h (by decide))
      · have q1 : u1 = .complex .f64 ar ai := hdep 1 (by decide)
        have A42 : A.tmps[42]?.getD undef = u1 := by rw [← hA]; kernel_rfl
        rw [q1] at A42
        have q6 : u6 = .complex .f64 wa1 wb1 := hdep 6 (by decide)
        have A47 : A.tmps[47]?.getD undef = u6 := by rw [← hA]; kernel_rfl
        rw [q6] at A47
        have e0 := E1.out
        go_wp2
        exact hK _ _ _ rfl rfl (Below.refl _ _) (fun h => absurd h (by decide))
      · have q7 : u7 = .bool false := hdep 7 (by decide)
        have A48 : A.tmps[48]?.getD undef = u7 := by rw [← hA]; kernel_rfl
        rw [q7] at A48
        go_wp2
        exact hK _ _ _ rfl rfl (Below.refl _ _) (fun h => absurd h (by decide))
      · have A5 : A.tmps[5]?.getD undef = .pointer (some ⟨b5, 0, none⟩) := by rw [← hA]; kernel_rfl
        have q8 : u8 = .bool false := hdep 8 (by decide)
        have A49 : A.tmps[49]?.getD undef = u8 := by rw [← hA]; kernel_rfl
        rw [q8] at A49
        refine wpList_free (wanted_b (j := 8) (d := 49) rfl (by kernel_rfl) A49) ?_
        go_wp2
        exact hK _ _ _ rfl rfl (Below.refl _ _) (fun h => absurd h (by decide))
      · have q9 : u9 = .pointer (some ⟨b5, 2, none⟩) := hdep 9 (by decide)
        have A50 : A.tmps[50]?.getD undef = u9 := by rw [← hA]; kernel_rfl
        rw [q9] at A50
        have q8 : u8 = .bool false := hdep 8 (by decide)
        have A49 : A.tmps[49]?.getD undef = u8 := by rw [← hA]; kernel_rfl
        rw [q8] at A49
        refine wpList_free (wanted_b (j := 8) (d := 49) rfl (by kernel_rfl) A49) ?_
        obtain ⟨k0, k1, k2, k3, k4⟩ := heap_cells_p (p := ⟨ar, ai, hr, hi, (l.length : Int), lr, li, ur, ui⟩) ((hB.block _ (heap_lt HP.out)).trans HP.out)
        simp only at k0 k1 k2 k3 k4
        go_wp2
        exact hK _ _ _ rfl rfl (Below.refl _ _) (fun h => absurd h (by decide))
      · have A2 : A.tmps[2]?.getD undef = .pointer (some ⟨W.heap.size, 0, none⟩) := by rw [← hA]; kernel_rfl
        have q8 : u8 = .bool false := hdep 8 (by decide)
        have A49 : A.tmps[49]?.getD undef = u8 := by rw [← hA]; kernel_rfl
        rw [q8] at A49
        refine wpList_free (wanted_b (j := 8) (d := 49) rfl (by kernel_rfl) A49) ?_
        have z0 := (hB.cell (p := ⟨W.heap.size, 0, none⟩) (cell_lt c2)).trans c2
        go_wp2
        exact hK _ _ _ rfl rfl (Below.refl _ _) (fun h => absurd h (by decide))
      · have q11 : u11 = .slice a0 l.length cap := hdep 11 (by decide)
        have A52 : A.tmps[52]?.getD undef = u11 := by rw [← hA]; kernel_rfl
        rw [q11] at A52
        have q8 : u8 = .bool false := hdep 8 (by decide)
        have A49 : A.tmps[49]?.getD undef = u8 := by rw [← hA]; kernel_rfl
        rw [q8] at A49
        refine wpList_free (wanted_b (j := 8) (d := 49) rfl (by kernel_rfl) A49) ?_
        go_wp2
        exact hK _ _ _ rfl rfl (Below.refl _ _) (fun h => absurd h (by decide))
      · have q10 : u10 = .int .i64 (l.length : Int) := hdep 10 (by decide)
        have A51 : A.tmps[51]?.getD undef = u10 := by rw [← hA]; kernel_rfl
        rw [q10] at A51
        have q12 : u12 = .int .i64 (l.length : Int) := hdep 12 (by decide)
        have A53 : A.tmps[53]?.getD undef = u12 := by rw [← hA]; kernel_rfl
        rw [q12] at A53
        have q8 : u8 = .bool false := hdep 8 (by decide)
        have A49 : A.tmps[49]?.getD undef = u8 := by rw [← hA]; kernel_rfl
        rw [q8] at A49
        refine wpList_free (wanted_b (j := 8) (d := 49) rfl (by kernel_rfl) A49) ?_
        go_wp2
        exact hK _ _ _ rfl rfl (Below.refl _ _) (fun h => absurd h (by decide))
      · have q8 : u8 = .bool false := hdep 8 (by decide)
        have A49 : A.tmps[49]?.getD undef = u8 := by rw [← hA]; kernel_rfl
        rw [q8] at A49
        have q13 : u13 = .bool false := hdep 13 (by decide)
        have A54 : A.tmps[54]?.getD undef = u13 := by rw [← hA]; kernel_rfl
        rw [q13] at A54
        go_wp2
        exact hK _ _ _ rfl rfl (Below.refl _ _) (fun h => absurd h (by decide))
      · have q14 : u14 = .bool false := hdep 14 (by decide)
        have A55 : A.tmps[55]?.getD undef = u14 := by rw [← hA]; kernel_rfl
        rw [q14] at A55
        go_wp2
        exact hK _ _ _ rfl rfl (Below.refl _ _) (fun h => absurd h (by decide))
      · have A5 : A.tmps[5]?.getD undef = .pointer (some ⟨b5, 0, none⟩) := by rw [← hA]; kernel_rfl
        have q15 : u15 = .bool false := hdep 15 (by decide)
        have A56 : A.tmps[56]?.getD undef = u15 := by rw [← hA]; kernel_rfl
        rw [q15] at A56
        refine wpList_free (wanted_b (j := 15) (d := 56) rfl (by kernel_rfl) A56) ?_
        go_wp2
        exact hK _ _ _ rfl rfl (Below.refl _ _) (fun h => absurd h (by decide))
      · have q16 : u16 = .pointer (some ⟨b5, 3, none⟩) := hdep 16 (by decide)
        have A57 : A.tmps[57]?.getD undef = u16 := by rw [← hA]; kernel_rfl
        rw [q16] at A57
        have q15 : u15 = .bool false := hdep 15 (by decide)
        have A56 : A.tmps[56]?.getD undef = u15 := by rw [← hA]; kernel_rfl
        rw [q15] at A56
        refine wpList_free (wanted_b (j := 15) (d := 56) rfl (by kernel_rfl) A56) ?_
        obtain ⟨k0, k1, k2, k3, k4⟩ := heap_cells_p (p := ⟨ar, ai, hr, hi, (l.length : Int), lr, li, ur, ui⟩) ((hB.block _ (heap_lt HP.out)).trans HP.out)
        simp only at k0 k1 k2 k3 k4
        go_wp2
        exact hK _ _ _ rfl rfl (Below.refl _ _) (fun h => absurd h (by decide))
      · have A7 : A.tmps[7]?.getD undef = .int .i64 lx := by rw [← hA]; kernel_rfl
        have q15 : u15 = .bool false := hdep 15 (by decide)
        have A56 : A.tmps[56]?.getD undef = u15 := by rw [← hA]; kernel_rfl
        rw [q15] at A56
        refine wpList_free (wanted_b (j := 15) (d := 56) rfl (by kernel_rfl) A56) ?_
        go_wp2
        exact hK _ _ _ rfl rfl (Below.refl _ _) (fun h => absurd h (by decide))
      · have A9 : A.tmps[9]?.getD undef = .int .i64 ly := by rw [← hA]; kernel_rfl
        have q15 : u15 = .bool false := hdep 15 (by decide)
        have A56 : A.tmps[56]?.getD undef = u15 := by rw [← hA]; kernel_rfl
        rw [q15] at A56
        refine wpList_free (wanted_b (j := 15) (d := 56) rfl (by kernel_rfl) A56) ?_
        go_wp2
        exact hK _ _ _ rfl rfl (Below.refl _ _) (fun h => absurd h (by decide))
      · have q18 : u18 = .int .i64 lx := hdep 18 (by decide)
        have A59 : A.tmps[59]?.getD undef = u18 := by rw [← hA]; kernel_rfl
        rw [q18] at A59
        have q19 : u19 = .int .i64 ly := hdep 19 (by decide)
        have A60 : A.tmps[60]?.getD undef = u19 := by rw [← hA]; kernel_rfl
        rw [q19] at A60
        have q15 : u15 = .bool false := hdep 15 (by decide)
        have A56 : A.tmps[56]?.getD undef = u15 := by rw [← hA]; kernel_rfl
        rw [q15] at A56
        refine wpList_free (wanted_b (j := 15) (d := 56) rfl (by kernel_rfl) A56) ?_
        go_wp2_with (go_at_call 13; (with_reducible refine (L2.out _).mono ?_); rintro e wy ⟨rfl, hBy⟩; cases hBy)
        exact hK _ _ _ rfl rfl (Below.refl _ _) (fun h => absurd h (by decide))
      · have q17 : u17 = .complex .f64 lr li := hdep 17 (by decide)
        have A58 : A.tmps[58]?.getD undef = u17 := by rw [← hA]; kernel_rfl
        rw [q17] at A58
        have q20 : u20 = .complex .f64 wa2 wb2 := hdep 20 (by decide)
        have A61 : A.tmps[61]?.getD undef = u20 := by rw [← hA]; kernel_rfl
        rw [q20] at A61
        have q15 : u15 = .bool false := hdep 15 (by decide)
        have A56 : A.tmps[56]?.getD undef = u15 := by rw [← hA]; kernel_rfl
        rw [q15] at A56
        refine wpList_free (wanted_b (j := 15) (d := 56) rfl (by kernel_rfl) A56) ?_
        have e0 := E2.out
        go_wp2
        exact hK _ _ _ rfl rfl (Below.refl _ _) (fun h => absurd h (by decide))
      · have q15 : u15 = .bool false := hdep 15 (by decide)
        have A56 : A.tmps[56]?.getD undef = u15 := by rw [← hA]; kernel_rfl
        rw [q15] at A56
        have q21 : u21 = .bool false := hdep 21 (by decide)
        have A62 : A.tmps[62]?.getD undef = u21 := by rw [← hA]; kernel_rfl
        rw [q21] at A62
        go_wp2
        exact hK _ _ _ rfl rfl (Below.refl _ _) (fun h => absurd h (by decide))
      · have q22 : u22 = .bool false := hdep 22 (by decide)
        have A63 : A.tmps[63]?.getD undef = u22 := by rw [← hA]; kernel_rfl
        rw [q22] at A63
        go_wp2
        exact hK _ _ _ rfl rfl (Below.refl _ _) (fun h => absurd h (by decide))
      · have A5 : A.tmps[5]?.getD undef = .pointer (some ⟨b5, 0, none⟩) := by rw [← hA]; kernel_rfl
        have q23 : u23 = .bool false := hdep 23 (by decide)
        have A64 : A.tmps[64]?.getD undef = u23 := by rw [← hA]; kernel_rfl
        rw [q23] at A64
        refine wpList_free (wanted_b (j := 23) (d := 64) rfl (by kernel_rfl) A64) ?_
        go_wp2
        exact hK _ _ _ rfl rfl (Below.refl _ _) (fun h => absurd h (by decide))
      · have q24 : u24 = .pointer (some ⟨b5, 4, none⟩) := hdep 24 (by decide)
        have A65 : A.tmps[65]?.getD undef = u24 := by rw [← hA]; kernel_rfl
        rw [q24] at A65
        have q23 : u23 = .bool false := hdep 23 (by decide)
        have A64 : A.tmps[64]?.getD undef = u23 := by rw [← hA]; kernel_rfl
        rw [q23] at A64
        refine wpList_free (wanted_b (j := 23) (d := 64) rfl (by kernel_rfl) A64) ?_
        obtain ⟨k0, k1, k2, k3, k4⟩ := heap_cells_p (p := ⟨ar, ai, hr, hi, (l.length : Int), lr, li, ur, ui⟩) ((hB.block _ (heap_lt HP.out)).trans HP.out)
        simp only at k0 k1 k2 k3 k4
        go_wp2
        exact hK _ _ _ rfl rfl (Below.refl _ _) (fun h => absurd h (by decide))
      · have A8 : A.tmps[8]?.getD undef = .int .i64 ux := by rw [← hA]; kernel_rfl
        have q23 : u23 = .bool false := hdep 23 (by decide)
        have A64 : A.tmps[64]?.getD undef = u23 := by rw [← hA]; kernel_rfl
        rw [q23] at A64
        refine wpList_free (wanted_b (j := 23) (d := 64) rfl (by kernel_rfl) A64) ?_
        go_wp2
        exact hK _ _ _ rfl rfl (Below.refl _ _) (fun h => absurd h (by decide))
      · have A10 : A.tmps[10]?.getD undef = .int .i64 uy := by rw [← hA]; kernel_rfl
        have q23 : u23 = .bool false := hdep 23 (by decide)
        have A64 : A.tmps[64]?.getD undef = u23 := by rw [← hA]; kernel_rfl
        rw [q23] at A64
        refine wpList_free (wanted_b (j := 23) (d := 64) rfl (by kernel_rfl) A64) ?_
        go_wp2
        exact hK _ _ _ rfl rfl (Below.refl _ _) (fun h => absurd h (by decide))
      · have q26 : u26 = .int .i64 ux := hdep 26 (by decide)
        have A67 : A.tmps[67]?.getD undef = u26 := by rw [← hA]; kernel_rfl
        rw [q26] at A67
        have q27 : u27 = .int .i64 uy := hdep 27 (by decide)
        have A68 : A.tmps[68]?.getD undef = u27 := by rw [← hA]; kernel_rfl
        rw [q27] at A68
        have q23 : u23 = .bool false := hdep 23 (by decide)
        have A64 : A.tmps[64]?.getD undef = u23 := by rw [← hA]; kernel_rfl
        rw [q23] at A64
        refine wpList_free (wanted_b (j := 23) (d := 64) rfl (by kernel_rfl) A64) ?_
        go_wp2_with (go_at_call 13; (with_reducible refine (L3.out _).mono ?_); rintro e wy ⟨rfl, hBy⟩; cases hBy)
        exact hK _ _ _ rfl rfl (Below.refl _ _) (fun h => absurd h (by decide))
      · have q25 : u25 = .complex .f64 ur ui := hdep 25 (by decide)
        have A66 : A.tmps[66]?.getD undef = u25 := by rw [← hA]; kernel_rfl
        rw [q25] at A66
        have q28 : u28 = .complex .f64 wa3 wb3 := hdep 28 (by decide)
        have A69 : A.tmps[69]?.getD undef = u28 := by rw [← hA]; kernel_rfl
        rw [q28] at A69
        have q23 : u23 = .bool false := hdep 23 (by decide)
        have A64 : A.tmps[64]?.getD undef = u23 := by rw [← hA]; kernel_rfl
        rw [q23] at A64
        refine wpList_free (wanted_b (j := 23) (d := 64) rfl (by kernel_rfl) A64) ?_
        have e0 := E3.out
        go_wp2
        exact hK _ _ _ rfl rfl (Below.refl _ _) (fun h => absurd h (by decide))
      · have q23 : u23 = .bool false := hdep 23 (by decide)
        have A64 : A.tmps[64]?.getD undef = u23 := by rw [← hA]; kernel_rfl
        rw [q23] at A64
        have q29 : u29 = .bool false := hdep 29 (by decide)
        have A70 : A.tmps[70]?.getD undef = u29 := by rw [← hA]; kernel_rfl
        rw [q29] at A70
        go_wp2
        exact hK _ _ _ rfl rfl (Below.refl _ _) (fun h => absurd h (by decide))
      · have q30 : u30 = .bool false := hdep 30 (by decide)
        have A71 : A.tmps[71]?.getD undef = u30 := by rw [← hA]; kernel_rfl
        rw [q30] at A71
        go_wp2
        exact hK _ _ _ rfl rfl (Below.refl _ _) (fun h => absurd h (by decide))
      · have A11 : A.tmps[11]?.getD undef = .int .i64 (ux - lx) := by rw [← hA]; kernel_rfl
        have q31 : u31 = .bool false := hdep 31 (by decide)
        have A72 : A.tmps[72]?.getD undef = u31 := by rw [← hA]; kernel_rfl
        rw [q31] at A72
        refine wpList_free (wanted_b (j := 31) (d := 72) rfl (by kernel_rfl) A72) ?_
        go_wp2
        exact hK _ _ _ rfl rfl (Below.refl _ _) (fun h => absurd h (by decide))
      · have A8 : A.tmps[8]?.getD undef = .int .i64 ux := by rw [← hA]; kernel_rfl
        have q31 : u31 = .bool false := hdep 31 (by decide)
        have A72 : A.tmps[72]?.getD undef = u31 := by rw [← hA]; kernel_rfl
        rw [q31] at A72
        refine wpList_free (wanted_b (j := 31) (d := 72) rfl (by kernel_rfl) A72) ?_
        go_wp2
        exact hK _ _ _ rfl rfl (Below.refl _ _) (fun h => absurd h (by decide))
      · have A7 : A.tmps[7]?.getD undef = .int .i64 lx := by rw [← hA]; kernel_rfl
        have q31 : u31 = .bool false := hdep 31 (by decide)
        have A72 : A.tmps[72]?.getD undef = u31 := by rw [← hA]; kernel_rfl
        rw [q31] at A72
        refine wpList_free (wanted_b (j := 31) (d := 72) rfl (by kernel_rfl) A72) ?_
        go_wp2
        exact hK _ _ _ rfl rfl (Below.refl _ _) (fun h => absurd h (by decide))
      · have q33 : u33 = .int .i64 ux := hdep 33 (by decide)
        have A74 : A.tmps[74]?.getD undef = u33 := by rw [← hA]; kernel_rfl
        rw [q33] at A74
        have q34 : u34 = .int .i64 lx := hdep 34 (by decide)
        have A75 : A.tmps[75]?.getD undef = u34 := by rw [← hA]; kernel_rfl
        rw [q34] at A75
        have q31 : u31 = .bool false := hdep 31 (by decide)
        have A72 : A.tmps[72]?.getD undef = u31 := by rw [← hA]; kernel_rfl
        rw [q31] at A72
        refine wpList_free (wanted_b (j := 31) (d := 72) rfl (by kernel_rfl) A72) ?_
        obtain ⟨g1, g2, g3, g4⟩ := HBD.out
        go_wp2
        exact hK _ _ _ rfl rfl (Below.refl _ _) (fun h => absurd h (by decide))
      · have q32 : u32 = .int .i64 (ux - lx) := hdep 32 (by decide)
        have A73 : A.tmps[73]?.getD undef = u32 := by rw [← hA]; kernel_rfl
        rw [q32] at A73
        have q35 : u35 = .int .i64 (ux - lx) := hdep 35 (by decide)
        have A76 : A.tmps[76]?.getD undef = u35 := by rw [← hA]; kernel_rfl
        rw [q35] at A76
        have q31 : u31 = .bool false := hdep 31 (by decide)
        have A72 : A.tmps[72]?.getD undef = u31 := by rw [← hA]; kernel_rfl
        rw [q31] at A72
        refine wpList_free (wanted_b (j := 31) (d := 72) rfl (by kernel_rfl) A72) ?_
        go_wp2
        exact hK _ _ _ rfl rfl (Below.refl _ _) (fun h => absurd h (by decide))
      · have q31 : u31 = .bool false := hdep 31 (by decide)
        have A72 : A.tmps[72]?.getD undef = u31 := by rw [← hA]; kernel_rfl
        rw [q31] at A72
        have q36 : u36 = .bool false := hdep 36 (by decide)
        have A77 : A.tmps[77]?.getD undef = u36 := by rw [← hA]; kernel_rfl
        rw [q36] at A77
        go_wp2
        exact hK _ _ _ rfl rfl (Below.refl _ _) (fun h => absurd h (by decide))
      · have q37 : u37 = .bool false := hdep 37 (by decide)
        have A78 : A.tmps[78]?.getD undef = u37 := by rw [← hA]; kernel_rfl
        rw [q37] at A78
        go_wp2
        exact hK _ _ _ rfl rfl (Below.refl _ _) (fun h => absurd h (by decide))
      · have A12 : A.tmps[12]?.getD undef = .int .i64 (uy - ly) := by rw [← hA]; kernel_rfl
        have q38 : u38 = .bool false := hdep 38 (by decide)
        have A79 : A.tmps[79]?.getD undef = u38 := by rw [← hA]; kernel_rfl
        rw [q38] at A79
        refine wpList_free (wanted_b (j := 38) (d := 79) rfl (by kernel_rfl) A79) ?_
        go_wp2
        exact hK _ _ _ rfl rfl (Below.refl _ _) (fun h => absurd h (by decide))
      · have A10 : A.tmps[10]?.getD undef = .int .i64 uy := by rw [← hA]; kernel_rfl
        have q38 : u38 = .bool false := hdep 38 (by decide)
        have A79 : A.tmps[79]?.getD undef = u38 := by rw [← hA]; kernel_rfl
        rw [q38] at A79
        refine wpList_free (wanted_b (j := 38) (d := 79) rfl (by kernel_rfl) A79) ?_
        go_wp2
        exact hK _ _ _ rfl rfl (Below.refl _ _) (fun h => absurd h (by decide))
      · have A9 : A.tmps[9]?.getD undef = .int .i64 ly := by rw [← hA]; kernel_rfl
        have q38 : u38 = .bool false := hdep 38 (by decide)
        have A79 : A.tmps[79]?.getD undef = u38 := by rw [← hA]; kernel_rfl
        rw [q38] at A79
        refine wpList_free (wanted_b (j := 38) (d := 79) rfl (by kernel_rfl) A79) ?_
        go_wp2
        exact hK _ _ _ rfl rfl (Below.refl _ _) (fun h => absurd h (by decide))
      · have q40 : u40 = .int .i64 uy := hdep 40 (by decide)
        have A81 : A.tmps[81]?.getD undef = u40 := by rw [← hA]; kernel_rfl
        rw [q40] at A81
        have q41 : u41 = .int .i64 ly := hdep 41 (by decide)
        have A82 : A.tmps[82]?.getD undef = u41 := by rw [← hA]; kernel_rfl
        rw [q41] at A82
        have q38 : u38 = .bool false := hdep 38 (by decide)
        have A79 : A.tmps[79]?.getD undef = u38 := by rw [← hA]; kernel_rfl
        rw [q38] at A79
        refine wpList_free (wanted_b (j := 38) (d := 79) rfl (by kernel_rfl) A79) ?_
        obtain ⟨g1, g2, g3, g4⟩ := HBD.out
        go_wp2
        exact hK _ _ _ rfl rfl (Below.refl _ _) (fun h => absurd h (by decide))
      · have q39 : u39 = .int .i64 (uy - ly) := hdep 39 (by decide)
        have A80 : A.tmps[80]?.getD undef = u39 := by rw [← hA]; kernel_rfl
        rw [q39] at A80
        have q42 : u42 = .int .i64 (uy - ly) := hdep 42 (by decide)
        have A83 : A.tmps[83]?.getD undef = u42 := by rw [← hA]; kernel_rfl
        rw [q42] at A83
        have q38 : u38 = .bool false := hdep 38 (by decide)
        have A79 : A.tmps[79]?.getD undef = u38 := by rw [← hA]; kernel_rfl
        rw [q38] at A79
        refine wpList_free (wanted_b (j := 38) (d := 79) rfl (by kernel_rfl) A79) ?_
        go_wp2
        exact hK _ _ _ rfl rfl (Below.refl _ _) (fun h => absurd h (by decide))
      · have q38 : u38 = .bool false := hdep 38 (by decide)
        have A79 : A.tmps[79]?.getD undef = u38 := by rw [← hA]; kernel_rfl
        rw [q38] at A79
        have q43 : u43 = .bool false := hdep 43 (by decide)
        have A84 : A.tmps[84]?.getD undef = u43 := by rw [← hA]; kernel_rfl
        rw [q43] at A84
        go_wp2
        exact hK _ _ _ rfl rfl (Below.refl _ _) (fun h => absurd h (by decide))
      · have q44 : u44 = .bool false := hdep 44 (by decide)
        have A85 : A.tmps[85]?.getD undef = u44 := by rw [← hA]; kernel_rfl
        rw [q44] at A85
        go_wp2
        exact hK _ _ _ rfl rfl (Below.refl _ _) (fun h => absurd h (by decide))
      · have A2 : A.tmps[2]?.getD undef = .pointer (some ⟨W.heap.size, 0, none⟩) := by rw [← hA]; kernel_rfl
        have q45 : u45 = .bool false := hdep 45 (by decide)
        have A86 : A.tmps[86]?.getD undef = u45 := by rw [← hA]; kernel_rfl
        rw [q45] at A86
        refine wpList_free (wanted_b (j := 45) (d := 86) rfl (by kernel_rfl) A86) ?_
        have z0 := (hB.cell (p := ⟨W.heap.size, 0, none⟩) (cell_lt c2)).trans c2
        go_wp2
        exact hK _ _ _ rfl rfl (Below.refl _ _) (fun h => absurd h (by decide))
      · have q46 : u46 = .slice a0 l.length cap := hdep 46 (by decide)
        have A87 : A.tmps[87]?.getD undef = u46 := by rw [← hA]; kernel_rfl
        rw [q46] at A87
        have q45 : u45 = .bool false := hdep 45 (by decide)
        have A86 : A.tmps[86]?.getD undef = u45 := by rw [← hA]; kernel_rfl
        rw [q45] at A86
        refine wpList_free (wanted_b (j := 45) (d := 86) rfl (by kernel_rfl) A86) ?_
        go_wp2_with (go_at_call 9; (with_reducible refine (CN.out _ (below_at HB9.out hB)).mono ?_); rintro e wy ⟨rfl, hBy⟩)
        exact hK _ _ _ rfl rfl hBy (fun h => absurd h (by decide))
      · have A6 : A.tmps[6]?.getD undef = .pointer (some ⟨b6, 0, none⟩) := by rw [← hA]; kernel_rfl
        have q45 : u45 = .bool false := hdep 45 (by decide)
        have A86 : A.tmps[86]?.getD undef = u45 := by rw [← hA]; kernel_rfl
        rw [q45] at A86
        refine wpList_free (wanted_b (j := 45) (d := 86) rfl (by kernel_rfl) A86) ?_
        go_wp2
        exact hK _ _ _ rfl rfl (Below.refl _ _) (fun h => absurd h (by decide))
      · have q48 : u48 = .pointer (some ⟨b6, 3, none⟩) := hdep 48 (by decide)
        have A89 : A.tmps[89]?.getD undef = u48 := by rw [← hA]; kernel_rfl
        rw [q48] at A89
        have q45 : u45 = .bool false := hdep 45 (by decide)
        have A86 : A.tmps[86]?.getD undef = u45 := by rw [← hA]; kernel_rfl
        rw [q45] at A86
        refine wpList_free (wanted_b (j := 45) (d := 86) rfl (by kernel_rfl) A86) ?_
        obtain ⟨k0, k1, k2, k3, k4, k5⟩ := ref_cells ((hB.block _ (heap_lt HRF.out)).trans HRF.out)
        go_wp2
        exact hK _ _ _ rfl rfl (Below.refl _ _) (fun h => absurd h (by decide))
      · have q47 : u47 = .int .i64 CO := hdep 47 (by decide)
        have A88 : A.tmps[88]?.getD undef = u47 := by rw [← hA]; kernel_rfl
        rw [q47] at A88
        have q49 : u49 = .int .i64 CO := hdep 49 (by decide)
        have A90 : A.tmps[90]?.getD undef = u49 := by rw [← hA]; kernel_rfl
        rw [q49] at A90
        have q45 : u45 = .bool false := hdep 45 (by decide)
        have A86 : A.tmps[86]?.getD undef = u45 := by rw [← hA]; kernel_rfl
        rw [q45] at A86
        refine wpList_free (wanted_b (j := 45) (d := 86) rfl (by kernel_rfl) A86) ?_
        go_wp2
        exact hK _ _ _ rfl rfl (Below.refl _ _) (fun h => absurd h (by decide))
      · have q45 : u45 = .bool false := hdep 45 (by decide)
        have A86 : A.tmps[86]?.getD undef = u45 := by rw [← hA]; kernel_rfl
        rw [q45] at A86
        have q50 : u50 = .bool false := hdep 50 (by decide)
        have A91 : A.tmps[91]?.getD undef = u50 := by rw [← hA]; kernel_rfl
        rw [q50] at A91
        go_wp2
        exact hK _ _ _ rfl rfl (Below.refl _ _) (fun h => absurd h (by decide))
    case tail =>
      intro us wx hus hB hf hne
      obtain ⟨u0, u1, u2, u3, u4, u5, u6, u7, u8, u9, u10, u11, u12, u13, u14, u15, u16, u17, u18, u19, u20, u21, u22, u23, u24, u25, u26, u27, u28, u29, u30, u31, u32, u33, u34, u35, u36, u37, u38, u39, u40, u41, u42, u43, u44, u45, u46, u47, u48, u49, u50, u51, rfl⟩ := len52 us hus
      have q : u51 = .bool false := hf 51 (by decide)
      subst q
      have HBX := Lib.hid hB
      clear hf hne hus hB
      simp only [puts, Act.put, List.setIfInBounds_toArray, List.set_cons_succ, List.set_cons_zero, List.drop_succ_cons, List.drop_zero, List.drop_nil]
      have hP13 := (HBX.out.block _ (heap_lt HP.out)).trans HP.out
      have hR13 := (HBX.out.block _ (heap_lt HRF.out)).trans HRF.out
      obtain ⟨k0, k1, k2, k3, k4⟩ := heap_cells_p hP13
      obtain ⟨m0, m1, m2, m3, m4, m5⟩ := ref_cells hR13
      simp only at k0 k1 k2 k3 k4
      clear E1 E2 E3 L1 L2 L3 HBD CN
      go_upto_region 11 with fail
      go_cut [99] from 93 to 99 (fun v99 wd => v99 = .bool false ∧ Hid (Below w12.heap.size w12 wd))
      case first =>
        obtain ⟨hcr, hu4⟩ := HHR.out
        have hhd := HHD.out
        have HE4 : ∃ wc wd, (HD = 0 ∧ wc = 4607182418800017408 ∧ wd = 0 ∨ HD = 1 ∧ wc = 0 ∧ wd = 4607182418800017408 ∨ HD = 2 ∧ wc = 13830554455654793216 ∧ wd = 0 ∨ HD = 3 ∧ wc = 0 ∧ wd = 13830554455654793216) ∧ ∀ w, (binOp .neq 27 (.complex .f64 hr hi) (.complex .f64 wc wd)).run Try.prog w = .ok (.bool false) w := by
          rcases hu4 with ⟨rfl, rfl⟩ | ⟨rfl, rfl⟩ | ⟨rfl, rfl⟩ | ⟨rfl, rfl⟩
          · exact ⟨_, _, .inl ⟨hhd, rfl, rfl⟩, fun w => by rw [run_neq_cc hcr ⟨rep_1, rep_0⟩]; simp⟩
          · exact ⟨_, _, .inr (.inl ⟨hhd, rfl, rfl⟩), fun w => by rw [run_neq_cc hcr ⟨rep_0, rep_1⟩]; simp⟩
          · exact ⟨_, _, .inr (.inr (.inl ⟨hhd, rfl, rfl⟩)), fun w => by rw [run_neq_cc hcr ⟨rep_n1, rep_0⟩]; simp⟩
          · exact ⟨_, _, .inr (.inr (.inr ⟨hhd, rfl, rfl⟩)), fun w => by rw [run_neq_cc hcr ⟨rep_0, rep_n1⟩]; simp⟩
        obtain ⟨hwc, hwd, hcs, hne⟩ := HE4
        have HNE := Lib.hid hne
        have HCS := Lib.hid hcs
        clear hne hcs hcr hhd hu4 HHR HHD k0 k1 k2 k3 k4 m0 m1 m2 m3 m4 m5
        have HQ13 := Lib.hid hP13
        have HS13 := Lib.hid hR13
        clear hP13 hR13
        refine wp_region_par 7 [93, 94, 95, 96, 97, 98, 99] [] (FctG11 b5 b6 hr hi hwc hwd HD) (by kernel_rfl) (by kernel_rfl) (FctG11_moved b5 b6 hr hi hwc hwd HD) ?step ?tail
        case step =>
          intro i hi o ho us wx hus hB hdep K hK
          obtain ⟨u0, u1, u2, u3, u4, u5, u6, rfl⟩ := len7 us hus
          obtain rfl | rfl | rfl | rfl | rfl | rfl | rfl : i = 0 ∨ i = 1 ∨ i = 2 ∨ i = 3 ∨ i = 4 ∨ i = 5 ∨ i = 6 := by omega
          all_goals (simp only [List.getElem?_toArray, List.getElem?_cons_succ, List.getElem?_cons_zero, Option.some.injEq] at ho; subst ho; clear hi hus)
          all_goals (generalize hA : puts _ _ _ = A at hK ⊢)
          · have A5 : A.tmps[5]?.getD undef = .pointer (some ⟨b5, 0, none⟩) := by rw [← hA]; kernel_rfl
            go_wp2
            exact hK _ _ _ rfl rfl (Below.refl _ _) (fun h => absurd h (by decide))
          · have q0 : u0 = .pointer (some ⟨b5, 1, none⟩) := hdep 0 (by decide)
            have A93 : A.tmps[93]?.getD undef = u0 := by rw [← hA]; kernel_rfl
            rw [q0] at A93
            obtain ⟨k0, k1, k2, k3, k4⟩ := heap_cells_p (p := ⟨ar, ai, hr, hi, (l.length : Int), lr, li, ur, ui⟩) ((hB.block _ (heap_lt HQ13.out)).trans HQ13.out)
            simp only at k0 k1 k2 k3 k4
            go_wp2
            exact hK _ _ _ rfl rfl (Below.refl _ _) (fun h => absurd h (by decide))
          · go_wp2
            exact hK _ _ _ rfl rfl (Below.refl _ _) (fun h => absurd h (by decide))
          · have A6 : A.tmps[6]?.getD undef = .pointer (some ⟨b6, 0, none⟩) := by rw [← hA]; kernel_rfl
            go_wp2
            exact hK _ _ _ rfl rfl (Below.refl _ _) (fun h => absurd h (by decide))
          · have q3 : u3 = .pointer (some ⟨b6, 2, none⟩) := hdep 3 (by decide)
            have A96 : A.tmps[96]?.getD undef = u3 := by rw [← hA]; kernel_rfl
            rw [q3] at A96
            obtain ⟨k0, k1, k2, k3, k4, k5⟩ := ref_cells ((hB.block _ (heap_lt HS13.out)).trans HS13.out)
            go_wp2
            exact hK _ _ _ rfl rfl (Below.refl _ _) (fun h => absurd h (by decide))
          · have q2 : u2 = .agg #[.complex .f64 4607182418800017408 0, .complex .f64 0 4607182418800017408, .complex .f64 13830554455654793216 0, .complex .f64 0 13830554455654793216] := hdep 2 (by decide)
            have A95 : A.tmps[95]?.getD undef = u2 := by rw [← hA]; kernel_rfl
            rw [q2] at A95
            have q4 : u4 = .int .i64 HD := hdep 4 (by decide)
            have A97 : A.tmps[97]?.getD undef = u4 := by rw [← hA]; kernel_rfl
            rw [q4] at A97
            have ix0 := run_ix4_0
            have ix1 := run_ix4_1
            have ix2 := run_ix4_2
            have ix3 := run_ix4_3
            rcases HCS.out with ⟨rfl, rfl, rfl⟩ | ⟨rfl, rfl, rfl⟩ | ⟨rfl, rfl, rfl⟩ | ⟨rfl, rfl, rfl⟩
            all_goals go_wp2
            all_goals exact hK _ _ _ rfl rfl (Below.refl _ _) (fun h => absurd h (by decide))
          · have q1 : u1 = .complex .f64 hr hi := hdep 1 (by decide)
            have A94 : A.tmps[94]?.getD undef = u1 := by rw [← hA]; kernel_rfl
            rw [q1] at A94
            have q5 : u5 = .complex .f64 hwc hwd := hdep 5 (by decide)
            have A98 : A.tmps[98]?.getD undef = u5 := by rw [← hA]; kernel_rfl
            rw [q5] at A98
            have e0 := HNE.out
            go_wp2
            exact hK _ _ _ rfl rfl (Below.refl _ _) (fun h => absurd h (by decide))
        case tail =>
          intro us wx hus hB hf hne
          obtain ⟨u0, u1, u2, u3, u4, u5, u6, rfl⟩ := len7 us hus
          have q : u6 = .bool false := hf 6 (by decide)
          subst q
          have HBY := Lib.hid hB
          clear hf hne hus hB
          simp only [puts, Act.put, List.setIfInBounds_toArray, List.set_cons_succ, List.set_cons_zero, List.drop_succ_cons, List.drop_zero, List.drop_nil]
          go_wp2_with fail
          go_meet
          exact ⟨rfl, Lib.hid (below_at HBX.out HBY.out)⟩
      case rest =>
        obtain ⟨rfl, HBC⟩ := hcut
        clear k0 k1 k2 k3 k4 m0 m1 m2 m3 m4 m5 HBX HHR HHD hP13 hR13
        have hc2 := (HBC.out.cell (p := ⟨W.heap.size, 0, none⟩) (cell_lt c2)).trans c2
        have hc2b : (wc.alloc (.cells #[.int .i64 0] 3)).cell? ⟨W.heap.size, 0, none⟩ = some (.slice a0 l.length cap) := (((Below.refl _ wc).alloc (Nat.le_refl _) (.cells #[.int .i64 0] 3)).cell (p := ⟨W.heap.size, 0, none⟩) (cell_lt hc2)).trans hc2
        go_wp2_with (go_at_call 14; (with_reducible refine (places_make _ _ _ _).mono ?_); rintro e w14 ⟨rfl, rfl⟩)
        obtain ⟨W0, hW0⟩ : ∃ V, V = (wc.alloc (.cells #[.int .i64 0] 3)).alloc (.cells #[.slice a0 l.length cap] 22) := ⟨_, rfl⟩
        have hbC : Below wc.heap.size wc W0 := by rw [hW0]; (repeat (first | exact Below.refl _ _ | assumption | apply below_drewN | (refine Below.setCell ?_ (by first | assumption | omega | (simp; try omega)) _) | (refine Below.alloc ?_ (by first | assumption | omega | (simp; try omega)) _)))
        have h13 : W0.heap[wc.heap.size]? = some (.cells #[.int .i64 0] 3 (0, 0)) := by rw [hW0]; exact heap_alloc2_old _ _ _
        have hbl : W0.cell? ⟨wc.heap.size + 1, 0, none⟩ = some (.slice a0 l.length cap) := by rw [hW0, cell_of_row _ _ _ _ _ _ (heap_alloc2_new _ _ _)]; rfl
        have hsz : W0.heap.size = wc.heap.size + 2 := by rw [hW0]; simp
        rw [← hW0]
        clear hW0 hc2b
        have hb12 : Below w12.heap.size w12 W0 := below_at HBC.out hbC
        have hbW : Below W.heap.size W W0 := (HBW.out.trans (HB9.out.mono HBW.out.size)).trans (hb12.mono (Nat.le_trans HBW.out.size HB9.out.size))
        have hrows : RowsAt W0 a0 4 TradeR.row l := HRr.out.moved (below_at HB9.out hb12)
        have HROWS := Lib.hid hrows
        have k2 := (hb12.cell (p := ⟨W.heap.size, 0, none⟩) (cell_lt c2)).trans c2
        have K3 := (hb12.block _ (heap_lt H3.out)).trans H3.out
        have K4 := (hb12.block _ (heap_lt H4.out)).trans H4.out
        have KR := (hb12.block _ (heap_lt HRF.out)).trans HRF.out
        have KX : RowsAt W0 XA 1 intRow (xsZ l) ∧ TypedAt W0 XA 3 := ⟨HXR.out.1.moved hb12, HXR.out.2.moved hb12⟩
        have KY : RowsAt W0 YB 1 intRow (ysZ l) ∧ TypedAt W0 YB 3 := ⟨HYR.out.1.moved hb12, HYR.out.2.moved hb12⟩
        have hXb : ∀ b o, XA = some ⟨b, o, none⟩ → b < wc.heap.size := fun b o e => by
          obtain ⟨cs, fr, h⟩ := HXR.out.2 b o e
          have := heap_lt h
          have := HBC.out.size
          omega
        have hYb : ∀ b o, YB = some ⟨b, o, none⟩ → b < wc.heap.size := fun b o e => by
          obtain ⟨cs, fr, h⟩ := HYR.out.2 b o e
          have := heap_lt h
          have := HBC.out.size
          omega
        have hX4 := KX.2.ne K4 (by decide)
        have hY4 := KY.2.ne K4 (by decide)
        have hWc : W.heap.size + 2 < wc.heap.size := by
          have := heap_lt H4.out
          have := HBC.out.size
          omega
        have HK3 := Lib.hid K3; have HK4 := Lib.hid K4; have HKR := Lib.hid KR; have HKX := Lib.hid KX; have HKY := Lib.hid KY; have HXB := Lib.hid hXb; have HYB := Lib.hid hYb; have HX4 := Lib.hid hX4; have HY4 := Lib.hid hY4; have HBWW := Lib.hid hbW; have H13 := Lib.hid h13
        have hb6 : ∀ b', b6 = b' → b' < wc.heap.size ∧ b' ≠ W.heap.size + 2 := fun b' e => by
          subst e
          refine ⟨by have := heap_lt HRF.out; have := HBC.out.size; omega, fun e => ?_⟩
          subst e; rw [K4] at KR; cases KR
        have HB6 := Lib.hid (hb6 b6 rfl)
        clear K3 K4 KR KX KY hXb hYb hX4 hY4 hbW hb6 h13 hc2 c2 hbC HBC HB9 H3 H4 HRF HXR HYR HP HBW hrows
        refine (wpIn_wide (n := 6)).1 ?_
        have hseq := places_stops l a0 cap (wc.heap.size + 1) (fun k => k = W.heap.size + 2 ∨ k = wc.heap.size) (by omega) HG.out W0 (by omega) (by omega) (fun h b o e => by
          have h1 := HA0.out h b o e
          omega) hbl HROWS.out
        have hOn : OnlyOn (fun k => k = W.heap.size + 2 ∨ k = wc.heap.size) (fun (pre : List PlaceB) V => V.heap[wc.heap.size]? = some (.cells #[.int .i64 (pre.length : Int)] 3 (0, 0)) ∧ V.heap[W.heap.size + 2]? = some (.cells #[.bool false] 4 (0, 0))) :=
          fun s A B h e => ⟨(e _ (.inr rfl)).trans h.1, (e _ (.inl rfl)).trans h.2⟩
        have hOx : OnlyOn (fun k => k = W.heap.size + 2 ∨ k = wc.heap.size) (fun (pre : List PlaceB) V => V.heap[W.heap.size + 2]? = some (.cells #[.bool true] 4 (0, 0)) ∨ ¬ (pre.map (·.1.2) <+: placesZ l)) :=
          fun s A B h e => h.imp (fun h => (e _ (.inl rfl)).trans h) id
        have hq : ∀ k, (k = W.heap.size + 2 ∨ k = wc.heap.size) → k < W0.heap.size := by omega
        refine range_lawF rfl (by decide) (gf := 22) (lb := #[.pointer (some ⟨wc.heap.size + 1, 0, none⟩)]) rfl trivial (enters_of Try.func22 (by kernel_rfl) rfl) hseq (by omega) keepsS_t (fun V o o' h1 h2 => keepsS_b V _ o o' h1 h2 (by omega)) (Below.refl _ _) (fun _ => rfl)
          (fun pre V => ChgQ (fun k => k = W.heap.size + 2 ∨ k = wc.heap.size) W0 V ∧ (V.heap[wc.heap.size]? = some (.cells #[.int .i64 (pre.length : Int)] 3 (0, 0)) ∧ V.heap[W.heap.size + 2]? = some (.cells #[.bool false] 4 (0, 0))))
          (fun c pre V => c = .ret ∧ ChgQ (fun k => k = W.heap.size + 2 ∨ k = wc.heap.size) W0 V ∧ (V.heap[W.heap.size + 2]? = some (.cells #[.bool true] 4 (0, 0)) ∨ ¬ (pre.map (·.1.2) <+: placesZ l)))
          (kept_turns hq hOn (by rintro k rfl; omega))
          (fun c s A B h t => ⟨h.1, kept_turns hq hOx (own := fun k => k = W0.heap.size + 1) (by rintro k rfl; omega) s A B h.2 t⟩)
          (kept_turns hq hOn (by omega))
          (fun c s A B h t => ⟨h.1, kept_turns hq hOx (own := fun k => W0.heap.size + 2 ≤ k ∧ k < W0.heap.size + 2 + 6) (by omega) s A B h.2 t⟩)
          ⟨ChgQ.refl _ _, H13.out, HK4.out⟩ ?round ?done ?stop
        case round =>
          rintro L' pre x V hL' hfl ⟨hC, hc13, hc4⟩ hlt hloop
          gi_wp2
          refine ⟨keepsFrom_below (Below.refl _ _), keepsS_r _, fun V2 hbusy => ?_⟩
          have h13 := hbusy.keeps hc13 rfl
          have h4 := hbusy.keeps hc4 rfl
          have hC2 := hbusy.chg (by omega) hC
          have d13 : V2.cell? ⟨wc.heap.size, 0, none⟩ = some (.int .i64 (pre.length : Int)) := by rw [cell_of_row _ _ _ _ _ _ h13]; rfl
          have d4 : V2.cell? ⟨W.heap.size + 2, 0, none⟩ = some (.bool false) := by rw [cell_of_row _ _ _ _ _ _ h4]; rfl
          have f13 := frozen_of_row _ _ 0 _ _ h13
          have f4 := frozen_of_row _ _ 0 _ _ h4
          have e2 := hC2.cell (a := ⟨W.heap.size, 0, none⟩) (by simp; omega) k2
          have e3 : V2.cell? ⟨W.heap.size + 1, 0, none⟩ = some (.int .u8 mo) := by rw [cell_of_row _ _ _ _ _ _ (hC2.heap (by omega) HK3.out)]; rfl
          obtain ⟨-, -, -, -, m4, m5⟩ := ref_cells (hC2.heap (by have := HB6.out; omega) HKR.out)
          obtain ⟨n, hn⟩ : ∃ n, n = pre.length := ⟨_, rfl⟩
          rw [← hn] at hlt d13
          have hxl : n < (xsZ l).length := by simp [xsZ, paths_len]; exact hlt
          have hyl : n < (ysZ l).length := by simp [ysZ, paths_len]; exact hlt
          obtain ⟨bx, ox, ex, cx⟩ := int_cell HKX.out.1 n hxl
          obtain ⟨by_, oy, ey, cy⟩ := int_cell HKY.out.1 n hyl
          have cx2 := hC2.cell (a := ⟨bx, ox + n, none⟩) (by have h1 := HXB.out bx ox ex; have h2 := HX4.out bx ox ex; simp; omega) cx
          have cy2 := hC2.cell (a := ⟨by_, oy + n, none⟩) (by have h1 := HYB.out by_ oy ey; have h2 := HY4.out by_ oy ey; simp; omega) cy
          have hgx := places_get l n hlt
          have hfn := (afterZ_fine l (n + 1) (by omega))
          have hxe : (xsZ l)[n] = (afterZ l (n + 1)).x := by simp [xsZ, pathsZ]
          have hye : (ysZ l)[n] = (afterZ l (n + 1)).y := by simp [ysZ, pathsZ]
          have hxb := hfn.x
          have hyb := hfn.y
          have hnK := hfn.nK
          have hn0 := hfn.n0
          rw [← hxe] at hxb
          rw [← hye] at hyb
          obtain ⟨pu, pv, CC, PP⟩ := law_place (xsZ l)[n] (ysZ l)[n] (by omega) (by omega)
          have PQ : Hid (∀ w m, CallsIn (Fence.wide.inRound L') m Try.prog 13 #[.int .i64 (xsZ l)[n], .int .i64 (ysZ l)[n]] w fun e w' => e = .returned (.complex .f64 pu pv) ∧ w' = w) := Lib.hid fun w m => CallsIn.inRound L' (callsIn_wide.2 (PP w))
          have NE := fun w => run_neq_cc x.2 CC w
          have HGX := Lib.hid hgx
          obtain ⟨gx, hgxe⟩ : ∃ q, q = (xsZ l)[n] := ⟨_, rfl⟩
          obtain ⟨gy, hgye⟩ : ∃ q, q = (ysZ l)[n] := ⟨_, rfl⟩
          rw [← hgxe] at cx2 PQ NE HGX
          rw [← hgye] at cy2 PQ NE HGX
          obtain ⟨xa, hxa⟩ : ∃ q, q = x.1.1.1 := ⟨_, rfl⟩
          obtain ⟨xb, hxbe⟩ : ∃ q, q = x.1.1.2 := ⟨_, rfl⟩
          rw [← hxa, ← hxbe] at NE
          rw [← hxa, ← hxbe]
          subst ex ey
          have HNN := Lib.hid hn
          have hnl : (n : Int) < (l.length : Int) := by omega
          have hnx : (n : Int) < ((xsZ l).length : Int) := by omega
          have hC3 := Lib.hid hC2
          have G13 := Lib.hid h13
          have G4 := Lib.hid h4
          clear hgx hfn hxe hye hxb hyb hnK hn0 CC PP cx cy hgxe hgye hxa hxbe hC hc13 hc4 hC2 h13 h4 hxl hyl hn
          obtain ⟨bz, hbz⟩ : ∃ b, b = !decide (x.1.2.1 = gx ∧ x.1.2.2 = gy) := ⟨_, rfl⟩
          rw [← hbz] at NE
          have NF := Lib.hid NE
          have HBZ := Lib.hid hbz
          clear NE hbz
          gi_upto_region 16 with fail

          refine wpIn_region_par 19 [103, 104, 105, 106, 107, 108, 109, 110, 111, 112, 113, 114, 115, 116, 117, 118, 119, 120, 121] [] (FctG16 l a0 cap b6 bx ox by_ oy ca cb n xa xb pu pv gx gy bz) (by kernel_rfl) (by kernel_rfl) (FctG16_moved l a0 cap b6 bx ox by_ oy ca cb n xa xb pu pv gx gy bz) ?step ?tail
          case step =>
            intro i hi o ho us wx hus hB hdep K hK
            obtain ⟨u0, u1, u2, u3, u4, u5, u6, u7, u8, u9, u10, u11, u12, u13, u14, u15, u16, u17, u18, rfl⟩ := len19 us hus
            obtain rfl | rfl | rfl | rfl | rfl | rfl | rfl | rfl | rfl | rfl | rfl | rfl | rfl | rfl | rfl | rfl | rfl | rfl | rfl : i = 0 ∨ i = 1 ∨ i = 2 ∨ i = 3 ∨ i = 4 ∨ i = 5 ∨ i = 6 ∨ i = 7 ∨ i = 8 ∨ i = 9 ∨ i = 10 ∨ i = 11 ∨ i = 12 ∨ i = 13 ∨ i = 14 ∨ i = 15 ∨ i = 16 ∨ i = 17 ∨ i = 18 := by omega
            all_goals (simp only [List.getElem?_toArray, List.getElem?_cons_succ, List.getElem?_cons_zero, Option.some.injEq] at ho; subst ho; clear hi hus)
            all_goals (generalize hA : puts _ _ _ = A at hK ⊢)
            · have A13 : A.tmps[13]?.getD undef = .pointer (some ⟨wc.heap.size, 0, none⟩) := by rw [← hA]; kernel_rfl
              have z0 := (hB.cell (p := ⟨wc.heap.size, 0, none⟩) (cell_lt d13)).trans d13
              gi_wp2
              exact hK _ _ _ rfl rfl (Below.refl _ _) (fun h => absurd h (by decide))
            · have A2 : A.tmps[2]?.getD undef = .pointer (some ⟨W.heap.size, 0, none⟩) := by rw [← hA]; kernel_rfl
              have z0 := (hB.cell (p := ⟨W.heap.size, 0, none⟩) (cell_lt e2)).trans e2
              gi_wp2
              exact hK _ _ _ rfl rfl (Below.refl _ _) (fun h => absurd h (by decide))
            · have q1 : u1 = .slice a0 l.length cap := hdep 1 (by decide)
              have A104 : A.tmps[104]?.getD undef = u1 := by rw [← hA]; kernel_rfl
              rw [q1] at A104
              gi_wp2
              exact hK _ _ _ rfl rfl (Below.refl _ _) (fun h => absurd h (by decide))
            · have q0 : u0 = .int .i64 (n : Int) := hdep 0 (by decide)
              have A103 : A.tmps[103]?.getD undef = u0 := by rw [← hA]; kernel_rfl
              rw [q0] at A103
              have q2 : u2 = .int .i64 (l.length : Int) := hdep 2 (by decide)
              have A105 : A.tmps[105]?.getD undef = u2 := by rw [← hA]; kernel_rfl
              rw [q2] at A105
              gi_wp2
              exact hK _ _ _ rfl (by show (Value.bool (decide (l.length ≤ n))) = .bool false; rw [decide_eq_false (by omega)]) (Below.refl _ _) (fun h => absurd h (by decide))
            · have q3 : u3 = .bool false := hdep 3 (by decide)
              have A106 : A.tmps[106]?.getD undef = u3 := by rw [← hA]; kernel_rfl
              rw [q3] at A106
              gi_wp2
              exact hK _ _ _ rfl rfl (Below.refl _ _) (fun h => absurd h (by decide))
            · have A14 : A.tmps[14]?.getD undef = .complex .f64 xa xb := by rw [← hA]; kernel_rfl
              have q4 : u4 = .bool false := hdep 4 (by decide)
              have A107 : A.tmps[107]?.getD undef = u4 := by rw [← hA]; kernel_rfl
              rw [q4] at A107
              refine wpListIn_free (wanted_b (j := 4) (d := 107) rfl (by kernel_rfl) A107) ?_
              gi_wp2
              exact hK _ _ _ rfl rfl (Below.refl _ _) (fun h => absurd h (by decide))
            · have A6 : A.tmps[6]?.getD undef = .pointer (some ⟨b6, 0, none⟩) := by rw [← hA]; kernel_rfl
              have q4 : u4 = .bool false := hdep 4 (by decide)
              have A107 : A.tmps[107]?.getD undef = u4 := by rw [← hA]; kernel_rfl
              rw [q4] at A107
              refine wpListIn_free (wanted_b (j := 4) (d := 107) rfl (by kernel_rfl) A107) ?_
              gi_wp2
              exact hK _ _ _ rfl rfl (Below.refl _ _) (fun h => absurd h (by decide))
            · have q6 : u6 = .pointer (some ⟨b6, 4, none⟩) := hdep 6 (by decide)
              have A109 : A.tmps[109]?.getD undef = u6 := by rw [← hA]; kernel_rfl
              rw [q6] at A109
              have q4 : u4 = .bool false := hdep 4 (by decide)
              have A107 : A.tmps[107]?.getD undef = u4 := by rw [← hA]; kernel_rfl
              rw [q4] at A107
              refine wpListIn_free (wanted_b (j := 4) (d := 107) rfl (by kernel_rfl) A107) ?_
              have z0 := (hB.cell (p := ⟨b6, 4, none⟩) (cell_lt m4)).trans m4
              gi_wp2
              exact hK _ _ _ rfl rfl (Below.refl _ _) (fun h => absurd h (by decide))
            · have A13 : A.tmps[13]?.getD undef = .pointer (some ⟨wc.heap.size, 0, none⟩) := by rw [← hA]; kernel_rfl
              have q4 : u4 = .bool false := hdep 4 (by decide)
              have A107 : A.tmps[107]?.getD undef = u4 := by rw [← hA]; kernel_rfl
              rw [q4] at A107
              refine wpListIn_free (wanted_b (j := 4) (d := 107) rfl (by kernel_rfl) A107) ?_
              have z0 := (hB.cell (p := ⟨wc.heap.size, 0, none⟩) (cell_lt d13)).trans d13
              gi_wp2
              exact hK _ _ _ rfl rfl (Below.refl _ _) (fun h => absurd h (by decide))
            · have q7 : u7 = .slice (some ⟨bx, ox, none⟩) l.length ca := hdep 7 (by decide)
              have A110 : A.tmps[110]?.getD undef = u7 := by rw [← hA]; kernel_rfl
              rw [q7] at A110
              have q8 : u8 = .int .i64 (n : Int) := hdep 8 (by decide)
              have A111 : A.tmps[111]?.getD undef = u8 := by rw [← hA]; kernel_rfl
              rw [q8] at A111
              have q4 : u4 = .bool false := hdep 4 (by decide)
              have A107 : A.tmps[107]?.getD undef = u4 := by rw [← hA]; kernel_rfl
              rw [q4] at A107
              refine wpListIn_free (wanted_b (j := 4) (d := 107) rfl (by kernel_rfl) A107) ?_
              gi_wp2
              exact hK _ _ _ rfl rfl (Below.refl _ _) (fun h => absurd h (by decide))
            · have q9 : u9 = .pointer (some ⟨bx, ox + n, none⟩) := hdep 9 (by decide)
              have A112 : A.tmps[112]?.getD undef = u9 := by rw [← hA]; kernel_rfl
              rw [q9] at A112
              have q4 : u4 = .bool false := hdep 4 (by decide)
              have A107 : A.tmps[107]?.getD undef = u4 := by rw [← hA]; kernel_rfl
              rw [q4] at A107
              refine wpListIn_free (wanted_b (j := 4) (d := 107) rfl (by kernel_rfl) A107) ?_
              have z0 := (hB.cell (p := ⟨bx, ox + n, none⟩) (cell_lt cx2)).trans cx2
              gi_wp2
              exact hK _ _ _ rfl rfl (Below.refl _ _) (fun h => absurd h (by decide))
            · have A6 : A.tmps[6]?.getD undef = .pointer (some ⟨b6, 0, none⟩) := by rw [← hA]; kernel_rfl
              have q4 : u4 = .bool false := hdep 4 (by decide)
              have A107 : A.tmps[107]?.getD undef = u4 := by rw [← hA]; kernel_rfl
              rw [q4] at A107
              refine wpListIn_free (wanted_b (j := 4) (d := 107) rfl (by kernel_rfl) A107) ?_
              gi_wp2
              exact hK _ _ _ rfl rfl (Below.refl _ _) (fun h => absurd h (by decide))
            · have q11 : u11 = .pointer (some ⟨b6, 5, none⟩) := hdep 11 (by decide)
              have A114 : A.tmps[114]?.getD undef = u11 := by rw [← hA]; kernel_rfl
              rw [q11] at A114
              have q4 : u4 = .bool false := hdep 4 (by decide)
              have A107 : A.tmps[107]?.getD undef = u4 := by rw [← hA]; kernel_rfl
              rw [q4] at A107
              refine wpListIn_free (wanted_b (j := 4) (d := 107) rfl (by kernel_rfl) A107) ?_
              have z0 := (hB.cell (p := ⟨b6, 5, none⟩) (cell_lt m5)).trans m5
              gi_wp2
              exact hK _ _ _ rfl rfl (Below.refl _ _) (fun h => absurd h (by decide))
            · have A13 : A.tmps[13]?.getD undef = .pointer (some ⟨wc.heap.size, 0, none⟩) := by rw [← hA]; kernel_rfl
              have q4 : u4 = .bool false := hdep 4 (by decide)
              have A107 : A.tmps[107]?.getD undef = u4 := by rw [← hA]; kernel_rfl
              rw [q4] at A107
              refine wpListIn_free (wanted_b (j := 4) (d := 107) rfl (by kernel_rfl) A107) ?_
              have z0 := (hB.cell (p := ⟨wc.heap.size, 0, none⟩) (cell_lt d13)).trans d13
              gi_wp2
              exact hK _ _ _ rfl rfl (Below.refl _ _) (fun h => absurd h (by decide))
            · have q12 : u12 = .slice (some ⟨by_, oy, none⟩) l.length cb := hdep 12 (by decide)
              have A115 : A.tmps[115]?.getD undef = u12 := by rw [← hA]; kernel_rfl
              rw [q12] at A115
              have q13 : u13 = .int .i64 (n : Int) := hdep 13 (by decide)
              have A116 : A.tmps[116]?.getD undef = u13 := by rw [← hA]; kernel_rfl
              rw [q13] at A116
              have q4 : u4 = .bool false := hdep 4 (by decide)
              have A107 : A.tmps[107]?.getD undef = u4 := by rw [← hA]; kernel_rfl
              rw [q4] at A107
              refine wpListIn_free (wanted_b (j := 4) (d := 107) rfl (by kernel_rfl) A107) ?_
              gi_wp2
              exact hK _ _ _ rfl rfl (Below.refl _ _) (fun h => absurd h (by decide))
            · have q14 : u14 = .pointer (some ⟨by_, oy + n, none⟩) := hdep 14 (by decide)
              have A117 : A.tmps[117]?.getD undef = u14 := by rw [← hA]; kernel_rfl
              rw [q14] at A117
              have q4 : u4 = .bool false := hdep 4 (by decide)
              have A107 : A.tmps[107]?.getD undef = u4 := by rw [← hA]; kernel_rfl
              rw [q4] at A107
              refine wpListIn_free (wanted_b (j := 4) (d := 107) rfl (by kernel_rfl) A107) ?_
              have z0 := (hB.cell (p := ⟨by_, oy + n, none⟩) (cell_lt cy2)).trans cy2
              gi_wp2
              exact hK _ _ _ rfl rfl (Below.refl _ _) (fun h => absurd h (by decide))
            · have q10 : u10 = .int .i64 gx := hdep 10 (by decide)
              have A113 : A.tmps[113]?.getD undef = u10 := by rw [← hA]; kernel_rfl
              rw [q10] at A113
              have q15 : u15 = .int .i64 gy := hdep 15 (by decide)
              have A118 : A.tmps[118]?.getD undef = u15 := by rw [← hA]; kernel_rfl
              rw [q15] at A118
              have q4 : u4 = .bool false := hdep 4 (by decide)
              have A107 : A.tmps[107]?.getD undef = u4 := by rw [← hA]; kernel_rfl
              rw [q4] at A107
              refine wpListIn_free (wanted_b (j := 4) (d := 107) rfl (by kernel_rfl) A107) ?_
              gi_wp2_with (refine ⟨trivial, ?_⟩; gi_at_call 13; (with_reducible refine (PQ.out _ _).mono ?_); rintro e wy ⟨rfl, hBy⟩; cases hBy)
              exact hK _ _ _ rfl rfl (Below.refl _ _) (fun h => absurd h (by decide))
            · have q5 : u5 = .complex .f64 xa xb := hdep 5 (by decide)
              have A108 : A.tmps[108]?.getD undef = u5 := by rw [← hA]; kernel_rfl
              rw [q5] at A108
              have q16 : u16 = .complex .f64 pu pv := hdep 16 (by decide)
              have A119 : A.tmps[119]?.getD undef = u16 := by rw [← hA]; kernel_rfl
              rw [q16] at A119
              have q4 : u4 = .bool false := hdep 4 (by decide)
              have A107 : A.tmps[107]?.getD undef = u4 := by rw [← hA]; kernel_rfl
              rw [q4] at A107
              refine wpListIn_free (wanted_b (j := 4) (d := 107) rfl (by kernel_rfl) A107) ?_
              have e0 := NF.out
              gi_wp2
              exact hK _ _ _ rfl rfl (Below.refl _ _) (fun h => absurd h (by decide))
            · have q4 : u4 = .bool false := hdep 4 (by decide)
              have A107 : A.tmps[107]?.getD undef = u4 := by rw [← hA]; kernel_rfl
              rw [q4] at A107
              have q17 : u17 = .bool bz := hdep 17 (by decide)
              have A120 : A.tmps[120]?.getD undef = u17 := by rw [← hA]; kernel_rfl
              rw [q17] at A120
              gi_wp2
              exact hK _ _ _ rfl rfl (Below.refl _ _) (fun h => absurd h (by decide))
          case tail =>
            intro us wx hus hB hf hne
            obtain ⟨u0, u1, u2, u3, u4, u5, u6, u7, u8, u9, u10, u11, u12, u13, u14, u15, u16, u17, u18, rfl⟩ := len19 us hus
            have q : u18 = .bool bz := hf 18 (by decide)
            subst q
            have HBX := Lib.hid hB
            clear hf hne hus hB
            simp only [puts, Act.put, List.setIfInBounds_toArray, List.set_cons_succ, List.set_cons_zero, List.drop_succ_cons, List.drop_zero, List.drop_nil]
            have G13b := Lib.hid ((HBX.out.block _ (heap_lt G13.out)).trans G13.out)
            have G4b := Lib.hid ((HBX.out.block _ (heap_lt G4.out)).trans G4.out)
            have i13 := (HBX.out.cell (p := ⟨wc.heap.size, 0, none⟩) (cell_lt d13)).trans d13
            have i4 := (HBX.out.cell (p := ⟨W.heap.size + 2, 0, none⟩) (cell_lt d4)).trans d4
            have i3 := (HBX.out.cell (p := ⟨W.heap.size + 1, 0, none⟩) (cell_lt e3)).trans e3
            have j13 := frozen_of_row _ _ 0 _ _ G13b.out
            have j4 := frozen_of_row _ _ 0 _ _ G4b.out
            have HCX := Lib.hid (hC3.out.trans (ChgQ.of_below HBX.out))
            have KSX : Hid (KeepsS (fun k => k = W.heap.size + 2 ∨ k = wc.heap.size) W0.heap.size V2 wx) := Lib.hid (KeepsS.of_below HBX.out)
            clear d13 d4 e2 e3 m4 m5 cx2 cy2 f13 f4 PQ NF HBX hC3 G13 G4
            cases bz with
            | true =>
              gi_wp2
              have hks := keepsS_t KSX.out (keepsS_setCell wx (W.heap.size + 2) 0 (.bool false) (.inl rfl))
              refine ⟨hks.from (by omega) (by omega), hks.up (by omega), rfl, HCX.out.trans (ChgQ.setCell _ _ _ _ (.inl rfl)), .inr fun hp => ?_⟩
              obtain ⟨r, hr⟩ := hp
              have h := HGX.out
              rw [← hr, HNN.out] at h
              simp at h
              have hz := HBZ.out
              rw [h] at hz
              simp at hz
            | false =>
              have hz : x.1.2.1 = gx ∧ x.1.2.2 = gy := by have h := HBZ.out; simpa using h.symm
              by_cases hmn : (n : Int) + 1 = mo
              · subst hmn
                gi_wp2
                have hks := keepsS_t (keepsS_t KSX.out (keepsS_setCell wx wc.heap.size 0 (.int .i64 ((n : Int) + 1)) (.inr rfl))) (keepsS_setCell _ (W.heap.size + 2) 0 (.bool true) (.inl rfl))
                exact ⟨hks.from (by omega) (by omega), hks.up (by omega), rfl, (HCX.out.trans (ChgQ.setCell _ _ _ _ (.inr rfl))).trans (ChgQ.setCell _ _ _ _ (.inl rfl)), .inl (heap_set4 ((heap_setCell_other _ _ _ _ (by simp; omega)).trans G4b.out) 0 (.bool true) _ rfl)⟩
              · gi_wp2
                have hks := keepsS_t KSX.out (keepsS_setCell wx wc.heap.size 0 (.int .i64 ((n : Int) + 1)) (.inr rfl))
                refine ⟨hks.from (by omega) (by omega), hks.up (by omega), HCX.out.trans (ChgQ.setCell _ _ _ _ (.inr rfl)), ?_, (heap_setCell_other _ _ _ _ (by simp; omega)).trans G4b.out⟩
                have e : (((pre ++ [x]).length : Nat) : Int) = (n : Int) + 1 := by rw [HNN.out]; simp
                rw [e]
                exact heap_set4 G13b.out 0 (.int .i64 ((n : Int) + 1)) _ rfl
        case done =>
          rintro D ys V hD hys ⟨hC, hc13, hc4⟩ hK
          have hyl : ys.length = l.length := by have h := congrArg List.length hys; simpa [placesZ, paths_len] using h
          rw [hyl] at hc13
          have d13 : V.cell? ⟨wc.heap.size, 0, none⟩ = some (.int .i64 (l.length : Int)) := by rw [cell_of_row _ _ _ _ _ _ hc13]; rfl
          have d4 : V.cell? ⟨W.heap.size + 2, 0, none⟩ = some (.bool false) := by rw [cell_of_row _ _ _ _ _ _ hc4]; rfl
          have f4 := frozen_of_row _ _ 0 _ _ hc4
          have e2 := hC.cell (a := ⟨W.heap.size, 0, none⟩) (by simp; omega) k2
          have HBV := Lib.hid (HBWW.out.trans (hC.below (n := W.heap.size) HBWW.out.size (by omega)))
          have HC4 := Lib.hid hc4
          have HK := Lib.hid hK
          have hDb : W0.heap.size ≤ D := by omega
          clear hC hys hyl hD hc13 hc4 hK
          go_wp2_with fail
          have hK2 : (V.setCell ⟨W.heap.size + 2, 0, none⟩ (.bool true)).heap[D]? = some (.deferred (some [])) := (heap_setCell_other _ _ _ _ (by simp; omega)).trans HK.out
          refine ⟨by simp, .inl ⟨_, _, rfl, run_takeDeferred hK2, ?_⟩⟩
          refine ⟨_, results_box1 Try.results4 _ _ (W.heap.size + 2) (.bool true) rfl ((World.putObj_heap_other (by omega)).trans (heap_set4 HC4.out 0 (.bool true) _ rfl)) isAgg_bool, rfl, ?_⟩
          exact (HBV.out.setCell (p := ⟨W.heap.size + 2, 0, none⟩) (by simp) _).trans (belowK_b (w := W) (Nat.le_refl _) _ D _ _ (by omega) hK2 rfl rfl)
        case stop =>
          rintro D c pre V hD hp ⟨rfl, hC, hres⟩ hK
          have hc4 := hres.resolve_right (fun h => h hp)
          have HBV := Lib.hid (HBWW.out.trans (hC.below (n := W.heap.size) HBWW.out.size (by omega)))
          have hDb : W0.heap.size ≤ D := by omega
          have HC4 := Lib.hid hc4
          have HK := Lib.hid hK
          clear hC hD hc4 hK hres hp
          gi_wp2
          refine ⟨by simp, .inl ⟨_, _, rfl, run_takeDeferred HK.out, ?_⟩⟩
          refine ⟨_, results_box1 Try.results4 _ _ (W.heap.size + 2) (.bool true) rfl ((World.putObj_heap_other (by omega)).trans HC4.out) isAgg_bool, rfl, ?_⟩
          exact HBV.out.trans (belowK_b (w := W) (Nat.le_refl _) _ D _ _ (by omega) HK.out rfl rfl)
end Go.Proofs.Ytkllcidmahhkoaa
