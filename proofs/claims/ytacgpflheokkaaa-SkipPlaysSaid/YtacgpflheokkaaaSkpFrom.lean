/-
  skip's From: keys, rising: an iterator that reads memory, and stores into the list's steps: by contract.
-/
import Derived.Test.YtacgpflheokkaaaSkpPutN
import Derived.Test.YtacgpflheokkaaaLoopLaw3
import Derived.Test.YtacgpflheokkaaaRegParR
namespace Go.Proofs.Ytacgpflheokkaaa
open Go.RowKit Go.Shelf
set_option linter.unusedVariables false
set_option linter.unusedSimpArgs false
attribute [local go_sem] Oper.semAt_some

/-- the list's steps may turn -/
structure SkR (b : Nat) (sa : Option Addr) (n cap : Nat) (bt : Int) (A B : World) : Prop where
  chg : Chg b A B
  own : ∀ st, A.heap[b]? = some (.cells (listC sa n cap bt st) 60 (0, 0)) → ∃ st', B.heap[b]? = some (.cells (listC sa n cap bt st') 60 (0, 0))
theorem SkR.refl {b : Nat} {sa : Option Addr} {n cap : Nat} {bt : Int} (A : World) : SkR b sa n cap bt A A := ⟨Chg.refl _ _, fun st h => ⟨st, h⟩⟩
theorem SkR.drew1 {b : Nat} {sa : Option Addr} {n cap : Nat} {bt : Int} (A : World) : SkR b sa n cap bt A { A with drawn := A.drawn + 1 } := ⟨⟨rfl, rfl, rfl, Nat.le_refl _, fun _ _ _ => rfl⟩, fun st h => ⟨st, h⟩⟩
theorem SkR.trans {b : Nat} {sa : Option Addr} {n cap : Nat} {bt : Int} {A B C : World} (h : SkR b sa n cap bt A B) (k : SkR b sa n cap bt B C) : SkR b sa n cap bt A C :=
  ⟨h.chg.trans k.chg, fun st hs => by obtain ⟨st', h1⟩ := h.own st hs; exact k.own st' h1⟩
theorem SkR.mem {b : Nat} {sa : Option Addr} {cap : Nat} {T : List TowM} {bt st : Int} {A B : World} (h : SkR b sa T.length cap bt A B) (hM : SkM A b sa cap T bt st) : ∃ st', SkM B b sa cap T bt st' := by
  obtain ⟨st', h1⟩ := h.own st hM.own
  exact ⟨st', hM.chg h.chg h1⟩
theorem SkR.cell {b : Nat} {sa : Option Addr} {n cap : Nat} {bt : Int} {A B : World} (h : SkR b sa n cap bt A B) {k i : Nat} {v : Value} (hk : k ≠ b) (hc : A.cell? ⟨k, i, none⟩ = some v) : B.cell? ⟨k, i, none⟩ = some v := by
  have hb := World.block_lt_of_cell? A _ hc
  have e := h.chg.block k hb hk
  unfold World.cell? at hc ⊢
  simp only at hc ⊢
  rw [e]; exact hc
theorem from_make (b : Option Addr) (key : ByteArray) (w : World) :
    Calls Try.prog 10 #[.pointer b, .string key] w fun e w' => e = .returned (.func (.func 27) #[] #[.pointer (some ⟨w.heap.size, 0, none⟩), .pointer (some ⟨w.heap.size + 1, 0, none⟩)]) ∧ w' = (w.alloc (.cells #[.pointer b] 24)).alloc (.cells #[.string key] 9) := by
  go_enter Try.func10, Try.ntmps10
  have hmf : ∀ (fn : Fn) (first cap : Array Value) (w : World), (Instr.makeFunc fn first cap).run Try.prog w = .ok (.func fn first cap) w := fun _ _ _ _ => rfl
  go_wp2
  go_ret
  exact ⟨rfl, rfl⟩
abbrev PairS := ByteArray × ByteArray
def pairAt (T : List TowM) (i : Nat) : PairS := (keyAt T i, valAt T i)
/-- not below a key -/
def fromL (T : List TowM) (q : List Nat) (key : ByteArray) : List PairS := (q.filter fun i => !bLt (keyAt T i) key).map (pairAt T)
theorem fromL_split {T : List TowM} {q lo hi : List Nat} {key : ByteArray} (e : q = lo ++ hi) (h1 : ∀ i ∈ lo, bLt (keyAt T i) key = true) (h2 : ∀ i ∈ hi, bLt (keyAt T i) key = false) : fromL T q key = hi.map (pairAt T) := by
  unfold fromL
  rw [e, List.filter_append, List.filter_eq_nil_iff.2 (by intro i hi'; simp [h1 i hi']), List.filter_eq_self.2 (by intro i hi'; simp [h2 i hi'])]
  rfl
def meas (q : List Nat) (v : Int) : Nat := if v < 0 then 0 else q.length - q.idxOf v.toNat
theorem meas_eq {T : List TowM} {q pre rest : List Nat} (hL : Lay T q) (e : q = pre ++ rest) : meas q (headI rest) = rest.length := by
  cases rest with
  | nil => rfl
  | cons x r =>
    have hp := pos_end hL (pre := pre ++ [x]) (suf := r) (by rw [e]; simp)
    rw [endOf_snoc] at hp
    have hx := (hL.mem x (by rw [e]; simp)).1
    unfold posOf at hp
    rw [if_neg (by omega)] at hp
    have hh : headI (x :: r) = (x : Int) := rfl
    unfold meas
    rw [hh, if_neg (by omega), Int.toNat_natCast]
    have hq : q.length = pre.length + (r.length + 1) := by rw [e]; simp
    simp at hp ⊢
    omega
theorem info_int1 : (Try.prog.info? 3).map (·.size) = some 1 := by kernel_rfl
theorem run_index12 (l : List Int) (v : Int) (hl : l.length = 12) (hv : l[0]? = some v) (w : World) : (Instr.index 61 (.agg (intsO l)) (.int .i64 0)).run Try.prog w = .ok (.int .i64 v) w := by
  have hc : (intsO l)[0]? = some (.int .i64 v) := by rw [intsO_get, hv]; rfl
  cases hq : Try.prog.info? 3 with
  | none => have := info_int1; simp [hq] at this
  | some i =>
    have hs : i.size = 1 := by have := info_int1; simpa [hq] using this
    have hagg : (isAgg 3).run Try.prog w = .ok false w := by
      unfold isAgg
      rw [Sem.run_bind, run_underlying Try.underlying3 w]
      rfl
    simp [Instr.index, run_underlying Try.underlying61, asIntOf, part, Sem.run_bind, sizeOf, typeInfo, hq, hs, hagg, hc, go_sem]
/-- what a loop's body keeps of a list -/
structure KeptL (b : Nat) (sa : Option Addr) (T : List TowM) (Q0 : Nat → Obj → Prop) : Prop where
  own : ∀ cs fr, ¬ Q0 b (.cells cs 60 fr)
  row : ∀ k o cs fr, sa = some ⟨k, o, none⟩ → ¬ Q0 k (.cells cs 57 fr)
  nx : ∀ r ∈ T, ∀ cs fr, ¬ Q0 r.nb (.cells cs 3 fr)
theorem SkM.keeps {A B : World} {b : Nat} {sa : Option Addr} {cap : Nat} {T : List TowM} {bt st : Int} {Q0 : Nat → Obj → Prop} {base : Nat} (h : SkM A b sa cap T bt st) (hk : KeepsY Q0 base A B) (hQ : KeptL b sa T Q0) : SkM B b sa cap T bt st := by
  refine ⟨hk.same _ _ (hQ.own _ _) h.own (.inl rfl), ?_, fun r hr => hk.same _ _ (hQ.nx r hr _ _) (h.nx r hr) (.inl rfl), h.inj, h.len⟩
  obtain ⟨hl, hx | ⟨g, c, cur, hv, hb, hc, hr⟩⟩ := h.row
  · exact ⟨hl, .inl hx⟩
  · exact ⟨hl, .inr ⟨g, c, cur, hv, hb, hk.same _ _ (hQ.row g 0 _ _ (by cases hv; rfl)) hc (.inl rfl), hr⟩⟩
theorem len14 (us : List Value) (h : us.length = 14) : ∃ x0 x1 x2 x3 x4 x5 x6 x7 x8 x9 x10 x11 x12 x13 : Value, us = [x0, x1, x2, x3, x4, x5, x6, x7, x8, x9, x10, x11, x12, x13] := by
  obtain ⟨x0, v0, e0, h0⟩ := len_cons h
  obtain ⟨x1, v1, e1, h1⟩ := len_cons h0
  obtain ⟨x2, v2, e2, h2⟩ := len_cons h1
  obtain ⟨x3, v3, e3, h3⟩ := len_cons h2
  obtain ⟨x4, v4, e4, h4⟩ := len_cons h3
  obtain ⟨x5, v5, e5, h5⟩ := len_cons h4
  obtain ⟨x6, v6, e6, h6⟩ := len_cons h5
  obtain ⟨x7, v7, e7, h7⟩ := len_cons h6
  obtain ⟨x8, v8, e8, h8⟩ := len_cons h7
  obtain ⟨x9, v9, e9, h9⟩ := len_cons h8
  obtain ⟨x10, v10, e10, h10⟩ := len_cons h9
  obtain ⟨x11, v11, e11, h11⟩ := len_cons h10
  obtain ⟨x12, v12, e12, h12⟩ := len_cons h11
  obtain ⟨x13, v13, e13, h13⟩ := len_cons h12
  have en := List.eq_nil_of_length_eq_zero h13
  subst en
  subst e13
  subst e12
  subst e11
  subst e10
  subst e9
  subst e8
  subst e7
  subst e6
  subst e5
  subst e4
  subst e3
  subst e2
  subst e1
  subst e0
  exact ⟨x0, x1, x2, x3, x4, x5, x6, x7, x8, x9, x10, x11, x12, x13, rfl⟩
def FctSF (b B o n cap i0 nb ht : Nat) (key : ByteArray) (O : Array Value) (tx : Int) : Nat → Value → World → Prop
  | 0, v, _ => v = .pointer (some ⟨b, 0, none⟩)
  | 1, v, _ => v = .pointer (some ⟨b, 0, none⟩)
  | 2, v, _ => v = .pointer (some ⟨b, 0, none⟩)
  | 3, v, _ => v = .slice (some ⟨B, o, none⟩) n cap
  | 4, v, _ => v = .pointer (some ⟨b, 0, none⟩)
  | 5, v, _ => v = .string key
  | 6, v, _ => v = .agg O
  | 7, v, _ => v = .int .i64 (i0 : Int)
  | 8, v, _ => v = .pointer (some ⟨B, o + i0 * 3, none⟩)
  | 9, v, _ => v = .pointer (some ⟨B, o + i0 * 3 + 2, none⟩)
  | 10, v, _ => v = .slice (some ⟨nb, 0, none⟩) ht ht
  | 11, v, _ => v = .pointer (some ⟨nb, 0, none⟩)
  | 12, v, _ => v = .int .i64 tx
  | 13, v, _ => v = .int .i64 tx
  | _, _, _ => True
theorem FctSF_moved (b B o n cap i0 nb ht : Nat) (key : ByteArray) (O : Array Value) (tx : Int) (j : Nat) (v : Value) (w w' : World) (hfc : FctSF b B o n cap i0 nb ht key O tx j v w) (hb : Below w.heap.size w w') : FctSF b B o n cap i0 nb ht key O tx j v w' := by
  match j with
  | 0 | 1 | 2 | 3 | 4 | 5 | 6 | 7 | 8 | 9 | 10 | 11 | 12 | 13 | _ + 14 => exact hfc
theorem FctSF_pure (b B o n cap i0 nb ht : Nat) (key : ByteArray) (O : Array Value) (tx : Int) (j : Nat) (v : Value) (w w' : World) (hfc : FctSF b B o n cap i0 nb ht key O tx j v w) : FctSF b B o n cap i0 nb ht key O tx j v w' := by
  match j with
  | 0 | 1 | 2 | 3 | 4 | 5 | 6 | 7 | 8 | 9 | 10 | 11 | 12 | 13 | _ + 14 => exact hfc
set_option maxRecDepth 100000 in
set_option maxHeartbeats 16000000 in
theorem from1 (L Bl Bk b : Nat) (sa : Option Addr) (cap : Nat) (T : List TowM) (bt st : Int) (q : List Nat) (key : ByteArray) (Q0 : Nat → Obj → Prop) (hQ : KeptL b sa T Q0) (hQl : ∀ cs fr, ¬ Q0 Bl (.cells cs 24 fr))
    (J Jx : List PairS → World → Prop) (W : World) (hJ : ∀ s A B, J s A → Turns (fun k => k = b) A B → J s B) (hJx : ∀ s A B, Jx s A → Turns (fun k => k = b) A B → Jx s B)
    (hY : ∀ pre x W1, J pre W1 → W.heap.size + 0 ≤ W1.heap.size → pre.length < q.length → YieldAt Fence.wide (5 - 1) Try.prog L #[.string x.1, .string x.2] W1 fun e W' =>
      (e = .returned (.bool true) ∧ J (pre ++ [x]) W' ∧ KeepsY Q0 W.heap.size W1 W') ∨ (e = .returned (.bool false) ∧ Jx (pre ++ [x]) W' ∧ KeepsY Q0 W.heap.size W1 W'))
    (hM : SkM W b sa cap T bt st) (hL : Lay T q) (hBl : W.heap[Bl]? = some (.cells #[.pointer (some ⟨b, 0, none⟩)] 24 (0, 0))) (hBk : W.heap[Bk]? = some (.cells #[.string key] 9 (0, 0))) (h0 : J [] W) :
    CallsIn Fence.wide 5 Try.prog 27 #[.func (.yield L) #[] #[], .pointer (some ⟨Bl, 0, none⟩), .pointer (some ⟨Bk, 0, none⟩)] W fun e W' => (∃ v, e = .returned v) ∧ (∃ st', SkM W' b sa cap T bt st') ∧
      ((∃ ys, ys = fromL T q key ∧ J ys W') ∨ (∃ pre, pre <+: fromL T q key ∧ Jx pre W')) := by
  refine callsIn_of_wp Try.func27 rfl trivial ?_ rfl
  simp only [Try.ntmps27, List.size_toArray, List.length_cons, List.length_nil, Nat.reduceAdd, Nat.reduceSub, Array.replicate_succ, Array.replicate_zero, List.push_toArray, List.append_toArray, List.nil_append, List.cons_append]
  refine wpIn_wide.2 ?_
  obtain ⟨lo, hi, e, hlo, hhi⟩ := split_at hL.sorted key
  have hfl := fromL_split e hlo hhi
  have ha := ahead0 hL e hlo hhi 0 (hEnd hL e)
  have hn0 := nxt0 hL e
  have hbl : Bl ≠ b := fun e => by rw [e, hM.own] at hBl; simp only [Option.some.injEq, Obj.cells.injEq] at hBl; exact absurd hBl.2.1 (by decide)
  have hbk : Bk ≠ b := fun e => by rw [e, hM.own] at hBk; simp only [Option.some.injEq, Obj.cells.injEq] at hBk; exact absurd hBk.2.1 (by decide)
  have cl : W.cell? ⟨Bl, 0, none⟩ = some (.pointer (some ⟨b, 0, none⟩)) := by rw [cell_of_row _ _ _ _ _ _ hBl]; rfl
  have ck : W.cell? ⟨Bk, 0, none⟩ = some (.string key) := by rw [cell_of_row _ _ _ _ _ _ hBk]; rfl
  have AH0 : Hid (∀ wx, SkR b sa T.length cap bt W wx → Calls Try.prog 25 #[.pointer (some ⟨b, 0, none⟩), .string key] wx fun e w' => e = .returned (.agg (intsO (outL T q key 0))) ∧ SkR b sa T.length cap bt wx w') := Lib.hid fun wx h => by
    obtain ⟨st1, hM1⟩ := h.mem hM
    exact (skip_ahead b sa cap T bt st1 q key wx hM1 hL).mono fun _ _ ⟨h1, st', h2, h3, h4, h5⟩ => ⟨h1, h5, fun _ _ => ⟨st', h4⟩⟩
  obtain ⟨O, hO⟩ : ∃ O, O = intsO (outL T q key 0) := ⟨_, rfl⟩
  have HIX : Hid (∀ w, (Instr.index 61 (.agg O) (.int .i64 0)).run Try.prog w = .ok (.int .i64 ((endOf lo : Nat) : Int)) w) := Lib.hid (fun w => by rw [hO]; exact run_index12 _ _ (outL_len _ _ _ _) (by rw [← ha]; rfl) w)
  rw [← hO] at AH0
  obtain ⟨B, o, nb, ht, rfl, hati, hmi, c2, c3, hBb, hnb⟩ := hM.next_facts hL e (hEnd hL e)
  rw [hn0] at c3
  obtain ⟨n, hn⟩ : ∃ n, n = T.length := ⟨_, rfl⟩
  obtain ⟨i0, hi0⟩ : ∃ n, n = endOf lo := ⟨_, rfl⟩
  obtain ⟨tx, hto⟩ : ∃ n, n = headI hi := ⟨_, rfl⟩
  have d0 := hM.cells.1
  rw [← hn] at AH0 hati d0
  rw [← hi0] at HIX hati c2
  rw [← hto] at c3
  have hlen := hM.len
  have hnl : (n : Int) ≤ 70000 := by omega
  have AH := AH0
  have HBL : Hid (∀ wx, SkR b (some ⟨B, o, none⟩) n cap bt W wx → wx.cell? ⟨Bl, 0, none⟩ = some (.pointer (some ⟨b, 0, none⟩))) := Lib.hid fun wx h => h.cell hbl cl
  have HBK : Hid (∀ wx, SkR b (some ⟨B, o, none⟩) n cap bt W wx → wx.cell? ⟨Bk, 0, none⟩ = some (.string key)) := Lib.hid fun wx h => h.cell hbk ck
  have HB0 : Hid (∀ wx, SkR b (some ⟨B, o, none⟩) n cap bt W wx → wx.cell? ⟨b, 0, none⟩ = some (.slice (some ⟨B, o, none⟩) n cap)) := Lib.hid fun wx h => by
    rw [hn] at h ⊢
    obtain ⟨st1, hM1⟩ := h.mem hM
    exact hM1.cells.1
  have HN2 : Hid (∀ wx, SkR b (some ⟨B, o, none⟩) n cap bt W wx → wx.cell? ⟨B, o + i0 * 3 + 2, none⟩ = some (.slice (some ⟨nb, 0, none⟩) ht ht)) := Lib.hid fun wx h => h.cell hBb c2
  have HN3 : Hid (∀ wx, SkR b (some ⟨B, o, none⟩) n cap bt W wx → wx.cell? ⟨nb, 0, none⟩ = some (.int .i64 tx)) := Lib.hid fun wx h => h.cell hnb c3
  have HM := Lib.hid hM
  have HL := Lib.hid hL
  have HY := Lib.hid hY
  have HNn := Lib.hid hn
  have HTO := Lib.hid hto
  have HE := Lib.hid e
  have HFL := Lib.hid hfl
  clear hY hM hL AH0 hO ha hn0 hi0 hto d0 c2 c3 hn e hfl hlen
  go_upto_region 1 with fail
  refine wp_region_parR 14 [8, 9, 10, 11, 12, 13, 14, 15, 16, 17, 18, 19, 20, 4] [] (FctSF b B o n cap i0 nb ht key O tx) (SkR b (some ⟨B, o, none⟩) n cap bt) (SkR.drew1 _) (fun _ _ _ h k => h.trans k) (by kernel_rfl) (by kernel_rfl) (fun _ _ _ _ h _ => FctSF_pure _ _ _ _ _ _ _ _ _ _ _ _ _ _ _ h) ?step ?tail
  case step =>
    intro i hi o ho us wx hus hB hdep K hK
    obtain ⟨u0, u1, u2, u3, u4, u5, u6, u7, u8, u9, u10, u11, u12, u13, rfl⟩ := len14 us hus
    obtain rfl | rfl | rfl | rfl | rfl | rfl | rfl | rfl | rfl | rfl | rfl | rfl | rfl | rfl : i = 0 ∨ i = 1 ∨ i = 2 ∨ i = 3 ∨ i = 4 ∨ i = 5 ∨ i = 6 ∨ i = 7 ∨ i = 8 ∨ i = 9 ∨ i = 10 ∨ i = 11 ∨ i = 12 ∨ i = 13 := by omega
    all_goals (simp only [List.getElem?_toArray, List.getElem?_cons_succ, List.getElem?_cons_zero, Option.some.injEq] at ho; subst ho; clear hi hus)
    all_goals (generalize hA : puts _ _ _ = A at hK ⊢)
    · have A1 : A.tmps[1]?.getD undef = .pointer (some ⟨Bl, 0, none⟩) := by rw [← hA]; kernel_rfl
      have z0 := HBL.out _ hB
      go_wp2
      exact hK _ _ _ rfl rfl (SkR.refl _) (fun h => absurd h (by decide))
    · have q0 : u0 = .pointer (some ⟨b, 0, none⟩) := hdep 0 (by decide)
      have A8 : A.tmps[8]?.getD undef = u0 := by rw [← hA]; kernel_rfl
      rw [q0] at A8
      go_wp2
      exact hK _ _ _ rfl rfl (SkR.refl _) (fun h => absurd h (by decide))
    · have q1 : u1 = .pointer (some ⟨b, 0, none⟩) := hdep 1 (by decide)
      have A9 : A.tmps[9]?.getD undef = u1 := by rw [← hA]; kernel_rfl
      rw [q1] at A9
      go_wp2
      exact hK _ _ _ rfl rfl (SkR.refl _) (fun h => absurd h (by decide))
    · have q2 : u2 = .pointer (some ⟨b, 0, none⟩) := hdep 2 (by decide)
      have A10 : A.tmps[10]?.getD undef = u2 := by rw [← hA]; kernel_rfl
      rw [q2] at A10
      have z0 := HB0.out _ hB
      go_wp2
      exact hK _ _ _ rfl rfl (SkR.refl _) (fun h => absurd h (by decide))
    · have A1 : A.tmps[1]?.getD undef = .pointer (some ⟨Bl, 0, none⟩) := by rw [← hA]; kernel_rfl
      have z0 := HBL.out _ hB
      go_wp2
      exact hK _ _ _ rfl rfl (SkR.refl _) (fun h => absurd h (by decide))
    · have A2 : A.tmps[2]?.getD undef = .pointer (some ⟨Bk, 0, none⟩) := by rw [← hA]; kernel_rfl
      have z0 := HBK.out _ hB
      go_wp2
      exact hK _ _ _ rfl rfl (SkR.refl _) (fun h => absurd h (by decide))
    · have q4 : u4 = .pointer (some ⟨b, 0, none⟩) := hdep 4 (by decide)
      have A12 : A.tmps[12]?.getD undef = u4 := by rw [← hA]; kernel_rfl
      rw [q4] at A12
      have q5 : u5 = .string key := hdep 5 (by decide)
      have A13 : A.tmps[13]?.getD undef = u5 := by rw [← hA]; kernel_rfl
      rw [q5] at A13
      go_wp2_with (go_at_call 25; (with_reducible refine (AH.out _ hB).mono ?_); rintro e wy ⟨rfl, hBy⟩)
      exact hK _ _ _ rfl rfl hBy (fun h => absurd h (by decide))
    · have q6 : u6 = .agg O := hdep 6 (by decide)
      have A14 : A.tmps[14]?.getD undef = u6 := by rw [← hA]; kernel_rfl
      rw [q6] at A14
      have e0 := HIX.out
      go_wp2
      exact hK _ _ _ rfl rfl (SkR.refl _) (fun h => absurd h (by decide))
    · have q3 : u3 = .slice (some ⟨B, o, none⟩) n cap := hdep 3 (by decide)
      have A11 : A.tmps[11]?.getD undef = u3 := by rw [← hA]; kernel_rfl
      rw [q3] at A11
      have q7 : u7 = .int .i64 (i0 : Int) := hdep 7 (by decide)
      have A15 : A.tmps[15]?.getD undef = u7 := by rw [← hA]; kernel_rfl
      rw [q7] at A15
      go_wp2
      exact hK _ _ _ rfl rfl (SkR.refl _) (fun h => absurd h (by decide))
    · have q8 : u8 = .pointer (some ⟨B, o + i0 * 3, none⟩) := hdep 8 (by decide)
      have A16 : A.tmps[16]?.getD undef = u8 := by rw [← hA]; kernel_rfl
      rw [q8] at A16
      go_wp2
      exact hK _ _ _ rfl rfl (SkR.refl _) (fun h => absurd h (by decide))
    · have q9 : u9 = .pointer (some ⟨B, o + i0 * 3 + 2, none⟩) := hdep 9 (by decide)
      have A17 : A.tmps[17]?.getD undef = u9 := by rw [← hA]; kernel_rfl
      rw [q9] at A17
      have z0 := HN2.out _ hB
      go_wp2
      exact hK _ _ _ rfl rfl (SkR.refl _) (fun h => absurd h (by decide))
    · have q10 : u10 = .slice (some ⟨nb, 0, none⟩) ht ht := hdep 10 (by decide)
      have A18 : A.tmps[18]?.getD undef = u10 := by rw [← hA]; kernel_rfl
      rw [q10] at A18
      go_wp2
      exact hK _ _ _ rfl rfl (SkR.refl _) (fun h => absurd h (by decide))
    · have q11 : u11 = .pointer (some ⟨nb, 0, none⟩) := hdep 11 (by decide)
      have A19 : A.tmps[19]?.getD undef = u11 := by rw [← hA]; kernel_rfl
      rw [q11] at A19
      have z0 := HN3.out _ hB
      go_wp2
      exact hK _ _ _ rfl rfl (SkR.refl _) (fun h => absurd h (by decide))
    · have q12 : u12 = .int .i64 tx := hdep 12 (by decide)
      have A20 : A.tmps[20]?.getD undef = u12 := by rw [← hA]; kernel_rfl
      rw [q12] at A20
      go_wp2
      exact hK _ _ _ rfl rfl (SkR.refl _) (fun h => absurd h (by decide))
  case tail =>
    intro us wx hus hB hf hne
    obtain ⟨u0, u1, u2, u3, u4, u5, u6, u7, u8, u9, u10, u11, u12, u13, rfl⟩ := len14 us hus
    have q4 : u13 = .int .i64 tx := hf 13 (by decide)
    subst q4
    have HBX := Lib.hid hB
    clear hf hne hus hB
    simp only [puts, Act.put, List.setIfInBounds_toArray, List.set_cons_succ, List.set_cons_zero, List.drop_succ_cons, List.drop_zero, List.drop_nil]
    rw [HNn.out] at HBX
    obtain ⟨st1, hM1⟩ := HBX.out.mem HM.out
    have HW1 : Hid (wx.heap[Bl]? = some (.cells #[.pointer (some ⟨b, 0, none⟩)] 24 (0, 0)) ∧ W.heap.size ≤ wx.heap.size) := Lib.hid ⟨HBX.out.chg.heap hbl hBl, HBX.out.chg.size⟩
    have HJ1 : Hid (J [] wx) := Lib.hid (hJ _ _ _ h0 ⟨HBX.out.chg.size, fun k o hk ho => HBX.out.chg.heap hk ho, HBX.out.chg.os, HBX.out.chg.tape, HBX.out.chg.output⟩)
    have HM1 := Lib.hid hM1
    clear hM1 HBX AH HBL HBK HB0 HN2 HN3 HIX cl ck h0 hati hmi hnl HM
    go_wp2
    refine (wpIn_wide (n := 5)).1 ?_
    rw [HTO.out]
    gi_loopw [4] (fun v4 wr => ∃ (don rest : List Nat) (st' : Int), v4 = .int .i64 (headI rest) ∧ Hid (hi = don ++ rest) ∧ Hid (J (don.map (pairAt T)) wr) ∧ Hid (SkM wr b (some ⟨B, o, none⟩) cap T bt st') ∧ Hid (wr.heap[Bl]? = some (.cells #[.pointer (some ⟨b, 0, none⟩)] 24 (0, 0)) ∧ W.heap.size ≤ wr.heap.size)) (fun v _ => meas q (intOf v))
    case atStart => exact ⟨[], hi, st1, rfl, Lib.hid rfl, HJ1, HM1, HW1⟩
    case round =>
      obtain ⟨don, rest, st', rfl, HD, HJ, HMr, HWr⟩ := hrel
      clear HJ1 HM1 HW1
      cases rest with
      | nil =>
        have h1 : headI [] = -1 := rfl
        rw [h1]
        gi_wp2
        go_end0
        refine ⟨⟨_, rfl⟩, ⟨st', HMr.out⟩, .inl ⟨_, ?_, HJ.out⟩⟩
        rw [HFL.out, HD.out, List.append_nil]
      | cons x rest =>
        have h1 : headI (x :: rest) = (x : Int) := rfl
        have hq : q = (lo ++ don) ++ (x :: rest) := by rw [HE.out, HD.out, List.append_assoc]
        have hq2 : q = (lo ++ don ++ [x]) ++ rest := by rw [hq]; simp
        have hxT : x < T.length := (HL.out.mem x (by rw [hq]; simp)).2
        obtain ⟨B', o', e', c0, c1, c2⟩ := HMr.out.tow x hxT
        cases e'
        have hk1 := (HMr.out.key x hxT).1
        have hv1 : valAt T x = T[x].value := by simp [valAt, hxT]
        rw [← hk1] at c0
        rw [← hv1] at c1
        obtain ⟨nx, hnx⟩ : ∃ z, z = T[x].nb := ⟨_, rfl⟩
        obtain ⟨hx, hhx⟩ : ∃ z, z = T[x].nx.length := ⟨_, rfl⟩
        rw [← hnx, ← hhx] at c2
        have dl : wr.cell? ⟨Bl, 0, none⟩ = some (.pointer (some ⟨b, 0, none⟩)) := by rw [cell_of_row _ _ _ _ _ _ HWr.out.1]; rfl
        have d0 := HMr.out.cells.1
        have hlen := HMr.out.len
        have hxi : (x : Int) < (T.length : Int) := by omega
        have hQL : Hid (don.length < q.length) := Lib.hid (by rw [hq]; simp; omega)
        have HQ2 := Lib.hid hq2
        have HQ1 := Lib.hid hq
        obtain ⟨kx, hkx⟩ : ∃ z, z = keyAt T x := ⟨_, rfl⟩
        obtain ⟨vx, hvx⟩ : ∃ z, z = valAt T x := ⟨_, rfl⟩
        rw [← hkx] at c0
        rw [← hvx] at c1
        have HPX : Hid (pairAt T x = (kx, vx)) := Lib.hid (by unfold pairAt; rw [hkx, hvx])
        obtain ⟨fn, tmps, assign, body, hy, hR⟩ := HY.out (don.map (pairAt T)) (kx, vx) (wr.alloc (.cells #[.string kx, .string vx, .slice (some ⟨nx, 0, none⟩) hx hx] 57)) (hJ _ _ _ HJ.out (Turns.alloc _ _)) (by have := HWr.out.2; simp; omega) (by rw [List.length_map]; exact hQL.out)
        simp only at hy
        rw [h1]
        clear hq hq2 hxT hk1 hv1 hnx hhx hkx hvx
        gi_wp2
        refine hR.mono ?_
        clear hR hy c0 c1 c2 d0 dl
        rintro e W3 (⟨rfl, hJ3, hk3⟩ | ⟨rfl, hJx3, hk3⟩)
        · have hMa := (HMr.out.moved (w' := wr.alloc (.cells #[.string kx, .string vx, .slice (some ⟨nx, 0, none⟩) hx hx] 57)) ((Below.refl _ _).alloc (Nat.le_refl _) _)).keeps hk3 hQ
          have hl3 := hk3.same _ _ (hQl _ _) ((Below.heap_alloc _ _ _ (heap_lt HWr.out.1)).trans HWr.out.1) (.inl rfl)
          have hs3 : W.heap.size ≤ W3.heap.size := by have h1 := hk3.size; have h2 := HWr.out.2; simp at h1; omega
          obtain ⟨B3, o3, nb3, ht3, e3, hat3, hm3, c2, c3, _, _⟩ := hMa.next_facts HL.out HQ2.out (hEnd HL.out HQ2.out)
          cases e3
          rw [endOf_snoc] at hat3 c2
          rw [nxt0 HL.out HQ2.out] at c3
          have d0 := hMa.cells.1
          have dl : W3.cell? ⟨Bl, 0, none⟩ = some (.pointer (some ⟨b, 0, none⟩)) := by rw [cell_of_row _ _ _ _ _ _ hl3]; rfl
          have HMa := Lib.hid hMa
          have HW3 := Lib.hid (And.intro hl3 hs3)
          have HJ3 := Lib.hid hJ3
          obtain ⟨nv, hnv⟩ : ∃ z, z = headI rest := ⟨_, rfl⟩
          have HNV := Lib.hid hnv
          rw [← hnv] at c3
          clear hMa hl3 hs3 hJ3 hk3 hnv HMr HJ HWr
          gi_wp2
          go_roundw
          case rel => exact ⟨don ++ [x], rest, st', by rw [HNV.out], Lib.hid (by rw [HD.out]; simp), Lib.hid (by rw [List.map_append, List.map_singleton, HPX.out]; exact HJ3.out), HMa, HW3⟩
          case measure =>
            simp only [intOf]
            rw [HNV.out, meas_eq HL.out HQ2.out, ← h1, meas_eq HL.out HQ1.out]
            simp
        · have hMa := (HMr.out.moved (w' := wr.alloc (.cells #[.string kx, .string vx, .slice (some ⟨nx, 0, none⟩) hx hx] 57)) ((Below.refl _ _).alloc (Nat.le_refl _) _)).keeps hk3 hQ
          gi_wp2
          refine bodyPost_ret (results_none rfl _ _ _) rfl ?_
          refine ⟨⟨_, rfl⟩, ⟨st', hMa⟩, .inr ⟨(don ++ [x]).map (pairAt T), ?_, ?_⟩⟩
          · rw [HFL.out, HD.out]
            exact ⟨rest.map (pairAt T), by simp⟩
          · rw [List.map_append, List.map_singleton, HPX.out]; exact hJx3
theorem from_stops (Bl Bk b : Nat) (sa : Option Addr) (cap : Nat) (T : List TowM) (bt st : Int) (q : List Nat) (key : ByteArray) (Q0 : Nat → Obj → Prop) (hQ : KeptL b sa T Q0) (hQl : ∀ cs fr, ¬ Q0 Bl (.cells cs 24 fr)) (w : World)
    (hM : SkM w b sa cap T bt st) (hL : Lay T q) (hBl : w.heap[Bl]? = some (.cells #[.pointer (some ⟨b, 0, none⟩)] 24 (0, 0))) (hBk : w.heap[Bk]? = some (.cells #[.string key] 9 (0, 0))) :
    SeqStopsG Fence.wide 5 Try.prog 27 #[.pointer (some ⟨Bl, 0, none⟩), .pointer (some ⟨Bk, 0, none⟩)] (fun x : PairS => #[Value.string x.1, Value.string x.2]) (fun _ k => k = b) 0 (KeepsY Q0) (fun W' => ∃ st', SkM W' b sa cap T bt st')
      (fun ys => ys = fromL T q key) (fun pre => pre <+: fromL T q key) q.length w := fun L J Jx W hW hJ hJx hY h0 =>
  from1 L Bl Bk b sa cap T bt st q key Q0 hQ hQl J Jx W hJ hJx hY (hM.moved hW) hL ((hW.block _ (heap_lt hBl)).trans hBl) ((hW.block _ (heap_lt hBk)).trans hBk) h0
end Go.Proofs.Ytacgpflheokkaaa
