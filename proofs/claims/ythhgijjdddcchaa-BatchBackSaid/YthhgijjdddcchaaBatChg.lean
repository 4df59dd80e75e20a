/-
  The change that stands next, by contract.
-/
import Derived.Test.YthhgijjdddcchaaBatSame
import Derived.Test.YthhgijjdddcchaaBatOut
import Derived.Laws.ResultCell
namespace Go.Proofs.Ythhgijjdddcchaa
open Go.RowKit
set_option linter.unusedVariables false
set_option linter.unusedSimpArgs false

/-- the number that a text's first byte is; none: 0 -/
def firstN (t : ByteArray) : Int := match t.data.toList with
  | [] => 0
  | b :: _ => ((b.toNat : Nat) : Int)
def RS.chgK (r : RS) : Int := firstN (r.take 1).1
def RS.chg1 (r : RS) : RS := if (r.take 1).2.e = 0 ∧ ¬ r.chgK = 1 ∧ ¬ r.chgK = 2 then (r.take 1).2.fail 11 else (r.take 1).2
def RS.chg2 (r : RS) : ByteArray × RS := r.chg1.text 200
def RS.chg3 (r : RS) : ByteArray × RS := if r.chgK = 1 then r.chg2.2.text 4096 else (ByteArray.empty, r.chg2.2)
def RS.change (r : RS) : ChangeR × RS := (⟨r.chgK, r.chg2.1, r.chg3.1⟩, r.chg3.2)
theorem chg1_ok (r : RS) (h : r.ok) : r.chg1.ok := by
  unfold RS.chg1; split
  · exact RS.fail_ok _ _ (RS.take_ok _ _ h)
  · exact RS.take_ok _ _ h
theorem chg1_s (r : RS) : r.chg1.s = r.s := by
  unfold RS.chg1; split
  · rw [RS.fail_s, RS.take_s]
  · exact RS.take_s _ _
theorem chg2_ok (r : RS) (h : r.ok) : r.chg2.2.ok := RS.text_ok _ _ (chg1_ok r h)
theorem chg2_s (r : RS) : r.chg2.2.s = r.s := (RS.text_s _ _).trans (chg1_s r)
theorem change_ok (r : RS) (h : r.ok) : r.change.2.ok := by
  show r.chg3.2.ok
  unfold RS.chg3; split
  · exact RS.text_ok _ _ (chg2_ok r h)
  · exact chg2_ok r h
theorem change_s (r : RS) : r.change.2.s = r.s := by
  show r.chg3.2.s = r.s
  unfold RS.chg3; split
  · exact (RS.text_s _ _).trans (chg2_s r)
  · exact chg2_s r
theorem zero_chg (w : World) : (zeroValue 35).run Try.prog w = .ok (.agg (cells3 0 ByteArray.empty ByteArray.empty)) w := by kernel_rfl
theorem info_chg : (Try.prog.info? 35).map (·.size) = some 3 := by kernel_rfl
abbrev objC (k : Int) (s v : ByteArray) : Obj := .cells (cells3 k s v) 35 (0, 0)

/-- what change keeps: the reader, its result's block, the block of c -/
structure CSt (w wx : World) (b : Nat) (r : RS) (k : Int) (s v : ByteArray) : Prop where
  chg : Chg b w wx
  lt : b < w.heap.size
  rd : RdAt TR wx b r
  own0 : wx.heap[w.heap.size]? = some (objC 0 ByteArray.empty ByteArray.empty)
  own1 : wx.heap[w.heap.size + 1]? = some (objC k s v)
theorem CSt.step {w wx w' : World} {b : Nat} {r q : RS} {k : Int} {s v : ByteArray} (h : CSt w wx b r k s v) (hR : RdAt TR w' b q) (hC : Chg b wx w') : CSt w w' b q k s v :=
  ⟨h.chg.trans hC, h.lt, hR, hC.heap (by have := h.lt; omega) h.own0, hC.heap (by have := h.lt; omega) h.own1⟩
theorem CSt.drewN {w wx : World} {b : Nat} {r : RS} {k : Int} {s v : ByteArray} (h : CSt w wx b r k s v) (n : Nat) : CSt w (wx.drewN n) b r k s v := ⟨h.chg.drewN n, h.lt, h.rd, h.own0, h.own1⟩
theorem CSt.put {w wx : World} {b : Nat} {r : RS} {k : Int} {s v : ByteArray} (h : CSt w wx b r k s v) (i : Nat) (x : Value) (k' : Int) (s' v' : ByteArray) (he : (cells3 k s v).setIfInBounds i x = cells3 k' s' v') : CSt w (wx.setCell ⟨w.heap.size + 1, i, none⟩ x) b r k' s' v' := by
  have hb := h.lt
  have h1 := heap_lt h.own1
  have hg : ∀ j, j ≠ w.heap.size + 1 → (wx.setCell ⟨w.heap.size + 1, i, none⟩ x).heap[j]? = wx.heap[j]? := fun j hj => Below.heap_setCell _ _ _ _ hj
  refine ⟨⟨h.chg.os, h.chg.tape, h.chg.output, by simpa [World.setCell] using h.chg.size, fun j hj hjb => (hg j (by omega)).trans (h.chg.block j hj hjb)⟩, hb, ?_, ?_, ?_⟩
  · show _ = _; rw [hg b (by omega)]; exact h.rd
  · rw [hg _ (by omega)]; exact h.own0
  · rw [heap_setCell_same _ _ _ _ _ _ h.own1, he]
theorem CSt.cells {w wx : World} {b : Nat} {r : RS} {k : Int} {s v : ByteArray} (h : CSt w wx b r k s v) : wx.cell? ⟨w.heap.size + 1, 0, none⟩ = some (.int .i64 k) ∧ wx.cell? ⟨w.heap.size + 1, 1, none⟩ = some (.string s) ∧ wx.cell? ⟨w.heap.size + 1, 2, none⟩ = some (.string v) ∧
    wx.frozen? ⟨w.heap.size + 1, 0, none⟩ = false ∧ wx.frozen? ⟨w.heap.size + 1, 1, none⟩ = false ∧ wx.frozen? ⟨w.heap.size + 1, 2, none⟩ = false := by
  obtain ⟨h0, h1, h2⟩ := cells3_of h.own1
  exact ⟨h0, h1, h2, frozen_of_row _ _ _ _ _ h.own1, frozen_of_row _ _ _ _ _ h.own1, frozen_of_row _ _ _ _ _ h.own1⟩
theorem CSt.done {w wx : World} {b : Nat} {r : RS} {k : Int} {s v : ByteArray} (h : CSt w wx b r k s v) (cs : Array Value) : RdAt TR (wx.setRow w.heap.size cs) b r ∧ Chg b w (wx.setRow w.heap.size cs) := by
  have hb := h.lt
  refine ⟨?_, ⟨h.chg.os, h.chg.tape, h.chg.output, by simpa using h.chg.size, fun j hj hjb => (setRow_other _ _ _ _ (by omega)).trans (h.chg.block j hj hjb)⟩⟩
  show _ = _
  rw [setRow_other _ _ _ _ (by omega)]
  exact h.rd
theorem CSt.start {w : World} {b : Nat} {r : RS} (h : RdAt TR w b r) : CSt w ((w.alloc (.cells (cells3 0 ByteArray.empty ByteArray.empty) 35)).alloc (.cells (cells3 0 ByteArray.empty ByteArray.empty) 35)) b r 0 ByteArray.empty ByteArray.empty :=
  ⟨((Chg.refl b w).alloc _).alloc _, h.lt, (h.below ((Below.refl _ _).alloc (Nat.le_refl _) _)).below ((Below.refl _ _).alloc (Nat.le_refl _) _), heap_alloc2_old _ _ _, heap_alloc2_new _ _ _⟩

set_option maxRecDepth 100000 in
set_option maxHeartbeats 8000000 in
theorem batch_change (b : Nat) (r : RS) (w : World) (h : RdAt TR w b r) (hk : r.ok) (hs : r.s.size ≤ 140737488351232) :
    Calls Try.prog 21 #[.pointer (some ⟨b, 0, none⟩)] w fun e w' => e = .returned (.agg (cells3 r.change.1.kind r.change.1.key r.change.1.value)) ∧ RdAt TR w' b r.change.2 ∧ Chg b w w' := by
  have ST := Lib.hid (CSt.start h)
  have CT : Hid (∀ wx k s v, CSt w wx b r k s v → Calls Try.prog 28 #[.pointer (some ⟨b, 0, none⟩), .int .i64 1] wx fun e w' => e = .returned (.string (r.take 1).1) ∧ CSt w w' b (r.take 1).2 k s v) := Lib.hid fun wx k s v T =>
    (rd_take b r 1 wx T.rd hk hs).mono fun _ _ ⟨h1, h2, h3⟩ => ⟨h1, T.step h2 h3⟩
  have CE : Hid (∀ wx k s v, CSt w wx b (r.take 1).2 k s v → Calls Try.prog 20 #[.pointer (some ⟨b, 0, none⟩)] wx fun e w' => e = .returned (.int .i64 (r.take 1).2.e) ∧ CSt w w' b (r.take 1).2 k s v) := Lib.hid fun wx k s v T =>
    (rd_err b _ wx T.rd).mono fun _ _ ⟨h1, ⟨n, h2⟩⟩ => ⟨h1, by rw [h2]; exact T.drewN n⟩
  have CF : Hid (∀ wx k s v, CSt w wx b (r.take 1).2 k s v → Calls Try.prog 19 #[.pointer (some ⟨b, 0, none⟩), .int .i64 11] wx fun e w' => e = .returned (.tuple #[]) ∧ CSt w w' b ((r.take 1).2.fail 11) k s v) := Lib.hid fun wx k s v T =>
    (rd_fail b _ 11 wx T.rd).mono fun _ _ ⟨h1, h2, h3⟩ => ⟨h1, T.step h2 h3⟩
  have CX : Hid (∀ wx k s v, CSt w wx b r.chg1 k s v → Calls Try.prog 31 #[.pointer (some ⟨b, 0, none⟩), .int .i64 200] wx fun e w' => e = .returned (.string r.chg2.1) ∧ CSt w w' b r.chg2.2 k s v) := Lib.hid fun wx k s v T =>
    (rd_text b r.chg1 200 wx T.rd (chg1_ok r hk) (by rw [chg1_s]; exact hs) (by omega) (by omega)).mono fun _ _ ⟨h1, h2, h3⟩ => ⟨h1, T.step h2 h3⟩
  have CV : Hid (∀ wx k s v, CSt w wx b r.chg2.2 k s v → Calls Try.prog 31 #[.pointer (some ⟨b, 0, none⟩), .int .i64 4096] wx fun e w' => e = .returned (.string (r.chg2.2.text 4096).1) ∧ CSt w w' b (r.chg2.2.text 4096).2 k s v) := Lib.hid fun wx k s v T =>
    (rd_text b r.chg2.2 4096 wx T.rd (chg2_ok r hk) (by rw [chg2_s]; exact hs) (by omega) (by omega)).mono fun _ _ ⟨h1, h2, h3⟩ => ⟨h1, T.step h2 h3⟩
  have hz := zero_chg
  have H1 : Hid (r.chg1 = if (r.take 1).2.e = 0 ∧ ¬ r.chgK = 1 ∧ ¬ r.chgK = 2 then (r.take 1).2.fail 11 else (r.take 1).2) := Lib.hid rfl
  have H3 : Hid (r.chg3 = if r.chgK = 1 then r.chg2.2.text 4096 else (ByteArray.empty, r.chg2.2)) := Lib.hid rfl
  have HC : Hid (r.change = (⟨r.chgK, r.chg2.1, r.chg3.1⟩, r.chg3.2)) := Lib.hid rfl
  have HK : Hid (r.chgK = firstN (r.take 1).1) := Lib.hid rfl
  obtain ⟨q4, hq4⟩ : ∃ q, q = r.change := ⟨_, rfl⟩
  obtain ⟨q3, hq3⟩ : ∃ q, q = r.chg3 := ⟨_, rfl⟩
  obtain ⟨q3t, hq3t⟩ : ∃ q, q = r.chg2.2.text 4096 := ⟨_, rfl⟩
  obtain ⟨q2, hq2⟩ : ∃ q, q = r.chg2 := ⟨_, rfl⟩
  obtain ⟨q1, hq1⟩ : ∃ q, q = r.chg1 := ⟨_, rfl⟩
  obtain ⟨kd, hkd⟩ : ∃ q, q = r.chgK := ⟨_, rfl⟩
  obtain ⟨q0f, hq0f⟩ : ∃ q, q = (r.take 1).2.fail 11 := ⟨_, rfl⟩
  obtain ⟨q0, hq0⟩ : ∃ q, q = r.take 1 := ⟨_, rfl⟩
  rw [← hq4]
  rw [← hq4, ← hq3, ← hq2, ← hkd] at HC
  rw [← hq3, ← hq3t, ← hq2, ← hkd] at H3
  rw [← hq1, ← hq0f, ← hq0, ← hkd] at H1
  rw [← hkd, ← hq0] at HK
  rw [← hq3t, ← hq2] at CV
  rw [← hq1, ← hq2] at CX
  rw [← hq0f, ← hq0] at CF
  rw [← hq0] at CE CT
  clear hq4 hq3 hq3t hq2 hq1 hkd hq0f hq0
  obtain ⟨t, q0⟩ := q0
  obtain ⟨ky, q2⟩ := q2
  obtain ⟨vl, q3t⟩ := q3t
  simp only at HC H3 H1 HK CV CX CF CE CT
  obtain ⟨e0, he0⟩ : ∃ e, e = q0.e := ⟨_, rfl⟩
  rw [← he0] at CE H1
  have hy200 : True := trivial
  clear he0 hk hs h
  by_cases ht0 : t.size = 0
  · obtain ⟨t1, t2⟩ := emp_bb ht0
    have hkd : kd = 0 := by (rw [HK.out]; unfold firstN; rw [List.eq_nil_of_length_eq_zero (by rw [Array.length_toList]; exact ht0 : t.data.toList.length = 0)])
    subst hkd
    have hn1 : ¬ (0 : Int) = 1 := by omega
    have hn2 : ¬ (0 : Int) = 2 := by omega
    by_cases he : e0 = 0
    · obtain ⟨e1, e2⟩ := eq_bb he
      have h1 : q1 = q0f := by rw [H1.out, if_pos ⟨he, hn1, hn2⟩]
      have h3 : q3 = (ByteArray.empty, q2) := by rw [H3.out, if_neg hn1]
      subst h1
      subst h3
      have h4 := HC.out
      subst h4
      clear H1 H3 HC he hn1 hn2 ht0
      go_enter Try.func21, Try.ntmps21
      go_wp2_with (first | (go_at_call 28; (with_reducible refine (CT.out _ _ _ _ ST.out).mono ?_); rintro e w1 ⟨rfl, T1⟩; obtain ⟨m0, m1, m2, f0, f1, f2⟩ := T1.cells) | (go_at_call 20; (with_reducible refine (CE.out _ _ _ _ T1).mono ?_); rintro e w2 ⟨rfl, T2⟩; obtain ⟨n0, n1, n2, g0, g1, g2⟩ := T2.cells) | (go_at_call 19; (with_reducible refine (CF.out _ _ _ _ T2).mono ?_); rintro e w3 ⟨rfl, T3⟩; obtain ⟨o0, o1, o2, j0, j1, j2⟩ := T3.cells) | (go_at_call 31; (with_reducible refine (CX.out _ _ _ _ T3).mono ?_); rintro e w4 ⟨rfl, T4⟩; obtain ⟨p0, p1, p2, i0, i1, i2⟩ := T4.cells) | (with_reducible refine wpList_load_row rfl 35 (.tmp 3) rfl (w.heap.size + 1) rfl 35 (cells3 (0 : Int) ky ByteArray.empty) (0, 0) _ (T4.put 1 (.string ky) (0 : Int) ky ByteArray.empty rfl).own1 Try.underlying35 rfl info_chg ?_) | (with_reducible refine wpList_store_row rfl 35 (.tmp 2) (.tmp 37) rfl w.heap.size (cells3 (0 : Int) ky ByteArray.empty) rfl rfl 35 (cells3 0 ByteArray.empty ByteArray.empty) (T4.put 1 (.string ky) (0 : Int) ky ByteArray.empty rfl).own0 (c3_info _ _ _) (c3_size _ _ _ _ _ _) (c3_one _ _ _) ?_))
      refine bodyPost_ret (results_cell_row Try.results21 _ _ w.heap.size 35 (cells3 (0 : Int) ky ByteArray.empty) (0, 0) _ rfl (setRow_heap _ _ _ _ _ _ (T4.put 1 (.string ky) (0 : Int) ky ByteArray.empty rfl).own0) Try.underlying35 rfl info_chg) rfl ?_
      obtain ⟨z1, z2⟩ := (T4.put 1 (.string ky) (0 : Int) ky ByteArray.empty rfl).done (cells3 (0 : Int) ky ByteArray.empty)
      exact ⟨rfl, z1, z2⟩
    · obtain ⟨e1, e2⟩ := ne_bb he
      have hno : ¬ (e0 = 0 ∧ ¬ (0 : Int) = 1 ∧ ¬ (0 : Int) = 2) := by omega
      have h1 : q1 = q0 := by rw [H1.out, if_neg hno]
      have h3 : q3 = (ByteArray.empty, q2) := by rw [H3.out, if_neg hn1]
      subst h1
      subst h3
      have h4 := HC.out
      subst h4
      clear H1 H3 HC he hno hn1 hn2 ht0
      go_enter Try.func21, Try.ntmps21
      go_wp2_with (first | (go_at_call 28; (with_reducible refine (CT.out _ _ _ _ ST.out).mono ?_); rintro e w1 ⟨rfl, T1⟩; obtain ⟨m0, m1, m2, f0, f1, f2⟩ := T1.cells) | (go_at_call 20; (with_reducible refine (CE.out _ _ _ _ T1).mono ?_); rintro e w2 ⟨rfl, T2⟩; obtain ⟨n0, n1, n2, g0, g1, g2⟩ := T2.cells) | (go_at_call 31; (with_reducible refine (CX.out _ _ _ _ T2).mono ?_); rintro e w4 ⟨rfl, T4⟩; obtain ⟨p0, p1, p2, i0, i1, i2⟩ := T4.cells) | (with_reducible refine wpList_load_row rfl 35 (.tmp 3) rfl (w.heap.size + 1) rfl 35 (cells3 (0 : Int) ky ByteArray.empty) (0, 0) _ (T4.put 1 (.string ky) (0 : Int) ky ByteArray.empty rfl).own1 Try.underlying35 rfl info_chg ?_) | (with_reducible refine wpList_store_row rfl 35 (.tmp 2) (.tmp 37) rfl w.heap.size (cells3 (0 : Int) ky ByteArray.empty) rfl rfl 35 (cells3 0 ByteArray.empty ByteArray.empty) (T4.put 1 (.string ky) (0 : Int) ky ByteArray.empty rfl).own0 (c3_info _ _ _) (c3_size _ _ _ _ _ _) (c3_one _ _ _) ?_))
      refine bodyPost_ret (results_cell_row Try.results21 _ _ w.heap.size 35 (cells3 (0 : Int) ky ByteArray.empty) (0, 0) _ rfl (setRow_heap _ _ _ _ _ _ (T4.put 1 (.string ky) (0 : Int) ky ByteArray.empty rfl).own0) Try.underlying35 rfl info_chg) rfl ?_
      obtain ⟨z1, z2⟩ := (T4.put 1 (.string ky) (0 : Int) ky ByteArray.empty rfl).done (cells3 (0 : Int) ky ByteArray.empty)
      exact ⟨rfl, z1, z2⟩
  · obtain ⟨t1, t2⟩ := nemp_bb ht0
    have htp : 0 < t.size := by omega
    obtain ⟨kb, hkb⟩ : ∃ x, x = t[0] := ⟨_, rfl⟩
    have hkd : kd = ((kb.toNat : Nat) : Int) := by
      rw [HK.out, firstN, hkb]
      have hl : 0 < t.data.toList.length := by simpa using htp
      have : t.data.toList = t.data.toList[0] :: t.data.toList.drop 1 := by rw [← List.drop_eq_getElem_cons hl]; rfl
      rw [this]
      rfl
    have hkb' := hkb.symm
    have hkb256 : kb.toNat < 256 := kb.toNat_lt
    clear hkb
    subst hkd
    by_cases hk1 : ((kb.toNat : Nat) : Int) = 1
    · obtain ⟨k1, k2⟩ := eq_bb hk1
      by_cases he : e0 = 0
      · obtain ⟨e1, e2⟩ := eq_bb he
        have hno : ¬ (e0 = 0 ∧ ¬ ((kb.toNat : Nat) : Int) = 1 ∧ ¬ ((kb.toNat : Nat) : Int) = 2) := by omega
        have h1 : q1 = q0 := by rw [H1.out, if_neg hno]
        have h3 : q3 = (vl, q3t) := by rw [H3.out, if_pos hk1]
        subst h1
        subst h3
        have h4 := HC.out
        subst h4
        clear H1 H3 HC he hno hk1
        go_enter Try.func21, Try.ntmps21
        go_wp2_with (first | (go_at_call 28; (with_reducible refine (CT.out _ _ _ _ ST.out).mono ?_); rintro e w1 ⟨rfl, T1⟩; obtain ⟨m0, m1, m2, f0, f1, f2⟩ := T1.cells) | (go_at_call 20; (with_reducible refine (CE.out _ _ _ _ (T1.put 0 (.int .i64 ((kb.toNat : Nat) : Int)) ((kb.toNat : Nat) : Int) ByteArray.empty ByteArray.empty rfl)).mono ?_); rintro e w2 ⟨rfl, T2⟩; obtain ⟨n0, n1, n2, g0, g1, g2⟩ := T2.cells) | (go_at_call 31; (with_reducible refine (CX.out _ _ _ _ T2).mono ?_); rintro e w4 ⟨rfl, T4⟩; obtain ⟨p0, p1, p2, i0, i1, i2⟩ := T4.cells) | (go_at_call 31; (with_reducible refine (CV.out _ _ _ _ (T4.put 1 (.string ky) ((kb.toNat : Nat) : Int) ky ByteArray.empty rfl)).mono ?_); rintro e w5 ⟨rfl, T5⟩; obtain ⟨r0, r1, r2, l0, l1, l2⟩ := T5.cells) | (with_reducible refine wpList_load_row rfl 35 (.tmp 3) rfl (w.heap.size + 1) rfl 35 (cells3 ((kb.toNat : Nat) : Int) ky vl) (0, 0) _ (T5.put 2 (.string vl) ((kb.toNat : Nat) : Int) ky vl rfl).own1 Try.underlying35 rfl info_chg ?_) | (with_reducible refine wpList_store_row rfl 35 (.tmp 2) (.tmp 37) rfl w.heap.size (cells3 ((kb.toNat : Nat) : Int) ky vl) rfl rfl 35 (cells3 0 ByteArray.empty ByteArray.empty) (T5.put 2 (.string vl) ((kb.toNat : Nat) : Int) ky vl rfl).own0 (c3_info _ _ _) (c3_size _ _ _ _ _ _) (c3_one _ _ _) ?_))
        refine bodyPost_ret (results_cell_row Try.results21 _ _ w.heap.size 35 (cells3 ((kb.toNat : Nat) : Int) ky vl) (0, 0) _ rfl (setRow_heap _ _ _ _ _ _ (T5.put 2 (.string vl) ((kb.toNat : Nat) : Int) ky vl rfl).own0) Try.underlying35 rfl info_chg) rfl ?_
        obtain ⟨z1, z2⟩ := (T5.put 2 (.string vl) ((kb.toNat : Nat) : Int) ky vl rfl).done (cells3 ((kb.toNat : Nat) : Int) ky vl)
        exact ⟨rfl, z1, z2⟩
      · obtain ⟨e1, e2⟩ := ne_bb he
        have hno : ¬ (e0 = 0 ∧ ¬ ((kb.toNat : Nat) : Int) = 1 ∧ ¬ ((kb.toNat : Nat) : Int) = 2) := by omega
        have h1 : q1 = q0 := by rw [H1.out, if_neg hno]
        have h3 : q3 = (vl, q3t) := by rw [H3.out, if_pos hk1]
        subst h1
        subst h3
        have h4 := HC.out
        subst h4
        clear H1 H3 HC he hno hk1
        go_enter Try.func21, Try.ntmps21
        go_wp2_with (first | (go_at_call 28; (with_reducible refine (CT.out _ _ _ _ ST.out).mono ?_); rintro e w1 ⟨rfl, T1⟩; obtain ⟨m0, m1, m2, f0, f1, f2⟩ := T1.cells) | (go_at_call 20; (with_reducible refine (CE.out _ _ _ _ (T1.put 0 (.int .i64 ((kb.toNat : Nat) : Int)) ((kb.toNat : Nat) : Int) ByteArray.empty ByteArray.empty rfl)).mono ?_); rintro e w2 ⟨rfl, T2⟩; obtain ⟨n0, n1, n2, g0, g1, g2⟩ := T2.cells) | (go_at_call 31; (with_reducible refine (CX.out _ _ _ _ T2).mono ?_); rintro e w4 ⟨rfl, T4⟩; obtain ⟨p0, p1, p2, i0, i1, i2⟩ := T4.cells) | (go_at_call 31; (with_reducible refine (CV.out _ _ _ _ (T4.put 1 (.string ky) ((kb.toNat : Nat) : Int) ky ByteArray.empty rfl)).mono ?_); rintro e w5 ⟨rfl, T5⟩; obtain ⟨r0, r1, r2, l0, l1, l2⟩ := T5.cells) | (with_reducible refine wpList_load_row rfl 35 (.tmp 3) rfl (w.heap.size + 1) rfl 35 (cells3 ((kb.toNat : Nat) : Int) ky vl) (0, 0) _ (T5.put 2 (.string vl) ((kb.toNat : Nat) : Int) ky vl rfl).own1 Try.underlying35 rfl info_chg ?_) | (with_reducible refine wpList_store_row rfl 35 (.tmp 2) (.tmp 37) rfl w.heap.size (cells3 ((kb.toNat : Nat) : Int) ky vl) rfl rfl 35 (cells3 0 ByteArray.empty ByteArray.empty) (T5.put 2 (.string vl) ((kb.toNat : Nat) : Int) ky vl rfl).own0 (c3_info _ _ _) (c3_size _ _ _ _ _ _) (c3_one _ _ _) ?_))
        refine bodyPost_ret (results_cell_row Try.results21 _ _ w.heap.size 35 (cells3 ((kb.toNat : Nat) : Int) ky vl) (0, 0) _ rfl (setRow_heap _ _ _ _ _ _ (T5.put 2 (.string vl) ((kb.toNat : Nat) : Int) ky vl rfl).own0) Try.underlying35 rfl info_chg) rfl ?_
        obtain ⟨z1, z2⟩ := (T5.put 2 (.string vl) ((kb.toNat : Nat) : Int) ky vl rfl).done (cells3 ((kb.toNat : Nat) : Int) ky vl)
        exact ⟨rfl, z1, z2⟩
    · obtain ⟨k1, k2⟩ := ne_bb hk1
      have hn1 := hk1
      by_cases hk2 : ((kb.toNat : Nat) : Int) = 2
      · obtain ⟨k3, k4⟩ := eq_bb hk2
        by_cases he : e0 = 0
        · obtain ⟨e1, e2⟩ := eq_bb he
          have hno : ¬ (e0 = 0 ∧ ¬ ((kb.toNat : Nat) : Int) = 1 ∧ ¬ ((kb.toNat : Nat) : Int) = 2) := by omega
          have h1 : q1 = q0 := by rw [H1.out, if_neg hno]
          have h3 : q3 = (ByteArray.empty, q2) := by rw [H3.out, if_neg hn1]
          subst h1
          subst h3
          have h4 := HC.out
          subst h4
          clear H1 H3 HC he hno hk1 hk2 hn1
          go_enter Try.func21, Try.ntmps21
          go_wp2_with (first | (go_at_call 28; (with_reducible refine (CT.out _ _ _ _ ST.out).mono ?_); rintro e w1 ⟨rfl, T1⟩; obtain ⟨m0, m1, m2, f0, f1, f2⟩ := T1.cells) | (go_at_call 20; (with_reducible refine (CE.out _ _ _ _ (T1.put 0 (.int .i64 ((kb.toNat : Nat) : Int)) ((kb.toNat : Nat) : Int) ByteArray.empty ByteArray.empty rfl)).mono ?_); rintro e w2 ⟨rfl, T2⟩; obtain ⟨n0, n1, n2, g0, g1, g2⟩ := T2.cells) | (go_at_call 31; (with_reducible refine (CX.out _ _ _ _ T2).mono ?_); rintro e w4 ⟨rfl, T4⟩; obtain ⟨p0, p1, p2, i0, i1, i2⟩ := T4.cells) | (with_reducible refine wpList_load_row rfl 35 (.tmp 3) rfl (w.heap.size + 1) rfl 35 (cells3 ((kb.toNat : Nat) : Int) ky ByteArray.empty) (0, 0) _ (T4.put 1 (.string ky) ((kb.toNat : Nat) : Int) ky ByteArray.empty rfl).own1 Try.underlying35 rfl info_chg ?_) | (with_reducible refine wpList_store_row rfl 35 (.tmp 2) (.tmp 37) rfl w.heap.size (cells3 ((kb.toNat : Nat) : Int) ky ByteArray.empty) rfl rfl 35 (cells3 0 ByteArray.empty ByteArray.empty) (T4.put 1 (.string ky) ((kb.toNat : Nat) : Int) ky ByteArray.empty rfl).own0 (c3_info _ _ _) (c3_size _ _ _ _ _ _) (c3_one _ _ _) ?_))
          refine bodyPost_ret (results_cell_row Try.results21 _ _ w.heap.size 35 (cells3 ((kb.toNat : Nat) : Int) ky ByteArray.empty) (0, 0) _ rfl (setRow_heap _ _ _ _ _ _ (T4.put 1 (.string ky) ((kb.toNat : Nat) : Int) ky ByteArray.empty rfl).own0) Try.underlying35 rfl info_chg) rfl ?_
          obtain ⟨z1, z2⟩ := (T4.put 1 (.string ky) ((kb.toNat : Nat) : Int) ky ByteArray.empty rfl).done (cells3 ((kb.toNat : Nat) : Int) ky ByteArray.empty)
          exact ⟨rfl, z1, z2⟩
        · obtain ⟨e1, e2⟩ := ne_bb he
          have hno : ¬ (e0 = 0 ∧ ¬ ((kb.toNat : Nat) : Int) = 1 ∧ ¬ ((kb.toNat : Nat) : Int) = 2) := by omega
          have h1 : q1 = q0 := by rw [H1.out, if_neg hno]
          have h3 : q3 = (ByteArray.empty, q2) := by rw [H3.out, if_neg hn1]
          subst h1
          subst h3
          have h4 := HC.out
          subst h4
          clear H1 H3 HC he hno hk1 hk2 hn1
          go_enter Try.func21, Try.ntmps21
          go_wp2_with (first | (go_at_call 28; (with_reducible refine (CT.out _ _ _ _ ST.out).mono ?_); rintro e w1 ⟨rfl, T1⟩; obtain ⟨m0, m1, m2, f0, f1, f2⟩ := T1.cells) | (go_at_call 20; (with_reducible refine (CE.out _ _ _ _ (T1.put 0 (.int .i64 ((kb.toNat : Nat) : Int)) ((kb.toNat : Nat) : Int) ByteArray.empty ByteArray.empty rfl)).mono ?_); rintro e w2 ⟨rfl, T2⟩; obtain ⟨n0, n1, n2, g0, g1, g2⟩ := T2.cells) | (go_at_call 31; (with_reducible refine (CX.out _ _ _ _ T2).mono ?_); rintro e w4 ⟨rfl, T4⟩; obtain ⟨p0, p1, p2, i0, i1, i2⟩ := T4.cells) | (with_reducible refine wpList_load_row rfl 35 (.tmp 3) rfl (w.heap.size + 1) rfl 35 (cells3 ((kb.toNat : Nat) : Int) ky ByteArray.empty) (0, 0) _ (T4.put 1 (.string ky) ((kb.toNat : Nat) : Int) ky ByteArray.empty rfl).own1 Try.underlying35 rfl info_chg ?_) | (with_reducible refine wpList_store_row rfl 35 (.tmp 2) (.tmp 37) rfl w.heap.size (cells3 ((kb.toNat : Nat) : Int) ky ByteArray.empty) rfl rfl 35 (cells3 0 ByteArray.empty ByteArray.empty) (T4.put 1 (.string ky) ((kb.toNat : Nat) : Int) ky ByteArray.empty rfl).own0 (c3_info _ _ _) (c3_size _ _ _ _ _ _) (c3_one _ _ _) ?_))
          refine bodyPost_ret (results_cell_row Try.results21 _ _ w.heap.size 35 (cells3 ((kb.toNat : Nat) : Int) ky ByteArray.empty) (0, 0) _ rfl (setRow_heap _ _ _ _ _ _ (T4.put 1 (.string ky) ((kb.toNat : Nat) : Int) ky ByteArray.empty rfl).own0) Try.underlying35 rfl info_chg) rfl ?_
          obtain ⟨z1, z2⟩ := (T4.put 1 (.string ky) ((kb.toNat : Nat) : Int) ky ByteArray.empty rfl).done (cells3 ((kb.toNat : Nat) : Int) ky ByteArray.empty)
          exact ⟨rfl, z1, z2⟩
      · obtain ⟨k3, k4⟩ := ne_bb hk2
        have hn2 := hk2
        by_cases he : e0 = 0
        · obtain ⟨e1, e2⟩ := eq_bb he
          have h1 : q1 = q0f := by rw [H1.out, if_pos ⟨he, hn1, hn2⟩]
          have h3 : q3 = (ByteArray.empty, q2) := by rw [H3.out, if_neg hn1]
          subst h1
          subst h3
          have h4 := HC.out
          subst h4
          clear H1 H3 HC he hk1 hk2 hn1 hn2
          go_enter Try.func21, Try.ntmps21
          go_wp2_with (first | (go_at_call 28; (with_reducible refine (CT.out _ _ _ _ ST.out).mono ?_); rintro e w1 ⟨rfl, T1⟩; obtain ⟨m0, m1, m2, f0, f1, f2⟩ := T1.cells) | (go_at_call 20; (with_reducible refine (CE.out _ _ _ _ (T1.put 0 (.int .i64 ((kb.toNat : Nat) : Int)) ((kb.toNat : Nat) : Int) ByteArray.empty ByteArray.empty rfl)).mono ?_); rintro e w2 ⟨rfl, T2⟩; obtain ⟨n0, n1, n2, g0, g1, g2⟩ := T2.cells) | (go_at_call 19; (with_reducible refine (CF.out _ _ _ _ T2).mono ?_); rintro e w3 ⟨rfl, T3⟩; obtain ⟨o0, o1, o2, j0, j1, j2⟩ := T3.cells) | (go_at_call 31; (with_reducible refine (CX.out _ _ _ _ T3).mono ?_); rintro e w4 ⟨rfl, T4⟩; obtain ⟨p0, p1, p2, i0, i1, i2⟩ := T4.cells) | (with_reducible refine wpList_load_row rfl 35 (.tmp 3) rfl (w.heap.size + 1) rfl 35 (cells3 ((kb.toNat : Nat) : Int) ky ByteArray.empty) (0, 0) _ (T4.put 1 (.string ky) ((kb.toNat : Nat) : Int) ky ByteArray.empty rfl).own1 Try.underlying35 rfl info_chg ?_) | (with_reducible refine wpList_store_row rfl 35 (.tmp 2) (.tmp 37) rfl w.heap.size (cells3 ((kb.toNat : Nat) : Int) ky ByteArray.empty) rfl rfl 35 (cells3 0 ByteArray.empty ByteArray.empty) (T4.put 1 (.string ky) ((kb.toNat : Nat) : Int) ky ByteArray.empty rfl).own0 (c3_info _ _ _) (c3_size _ _ _ _ _ _) (c3_one _ _ _) ?_))
          refine bodyPost_ret (results_cell_row Try.results21 _ _ w.heap.size 35 (cells3 ((kb.toNat : Nat) : Int) ky ByteArray.empty) (0, 0) _ rfl (setRow_heap _ _ _ _ _ _ (T4.put 1 (.string ky) ((kb.toNat : Nat) : Int) ky ByteArray.empty rfl).own0) Try.underlying35 rfl info_chg) rfl ?_
          obtain ⟨z1, z2⟩ := (T4.put 1 (.string ky) ((kb.toNat : Nat) : Int) ky ByteArray.empty rfl).done (cells3 ((kb.toNat : Nat) : Int) ky ByteArray.empty)
          exact ⟨rfl, z1, z2⟩
        · obtain ⟨e1, e2⟩ := ne_bb he
          have hno : ¬ (e0 = 0 ∧ ¬ ((kb.toNat : Nat) : Int) = 1 ∧ ¬ ((kb.toNat : Nat) : Int) = 2) := by omega
          have h1 : q1 = q0 := by rw [H1.out, if_neg hno]
          have h3 : q3 = (ByteArray.empty, q2) := by rw [H3.out, if_neg hn1]
          subst h1
          subst h3
          have h4 := HC.out
          subst h4
          clear H1 H3 HC he hno hk1 hk2 hn1 hn2
          go_enter Try.func21, Try.ntmps21
          go_wp2_with (first | (go_at_call 28; (with_reducible refine (CT.out _ _ _ _ ST.out).mono ?_); rintro e w1 ⟨rfl, T1⟩; obtain ⟨m0, m1, m2, f0, f1, f2⟩ := T1.cells) | (go_at_call 20; (with_reducible refine (CE.out _ _ _ _ (T1.put 0 (.int .i64 ((kb.toNat : Nat) : Int)) ((kb.toNat : Nat) : Int) ByteArray.empty ByteArray.empty rfl)).mono ?_); rintro e w2 ⟨rfl, T2⟩; obtain ⟨n0, n1, n2, g0, g1, g2⟩ := T2.cells) | (go_at_call 31; (with_reducible refine (CX.out _ _ _ _ T2).mono ?_); rintro e w4 ⟨rfl, T4⟩; obtain ⟨p0, p1, p2, i0, i1, i2⟩ := T4.cells) | (with_reducible refine wpList_load_row rfl 35 (.tmp 3) rfl (w.heap.size + 1) rfl 35 (cells3 ((kb.toNat : Nat) : Int) ky ByteArray.empty) (0, 0) _ (T4.put 1 (.string ky) ((kb.toNat : Nat) : Int) ky ByteArray.empty rfl).own1 Try.underlying35 rfl info_chg ?_) | (with_reducible refine wpList_store_row rfl 35 (.tmp 2) (.tmp 37) rfl w.heap.size (cells3 ((kb.toNat : Nat) : Int) ky ByteArray.empty) rfl rfl 35 (cells3 0 ByteArray.empty ByteArray.empty) (T4.put 1 (.string ky) ((kb.toNat : Nat) : Int) ky ByteArray.empty rfl).own0 (c3_info _ _ _) (c3_size _ _ _ _ _ _) (c3_one _ _ _) ?_))
          refine bodyPost_ret (results_cell_row Try.results21 _ _ w.heap.size 35 (cells3 ((kb.toNat : Nat) : Int) ky ByteArray.empty) (0, 0) _ rfl (setRow_heap _ _ _ _ _ _ (T4.put 1 (.string ky) ((kb.toNat : Nat) : Int) ky ByteArray.empty rfl).own0) Try.underlying35 rfl info_chg) rfl ?_
          obtain ⟨z1, z2⟩ := (T4.put 1 (.string ky) ((kb.toNat : Nat) : Int) ky ByteArray.empty rfl).done (cells3 ((kb.toNat : Nat) : Int) ky ByteArray.empty)
          exact ⟨rfl, z1, z2⟩
end Go.Proofs.Ythhgijjdddcchaa
