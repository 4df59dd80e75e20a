/-
  What stands ahead of a key, on each level: skip's inner walk, by contract.
-/
import Derived.Test.YtacgpflheokkaaaSkpMem
import Derived.ScopeJumps
import Derived.WalkMore
import Derived.WalkSmall
namespace Go.Proofs.Ytacgpflheokkaaa
open Go.RowKit
set_option linter.unusedVariables false
set_option linter.unusedSimpArgs false

/-- a scope with a label that is jumped back to: what holds at the label is kept by a pass from the label on -/
theorem wp_pass_scope {P : Program} {a : Act} {w : World} {Q : Exit → Act → World → Prop} {c X : Code} (l : Nat) (J : Act → World → Prop) (μ : Act → World → Nat) (hf : findLabel c l = some (Code.skip.seq X))
    (pass : ∀ a w, J a w → X.wp P (Exit.jump l (fun a' w' => J a' w' ∧ μ a' w' < μ a w) Q) a w)
    (first : (∀ a w, J a w → X.wp P (Exit.jump l J Q) a w) → c.wp P (Exit.jump l J Q) a w) : (Code.scope c).wp P Q a w := by
  refine wp_scope_jumps l J μ hf (first fun a w hJ => Code.wp_mono ?_ (pass a w hJ)) fun a w hJ => wp_seq (wp_skip (show Exit.then _ _ .normal a w from pass a w hJ))
  intro e a' w' h
  cases e <;> simp only [Exit.jump] at h ⊢ <;> first | exact h | exact ⟨h.1, h.2.1⟩

abbrev zero12 : Array Value := intsO (List.replicate 12 0)
theorem outL_12 (T : List TowM) (q : List Nat) (key : ByteArray) : outL T q key 12 = List.replicate 12 0 := by
  apply List.ext_getElem
  · simp [outL]
  · intro i h1 h2
    have : i < 12 := by simpa [outL] using h1
    simp only [outL, List.getElem_map, List.getElem_range, List.getElem_replicate]
    rw [if_neg (by omega)]
theorem info_12 (l : List Int) (h : l.length = 12) : (Try.prog.info? 61).map (·.size) = some (intsO l).size := by
  rw [show (intsO l).size = 12 by simp [intsO, h]]
  exact (show (Try.prog.info? 61).map (·.size) = some 12 by kernel_rfl)
theorem size_12 (l m : List Int) (h : l.length = 12) (k : m.length = 12) : (intsO l).size = (intsO m).size := by simp [intsO, h, k]
theorem one_12 (l : List Int) : (intsO l).all (·.oneCell') = true := by simp [intsO, Value.oneCell']
theorem outL_len (T : List TowM) (q : List Nat) (key : ByteArray) (m : Nat) : (outL T q key m).length = 12 := by simp [outL]
/-- the walk's state: the list, its two new arrays -/
structure AhS (w wr : World) (b : Nat) (sa : Option Addr) (n cap : Nat) (bt st : Int) (O : List Int) : Prop where
  chg : Chg b w wr
  own : wr.heap[b]? = some (.cells (listC sa n cap bt st) 60 (0, 0))
  res : wr.heap[w.heap.size]? = some (.cells zero12 61 (0, 0))
  out : wr.heap[w.heap.size + 1]? = some (.cells (intsO O) 61 (0, 0))
section
variable {w wr w' : World} {b : Nat} {sa : Option Addr} {n cap : Nat} {bt st : Int} {O : List Int}
theorem AhS.step (h : AhS w wr b sa n cap bt st O) (st' : Int) (hb : b < w.heap.size) : AhS w (wr.setCell ⟨b, 2, none⟩ (.int .i64 st')) b sa n cap bt st' O :=
  ⟨h.chg.setCell 2 _, by rw [heap_setCell_same _ _ 2 _ _ _ h.own]; rfl, (heap_setCell_other _ _ _ _ (by simp; omega)).trans h.res, (heap_setCell_other _ _ _ _ (by simp; omega)).trans h.out⟩
theorem AhS.put (h : AhS w wr b sa n cap bt st O) (j : Nat) (v : Int) (hb : b < w.heap.size) : AhS w (wr.setCell ⟨w.heap.size + 1, j, none⟩ (.int .i64 v)) b sa n cap bt st (O.set j v) := by
  refine ⟨⟨h.chg.os, h.chg.tape, h.chg.output, by have := h.chg.size; simpa [World.setCell] using this, fun k hk hkb => (heap_setCell_other _ _ _ _ (by simp; omega)).trans (h.chg.block k hk hkb)⟩, (heap_setCell_other _ _ _ _ (by simp; omega)).trans h.own, (heap_setCell_other _ _ _ _ (by simp)).trans h.res, ?_⟩
  rw [heap_setCell_same _ _ j _ _ _ h.out]
  simp [intsO]
theorem Chg.setNew {b : Nat} {u v : World} (h : Chg b u v) (g : Nat) (cs : Array Value) (hg : u.heap.size ≤ g) : Chg b u (v.setRow g cs) :=
  ⟨h.os, h.tape, h.output, by have := h.size; simpa using this, fun k hk hkb => (setRow_other _ _ _ _ (by omega)).trans (h.block k hk hkb)⟩
theorem AhS.drewN (h : AhS w wr b sa n cap bt st O) (k : Nat) : AhS w (wr.drewN k) b sa n cap bt st O := ⟨h.chg.drewN k, h.own, h.res, h.out⟩
end

set_option maxRecDepth 100000 in
set_option maxHeartbeats 8000000 in
theorem skip_ahead (b : Nat) (sa : Option Addr) (cap : Nat) (T : List TowM) (bt st : Int) (q : List Nat) (key : ByteArray) (w : World) (hM : SkM w b sa cap T bt st) (hL : Lay T q) :
    Calls Try.prog 25 #[.pointer (some ⟨b, 0, none⟩), .string key] w fun e w' => e = .returned (.agg (intsO (outL T q key 0))) ∧
      ∃ st', 0 ≤ st' ∧ st' ≤ (q.length : Int) + 12 ∧ w'.heap[b]? = some (.cells (listC sa T.length cap bt st') 60 (0, 0)) ∧ Chg b w w' := by
  have hb : b < w.heap.size := heap_lt hM.own
  have hlen := hM.len
  have hql := hL.len
  obtain ⟨hc0, hc1, hc2⟩ := hM.cells
  have f2 := frozen_of_row _ _ 2 _ _ hM.own
  have HM := Lib.hid hM
  have HL := Lib.hid hL
  have HA0 : Hid (AhS w (((w.setCell ⟨b, 2, none⟩ (.int .i64 0)).alloc (.cells zero12 61)).alloc (.cells zero12 61)) b sa T.length cap bt 0 (outL T q key 12)) := Lib.hid (by
    rw [outL_12]
    have hs : (w.setCell ⟨b, 2, none⟩ (.int .i64 0)).heap.size = w.heap.size := by simp [World.setCell]
    have hbk : (w.setCell ⟨b, 2, none⟩ (.int .i64 0)).heap[b]? = some (.cells (listC sa T.length cap bt 0) 60 (0, 0)) := by rw [heap_setCell_same _ _ 2 _ _ _ hM.own]; rfl
    refine ⟨(((Chg.refl b w).setCell 2 _).alloc _).alloc _, (Below.heap_alloc _ _ _ (by simp; omega)).trans ((Below.heap_alloc _ _ _ (by omega)).trans hbk), ?_, ?_⟩
    · rw [← hs]; exact heap_alloc2_old _ _ _
    · rw [← hs]; exact heap_alloc2_new _ _ _)
  clear hM hL
  go_enter Try.func25, Try.ntmps25
  go_wp2
  refine wp_pass_scope 0 (fun a' wr => ∃ (pre suf : List Nat) (m : Nat) (st : Int) (y8 y9 y10 y11 y12 y13 y14 y15 y16 y17 y18 y19 y20 y21 y22 y23 y24 y25 y26 y27 y28 y29 y30 y31 y32 y33 y34 y35 y36 y37 y38 y39 y40 y41 y42 y43 y44 y45 y46 y47 y48 y49 y50 : Value), a' = { tmps := #[.pointer (some ⟨b, 0, none⟩), .string key, undef, undef, .pointer (some ⟨w.heap.size, 0, none⟩), .pointer (some ⟨w.heap.size + 1, 0, none⟩), .int .i64 ((endOf pre : Nat) : Int), .int .i64 (m : Int), y8, y9, y10, y11, y12, y13, y14, y15, y16, y17, y18, y19, y20, y21, y22, y23, y24, y25, y26, y27, y28, y29, y30, y31, y32, y33, y34, y35, y36, y37, y38, y39, y40, y41, y42, y43, y44, y45, y46, y47, y48, y49, y50], defers := [] } ∧ q = pre ++ suf ∧ m < 12 ∧ m < hAt T (endOf pre) ∧ Hid (∀ i ∈ pre, bLt (keyAt T i) key = true) ∧ 0 ≤ st ∧ st + m ≤ pre.length + 11 ∧ Hid (AhS w wr b sa T.length cap bt st (outL T q key (m + 1)))) (fun a' _ => (intOf (a'.tmps.getD 7 undef)).toNat * (q.length + 1) + (q.length - posOf q (intOf (a'.tmps.getD 6 undef)).toNat)) rfl ?_ ?_
  · rintro a' wr ⟨pre, suf, m, st, y8, y9, y10, y11, y12, y13, y14, y15, y16, y17, y18, y19, y20, y21, y22, y23, y24, y25, y26, y27, y28, y29, y30, y31, y32, y33, y34, y35, y36, y37, y38, y39, y40, y41, y42, y43, y44, y45, y46, y47, y48, y49, y50, rfl, e, hm1, hm2, HLT, hst0, hst1, HA⟩
    have hMr : SkM wr b sa cap T bt st := HM.out.same (fun k o hk hne => HA.out.chg.heap hne hk) HA.out.own
    have hpl : pre.length + suf.length = q.length := by rw [e]; simp
    have HPOS := Lib.hid (pos_end HL.out e)
    obtain ⟨B, o, nb, ht, rfl, hati, hmi, c2, c3, hBb, hnb⟩ := hMr.next_facts HL.out e hm2
    have HKEY : Hid (∀ x, x < T.length → wr.cell? ⟨B, o + x * 3, none⟩ = some (.string (keyAt T x))) := Lib.hid fun x hx => hMr.key_facts rfl hx
    obtain ⟨d0, d1, d2⟩ := hMr.cells
    have g2 := frozen_of_row _ _ 2 _ _ HA.out.own
    have g5 := frozen_of_row _ _ m _ _ HA.out.out
    obtain ⟨ov, z5⟩ : ∃ ov, wr.cell? ⟨w.heap.size + 1, m, none⟩ = some (.int .i64 ov) := ⟨_, by
      rw [cell_of_row _ _ _ _ _ _ HA.out.out, intsO_get, List.getElem?_eq_getElem (by rw [outL_len]; exact hm1)]; rfl⟩
    have hm12 : (m : Int) < 12 := by omega
    have hb5 : b ≠ w.heap.size + 1 := by omega
    have hb4 : b ≠ w.heap.size := by omega
    clear hMr hc0 hc1 hc2 f2 HA0
    cases hf : suf.find? (fun i => decide (m < hAt T i)) with
    | none =>
      rw [nxt_none hf] at c3
      have HND : Hid (∀ i, suf.find? (fun i => decide (m < hAt T i)) = some i → bLt (keyAt T i) key = false) := Lib.hid fun i h => by rw [hf] at h; cases h
      clear hf d1
      have hdn := ahead_down HL.out e (key := key) hm2 HLT.out HND.out
      have HP := Lib.hid (by have h := HA.out.put m ((endOf pre : Nat) : Int) hb; rw [← hdn, outL_set _ _ _ _ hm1, hdn] at h; exact h)
      clear hdn
      obtain ⟨i0, hi0⟩ : ∃ i, i = endOf pre := ⟨_, rfl⟩
      rw [← hi0] at hati c2 HP HPOS ⊢
      have HI0 := Lib.hid hi0
      clear hi0
      cases m with
      | zero =>
        have HQ := HP.out
        go_wp2_with (first | (with_reducible refine wpList_load_row rfl 61 (.tmp 5) rfl (w.heap.size + 1) rfl 61 (intsO (outL T q key 0)) (0, 0) _ HP.out.out Try.underlying61 rfl (info_12 _ (outL_len _ _ _ _)) ?_) | (with_reducible refine wpList_store_row rfl 61 (.tmp 4) (.tmp 50) rfl w.heap.size (intsO (outL T q key 0)) rfl rfl 61 zero12 HP.out.res (info_12 _ (outL_len _ _ _ _)) (size_12 _ _ (by simp) (outL_len _ _ _ _)) (one_12 _) ?_))
        simp only [Exit.jump]
        refine bodyPost_ret (results_cell_row Try.results25 _ _ w.heap.size 61 (intsO (outL T q key 0)) (0, 0) _ rfl (setRow_heap _ _ _ _ _ _ HP.out.res) Try.underlying61 rfl (info_12 _ (outL_len _ _ _ _))) rfl ?_
        refine ⟨rfl, st, by omega, by omega, (setRow_other _ _ _ _ (by omega)).trans HP.out.own, HP.out.chg.setNew _ _ (Nat.le_refl _)⟩
      | succ m =>
        go_wp2
        go_step3
        refine ⟨rfl, ⟨pre, suf, m, st, _, _, _, _, _, _, _, _, _, _, _, _, _, _, _, _, _, _, _, _, _, _, _, _, _, _, _, _, _, _, _, _, _, _, _, _, _, _, _, _, _, _, _, by rw [HI0.out] <;> first | rfl | (congr; omega), e, by omega, by omega, HLT, by omega, by omega, HP⟩, ?_⟩
        have hmu := Nat.succ_mul m (q.length + 1)
        simp [intOf]
        try omega
    | some x =>
      rw [nxt_some hf] at c3
      have hxT : x < T.length := by
        obtain ⟨_, as_, bs, ea, _⟩ := List.find?_eq_some_iff_append.1 hf
        exact (HL.out.mem x (by rw [e, ea]; simp)).2
      have hxi : (x : Int) < (T.length : Int) := by omega
      have x0 := HKEY.out x hxT
      obtain ⟨kx, hkx⟩ : ∃ k, k = keyAt T x := ⟨_, rfl⟩
      rw [← hkx] at x0
      clear hxT HKEY
      cases hcmp : Op.bytesLess kx.toList key.toList with
      | true =>
        obtain ⟨pre', suf', e2, hend, hlt2, hjx, hsl, hpl2, _⟩ := ahead_on HL.out e HLT.out hf (by rw [← hkx]; exact hcmp)
        have HPOS2 := Lib.hid (pos_end HL.out e2)
        have hpl3 : pre'.length + suf'.length = q.length := by rw [e2]; simp
        have HHL2 := Lib.hid hlt2
        have HE2 := Lib.hid e2
        have HEND := Lib.hid hend
        have HJX := Lib.hid hjx
        have HA2 := Lib.hid (HA.out.step (st + 1) hb)
        obtain ⟨i0, hi0⟩ : ∃ i, i = endOf pre := ⟨_, rfl⟩
        rw [← hi0] at hati c2 HPOS ⊢
        clear e2 hend hlt2 hjx hf hkx hi0 g5 z5
        go_wp2
        go_step3
        refine ⟨rfl, ⟨pre', suf', m, st + 1, _, _, _, _, _, _, _, _, _, _, _, _, _, _, _, _, _, _, _, _, _, _, _, _, _, _, _, _, _, _, _, _, _, _, _, _, _, _, _, _, _, _, _, by rw [HEND.out], HE2.out, hm1, by rw [HEND.out]; exact HJX.out, HHL2, by omega, by omega, HA2⟩, ?_⟩
        have hp1 := HPOS.out
        have hp2 := HPOS2.out
        rw [HEND.out] at hp2
        simp [intOf, hp1, hp2]
        omega
      | false =>
        have HND : Hid (∀ i, suf.find? (fun i => decide (m < hAt T i)) = some i → bLt (keyAt T i) key = false) := Lib.hid fun i h => by rw [hf] at h; cases h; rw [← hkx]; exact hcmp
        have HAX := HA.out.step (st + 1) hb
        clear hf hkx d1
        have hdn := ahead_down HL.out e (key := key) hm2 HLT.out HND.out
        have HP := Lib.hid (by have h := HAX.put m ((endOf pre : Nat) : Int) hb; rw [← hdn, outL_set _ _ _ _ hm1, hdn] at h; exact h)
        clear hdn HAX
        obtain ⟨i0, hi0⟩ : ∃ i, i = endOf pre := ⟨_, rfl⟩
        rw [← hi0] at hati c2 HP HPOS ⊢
        have HI0 := Lib.hid hi0
        clear hi0
        cases m with
        | zero =>
          have HQ := HP.out
          go_wp2_with (first | (with_reducible refine wpList_load_row rfl 61 (.tmp 5) rfl (w.heap.size + 1) rfl 61 (intsO (outL T q key 0)) (0, 0) _ HP.out.out Try.underlying61 rfl (info_12 _ (outL_len _ _ _ _)) ?_) | (with_reducible refine wpList_store_row rfl 61 (.tmp 4) (.tmp 50) rfl w.heap.size (intsO (outL T q key 0)) rfl rfl 61 zero12 HP.out.res (info_12 _ (outL_len _ _ _ _)) (size_12 _ _ (by simp) (outL_len _ _ _ _)) (one_12 _) ?_))
          simp only [Exit.jump]
          refine bodyPost_ret (results_cell_row Try.results25 _ _ w.heap.size 61 (intsO (outL T q key 0)) (0, 0) _ rfl (setRow_heap _ _ _ _ _ _ HP.out.res) Try.underlying61 rfl (info_12 _ (outL_len _ _ _ _))) rfl ?_
          refine ⟨rfl, (st + 1), by omega, by omega, (setRow_other _ _ _ _ (by omega)).trans HP.out.own, HP.out.chg.setNew _ _ (Nat.le_refl _)⟩
        | succ m =>
          go_wp2
          go_step3
          refine ⟨rfl, ⟨pre, suf, m, (st + 1), _, _, _, _, _, _, _, _, _, _, _, _, _, _, _, _, _, _, _, _, _, _, _, _, _, _, _, _, _, _, _, _, _, _, _, _, _, _, _, _, _, _, _, by rw [HI0.out] <;> first | rfl | (congr; omega), e, by omega, by omega, HLT, by omega, by omega, HP⟩, ?_⟩
          have hmu := Nat.succ_mul m (q.length + 1)
          simp [intOf]
          try omega
  · intro hp
    go_wp2
    go_step3
    rename_i hK
    refine hK _ _ (hp _ _ ?_)
    exact ⟨[], q, 11, 0, _, _, _, _, _, _, _, _, _, _, _, _, _, _, _, _, _, _, _, _, _, _, _, _, _, _, _, _, _, _, _, _, _, _, _, _, _, _, _, _, _, _, _, rfl, rfl, by decide, by show 11 < hAt T 0; rw [HL.out.h0]; decide, Lib.hid (by simp), by decide, by simp, HA0⟩
end Go.Proofs.Ytacgpflheokkaaa
