/-
  skip's Down: keys, falling: an iterator, by contract.
-/
import Derived.Test.YtacgpflheokkaaaSkpNil
import Derived.Test.YtacgpflheokkaaaSkpEnd
namespace Go.Proofs.Ytacgpflheokkaaa
open Go.RowKit Go.Shelf
set_option linter.unusedVariables false
set_option linter.unusedSimpArgs false
attribute [local go_sem] Oper.semAt_some

/-- the towers not above a key, rising (the empty one: all) -/
def preD (T : List TowM) (q : List Nat) (key : ByteArray) : List Nat := if key = ByteArray.empty then q else q.filter fun i => !bLt key (keyAt T i)
def downL (T : List TowM) (q : List Nat) (key : ByteArray) : List PairS := (preD T q key).reverse.map (pairAt T)
theorem preD_split {T : List TowM} {q lo hi : List Nat} {key : ByteArray} (hL : Lay T q) (hk : key ≠ ByteArray.empty) (e : q = lo ++ hi) (h1 : ∀ i ∈ lo, bLt (keyAt T i) key = true) (h2 : ∀ i ∈ hi, bLt (keyAt T i) key = false) :
    (∃ x r, hi = x :: r ∧ keyAt T x = key ∧ preD T q key = lo ++ [x]) ∨ ((∀ x r, hi = x :: r → keyAt T x ≠ key) ∧ preD T q key = lo) := by
  have hs := hL.sorted
  rw [e] at hs
  obtain ⟨s1, s2, s3⟩ := List.pairwise_append.1 hs
  unfold preD
  rw [if_neg hk, e, List.filter_append, List.filter_eq_self.2 (by intro i hi'; rw [bLt_asymm (h1 i hi')]; rfl)]
  cases hi with
  | nil => exact .inr ⟨by intro x r h; (cases h), by simp⟩
  | cons x r =>
    have hr : r.filter (fun i => !bLt key (keyAt T i)) = [] ∧ (keyAt T x = key ∨ bLt key (keyAt T x) = true) := by
      have hx : keyAt T x = key ∨ bLt key (keyAt T x) = true := by
        rcases bLt_total (keyAt T x) key with h | h | h
        · rw [h2 x (by simp)] at h; cases h
        · exact .inl h
        · exact .inr h
      refine ⟨?_, hx⟩
      rw [List.filter_eq_nil_iff]
      intro i hi'
      have h3 := (List.pairwise_cons.1 s2).1 i hi'
      rcases hx with h | h
      · rw [← h, h3]; simp
      · rw [bLt_trans h h3]; simp
    rcases hr.2 with h | h
    · refine .inl ⟨x, r, rfl, h, ?_⟩
      rw [List.filter_cons_of_pos (by rw [h, bLt_irrefl]; rfl), hr.1]
    · refine .inr ⟨?_, ?_⟩
      · rintro y r' hy
        cases hy
        exact fun hh => by rw [hh, bLt_irrefl] at h; cases h
      · rw [List.filter_cons_of_neg (by rw [h]; simp), hr.1, List.append_nil]
theorem preD_pre {T : List TowM} {q : List Nat} (hL : Lay T q) (key : ByteArray) : ∃ suf, q = preD T q key ++ suf := by
  by_cases hk : key = ByteArray.empty
  · exact ⟨[], by unfold preD; rw [if_pos hk, List.append_nil]⟩
  · obtain ⟨lo, hi, e, h1, h2⟩ := split_at hL.sorted key
    rcases preD_split hL hk e h1 h2 with ⟨x, r, h3, _, h4⟩ | ⟨_, h4⟩
    · exact ⟨r, by rw [h4, e, h3]; simp⟩
    · exact ⟨hi, by rw [h4]; exact e⟩
theorem empty_bb {key : ByteArray} (h : key ≠ ByteArray.empty) : key.toList.isEmpty = false ∧ key.toList ≠ [] := by
  have : ¬ key.toList = [] := fun hh => h (ba_inj (by rw [hh, ByteArray.toList_eq]; rfl))
  exact ⟨by simpa using this, this⟩

set_option maxRecDepth 100000 in
set_option maxHeartbeats 16000000 in
theorem down1 (L Bl Bk b : Nat) (sa : Option Addr) (cap : Nat) (T : List TowM) (bt st : Int) (q : List Nat) (key : ByteArray) (Q0 : Nat → Obj → Prop) (hQ : KeptL b sa T Q0) (hQl : ∀ cs fr, ¬ Q0 Bl (.cells cs 24 fr)) (J Jx : List PairS → World → Prop) (W : World) (hQt : ∀ k cs fr, W.heap.size ≤ k → ¬ Q0 k (.cells cs 57 fr)) (hJ : ∀ s A B, J s A → Turns (fun k => k = b) A B → J s B) (hJx : ∀ s A B, Jx s A → Turns (fun k => k = b) A B → Jx s B)
    (hY : ∀ pre x W1, J pre W1 → W.heap.size + 0 ≤ W1.heap.size → pre.length < q.length → YieldAt Fence.wide (5 - 1) Try.prog L #[.string x.1, .string x.2] W1 fun e W' =>
      (e = .returned (.bool true) ∧ J (pre ++ [x]) W' ∧ KeepsY Q0 W.heap.size W1 W') ∨ (e = .returned (.bool false) ∧ Jx (pre ++ [x]) W' ∧ KeepsY Q0 W.heap.size W1 W'))
    (hM : SkM W b sa cap T bt st) (hL : Lay T q) (hBl : W.heap[Bl]? = some (.cells #[.pointer (some ⟨b, 0, none⟩)] 24 (0, 0))) (hBk : W.heap[Bk]? = some (.cells #[.string key] 9 (0, 0))) (h0 : J [] W) :
    CallsIn Fence.wide 5 Try.prog 28 #[.func (.yield L) #[] #[], .pointer (some ⟨Bl, 0, none⟩), .pointer (some ⟨Bk, 0, none⟩)] W fun e W' => (∃ v, e = .returned v) ∧ (∃ st', SkM W' b sa cap T bt st') ∧
      ((∃ ys, ys = downL T q key ∧ J ys W') ∨ (∃ pre, pre <+: downL T q key ∧ Jx pre W')) := by
  refine callsIn_of_wp Try.func28 rfl trivial ?_ rfl
  simp only [Try.ntmps28, List.size_toArray, List.length_cons, List.length_nil, Nat.reduceAdd, Nat.reduceSub, Array.replicate_succ, Array.replicate_zero, List.push_toArray, List.append_toArray, List.nil_append, List.cons_append]
  refine wpIn_wide.2 ?_
  have hbl : Bl ≠ b := fun e => by rw [e, hM.own] at hBl; simp only [Option.some.injEq, Obj.cells.injEq] at hBl; exact absurd hBl.2.1 (by decide)
  have hbk : Bk ≠ b := fun e => by rw [e, hM.own] at hBk; simp only [Option.some.injEq, Obj.cells.injEq] at hBk; exact absurd hBk.2.1 (by decide)
  have cl : W.cell? ⟨Bl, 0, none⟩ = some (.pointer (some ⟨b, 0, none⟩)) := by rw [cell_of_row _ _ _ _ _ _ hBl]; rfl
  have ck : W.cell? ⟨Bk, 0, none⟩ = some (.string key) := by rw [cell_of_row _ _ _ _ _ _ hBk]; rfl
  have EN : Hid (Calls Try.prog 29 #[.pointer (some ⟨b, 0, none⟩)] W fun e w' => e = .returned (.int .i64 ((endOf q : Nat) : Int)) ∧ SkR b sa T.length cap bt W w') := Lib.hid
    ((skip_end b sa cap T bt st q W hM hL).mono fun _ _ ⟨h1, h2⟩ => ⟨h1, Chg.ofBelow h2, fun s hs => ⟨s, (h2.block _ (heap_lt hs)).trans hs⟩⟩)
  have AH : Hid (∀ k wx, SkR b sa T.length cap bt W wx → Calls Try.prog 25 #[.pointer (some ⟨b, 0, none⟩), .string k] wx fun e w' => e = .returned (.agg (intsO (outL T q k 0))) ∧ SkR b sa T.length cap bt wx w') := Lib.hid fun k wx h => by
    obtain ⟨st1, hM1⟩ := h.mem hM
    exact (skip_ahead b sa cap T bt st1 q k wx hM1 hL).mono fun _ _ ⟨h1, st', h2, h3, h4, h5⟩ => ⟨h1, h5, fun _ _ => ⟨st', h4⟩⟩
  have FI : Hid (∀ wx, SkR b sa T.length cap bt W wx → Calls Try.prog 26 #[.pointer (some ⟨b, 0, none⟩), .agg (intsO (outL T q key 0)), .string key] wx fun e w' => e = .returned (.int .i64 (findI T q key)) ∧ Below wx.heap.size wx w') := Lib.hid fun wx h => by
    obtain ⟨st1, hM1⟩ := h.mem hM
    exact skip_find b sa cap T bt st1 q key wx hM1 hL
  have HBL : Hid (∀ wx, SkR b sa T.length cap bt W wx → wx.cell? ⟨Bl, 0, none⟩ = some (.pointer (some ⟨b, 0, none⟩))) := Lib.hid fun wx h => h.cell hbl cl
  have HBK : Hid (∀ wx, SkR b sa T.length cap bt W wx → wx.cell? ⟨Bk, 0, none⟩ = some (.string key)) := Lib.hid fun wx h => h.cell hbk ck
  have HM := Lib.hid hM
  have HL := Lib.hid hL
  have HY := Lib.hid hY
  have H0 := Lib.hid h0
  have HJT := Lib.hid hJ
  have HBLW := Lib.hid hBl
  clear hY hM hL h0 ck hJ hJx hBl hBk
  obtain ⟨kb, hkb⟩ : ∃ kb, key.toList.isEmpty = kb := ⟨_, rfl⟩
  have HKB := Lib.hid hkb
  go_upto_if 12 with (go_at_call 29; (with_reducible refine EN.out.mono ?_); rintro e w1 ⟨rfl, hR1⟩; have ck1 := HBK.out _ hR1; have HR1 := Lib.hid hR1; clear hR1)
  go_cut [4] from 5 to 44 (fun v4 wc => v4 = .int .i64 ((endOf (preD T q key) : Nat) : Int) ∧ Hid (SkR b sa T.length cap bt W wc))
  case first =>
    clear hkb
    cases kb with
    | true =>
      have hk : key = ByteArray.empty := ba_inj (by rw [ByteArray.toList_eq ByteArray.empty]; exact List.isEmpty_iff.1 HKB.out)
      have HP : Hid (preD T q key = q) := Lib.hid (by unfold preD; rw [if_pos hk])
      clear hk
      go_wp2_with fail
      go_meet
      exact ⟨by rw [HP.out], HR1⟩
    | false =>
      have hk : key ≠ ByteArray.empty := fun h => by
        have h2 := HKB.out
        rw [h, ByteArray.toList_eq] at h2; cases h2
      obtain ⟨lo, hi, e, hlo, hhi⟩ := split_at HL.out.sorted key
      have HPD := Lib.hid (preD_split HL.out hk e hlo hhi)
      have ha := ahead0 HL.out e hlo hhi 0 (hEnd HL.out e)
      have HFS := Lib.hid (find_split HL.out e hlo hhi)
      have cl1 := HBL.out _ HR1.out
      have AH1 := Lib.hid (AH.out key w1 HR1.out)
      obtain ⟨O, hO⟩ : ∃ O, O = intsO (outL T q key 0) := ⟨_, rfl⟩
      have HO12 : Hid ((Try.prog.info? 61).map (·.size) = some O.size ∧ zlit12.size = O.size ∧ O.all (·.oneCell') = true) := Lib.hid (by
        rw [hO]
        exact ⟨info_12 _ (outL_len _ _ _ _), size_12 (List.replicate 12 0) _ rfl (outL_len _ _ _ _), one_12 _⟩)
      have HO0 : Hid (O[0]? = some (.int .i64 ((endOf lo : Nat) : Int))) := Lib.hid (by rw [hO, intsO_get, ← ha]; rfl)
      rw [← hO] at AH1 FI
      have HE := Lib.hid e
      clear hO ha e hlo hhi hk cl
      go_upto_region 4 with (first | (go_at_call 25; (with_reducible refine AH1.out.mono ?_); rintro e w2 ⟨rfl, hR2⟩; have HR2 := Lib.hid hR2; clear hR2; have HZ : Hid ((w2.alloc (.cells zlit12 61)).heap[w2.heap.size]? = some (.cells zlit12 61 (0, 0))) := Lib.hid (heap_alloc_new _ _)) | (with_reducible refine wpList_store_row rfl 61 (.tmp 5) (.tmp 15) rfl w2.heap.size O rfl rfl 61 zlit12 HZ.out HO12.out.1 HO12.out.2.1 HO12.out.2.2 ?_))
      have hb2 : Below w2.heap.size w2 ((w2.alloc (.cells zlit12 61)).setRow w2.heap.size O) := below_setRow ((Below.refl _ _).alloc (Nat.le_refl _) _) _ _ (Nat.le_refl _)
      have h5 : ((w2.alloc (.cells zlit12 61)).setRow w2.heap.size O).heap[w2.heap.size]? = some (.cells O 61 (0, 0)) := setRow_heap _ _ _ _ _ _ HZ.out
      have hR3 : SkR b sa T.length cap bt W ((w2.alloc (.cells zlit12 61)).setRow w2.heap.size O) := (HR1.out.trans HR2.out).trans ⟨Chg.ofBelow hb2, fun s hs => ⟨s, (hb2.block _ (heap_lt hs)).trans hs⟩⟩
      obtain ⟨b5, hb5⟩ : ∃ z, z = w2.heap.size := ⟨_, rfl⟩
      rw [← hb5] at h5 hR3 ⊢
      generalize (w2.alloc (.cells zlit12 61)).setRow b5 O = w3 at h5 hR3 ⊢
      have cl3 := HBL.out _ hR3
      have ck3 := HBK.out _ hR3
      have c50 : w3.cell? ⟨b5, 0, none⟩ = some (.int .i64 ((endOf lo : Nat) : Int)) := by rw [cell_of_row _ _ _ _ _ _ h5]; exact HO0.out
      have HR3 := Lib.hid hR3
      have H5 := Lib.hid h5
      have HC50 := Lib.hid c50
      clear hb2 h5 hR3 hb5 HZ HR1 HR2 AH1 c50 cl1 ck1
      cases hi with
      | nil =>
        have hf : findI T q key = -1 := by unfold findI; rw [HFS.out]; rfl
        have HP : Hid (preD T q key = lo) := Lib.hid (by
          rcases HPD.out with ⟨x, r, h3, _⟩ | h3
          · cases h3
          · exact h3.2)
        rw [hf] at FI
        clear hf
        obtain ⟨el, hel⟩ : ∃ z, z = endOf lo := ⟨_, rfl⟩
        rw [← hel] at HC50
        have HEL := Lib.hid hel
        clear hel
        go_wp2_with (first | (with_reducible refine wpList_load_row rfl 61 (.tmp 5) rfl b5 rfl 61 O (0, 0) _ H5.out Try.underlying61 rfl HO12.out.1 ?_) | (go_at_call 26; (with_reducible refine (FI.out _ HR3.out).mono ?_); rintro e w4 ⟨rfl, hB4⟩; have c54 := (hB4.cell (p := ⟨b5, 0, none⟩) (cell_lt HC50.out)).trans HC50.out; have HB4 := Lib.hid hB4; clear hB4))
        go_meet
        exact ⟨by rw [HP.out, HEL.out], Lib.hid (HR3.out.trans ⟨Chg.ofBelow HB4.out, fun s hs => ⟨s, (HB4.out.block _ (heap_lt hs)).trans hs⟩⟩)⟩
      | cons x r =>
        by_cases hx : keyAt T x = key
        · have hf : findI T q key = (x : Int) := by unfold findI; rw [HFS.out]; simp [headF, hx]
          have HP : Hid (endOf (preD T q key) = x) := Lib.hid (by
            rcases HPD.out with ⟨x', r', h3, _, h4⟩ | h3
            · cases h3; rw [h4, endOf_snoc]
            · exact absurd hx (h3.1 x r rfl))
          rw [hf] at FI
          have hx0 : (x : Int) ≠ -1 := by omega
          clear hf hx
          go_wp2_with (first | (with_reducible refine wpList_load_row rfl 61 (.tmp 5) rfl b5 rfl 61 O (0, 0) _ H5.out Try.underlying61 rfl HO12.out.1 ?_) | (go_at_call 26; (with_reducible refine (FI.out _ HR3.out).mono ?_); rintro e w4 ⟨rfl, hB4⟩; have HB4 := Lib.hid hB4; clear hB4))
          go_meet
          exact ⟨by rw [HP.out], Lib.hid (HR3.out.trans ⟨Chg.ofBelow HB4.out, fun s hs => ⟨s, (HB4.out.block _ (heap_lt hs)).trans hs⟩⟩)⟩
        · have hf : findI T q key = -1 := by unfold findI; rw [HFS.out]; simp [headF, hx]
          have HP : Hid (preD T q key = lo) := Lib.hid (by
            rcases HPD.out with ⟨x', r', h3, h5, _⟩ | h3
            · cases h3; exact absurd h5 hx
            · exact h3.2)
          rw [hf] at FI
          clear hf hx
          obtain ⟨el, hel⟩ : ∃ z, z = endOf lo := ⟨_, rfl⟩
          rw [← hel] at HC50
          have HEL := Lib.hid hel
          clear hel
          go_wp2_with (first | (with_reducible refine wpList_load_row rfl 61 (.tmp 5) rfl b5 rfl 61 O (0, 0) _ H5.out Try.underlying61 rfl HO12.out.1 ?_) | (go_at_call 26; (with_reducible refine (FI.out _ HR3.out).mono ?_); rintro e w4 ⟨rfl, hB4⟩; have c54 := (hB4.cell (p := ⟨b5, 0, none⟩) (cell_lt HC50.out)).trans HC50.out; have HB4 := Lib.hid hB4; clear hB4))
          go_meet
          exact ⟨by rw [HP.out, HEL.out], Lib.hid (HR3.out.trans ⟨Chg.ofBelow HB4.out, fun s hs => ⟨s, (HB4.out.block _ (heap_lt hs)).trans hs⟩⟩)⟩
  case rest =>
    obtain ⟨rfl, HRC⟩ := hcut
    clear HR1 ck1 EN FI hkb
    obtain ⟨stc, hMc⟩ := HRC.out.mem HM.out
    have HW1 : Hid (wc.heap[Bl]? = some (.cells #[.pointer (some ⟨b, 0, none⟩)] 24 (0, 0)) ∧ W.heap.size ≤ wc.heap.size) := Lib.hid ⟨HRC.out.chg.heap hbl HBLW.out, HRC.out.chg.size⟩
    have HJ1 : Hid (J [] wc) := Lib.hid (HJT.out _ _ _ H0.out ⟨HRC.out.chg.size, fun k o hk ho => HRC.out.chg.heap hk ho, HRC.out.chg.os, HRC.out.chg.tape, HRC.out.chg.output⟩)
    have HM1 := Lib.hid hMc
    obtain ⟨sufD, hsD⟩ := preD_pre HL.out key
    have HSD := Lib.hid hsD
    obtain ⟨D, hD⟩ : ∃ D, D = preD T q key := ⟨_, rfl⟩
    have HDL : Hid (downL T q key = D.reverse.map (pairAt T)) := Lib.hid (by unfold downL; rw [hD])
    rw [← hD] at HSD ⊢
    clear hMc HRC AH HBL HBK H0 HBLW hD hsD cl HKB
    go_wp2
    refine (wpIn_wide (n := 5)).1 ?_
    gi_loopw [4] (fun v4 wr => ∃ (pre rest : List Nat) (st' : Int), v4 = .int .i64 ((endOf pre : Nat) : Int) ∧ Hid (D = pre ++ rest) ∧ Hid (J (rest.reverse.map (pairAt T)) wr) ∧ Hid (SkM wr b sa cap T bt st') ∧ Hid (wr.heap[Bl]? = some (.cells #[.pointer (some ⟨b, 0, none⟩)] 24 (0, 0)) ∧ W.heap.size ≤ wr.heap.size)) (fun v _ => posOf q (intOf v).toNat)
    case atStart => exact ⟨D, [], stc, rfl, Lib.hid (by simp), HJ1, HM1, HW1⟩
    case round =>
      obtain ⟨pre, rest, st', rfl, HD, HJ, HMr, HWr⟩ := hrel
      clear HJ1 HM1 HW1
      rcases List.eq_nil_or_concat pre with rfl | ⟨p, x, rfl⟩
      · have h1 : endOf [] = 0 := rfl
        rw [h1]
        gi_wp2
        go_end0
        refine ⟨⟨_, rfl⟩, ⟨st', HMr.out⟩, .inl ⟨_, ?_, HJ.out⟩⟩
        rw [HDL.out, HD.out, List.nil_append]
      · rw [List.concat_eq_append] at HD ⊢
        have hq : q = p ++ (x :: (rest ++ sufD)) := by rw [HSD.out, HD.out]; simp
        have hq2 : q = (p ++ [x]) ++ (rest ++ sufD) := by rw [hq]; simp
        have hxm := HL.out.mem x (by rw [hq]; simp)
        have hxT : x < T.length := hxm.2
        rw [endOf_snoc]
        obtain ⟨B, o, rfl, c0, c1, c2⟩ := HMr.out.tow x hxT
        have hk1 := (HMr.out.key x hxT).1
        have hv1 : valAt T x = T[x].value := by simp [valAt, hxT]
        rw [← hk1] at c0
        rw [← hv1] at c1
        obtain ⟨nx, hnx⟩ : ∃ z, z = T[x].nb := ⟨_, rfl⟩
        obtain ⟨hx, hhx⟩ : ∃ z, z = T[x].nx.length := ⟨_, rfl⟩
        rw [← hnx, ← hhx] at c2
        have dl : wr.cell? ⟨Bl, 0, none⟩ = some (.pointer (some ⟨b, 0, none⟩)) := by rw [cell_of_row _ _ _ _ _ _ HWr.out.1]; rfl
        have d0 := HMr.out.cells.1
        have hlen := HMr.out.len
        have hxi : (x : Int) < (T.length : Int) := by omega
        have hx1 : 0 < (x : Int) := by omega
        have hQL : Hid ((rest.reverse).length < q.length) := Lib.hid (by rw [hq]; simp; omega)
        have HP1 : Hid (posOf q x = p.length + 1) := Lib.hid (by have h := pos_end HL.out hq2; rw [endOf_snoc] at h; simpa using h)
        have HP0 : Hid (posOf q (endOf p) = p.length) := Lib.hid (pos_end HL.out hq)
        have HQ1 := Lib.hid hq
        obtain ⟨kx, hkx⟩ : ∃ z, z = keyAt T x := ⟨_, rfl⟩
        obtain ⟨vx, hvx⟩ : ∃ z, z = valAt T x := ⟨_, rfl⟩
        rw [← hkx] at c0
        rw [← hvx] at c1
        have HPX : Hid (pairAt T x = (kx, vx)) := Lib.hid (by unfold pairAt; rw [hkx, hvx])
        have HA0 : Hid (aheadI T q kx 0 = endOf p) := Lib.hid (by
          have hs := HL.out.sorted
          rw [hq] at hs
          obtain ⟨s1, s2, s3⟩ := List.pairwise_append.1 hs
          refine ahead0 HL.out hq (fun i hi => by rw [hkx]; exact s3 i hi x (by simp)) (fun i hi => ?_) 0 (hEnd HL.out hq)
          rcases List.mem_cons.1 hi with rfl | hi
          · rw [hkx]; exact bLt_irrefl _
          · rw [hkx]; exact bLt_asymm ((List.pairwise_cons.1 s2).1 i hi))
        obtain ⟨fn, tmps, assign, body, hy, hR⟩ := HY.out (rest.reverse.map (pairAt T)) (kx, vx) (wr.alloc (.cells #[.string kx, .string vx, .slice (some ⟨nx, 0, none⟩) hx hx] 57)) (HJT.out _ _ _ HJ.out (Turns.alloc _ _)) (by have := HWr.out.2; simp; omega) (by rw [List.length_map]; exact hQL.out)
        simp only at hy
        clear hq hq2 hxT hk1 hv1 hnx hhx hkx hvx hxm
        gi_wp2
        refine hR.mono ?_
        clear hR hy c0 c1 c2 d0 dl
        rintro e W3 (⟨rfl, hJ3, hk3⟩ | ⟨rfl, hJx3, hk3⟩)
        · have hMa := (HMr.out.moved (w' := wr.alloc (.cells #[.string kx, .string vx, .slice (some ⟨nx, 0, none⟩) hx hx] 57)) ((Below.refl _ _).alloc (Nat.le_refl _) _)).keeps hk3 hQ
          have hl3 := hk3.same _ _ (hQl _ _) ((Below.heap_alloc _ _ _ (heap_lt HWr.out.1)).trans HWr.out.1) (.inl rfl)
          have hs3 : W.heap.size ≤ W3.heap.size := by have h1 := hk3.size; have h2 := HWr.out.2; simp at h1; omega
          have ht3 := hk3.same _ _ (hQt wr.heap.size _ _ HWr.out.2) (heap_alloc_new wr (.cells #[.string kx, .string vx, .slice (some ⟨nx, 0, none⟩) hx hx] 57)) (.inl rfl)
          have c60 : W3.cell? ⟨wr.heap.size, 0, none⟩ = some (.string kx) := by rw [cell_of_row _ _ _ _ _ _ ht3]; rfl
          have dl : W3.cell? ⟨Bl, 0, none⟩ = some (.pointer (some ⟨b, 0, none⟩)) := by rw [cell_of_row _ _ _ _ _ _ hl3]; rfl
          have AH3 : Hid (Calls Try.prog 25 #[.pointer (some ⟨b, 0, none⟩), .string kx] W3 fun e w' => e = .returned (.agg (intsO (outL T q kx 0))) ∧ ∃ st2, Hid (SkM w' b (some ⟨B, o, none⟩) cap T bt st2) ∧ Hid (Chg b W3 w')) := Lib.hid
            ((skip_ahead b _ cap T bt st' q kx W3 hMa HL.out).mono fun _ _ ⟨h1, st2, _, _, h4, h5⟩ => ⟨h1, st2, Lib.hid (hMa.chg h5 h4), Lib.hid h5⟩)
          obtain ⟨O, hO⟩ : ∃ O, O = intsO (outL T q kx 0) := ⟨_, rfl⟩
          have HIX : ∀ w, (Instr.index 61 (.agg O) (.int .i64 0)).run Try.prog w = .ok (.int .i64 ((endOf p : Nat) : Int)) w := fun w => by rw [hO]; exact run_index12 _ _ (outL_len _ _ _ _) (by rw [← HA0.out]; rfl) w
          rw [← hO] at AH3
          have HW3 := Lib.hid (And.intro hl3 hs3)
          have HJ3 := Lib.hid hJ3
          obtain ⟨ep, hep⟩ : ∃ z, z = endOf p := ⟨_, rfl⟩
          have HEP := Lib.hid hep
          rw [← hep] at HIX
          clear hMa hl3 hs3 hJ3 hk3 HJ HWr hO hep ht3 HMr
          gi_wp2_with (first | (refine ⟨trivial, ?_⟩; gi_at_call 25; (with_reducible refine (callsIn_wide.2 AH3.out).mono ?_); rintro e w4 ⟨rfl, st2, HM4, HC4⟩) | (refine ⟨trivial, fun h => (by simp [Fence.wide] at h), ?_⟩; gi_at_call 25; (with_reducible refine (callsIn_wide.2 AH3.out).mono ?_); rintro e w4 ⟨rfl, st2, HM4, HC4⟩))
          go_roundw
          case rel => exact ⟨p, x :: rest, st2, by rw [HEP.out], Lib.hid (by rw [HD.out]; simp), Lib.hid (by
            rw [List.reverse_cons, List.map_append, List.map_singleton, HPX.out]
            exact HJT.out _ _ _ HJ3.out ⟨HC4.out.size, fun k o hk ho => HC4.out.heap hk ho, HC4.out.os, HC4.out.tape, HC4.out.output⟩), HM4, Lib.hid ⟨HC4.out.heap hbl HW3.out.1, Nat.le_trans HW3.out.2 HC4.out.size⟩⟩
          case measure =>
            simp only [intOf, Int.toNat_natCast]
            rw [HEP.out, HP0.out, HP1.out]
            omega
        · have hMa := (HMr.out.moved (w' := wr.alloc (.cells #[.string kx, .string vx, .slice (some ⟨nx, 0, none⟩) hx hx] 57)) ((Below.refl _ _).alloc (Nat.le_refl _) _)).keeps hk3 hQ
          gi_wp2
          refine bodyPost_ret (results_none rfl _ _ _) rfl ?_
          refine ⟨⟨_, rfl⟩, ⟨st', hMa⟩, .inr ⟨(rest.reverse ++ [x]).map (pairAt T), ?_, ?_⟩⟩
          · rw [HDL.out, HD.out]
            exact ⟨p.reverse.map (pairAt T), by simp⟩
          · rw [List.map_append, List.map_singleton, HPX.out]; exact hJx3
theorem down_stops (Bl Bk b : Nat) (sa : Option Addr) (cap : Nat) (T : List TowM) (bt st : Int) (q : List Nat) (key : ByteArray) (Q0 : Nat → Obj → Prop) (hQ : KeptL b sa T Q0) (hQl : ∀ cs fr, ¬ Q0 Bl (.cells cs 24 fr)) (w : World) (hQt : ∀ k cs fr, w.heap.size ≤ k → ¬ Q0 k (.cells cs 57 fr))
    (hM : SkM w b sa cap T bt st) (hL : Lay T q) (hBl : w.heap[Bl]? = some (.cells #[.pointer (some ⟨b, 0, none⟩)] 24 (0, 0))) (hBk : w.heap[Bk]? = some (.cells #[.string key] 9 (0, 0))) :
    SeqStopsG Fence.wide 5 Try.prog 28 #[.pointer (some ⟨Bl, 0, none⟩), .pointer (some ⟨Bk, 0, none⟩)] (fun x : PairS => #[Value.string x.1, Value.string x.2]) (fun _ k => k = b) 0 (KeepsY Q0) (fun W' => ∃ st', SkM W' b sa cap T bt st')
      (fun ys => ys = downL T q key) (fun pre => pre <+: downL T q key) q.length w := fun L J Jx W hW hJ hJx hY h0 =>
  down1 L Bl Bk b sa cap T bt st q key Q0 hQ hQl J Jx W (fun k cs fr hk => hQt k cs fr (Nat.le_trans hW.size hk)) hJ hJx hY (hM.moved hW) hL ((hW.block _ (heap_lt hBl)).trans hBl) ((hW.block _ (heap_lt hBk)).trans hBk) h0

/-- the shadow's Down -/
def downP (l : List PairS) (key : ByteArray) : List PairS := l.reverse.filter fun x => decide (key = ByteArray.empty) || !bLt key x.1
theorem down_pairs (T : List TowM) (q : List Nat) (key : ByteArray) : downP (pairsOf T q) key = downL T q key := by
  unfold downP pairsOf downL preD
  by_cases hk : key = ByteArray.empty
  · rw [if_pos hk, List.filter_eq_self.2 (by intro x hx; simp [hk]), List.map_reverse]
  · rw [if_neg hk, List.filter_reverse, List.map_reverse, List.filter_map]
    simp only [decide_eq_false hk, Bool.false_or]
    rfl
theorem skl_down_row (b : Nat) (F : Nat → Prop) (P : List PairS) (H : ByteArray → Int) (st : Int) (w : World) (hS : SkL w F b P H st) (key : ByteArray) (Bl Bk : Nat) (most : Int) (hm : -9223372036854775808 ≤ most ∧ most ≤ 9223372036854775807) (hP : P.length ≤ 60000) (hBl : w.heap[Bl]? = some (.cells #[.pointer (some ⟨b, 0, none⟩)] 24 (0, 0))) (hBk : w.heap[Bk]? = some (.cells #[.string key] 9 (0, 0))) :
    Calls Try.prog 16 #[.func (.func 28) #[] #[.pointer (some ⟨Bl, 0, none⟩), .pointer (some ⟨Bk, 0, none⟩)], .int .i64 most] w fun e w' =>
      ∃ a c, e = .returned (.slice a ((downP P key).take most.toNat).length c) ∧ RowsAt w' a 2 pairRow ((downP P key).take most.toNat) ∧ (∃ st', SkL w' F b P H st') ∧ ChgQ (fun k => k = b) w w' := by
  obtain ⟨sa, cap, T, q, hM, hL, rfl, hH, hF⟩ := hS
  have hlen := pairs_len hL
  have hql : (pairsOf T q).length = q.length := by simp [pairsOf]
  have hfl := foot_lt hM
  have hBll := heap_lt hBl
  rw [down_pairs]
  have hb := heap_lt hM.own
  have hdl : (downL T q key).length ≤ q.length := by
    rw [← down_pairs, ← hql]
    unfold downP
    have h := List.length_filter_le (fun x : PairS => decide (key = ByteArray.empty) || !bLt key x.1) (pairsOf T q).reverse
    rwa [List.length_reverse] at h
  refine (law_row 28 b _ (downL T q key) most q.length (fun W' => ∃ st', SkM W' b sa cap T (bytesP (pairsOf T q)) st') w hb hm (by omega) hdl (fun _ _ => rfl) ?_ ?_).mono ?_
  · rintro A B ⟨st', h⟩ hs
    refine ⟨st', h.of_foot fun k hk => ?_⟩
    have hkA := foot_lt h k hk
    rw [Array.getElem?_eq_getElem hkA]
    exact hs k _ (hfl k hk) (Array.getElem?_eq_getElem hkA)
  · intro W0 hB0 hz0
    refine down_stops Bl Bk b sa cap T _ st q key _ ⟨?_, ?_, ?_⟩ ?_ W0 ?_ (hM.moved hB0) hL ((hB0.block _ (heap_lt hBl)).trans hBl) ((hB0.block _ (heap_lt hBk)).trans hBk)
    · rintro cs fr (h | ⟨cs', fr', h⟩)
      · omega
      · simp only [Obj.cells.injEq] at h; exact absurd h.2.1 (by decide)
    · rintro k o cs fr hk (h | ⟨cs', fr', h⟩)
      · have := hfl k (.inr (.inl ⟨o, hk⟩)); omega
      · simp only [Obj.cells.injEq] at h; exact absurd h.2.1 (by decide)
    · rintro r hr cs fr (h | ⟨cs', fr', h⟩)
      · have := hfl r.nb (.inr (.inr ⟨r, hr, rfl⟩)); omega
      · simp only [Obj.cells.injEq] at h; exact absurd h.2.1 (by decide)
    · rintro cs fr (h | ⟨cs', fr', h⟩)
      · omega
      · simp only [Obj.cells.injEq] at h; exact absurd h.2.1 (by decide)
    · rintro k cs fr hk (h | ⟨cs', fr', h⟩)
      · omega
      · simp only [Obj.cells.injEq] at h; exact absurd h.2.1 (by decide)
  · rintro e w' ⟨a, c, rfl, h1, ⟨st', h2⟩, h3⟩
    exact ⟨a, c, rfl, h1, ⟨st', sa, cap, T, q, h2, hL, rfl, hH, hF⟩, h3⟩
end Go.Proofs.Ytacgpflheokkaaa
