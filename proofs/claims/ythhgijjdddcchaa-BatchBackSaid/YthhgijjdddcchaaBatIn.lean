/-
  The batch that bytes are, by contract.
-/
import Derived.Test.YthhgijjdddcchaaBatChg
import Derived.Test.YthhgijjdddcchaaStepCall
namespace Go.Proofs.Ythhgijjdddcchaa
open Go.RowKit
set_option linter.unusedVariables false
set_option linter.unusedSimpArgs false

/-- so many changes, while there is no error -/
def RS.chgs : Nat → RS → List ChangeR × RS
  | 0, r => ([], r)
  | k + 1, r => if r.e = 0 then (r.change.1 :: (RS.chgs k r.change.2).1, (RS.chgs k r.change.2).2) else ([], r)
theorem chgs_err (k : Nat) (r : RS) (h : ¬ r.e = 0) : RS.chgs k r = ([], r) := by
  cases k with
  | zero => rfl
  | succ k => rw [RS.chgs, if_neg h]
theorem chgs_ok : ∀ (k : Nat) (r : RS), r.ok → (RS.chgs k r).2.ok
  | 0, r, h => h
  | k + 1, r, h => by
    rw [RS.chgs]; split
    · exact chgs_ok k _ (change_ok r h)
    · exact h
theorem chgs_s : ∀ (k : Nat) (r : RS), (RS.chgs k r).2.s = r.s
  | 0, r => rfl
  | k + 1, r => by
    rw [RS.chgs]; split
    · exact (chgs_s k _).trans (change_s r)
    · rfl
theorem chgs_len : ∀ (k : Nat) (r : RS), (RS.chgs k r).1.length ≤ k
  | 0, r => Nat.le_refl _
  | k + 1, r => by
    rw [RS.chgs]; split
    · simp only [List.length_cons]; have := chgs_len k r.change.2; omega
    · simp
def pbA (s : ByteArray) : Nat × RS := (RS.mk s 0 0).little 8
def pbN (s : ByteArray) : Nat × RS := (pbA s).2.num
def pbR (s : ByteArray) : RS := if 2000 < (pbN s).1 then (pbN s).2.fail 6 else (pbN s).2
def pbC (s : ByteArray) : List ChangeR × RS := RS.chgs (pbN s).1 (pbR s)
def parseB (s : ByteArray) : Int × List ChangeR × Int :=
  if ¬ (pbC s).2.end_ = 0 then (0, [], (pbC s).2.end_)
  else if ¬ checkB ((pbA s).1 : Int) (pbC s).1 = 0 then (0, [], checkB ((pbA s).1 : Int) (pbC s).1)
  else (((pbA s).1 : Int), (pbC s).1, 0)
theorem pbA_lt (s : ByteArray) : (pbA s).1 < 18446744073709551616 := by
  show leN _ < _
  have h := leN_lt ((RS.mk s 0 0).take ((8 : Nat) : Int)).1.data.toList
  have h2 := RS.take_size (RS.mk s 0 0) ((8 : Nat) : Int)
  have h3 : ((RS.mk s 0 0).take ((8 : Nat) : Int)).1.data.toList.length ≤ 8 := by
    rw [Array.length_toList]; show ByteArray.size _ ≤ 8; omega
  exact Nat.lt_of_lt_of_le h (Nat.le_trans (Nat.pow_le_pow_right (by omega) h3) (by decide))
theorem info_chg3 : (Try.prog.info? 35).map (fun i => (i.zero, i.size, i.bytes)) = some (some (.agg (cells3 0 ByteArray.empty ByteArray.empty)), 3, 40) := by kernel_rfl
theorem info_bat : (Try.prog.info? 27).map (·.size) = some 2 := by kernel_rfl
theorem zero_bat (w : World) : (zeroValue 27).run Try.prog w = .ok (.agg #[.int .u64 0, .slice none 0 0]) w := by kernel_rfl
theorem own_chg {w w' : World} {base : Nat} {e : TypeId} {size : Nat} {v : Value} {n : Nat} {xs : List Value} {b : Nat} (h : w.ownsRow base e size v n xs) (hC : Chg b w w') (hb : b < base) : w'.ownsRow base e size v n xs := by
  obtain ⟨hl, h | ⟨g, cap, cur, hv, hg, hc, hr⟩⟩ := h
  · exact ⟨hl, .inl h⟩
  · exact ⟨hl, .inr ⟨g, cap, cur, hv, hg, hC.heap (by omega) hc, hr⟩⟩
abbrev objB (q : Int) (v : Value) : Obj := .cells #[.int .u64 q, v] 27 (0, 0)
/-- what Parse keeps: what was there, the reader, its result's own block -/
structure BSt (w wx : World) (b1 : Nat) (r : RS) : Prop where
  below : Below w.heap.size w wx
  lt : w.heap.size < b1
  rd : RdAt TR wx b1 r
  own : wx.heap[w.heap.size]? = some (objB 0 (.slice none 0 0))
theorem BSt.step {w wx w' : World} {b1 : Nat} {r q : RS} (h : BSt w wx b1 r) (hR : RdAt TR w' b1 q) (hC : Chg b1 wx w') : BSt w w' b1 q :=
  ⟨h.below.trans (hC.below (Nat.le_of_lt h.lt) h.below.size), h.lt, hR, hC.heap (Nat.ne_of_lt h.lt) h.own⟩
/-- the same, with the batch that is read in a block of its own, and its changes -/
structure BS2 (w wx : World) (b1 b2 : Nat) (r : RS) (q : Int) (v : Value) (l : List ChangeR) : Prop extends BSt w wx b1 r where
  lt2 : b1 < b2
  own2 : wx.heap[b2]? = some (objB q v)
  row : wx.ownsRow (b2 + 1) 35 3 v l.length (l.flatMap ChangeR.row)
theorem BS2.step2 {w wx w' : World} {b1 b2 : Nat} {r r' : RS} {q : Int} {v : Value} {l : List ChangeR} (h : BS2 w wx b1 b2 r q v l) (hR : RdAt TR w' b1 r') (hC : Chg b1 wx w') : BS2 w w' b1 b2 r' q v l :=
  ⟨h.toBSt.step hR hC, h.lt2, hC.heap (by have := h.lt2; omega) h.own2, own_chg h.row hC (by have := h.lt2; omega)⟩
theorem BS2.drewN {w wx : World} {b1 b2 : Nat} {r : RS} {q : Int} {v : Value} {l : List ChangeR} (h : BS2 w wx b1 b2 r q v l) (n : Nat) : BS2 w (wx.drewN n) b1 b2 r q v l :=
  ⟨⟨below_drewN h.below n, h.lt, h.rd, h.own⟩, h.lt2, h.own2, own_moved h.row (below_drewN (Below.refl _ _) n)⟩
theorem BS2.moved {w wx w' : World} {b1 b2 : Nat} {r : RS} {q : Int} {v : Value} {l : List ChangeR} (h : BS2 w wx b1 b2 r q v l) (hB : Below wx.heap.size wx w') : BS2 w w' b1 b2 r q v l :=
  ⟨⟨below_at h.below hB, h.lt, h.rd.below hB, by rw [hB.block _ (heap_lt h.own)]; exact h.own⟩, h.lt2, by rw [hB.block _ (heap_lt h.own2)]; exact h.own2, own_moved h.row hB⟩
theorem BS2.cell1 {w wx : World} {b1 b2 : Nat} {r : RS} {q : Int} {v : Value} {l : List ChangeR} (h : BS2 w wx b1 b2 r q v l) : wx.cell? ⟨b2, 1, none⟩ = some v := by rw [cell_of_row _ _ _ _ _ _ h.own2]; rfl
theorem BS2.app {w wx w' : World} {b1 b2 : Nat} {r : RS} {q : Int} {v v' : Value} {l : List ChangeR} {o : Obj} {kd : Int} {ky vl : ByteArray} (h : BS2 w wx b1 b2 r q v l) (hB : Below (b2 + 1) (wx.alloc o) w') (hown : w'.ownsRow (b2 + 1) 35 3 v' (l.length + 1) (l.flatMap ChangeR.row ++ (cells3 kd ky vl).toList)) :
    w'.cell? ⟨b2, 1, none⟩ = some v ∧ w'.frozen? ⟨b2, 1, none⟩ = false ∧ BS2 w (w'.setCell ⟨b2, 1, none⟩ v') b1 b2 r q v' (l ++ [⟨kd, ky, vl⟩]) := by
  have hB' : Below (b2 + 1) wx w' := ((Below.refl _ _).alloc (by have := heap_lt h.own2; omega) o).trans hB
  have h1 := h.lt
  have h2 := h.lt2
  have o2 : w'.heap[b2]? = some (objB q v) := (hB'.block _ (by omega)).trans h.own2
  have hC : Chg b2 w' (w'.setCell ⟨b2, 1, none⟩ v') := (Chg.refl b2 w').setCell 1 v'
  refine ⟨by rw [cell_of_row _ _ _ _ _ _ o2]; rfl, frozen_of_row _ _ _ _ _ o2, ⟨⟨?_, h1, ?_, ?_⟩, h2, ?_, ?_⟩⟩
  · exact (h.below.trans (hB'.mono (by omega))).trans (hC.below (by omega) (by have := h.below.size; have := hB'.size; omega))
  · exact hC.heap (by omega) ((hB'.block _ (by omega)).trans h.rd)
  · exact hC.heap (by omega) ((hB'.block _ (by omega)).trans h.own)
  · rw [heap_setCell_same _ _ _ _ _ _ o2]; rfl
  · have hr := own_chg hown hC (by omega)
    rw [List.length_append, List.flatMap_append]
    simpa [ChangeR.row] using hr
theorem BS2.rows {w wx : World} {b1 b2 : Nat} {r : RS} {q : Int} {a : Option Addr} {n c : Nat} {l : List ChangeR} (h : BS2 w wx b1 b2 r q (.slice a n c) l) : RowsAt wx a 3 ChangeR.row l := by
  obtain ⟨a', c', e, h1, _⟩ := own_rowsN h.row ChangeR.len3
  cases e
  exact h1
theorem BS2.fin {w wx : World} {b1 b2 : Nat} {r : RS} {q : Int} {a : Option Addr} {n c : Nat} {l : List ChangeR} (h : BS2 w wx b1 b2 r q (.slice a n c) l) (cs : Array Value) : RowsAt (wx.setRow w.heap.size cs) a 3 ChangeR.row l ∧ Below w.heap.size w (wx.setRow w.heap.size cs) := by
  have h1 := h.lt
  have h2 := h.lt2
  have hC : Chg w.heap.size wx (wx.setRow w.heap.size cs) := ⟨rfl, rfl, rfl, by simp, fun j hj hb => setRow_other _ _ _ _ hb⟩
  obtain ⟨a', c', e, h3, _⟩ := own_rowsN (own_chg h.row hC (by omega)) ChangeR.len3
  cases e
  exact ⟨h3, below_setRow h.below _ _ (Nat.le_refl _)⟩
theorem info_bat2 (q : Int) (v : Value) : (Try.prog.info? 27).map (·.size) = some (#[Value.int .u64 q, v] : Array Value).size := info_bat
theorem bat_size (q p : Int) (v u : Value) : (#[Value.int .u64 q, v] : Array Value).size = (#[Value.int .u64 p, u] : Array Value).size := rfl
theorem bat_one (q : Int) (a : Option Addr) (n c : Nat) : (#[Value.int .u64 q, .slice a n c] : Array Value).all (·.oneCell') = true := by simp [Value.oneCell']
theorem BSt.made {w wx : World} {b1 : Nat} {r : RS} (h : BSt w wx b1 r) (q : Int) : BS2 w (wx.alloc (.cells #[.int .u64 q, .slice none 0 0] 27)) b1 wx.heap.size r q (.slice none 0 0) [] := by
  have hb : Below wx.heap.size wx (wx.alloc (.cells #[.int .u64 q, .slice none 0 0] 27)) := (Below.refl _ _).alloc (Nat.le_refl _) _
  exact ⟨⟨below_at h.below hb, h.lt, h.rd.below hb, by rw [hb.block _ (heap_lt h.own)]; exact h.own⟩, h.rd.lt, heap_alloc_new _ _, own_none⟩

set_option maxRecDepth 100000 in
set_option maxHeartbeats 8000000 in
theorem batch_parse (s : ByteArray) (w : World) (hs : s.size ≤ 140737488351232) :
    Calls Try.prog 7 #[.string s] w fun e w' => ∃ a cap, e = .returned (.tuple #[.agg #[.int .u64 (parseB s).1, .slice a (parseB s).2.1.length cap], .int .i64 (parseB s).2.2]) ∧ RowsAt w' a 3 ChangeR.row (parseB s).2.1 ∧ Below w.heap.size w w' := by
  have hqlt := pbA_lt s
  obtain ⟨P, hP⟩ : ∃ p, p = parseB s := ⟨_, rfl⟩
  rw [← hP]
  unfold parseB at hP
  have k0 : (RS.mk s 0 0).ok := Nat.zero_le _
  have kA : (pbA s).2.ok := RS.take_ok _ _ k0
  have sA : (pbA s).2.s = s := RS.take_s _ _
  have kN : (pbN s).2.ok := RS.num_ok _ kA
  have sN : (pbN s).2.s = s := (RS.num_s _).trans sA
  have CO : Hid (∀ wx, Below w.heap.size w wx → wx.heap[w.heap.size]? = some (objB 0 (.slice none 0 0)) → Calls Try.prog 16 #[.string s] wx fun e w' => ∃ b1, e = .returned (.pointer (some ⟨b1, 0, none⟩)) ∧ BSt w w' b1 (RS.mk s 0 0)) := Lib.hid fun wx hB hO =>
    (rd_over s wx).mono fun _ _ ⟨b, h1, h2, h3, h4⟩ => ⟨b, h1, below_at hB h4, Nat.lt_of_lt_of_le (heap_lt hO) h3, h2, by rw [h4.block _ (heap_lt hO)]; exact hO⟩
  have CW : Hid (∀ b1 wx, BSt w wx b1 (RS.mk s 0 0) → Calls Try.prog 17 #[.pointer (some ⟨b1, 0, none⟩)] wx fun e w' => e = .returned (.int .u64 ((pbA s).1 : Int)) ∧ BSt w w' b1 (pbA s).2) := Lib.hid fun b1 wx T =>
    (rd_wide b1 _ wx T.rd k0 hs).mono fun _ _ ⟨h1, h2, h3⟩ => ⟨h1, T.step h2 h3⟩
  have CN : Hid (∀ b1 b2 wx q v l, BS2 w wx b1 b2 (pbA s).2 q v l → Calls Try.prog 18 #[.pointer (some ⟨b1, 0, none⟩)] wx fun e w' => e = .returned (.int .u64 ((pbN s).1 : Int)) ∧ BS2 w w' b1 b2 (pbN s).2 q v l) := Lib.hid fun b1 b2 wx q v l T =>
    (rd_num b1 _ wx T.rd kA (by rw [sA]; exact hs)).mono fun _ _ ⟨h1, h2, h3⟩ => ⟨h1, T.step2 h2 h3⟩
  have CF : Hid (∀ b1 b2 wx q v l, BS2 w wx b1 b2 (pbN s).2 q v l → Calls Try.prog 19 #[.pointer (some ⟨b1, 0, none⟩), .int .i64 6] wx fun e w' => e = .returned (.tuple #[]) ∧ BS2 w w' b1 b2 ((pbN s).2.fail 6) q v l) := Lib.hid fun b1 b2 wx q v l T =>
    (rd_fail b1 _ 6 wx T.rd).mono fun _ _ ⟨h1, h2, h3⟩ => ⟨h1, T.step2 h2 h3⟩
  have W0 : Hid (Below w.heap.size w (w.alloc (.cells #[.int .u64 0, .slice none 0 0] 27))) := Lib.hid ((Below.refl _ _).alloc (Nat.le_refl _) _)
  have W1 : Hid ((w.alloc (.cells #[.int .u64 0, .slice none 0 0] 27)).heap[w.heap.size]? = some (objB 0 (.slice none 0 0))) := Lib.hid (heap_alloc_new _ _)
  have hz := zero_bat
  have HQ : Hid (pbR s = if 2000 < (pbN s).1 then (pbN s).2.fail 6 else (pbN s).2) := Lib.hid rfl
  have kR : (pbR s).ok := by
    unfold pbR; split
    · exact RS.fail_ok _ _ kN
    · exact kN
  have sR : (pbR s).s = s := by
    unfold pbR; split
    · rw [RS.fail_s]; exact sN
    · exact sN
  have eR : (pbN s).1 ≤ 2000 ∨ ¬ (pbR s).e = 0 := by
    by_cases h : 2000 < (pbN s).1
    · right
      unfold pbR
      rw [if_pos h]
      unfold RS.fail
      split
      · simp
      · assumption
    · left; omega
  have HCC : Hid (pbC s = RS.chgs (pbN s).1 (pbR s)) := Lib.hid rfl
  have hn64 : (pbN s).1 < 18446744073709551616 := (pbA s).2.num_lt
  obtain ⟨C, hC⟩ : ∃ c, c = pbC s := ⟨_, rfl⟩
  rw [← hC] at HCC hP
  obtain ⟨R0, hR0⟩ : ∃ c, c = pbR s := ⟨_, rfl⟩
  rw [← hR0] at HCC HQ kR sR eR
  obtain ⟨R9, hR9⟩ : ∃ c, c = (pbN s).2.fail 6 := ⟨_, rfl⟩
  rw [← hR9] at HQ CF
  obtain ⟨N, hN⟩ : ∃ c, c = pbN s := ⟨_, rfl⟩
  rw [← hN] at HCC HQ CF CN eR hn64
  obtain ⟨Q, hQ⟩ : ∃ c, c = pbA s := ⟨_, rfl⟩
  rw [← hQ] at CW CN hP hqlt
  clear hC hR0 hR9 hN hQ kA sA kN sN k0
  obtain ⟨n, RN⟩ := N
  obtain ⟨q, RA⟩ := Q
  simp only at HCC HQ CF CN eR hn64 CW hP hqlt
  obtain ⟨seq, hseq⟩ : ∃ x : Int, x = (q : Int) := ⟨_, rfl⟩
  rw [← hseq] at CW hP
  have hseq0 : 0 ≤ seq ∧ seq < 18446744073709551616 := by omega
  clear hseq hqlt
  have HP := Lib.hid hP
  have KR := Lib.hid kR
  have SR := Lib.hid sR
  have HER := Lib.hid eR
  clear hP kR sR eR
  go_enter Try.func7, Try.ntmps7
  go_upto_region 4 with (first | (go_at_call 16; (with_reducible refine (CO.out _ W0.out W1.out).mono ?_); rintro e v0 ⟨b1, rfl, T0⟩) | (go_at_call 17; (with_reducible refine (CW.out _ _ T0).mono ?_); rintro e v1 ⟨rfl, T1⟩; clear T0) | (go_at_call 18; (with_reducible refine (CN.out _ _ _ _ _ _ (T1.made seq)).mono ?_); rintro e v2 ⟨rfl, T2⟩))
  have CFx := CF
  by_cases hbig : 2000 < n
  · have hR : R0 = R9 := by rw [HQ.out, if_pos hbig]
    go_upto_region 6 with (go_at_call 19; (with_reducible refine (CF.out _ _ _ _ _ _ T2).mono ?_); rintro e v3 ⟨rfl, T3'⟩)
    have T3 : BS2 w v3 b1 v1.heap.size R0 seq (.slice none 0 0) [] := by rw [hR]; exact T3'
    have T3 := Lib.hid T3
    clear T3' hR T2 T1 hbig CFx CF CN CW CO HQ
    generalize v1.heap.size = b2 at T3 ⊢
    go_wp2
    go_loopw [7] (fun v7 wr => ∃ (k : Nat) (r : RS) (v : Value) (acc : List ChangeR), k ≤ n ∧ v7 = .int .u64 (k : Int) ∧ acc.length = k ∧ Hid (acc.length ≤ 2000) ∧ Hid (BS2 w wr b1 b2 r seq v acc) ∧ Hid (C.1 = acc ++ (RS.chgs (n - k) r).1 ∧ C.2 = (RS.chgs (n - k) r).2) ∧ Hid (r.ok ∧ r.s = s) ∧ Hid (n ≤ 2000 ∨ ¬ r.e = 0)) (fun v _ => n - (intOf v).toNat)
    case atStart => exact ⟨0, R0, _, [], by omega, rfl, rfl, Lib.hid (by simp), T3, Lib.hid (by rw [HCC.out]; simp), Lib.hid ⟨KR.out, SR.out⟩, HER⟩
    case round =>
      obtain ⟨k, r, v, acc, hk, rfl, hacc, HACL, HT, HCr, HRr, HEr⟩ := hrel
      have CE : Hid (∀ wx, BS2 w wx b1 b2 r seq v acc → Calls Try.prog 20 #[.pointer (some ⟨b1, 0, none⟩)] wx fun e w' => e = .returned (.int .i64 r.e) ∧ BS2 w w' b1 b2 r seq v acc) := Lib.hid fun wx T =>
        (rd_err b1 r wx T.rd).mono fun _ _ ⟨h1, ⟨m, h2⟩⟩ => ⟨h1, by rw [h2]; exact T.drewN m⟩
      obtain ⟨e0, he0⟩ : ∃ x, x = r.e := ⟨_, rfl⟩
      rw [← he0] at CE
      have HE0 := Lib.hid he0
      clear he0
      by_cases hgo : k < n ∧ e0 = 0
      · obtain ⟨hlt, he⟩ := hgo
        have hn2 : n ≤ 2000 := by
          rcases HEr.out with h | h
          · exact h
          · exact absurd (by rw [← HE0.out]; exact he) h
        have HCG : Hid (RS.chgs (n - k) r = (r.change.1 :: (RS.chgs (n - (k + 1)) r.change.2).1, (RS.chgs (n - (k + 1)) r.change.2).2)) := Lib.hid (by
          rw [show n - k = (n - (k + 1)) + 1 by omega, RS.chgs, if_pos (by rw [← HE0.out]; exact he)])
        have HRR2 : Hid (r.change.2.ok ∧ r.change.2.s = s) := Lib.hid ⟨change_ok r HRr.out.1, (change_s r).trans HRr.out.2⟩
        have CG : Hid (∀ wx, BS2 w wx b1 b2 r seq v acc → Calls Try.prog 21 #[.pointer (some ⟨b1, 0, none⟩)] wx fun e w' => e = .returned (.agg (cells3 r.change.1.kind r.change.1.key r.change.1.value)) ∧ BS2 w w' b1 b2 r.change.2 seq v acc) := Lib.hid fun wx T =>
          (batch_change b1 r wx T.rd HRr.out.1 (by rw [HRr.out.2]; exact hs)).mono fun _ _ ⟨h1, h2, h3⟩ => ⟨h1, T.step2 h2 h3⟩
        obtain ⟨CH, hCH⟩ : ∃ x, x = r.change := ⟨_, rfl⟩
        rw [← hCH] at HCG HRR2 CG
        obtain ⟨⟨kd, ky, vl⟩, r2⟩ := CH
        simp only at HCG HRR2 CG
        obtain ⟨e1, e2⟩ := eq_bb he
        clear hCH he
        go_upto_region 9 with (go_at_call 20; (with_reducible refine (CE.out _ HT.out).mono ?_); rintro e w4 ⟨rfl, T4⟩; have T4 := Lib.hid T4)
        have m1 : w4.cell? ⟨b2, 1, none⟩ = some v := T4.out.cell1
        have M1 := Lib.hid m1
        clear CE
        go_region_law
          (first
            | (refine step_of_list rfl ?_; go_wp2_with (go_at_call 21; (refine (CG.out _ (by first | assumption | exact T4.out | exact T4.out.drewN 1 | exact T4.out.drewN _)).mono ?_); rintro e w5 ⟨rfl, T5⟩; have m5 := T5.cell1; have m5a : (w5.alloc (.cells #[.int .i64 kd, .string ky, .string vl] 35)).cell? ⟨b2, 1, none⟩ = some v := (((Below.refl w5.heap.size w5).alloc (Nat.le_refl _) _).cell (p := ⟨b2, 1, none⟩) (heap_lt T5.own2)).trans m5); dsimp only [OnlyN])
            | (refine step_append_row (by rfl) (.tmp 31) (.tmp 34) 23 (by rfl) (b2 + 1) 35 Try.underlying23 _ 3 40 info_chg3 rfl (by decide) (by decide) _ v acc.length _ (by rfl) (own_moved T5.row (by (repeat (first | exact Below.refl _ _ | assumption | apply below_drewN | (refine Below.alloc ?_ (by first | assumption | omega | (simp; try omega)) _))))) (cells3 kd ky vl) w5.heap.size (heap_alloc_new _ _) rfl (by simp [Value.oneCell']) (by rfl) (by omega) (by have := heap_lt T5.own2; simp; omega) ?_; intro g' cap w6 hown6 hB6 hsz6; obtain ⟨m6, f6, T6⟩ := T5.app hB6 hown6))
        all_goals (
          rw [hacc] at T6
          have T6 := Lib.hid T6
          clear hown6 hB6 T5
          go_wp2
          go_roundw
          (case rel => exact ⟨k + 1, r2, _, acc ++ [⟨kd, ky, vl⟩], by omega, by go_num, by simp [hacc], Lib.hid (by rw [List.length_append, hacc]; simp; omega), T6, Lib.hid ⟨by rw [HCr.out.1, HCG.out]; simp, by rw [HCr.out.2, HCG.out]⟩, HRR2, Lib.hid (.inl hn2)⟩)
          (case measure => simp [intOf]; omega))
      · have HEX : Hid (C.1 = acc ∧ C.2 = r) := Lib.hid (by
          rcases Nat.lt_or_ge k n with h | h
          · have he : ¬ r.e = 0 := fun e => hgo ⟨h, HE0.out.trans e⟩
            rw [HCr.out.1, HCr.out.2, chgs_err _ _ he]; simp
          · rw [HCr.out.1, HCr.out.2, show n - k = 0 by omega]; simp [RS.chgs])
        have hal : acc.length ≤ 1000000000 := by
          have := HACL.out; omega
        obtain ⟨sa, cc, hv⟩ : ∃ sa cc, v = .slice sa acc.length cc := by
          obtain ⟨a, c, h, _⟩ := own_rowsN HT.out.row ChangeR.len3
          exact ⟨a, c, h⟩
        have CEnd : Hid (∀ wx, BS2 w wx b1 b2 r seq v acc → Calls Try.prog 22 #[.pointer (some ⟨b1, 0, none⟩)] wx fun e w' => e = .returned (.int .i64 r.end_) ∧ BS2 w w' b1 b2 r seq v acc) := Lib.hid fun wx T =>
          (rd_end b1 r wx T.rd HRr.out.1 (by rw [HRr.out.2]; exact hs)).mono fun _ _ ⟨h1, ⟨m, h2⟩⟩ => ⟨h1, by rw [h2]; exact T.drewN m⟩
        have CC : Hid (∀ wx, BS2 w wx b1 b2 r seq v acc → Calls Try.prog 10 #[.agg #[.int .u64 seq, .slice sa acc.length cc]] wx fun e w' => e = .returned (.int .i64 (checkB seq acc)) ∧ BS2 w w' b1 b2 r seq v acc) := Lib.hid fun wx T =>
          (batch_check seq acc sa cc wx hseq0.1 hseq0.2 (BS2.rows (hv ▸ T)) hal).mono fun _ _ ⟨h1, h2⟩ => ⟨h1, T.moved h2⟩
        obtain ⟨en, hen⟩ : ∃ x, x = r.end_ := ⟨_, rfl⟩
        obtain ⟨ck, hck⟩ : ∃ x, x = checkB seq acc := ⟨_, rfl⟩
        have HPP : Hid (P = if ¬ en = 0 then (0, [], en) else if ¬ ck = 0 then (0, [], ck) else (seq, acc, 0)) := Lib.hid (by rw [HP.out, HEX.out.1, HEX.out.2, hen, hck])
        rw [← hen] at CEnd
        rw [← hck] at CC
        have HV := Lib.hid hv
        clear hen hck HEX HP
        subst hv
        clear hacc
        by_cases hlt : k < n
        · have he : ¬ e0 = 0 := fun e => hgo ⟨hlt, e⟩
          obtain ⟨e1, e2⟩ := ne_bb he
          clear he hgo
          go_upto_region 10 with (go_at_call 20; (with_reducible refine (CE.out _ HT.out).mono ?_); rintro e w4 ⟨rfl, T4⟩; have TZ := Lib.hid T4; clear T4)
          by_cases h1 : en = 0
          · obtain ⟨f0, f1⟩ := eq_bb h1
            by_cases h2 : ck = 0
            · obtain ⟨f2, f3⟩ := eq_bb h2
              have HPF : Hid (P = (seq, acc, 0)) := Lib.hid (by rw [HPP.out, if_neg (by simp [h1]), if_neg (by simp [h2])])
              clear h1 h2 HPP
              go_wp2_with (first | (go_at_call 22; (with_reducible refine (CEnd.out _ TZ.out).mono ?_); rintro e w7 ⟨rfl, T7⟩) | (with_reducible refine wpList_load_row rfl 27 (.tmp 5) rfl b2 rfl 27 #[.int .u64 seq, .slice sa acc.length cc] (0, 0) _ T7.own2 Try.underlying27 rfl (info_bat2 _ _) ?_) | (go_at_call 10; (with_reducible refine (CC.out _ T7).mono ?_); rintro e w8 ⟨rfl, T8⟩; clear T7) | (with_reducible refine wpList_load_row rfl 27 (.tmp 5) rfl b2 rfl 27 #[.int .u64 seq, .slice sa acc.length cc] (0, 0) _ T8.own2 Try.underlying27 rfl (info_bat2 _ _) ?_) | (with_reducible refine wpList_store_row rfl 27 (.tmp 2) (.tmp 47) rfl w.heap.size #[.int .u64 seq, .slice sa acc.length cc] rfl rfl 27 #[.int .u64 0, .slice none 0 0] T8.own (info_bat2 _ _) (bat_size _ _ _ _) (bat_one _ _ _ _) ?_))
              refine bodyPost_ret (res_row_tmp Try.results7 _ _ w.heap.size 27 #[.int .u64 seq, .slice sa acc.length cc] (0, 0) _ rfl (setRow_heap _ _ _ _ _ _ T8.own) Try.underlying27 rfl (info_bat2 _ _)) rfl ?_
              exact ⟨sa, cc, by rw [HPF.out]; rfl, by rw [HPF.out]; exact (T8.fin _).1, (T8.fin _).2⟩
            · obtain ⟨f2, f3⟩ := ne_bb h2
              have HPF : Hid (P = (0, [], ck)) := Lib.hid (by rw [HPP.out, if_neg (by simp [h1]), if_pos h2])
              clear h1 h2 HPP
              go_wp2_with (first | (go_at_call 22; (with_reducible refine (CEnd.out _ TZ.out).mono ?_); rintro e w7 ⟨rfl, T7⟩) | (with_reducible refine wpList_load_row rfl 27 (.tmp 5) rfl b2 rfl 27 #[.int .u64 seq, .slice sa acc.length cc] (0, 0) _ T7.own2 Try.underlying27 rfl (info_bat2 _ _) ?_) | (go_at_call 10; (with_reducible refine (CC.out _ T7).mono ?_); rintro e w8 ⟨rfl, T8⟩; clear T7) | (with_reducible refine wpList_store_row rfl 27 (.tmp 2) (.tmp 45) rfl w.heap.size #[.int .u64 0, .slice none 0 0] rfl rfl 27 #[.int .u64 0, .slice none 0 0] T8.own (info_bat2 _ _) (bat_size _ _ _ _) (bat_one _ _ _ _) ?_))
              refine bodyPost_ret (res_row_tmp Try.results7 _ _ w.heap.size 27 #[.int .u64 0, .slice none 0 0] (0, 0) _ rfl (setRow_heap _ _ _ _ _ _ T8.own) Try.underlying27 rfl (info_bat2 _ _)) rfl ?_
              exact ⟨none, 0, by rw [HPF.out]; rfl, by rw [HPF.out]; exact ⟨.inl rfl⟩, (T8.fin _).2⟩
          · obtain ⟨f0, f1⟩ := ne_bb h1
            have HPF : Hid (P = (0, [], en)) := Lib.hid (by rw [HPP.out, if_pos h1])
            clear h1 HPP
            go_wp2_with (first | (go_at_call 22; (with_reducible refine (CEnd.out _ TZ.out).mono ?_); rintro e w7 ⟨rfl, T7⟩) | (with_reducible refine wpList_store_row rfl 27 (.tmp 2) (.tmp 45) rfl w.heap.size #[.int .u64 0, .slice none 0 0] rfl rfl 27 #[.int .u64 0, .slice none 0 0] T7.own (info_bat2 _ _) (bat_size _ _ _ _) (bat_one _ _ _ _) ?_))
            refine bodyPost_ret (res_row_tmp Try.results7 _ _ w.heap.size 27 #[.int .u64 0, .slice none 0 0] (0, 0) _ rfl (setRow_heap _ _ _ _ _ _ T7.own) Try.underlying27 rfl (info_bat2 _ _)) rfl ?_
            exact ⟨none, 0, by rw [HPF.out]; rfl, by rw [HPF.out]; exact ⟨.inl rfl⟩, (T7.fin _).2⟩
        · clear hgo
          go_upto_region 10 with fail
          have TZ := HT
          by_cases h1 : en = 0
          · obtain ⟨f0, f1⟩ := eq_bb h1
            by_cases h2 : ck = 0
            · obtain ⟨f2, f3⟩ := eq_bb h2
              have HPF : Hid (P = (seq, acc, 0)) := Lib.hid (by rw [HPP.out, if_neg (by simp [h1]), if_neg (by simp [h2])])
              clear h1 h2 HPP
              go_wp2_with (first | (go_at_call 22; (with_reducible refine (CEnd.out _ TZ.out).mono ?_); rintro e w7 ⟨rfl, T7⟩) | (with_reducible refine wpList_load_row rfl 27 (.tmp 5) rfl b2 rfl 27 #[.int .u64 seq, .slice sa acc.length cc] (0, 0) _ T7.own2 Try.underlying27 rfl (info_bat2 _ _) ?_) | (go_at_call 10; (with_reducible refine (CC.out _ T7).mono ?_); rintro e w8 ⟨rfl, T8⟩; clear T7) | (with_reducible refine wpList_load_row rfl 27 (.tmp 5) rfl b2 rfl 27 #[.int .u64 seq, .slice sa acc.length cc] (0, 0) _ T8.own2 Try.underlying27 rfl (info_bat2 _ _) ?_) | (with_reducible refine wpList_store_row rfl 27 (.tmp 2) (.tmp 47) rfl w.heap.size #[.int .u64 seq, .slice sa acc.length cc] rfl rfl 27 #[.int .u64 0, .slice none 0 0] T8.own (info_bat2 _ _) (bat_size _ _ _ _) (bat_one _ _ _ _) ?_))
              refine bodyPost_ret (res_row_tmp Try.results7 _ _ w.heap.size 27 #[.int .u64 seq, .slice sa acc.length cc] (0, 0) _ rfl (setRow_heap _ _ _ _ _ _ T8.own) Try.underlying27 rfl (info_bat2 _ _)) rfl ?_
              exact ⟨sa, cc, by rw [HPF.out]; rfl, by rw [HPF.out]; exact (T8.fin _).1, (T8.fin _).2⟩
            · obtain ⟨f2, f3⟩ := ne_bb h2
              have HPF : Hid (P = (0, [], ck)) := Lib.hid (by rw [HPP.out, if_neg (by simp [h1]), if_pos h2])
              clear h1 h2 HPP
              go_wp2_with (first | (go_at_call 22; (with_reducible refine (CEnd.out _ TZ.out).mono ?_); rintro e w7 ⟨rfl, T7⟩) | (with_reducible refine wpList_load_row rfl 27 (.tmp 5) rfl b2 rfl 27 #[.int .u64 seq, .slice sa acc.length cc] (0, 0) _ T7.own2 Try.underlying27 rfl (info_bat2 _ _) ?_) | (go_at_call 10; (with_reducible refine (CC.out _ T7).mono ?_); rintro e w8 ⟨rfl, T8⟩; clear T7) | (with_reducible refine wpList_store_row rfl 27 (.tmp 2) (.tmp 45) rfl w.heap.size #[.int .u64 0, .slice none 0 0] rfl rfl 27 #[.int .u64 0, .slice none 0 0] T8.own (info_bat2 _ _) (bat_size _ _ _ _) (bat_one _ _ _ _) ?_))
              refine bodyPost_ret (res_row_tmp Try.results7 _ _ w.heap.size 27 #[.int .u64 0, .slice none 0 0] (0, 0) _ rfl (setRow_heap _ _ _ _ _ _ T8.own) Try.underlying27 rfl (info_bat2 _ _)) rfl ?_
              exact ⟨none, 0, by rw [HPF.out]; rfl, by rw [HPF.out]; exact ⟨.inl rfl⟩, (T8.fin _).2⟩
          · obtain ⟨f0, f1⟩ := ne_bb h1
            have HPF : Hid (P = (0, [], en)) := Lib.hid (by rw [HPP.out, if_pos h1])
            clear h1 HPP
            go_wp2_with (first | (go_at_call 22; (with_reducible refine (CEnd.out _ TZ.out).mono ?_); rintro e w7 ⟨rfl, T7⟩) | (with_reducible refine wpList_store_row rfl 27 (.tmp 2) (.tmp 45) rfl w.heap.size #[.int .u64 0, .slice none 0 0] rfl rfl 27 #[.int .u64 0, .slice none 0 0] T7.own (info_bat2 _ _) (bat_size _ _ _ _) (bat_one _ _ _ _) ?_))
            refine bodyPost_ret (res_row_tmp Try.results7 _ _ w.heap.size 27 #[.int .u64 0, .slice none 0 0] (0, 0) _ rfl (setRow_heap _ _ _ _ _ _ T7.own) Try.underlying27 rfl (info_bat2 _ _)) rfl ?_
            exact ⟨none, 0, by rw [HPF.out]; rfl, by rw [HPF.out]; exact ⟨.inl rfl⟩, (T7.fin _).2⟩
  · have hR : R0 = RN := by rw [HQ.out, if_neg hbig]
    go_upto_region 6 with fail
    have T3 : BS2 w v2 b1 v1.heap.size R0 seq (.slice none 0 0) [] := by rw [hR]; exact T2
    have T3 := Lib.hid T3
    clear hR T2 T1 hbig CFx CF CN CW CO HQ
    generalize v1.heap.size = b2 at T3 ⊢
    obtain ⟨v3, hv3⟩ : ∃ x, x = v2 := ⟨_, rfl⟩
    rw [← hv3] at T3 ⊢
    clear hv3
    go_wp2
    go_loopw [7] (fun v7 wr => ∃ (k : Nat) (r : RS) (v : Value) (acc : List ChangeR), k ≤ n ∧ v7 = .int .u64 (k : Int) ∧ acc.length = k ∧ Hid (acc.length ≤ 2000) ∧ Hid (BS2 w wr b1 b2 r seq v acc) ∧ Hid (C.1 = acc ++ (RS.chgs (n - k) r).1 ∧ C.2 = (RS.chgs (n - k) r).2) ∧ Hid (r.ok ∧ r.s = s) ∧ Hid (n ≤ 2000 ∨ ¬ r.e = 0)) (fun v _ => n - (intOf v).toNat)
    case atStart => exact ⟨0, R0, _, [], by omega, rfl, rfl, Lib.hid (by simp), T3, Lib.hid (by rw [HCC.out]; simp), Lib.hid ⟨KR.out, SR.out⟩, HER⟩
    case round =>
      obtain ⟨k, r, v, acc, hk, rfl, hacc, HACL, HT, HCr, HRr, HEr⟩ := hrel
      have CE : Hid (∀ wx, BS2 w wx b1 b2 r seq v acc → Calls Try.prog 20 #[.pointer (some ⟨b1, 0, none⟩)] wx fun e w' => e = .returned (.int .i64 r.e) ∧ BS2 w w' b1 b2 r seq v acc) := Lib.hid fun wx T =>
        (rd_err b1 r wx T.rd).mono fun _ _ ⟨h1, ⟨m, h2⟩⟩ => ⟨h1, by rw [h2]; exact T.drewN m⟩
      obtain ⟨e0, he0⟩ : ∃ x, x = r.e := ⟨_, rfl⟩
      rw [← he0] at CE
      have HE0 := Lib.hid he0
      clear he0
      by_cases hgo : k < n ∧ e0 = 0
      · obtain ⟨hlt, he⟩ := hgo
        have hn2 : n ≤ 2000 := by
          rcases HEr.out with h | h
          · exact h
          · exact absurd (by rw [← HE0.out]; exact he) h
        have HCG : Hid (RS.chgs (n - k) r = (r.change.1 :: (RS.chgs (n - (k + 1)) r.change.2).1, (RS.chgs (n - (k + 1)) r.change.2).2)) := Lib.hid (by
          rw [show n - k = (n - (k + 1)) + 1 by omega, RS.chgs, if_pos (by rw [← HE0.out]; exact he)])
        have HRR2 : Hid (r.change.2.ok ∧ r.change.2.s = s) := Lib.hid ⟨change_ok r HRr.out.1, (change_s r).trans HRr.out.2⟩
        have CG : Hid (∀ wx, BS2 w wx b1 b2 r seq v acc → Calls Try.prog 21 #[.pointer (some ⟨b1, 0, none⟩)] wx fun e w' => e = .returned (.agg (cells3 r.change.1.kind r.change.1.key r.change.1.value)) ∧ BS2 w w' b1 b2 r.change.2 seq v acc) := Lib.hid fun wx T =>
          (batch_change b1 r wx T.rd HRr.out.1 (by rw [HRr.out.2]; exact hs)).mono fun _ _ ⟨h1, h2, h3⟩ => ⟨h1, T.step2 h2 h3⟩
        obtain ⟨CH, hCH⟩ : ∃ x, x = r.change := ⟨_, rfl⟩
        rw [← hCH] at HCG HRR2 CG
        obtain ⟨⟨kd, ky, vl⟩, r2⟩ := CH
        simp only at HCG HRR2 CG
        obtain ⟨e1, e2⟩ := eq_bb he
        clear hCH he
        go_upto_region 9 with (go_at_call 20; (with_reducible refine (CE.out _ HT.out).mono ?_); rintro e w4 ⟨rfl, T4⟩; have T4 := Lib.hid T4)
        have m1 : w4.cell? ⟨b2, 1, none⟩ = some v := T4.out.cell1
        have M1 := Lib.hid m1
        clear CE
        go_region_law
          (first
            | (refine step_of_list rfl ?_; go_wp2_with (go_at_call 21; (refine (CG.out _ (by first | assumption | exact T4.out | exact T4.out.drewN 1 | exact T4.out.drewN _)).mono ?_); rintro e w5 ⟨rfl, T5⟩; have m5 := T5.cell1; have m5a : (w5.alloc (.cells #[.int .i64 kd, .string ky, .string vl] 35)).cell? ⟨b2, 1, none⟩ = some v := (((Below.refl w5.heap.size w5).alloc (Nat.le_refl _) _).cell (p := ⟨b2, 1, none⟩) (heap_lt T5.own2)).trans m5); dsimp only [OnlyN])
            | (refine step_append_row (by rfl) (.tmp 31) (.tmp 34) 23 (by rfl) (b2 + 1) 35 Try.underlying23 _ 3 40 info_chg3 rfl (by decide) (by decide) _ v acc.length _ (by rfl) (own_moved T5.row (by (repeat (first | exact Below.refl _ _ | assumption | apply below_drewN | (refine Below.alloc ?_ (by first | assumption | omega | (simp; try omega)) _))))) (cells3 kd ky vl) w5.heap.size (heap_alloc_new _ _) rfl (by simp [Value.oneCell']) (by rfl) (by omega) (by have := heap_lt T5.own2; simp; omega) ?_; intro g' cap w6 hown6 hB6 hsz6; obtain ⟨m6, f6, T6⟩ := T5.app hB6 hown6))
        all_goals (
          rw [hacc] at T6
          have T6 := Lib.hid T6
          clear hown6 hB6 T5
          go_wp2
          go_roundw
          (case rel => exact ⟨k + 1, r2, _, acc ++ [⟨kd, ky, vl⟩], by omega, by go_num, by simp [hacc], Lib.hid (by rw [List.length_append, hacc]; simp; omega), T6, Lib.hid ⟨by rw [HCr.out.1, HCG.out]; simp, by rw [HCr.out.2, HCG.out]⟩, HRR2, Lib.hid (.inl hn2)⟩)
          (case measure => simp [intOf]; omega))
      · have HEX : Hid (C.1 = acc ∧ C.2 = r) := Lib.hid (by
          rcases Nat.lt_or_ge k n with h | h
          · have he : ¬ r.e = 0 := fun e => hgo ⟨h, HE0.out.trans e⟩
            rw [HCr.out.1, HCr.out.2, chgs_err _ _ he]; simp
          · rw [HCr.out.1, HCr.out.2, show n - k = 0 by omega]; simp [RS.chgs])
        have hal : acc.length ≤ 1000000000 := by
          have := HACL.out; omega
        obtain ⟨sa, cc, hv⟩ : ∃ sa cc, v = .slice sa acc.length cc := by
          obtain ⟨a, c, h, _⟩ := own_rowsN HT.out.row ChangeR.len3
          exact ⟨a, c, h⟩
        have CEnd : Hid (∀ wx, BS2 w wx b1 b2 r seq v acc → Calls Try.prog 22 #[.pointer (some ⟨b1, 0, none⟩)] wx fun e w' => e = .returned (.int .i64 r.end_) ∧ BS2 w w' b1 b2 r seq v acc) := Lib.hid fun wx T =>
          (rd_end b1 r wx T.rd HRr.out.1 (by rw [HRr.out.2]; exact hs)).mono fun _ _ ⟨h1, ⟨m, h2⟩⟩ => ⟨h1, by rw [h2]; exact T.drewN m⟩
        have CC : Hid (∀ wx, BS2 w wx b1 b2 r seq v acc → Calls Try.prog 10 #[.agg #[.int .u64 seq, .slice sa acc.length cc]] wx fun e w' => e = .returned (.int .i64 (checkB seq acc)) ∧ BS2 w w' b1 b2 r seq v acc) := Lib.hid fun wx T =>
          (batch_check seq acc sa cc wx hseq0.1 hseq0.2 (BS2.rows (hv ▸ T)) hal).mono fun _ _ ⟨h1, h2⟩ => ⟨h1, T.moved h2⟩
        obtain ⟨en, hen⟩ : ∃ x, x = r.end_ := ⟨_, rfl⟩
        obtain ⟨ck, hck⟩ : ∃ x, x = checkB seq acc := ⟨_, rfl⟩
        have HPP : Hid (P = if ¬ en = 0 then (0, [], en) else if ¬ ck = 0 then (0, [], ck) else (seq, acc, 0)) := Lib.hid (by rw [HP.out, HEX.out.1, HEX.out.2, hen, hck])
        rw [← hen] at CEnd
        rw [← hck] at CC
        have HV := Lib.hid hv
        clear hen hck HEX HP
        subst hv
        clear hacc
        by_cases hlt : k < n
        · have he : ¬ e0 = 0 := fun e => hgo ⟨hlt, e⟩
          obtain ⟨e1, e2⟩ := ne_bb he
          clear he hgo
          go_upto_region 10 with (go_at_call 20; (with_reducible refine (CE.out _ HT.out).mono ?_); rintro e w4 ⟨rfl, T4⟩; have TZ := Lib.hid T4; clear T4)
          by_cases h1 : en = 0
          · obtain ⟨f0, f1⟩ := eq_bb h1
            by_cases h2 : ck = 0
            · obtain ⟨f2, f3⟩ := eq_bb h2
              have HPF : Hid (P = (seq, acc, 0)) := Lib.hid (by rw [HPP.out, if_neg (by simp [h1]), if_neg (by simp [h2])])
              clear h1 h2 HPP
              go_wp2_with (first | (go_at_call 22; (with_reducible refine (CEnd.out _ TZ.out).mono ?_); rintro e w7 ⟨rfl, T7⟩) | (with_reducible refine wpList_load_row rfl 27 (.tmp 5) rfl b2 rfl 27 #[.int .u64 seq, .slice sa acc.length cc] (0, 0) _ T7.own2 Try.underlying27 rfl (info_bat2 _ _) ?_) | (go_at_call 10; (with_reducible refine (CC.out _ T7).mono ?_); rintro e w8 ⟨rfl, T8⟩; clear T7) | (with_reducible refine wpList_load_row rfl 27 (.tmp 5) rfl b2 rfl 27 #[.int .u64 seq, .slice sa acc.length cc] (0, 0) _ T8.own2 Try.underlying27 rfl (info_bat2 _ _) ?_) | (with_reducible refine wpList_store_row rfl 27 (.tmp 2) (.tmp 47) rfl w.heap.size #[.int .u64 seq, .slice sa acc.length cc] rfl rfl 27 #[.int .u64 0, .slice none 0 0] T8.own (info_bat2 _ _) (bat_size _ _ _ _) (bat_one _ _ _ _) ?_))
              refine bodyPost_ret (res_row_tmp Try.results7 _ _ w.heap.size 27 #[.int .u64 seq, .slice sa acc.length cc] (0, 0) _ rfl (setRow_heap _ _ _ _ _ _ T8.own) Try.underlying27 rfl (info_bat2 _ _)) rfl ?_
              exact ⟨sa, cc, by rw [HPF.out]; rfl, by rw [HPF.out]; exact (T8.fin _).1, (T8.fin _).2⟩
            · obtain ⟨f2, f3⟩ := ne_bb h2
              have HPF : Hid (P = (0, [], ck)) := Lib.hid (by rw [HPP.out, if_neg (by simp [h1]), if_pos h2])
              clear h1 h2 HPP
              go_wp2_with (first | (go_at_call 22; (with_reducible refine (CEnd.out _ TZ.out).mono ?_); rintro e w7 ⟨rfl, T7⟩) | (with_reducible refine wpList_load_row rfl 27 (.tmp 5) rfl b2 rfl 27 #[.int .u64 seq, .slice sa acc.length cc] (0, 0) _ T7.own2 Try.underlying27 rfl (info_bat2 _ _) ?_) | (go_at_call 10; (with_reducible refine (CC.out _ T7).mono ?_); rintro e w8 ⟨rfl, T8⟩; clear T7) | (with_reducible refine wpList_store_row rfl 27 (.tmp 2) (.tmp 45) rfl w.heap.size #[.int .u64 0, .slice none 0 0] rfl rfl 27 #[.int .u64 0, .slice none 0 0] T8.own (info_bat2 _ _) (bat_size _ _ _ _) (bat_one _ _ _ _) ?_))
              refine bodyPost_ret (res_row_tmp Try.results7 _ _ w.heap.size 27 #[.int .u64 0, .slice none 0 0] (0, 0) _ rfl (setRow_heap _ _ _ _ _ _ T8.own) Try.underlying27 rfl (info_bat2 _ _)) rfl ?_
              exact ⟨none, 0, by rw [HPF.out]; rfl, by rw [HPF.out]; exact ⟨.inl rfl⟩, (T8.fin _).2⟩
          · obtain ⟨f0, f1⟩ := ne_bb h1
            have HPF : Hid (P = (0, [], en)) := Lib.hid (by rw [HPP.out, if_pos h1])
            clear h1 HPP
            go_wp2_with (first | (go_at_call 22; (with_reducible refine (CEnd.out _ TZ.out).mono ?_); rintro e w7 ⟨rfl, T7⟩) | (with_reducible refine wpList_store_row rfl 27 (.tmp 2) (.tmp 45) rfl w.heap.size #[.int .u64 0, .slice none 0 0] rfl rfl 27 #[.int .u64 0, .slice none 0 0] T7.own (info_bat2 _ _) (bat_size _ _ _ _) (bat_one _ _ _ _) ?_))
            refine bodyPost_ret (res_row_tmp Try.results7 _ _ w.heap.size 27 #[.int .u64 0, .slice none 0 0] (0, 0) _ rfl (setRow_heap _ _ _ _ _ _ T7.own) Try.underlying27 rfl (info_bat2 _ _)) rfl ?_
            exact ⟨none, 0, by rw [HPF.out]; rfl, by rw [HPF.out]; exact ⟨.inl rfl⟩, (T7.fin _).2⟩
        · clear hgo
          go_upto_region 10 with fail
          have TZ := HT
          by_cases h1 : en = 0
          · obtain ⟨f0, f1⟩ := eq_bb h1
            by_cases h2 : ck = 0
            · obtain ⟨f2, f3⟩ := eq_bb h2
              have HPF : Hid (P = (seq, acc, 0)) := Lib.hid (by rw [HPP.out, if_neg (by simp [h1]), if_neg (by simp [h2])])
              clear h1 h2 HPP
              go_wp2_with (first | (go_at_call 22; (with_reducible refine (CEnd.out _ TZ.out).mono ?_); rintro e w7 ⟨rfl, T7⟩) | (with_reducible refine wpList_load_row rfl 27 (.tmp 5) rfl b2 rfl 27 #[.int .u64 seq, .slice sa acc.length cc] (0, 0) _ T7.own2 Try.underlying27 rfl (info_bat2 _ _) ?_) | (go_at_call 10; (with_reducible refine (CC.out _ T7).mono ?_); rintro e w8 ⟨rfl, T8⟩; clear T7) | (with_reducible refine wpList_load_row rfl 27 (.tmp 5) rfl b2 rfl 27 #[.int .u64 seq, .slice sa acc.length cc] (0, 0) _ T8.own2 Try.underlying27 rfl (info_bat2 _ _) ?_) | (with_reducible refine wpList_store_row rfl 27 (.tmp 2) (.tmp 47) rfl w.heap.size #[.int .u64 seq, .slice sa acc.length cc] rfl rfl 27 #[.int .u64 0, .slice none 0 0] T8.own (info_bat2 _ _) (bat_size _ _ _ _) (bat_one _ _ _ _) ?_))
              refine bodyPost_ret (res_row_tmp Try.results7 _ _ w.heap.size 27 #[.int .u64 seq, .slice sa acc.length cc] (0, 0) _ rfl (setRow_heap _ _ _ _ _ _ T8.own) Try.underlying27 rfl (info_bat2 _ _)) rfl ?_
              exact ⟨sa, cc, by rw [HPF.out]; rfl, by rw [HPF.out]; exact (T8.fin _).1, (T8.fin _).2⟩
            · obtain ⟨f2, f3⟩ := ne_bb h2
              have HPF : Hid (P = (0, [], ck)) := Lib.hid (by rw [HPP.out, if_neg (by simp [h1]), if_pos h2])
              clear h1 h2 HPP
              go_wp2_with (first | (go_at_call 22; (with_reducible refine (CEnd.out _ TZ.out).mono ?_); rintro e w7 ⟨rfl, T7⟩) | (with_reducible refine wpList_load_row rfl 27 (.tmp 5) rfl b2 rfl 27 #[.int .u64 seq, .slice sa acc.length cc] (0, 0) _ T7.own2 Try.underlying27 rfl (info_bat2 _ _) ?_) | (go_at_call 10; (with_reducible refine (CC.out _ T7).mono ?_); rintro e w8 ⟨rfl, T8⟩; clear T7) | (with_reducible refine wpList_store_row rfl 27 (.tmp 2) (.tmp 45) rfl w.heap.size #[.int .u64 0, .slice none 0 0] rfl rfl 27 #[.int .u64 0, .slice none 0 0] T8.own (info_bat2 _ _) (bat_size _ _ _ _) (bat_one _ _ _ _) ?_))
              refine bodyPost_ret (res_row_tmp Try.results7 _ _ w.heap.size 27 #[.int .u64 0, .slice none 0 0] (0, 0) _ rfl (setRow_heap _ _ _ _ _ _ T8.own) Try.underlying27 rfl (info_bat2 _ _)) rfl ?_
              exact ⟨none, 0, by rw [HPF.out]; rfl, by rw [HPF.out]; exact ⟨.inl rfl⟩, (T8.fin _).2⟩
          · obtain ⟨f0, f1⟩ := ne_bb h1
            have HPF : Hid (P = (0, [], en)) := Lib.hid (by rw [HPP.out, if_pos h1])
            clear h1 HPP
            go_wp2_with (first | (go_at_call 22; (with_reducible refine (CEnd.out _ TZ.out).mono ?_); rintro e w7 ⟨rfl, T7⟩) | (with_reducible refine wpList_store_row rfl 27 (.tmp 2) (.tmp 45) rfl w.heap.size #[.int .u64 0, .slice none 0 0] rfl rfl 27 #[.int .u64 0, .slice none 0 0] T7.own (info_bat2 _ _) (bat_size _ _ _ _) (bat_one _ _ _ _) ?_))
            refine bodyPost_ret (res_row_tmp Try.results7 _ _ w.heap.size 27 #[.int .u64 0, .slice none 0 0] (0, 0) _ rfl (setRow_heap _ _ _ _ _ _ T7.own) Try.underlying27 rfl (info_bat2 _ _)) rfl ?_
            exact ⟨none, 0, by rw [HPF.out]; rfl, by rw [HPF.out]; exact ⟨.inl rfl⟩, (T7.fin _).2⟩
end Go.Proofs.Ythhgijjdddcchaa
