/-
  The walk of CandleFolds: one behind another is both; how far it went.
-/
import Derived.Test.YtfhbmeebkhefhaaCanLaw
namespace Go.Proofs.Ytfhbmeebkhefhaa
open Go.RowKit
set_option linter.unusedVariables false
set_option linter.unusedSimpArgs false

theorem fold_err {L : List CandleR} {n : Nat} {r : List CandleR} {e : Int} (h : FoldIs L n r e) : e = 0 ∨ e = 24 := by
  rcases h with ⟨_, h, _⟩ | ⟨_, h, _⟩ <;> simp [h]
theorem small9 (a : Int) (w : (Lit.int .u8 a).wf = true) : ∃ p : Nat, p < 9 ∧ a.tmod 9 = (p : Int) := by
  have h := wfU8 w
  refine ⟨(a.tmod 9).toNat, ?_, ?_⟩ <;> rw [Int.tmod_eq_emod_of_nonneg h.1] <;> omega
theorem fold_ok {L : List CandleR} {n : Nat} {x : List CandleR} {e : Int} (h : FoldIs L n x e) (hL : ∀ c ∈ L, c.ok 1000) (hl : L.length ≤ 100) (ht : ∀ c ∈ L, c.trades = 1) : ∀ c ∈ x, c.ok 1000 := by
  have key : ∀ (l : List CandleR) (c : CandleR) (K : Int), 0 ≤ K → c.ok K → (∀ x ∈ l, x.ok 1) → (joinA c l).1.ok (K + l.length) := by
    intro l
    induction l with
    | nil => intro c K h0 hc _; simpa [joinA] using hc
    | cons d l ih =>
      intro c K h0 hc hl
      unfold joinA
      split
      · have h := ih (joinC c d).1 (K + 1) (by omega) (joinC_ok hc (hl d List.mem_cons_self) h0 (by omega)) fun x hx => hl x (List.mem_cons_of_mem _ hx)
        refine ⟨h.size, h.t0, ?_⟩
        have := h.t1
        simp only [List.length_cons]
        omega
      · exact zero_ok _ (by omega)
  rcases h with ⟨_, _, rfl⟩ | ⟨_, _, rfl⟩
  · intro c hc
    simp only [List.mem_map, List.mem_range] at hc
    obtain ⟨k, hk, rfl⟩ := hc
    have h := key (chunkOf L n k) zeroC 0 (by omega) (zero_ok 0 (by omega)) (fun x hx => ⟨(hL x (chunkOf_mem hx)).size, (hL x (chunkOf_mem hx)).t0, by rw [ht x (chunkOf_mem hx)]; omega⟩)
    have h2 : (chunkOf L n k).length ≤ 100 := by rw [chunkOf_length]; omega
    exact ⟨h.size, h.t0, by have := h.t1; unfold joinL; omega⟩
  · intro c hc; simp at hc
theorem ones_one (l : List (Int × Int)) : ∀ c ∈ onesOf l, c.trades = 1 := by
  intro c hc
  simp only [onesOf, List.mem_map] at hc
  obtain ⟨r, _, rfl⟩ := hc
  rfl
theorem ticks_ok1 (l : List TradeR) (hg : ∀ r ∈ l, r.good) : ∀ r ∈ ticksOf l, in64 r.1 = true := by
  intro r hr
  simp only [ticksOf, List.mem_map] at hr
  obtain ⟨t, h1, rfl⟩ := hr
  rw [in64_iff]
  exact (hg t h1).price

set_option maxRecDepth 100000 in
set_option maxHeartbeats 8000000 in
theorem CandleFolds_walk (a0 : Option Addr) (l0 : List TradeR) (c0 : Nat) (a1 a2 : Int) (W : World) (hr : RowsAt W a0 4 TradeR.row l0) (hg : ∀ r ∈ l0, r.good) (hb : l0.length ≤ c0) (hm : c0 ≤ maxLen) (w1 : (Lit.int .u8 a1).wf = true) (w2 : (Lit.int .u8 a2).wf = true) :
    Calls Try.prog 4 #[.slice a0 l0.length c0, .int .u8 a1, .int .u8 a2] W fun e w' => e = .returned (.bool true) ∧ Below W.heap.size W w' := by
  have AW : Hid (∀ wx, Calls Try.prog 5 #[] wx fun e w' => e = .returned (.bool true) ∧ Below wx.heap.size wx w') := Lib.hid awake35
  have hB0 : Below W.heap.size W W := Below.refl _ _
  by_cases hbig : 100 < l0.length
  · go_enter Try.func4, Try.ntmps4
    go_wp2_with (go_at_call 5; (with_reducible refine (AW.out _).mono ?_); rintro e w1 ⟨rfl, hB⟩)
    go_ret
    exact ⟨rfl, hB⟩
  · have hsl : (ticksOf l0).length = l0.length := by simp [ticksOf]
    have hol : (onesOf (ticksOf l0)).length = l0.length := by simp [onesOf, ticksOf]
    have HR := Lib.hid hr
    have hok := ticks_ok l0 hg
    have HG := Lib.hid hg
    obtain ⟨p, hp, hp2⟩ := small9 a1 w1
    obtain ⟨q, hq, hq2⟩ := small9 a2 w2
    obtain ⟨n, hn⟩ : ∃ n, n = 1 + p := ⟨_, rfl⟩
    obtain ⟨m, hmm⟩ : ∃ m, m = 1 + q := ⟨_, rfl⟩
    have hwp : IntKind.u8.wrap (p : Int) = (p : Int) := by simp [IntKind.wrap, IntKind.bits, IntKind.signed]; omega
    have hwq : IntKind.u8.wrap (q : Int) = (q : Int) := by simp [IntKind.wrap, IntKind.bits, IntKind.signed]; omega
    have hip : IntKind.i64.wrap (p : Int) = (p : Int) := IntWalk.i64_in _ (by omega)
    have hiq : IntKind.i64.wrap (q : Int) = (q : Int) := IntWalk.i64_in _ (by omega)
    have hnp : IntKind.i64.wrap (1 + (p : Int)) = (n : Int) := by rw [IntWalk.i64_in _ (by omega)]; omega
    have hnq : IntKind.i64.wrap (1 + (q : Int)) = (m : Int) := by rw [IntWalk.i64_in _ (by omega)]; omega
    have hnm : n * m ≤ 9 * 9 := Nat.mul_le_mul (by omega) (by omega)
    have hnm1 : 1 ≤ n * m := Nat.mul_pos (by omega) (by omega)
    obtain ⟨N, hN⟩ : ∃ N, N = n * m := ⟨_, rfl⟩
    have hnmw : IntKind.i64.wrap ((n : Int) * (m : Int)) = (N : Int) := by
      have e : (n : Int) * (m : Int) = ((n * m : Nat) : Int) := by rw [Int.natCast_mul]
      rw [e, IntWalk.i64_in _ (by omega), hN]
    have hn1 : 1 ≤ n := by omega
    have hm1 : 1 ≤ m := by omega
    have hN1 : 1 ≤ N := by omega
    have hn9 : n ≤ 9 := by omega
    have hm9 : m ≤ 9 := by omega
    have hN81 : N ≤ 81 := by omega
    have HN := Lib.hid hN
    clear hN hn hmm hnm hnm1
    have HTR : Hid (∀ wx, Below W.heap.size W wx → Calls Try.prog 8 #[.slice a0 l0.length c0] wx fun e w' => ∃ B d, e = .returned (.slice B l0.length d) ∧ Hid (RowsAt w' B 2 tickRow (ticksOf l0)) ∧ Below wx.heap.size wx w') := Lib.hid fun wx hx =>
      (candle_trades l0 a0 c0 wx (HR.out.moved hx) (by omega)).mono fun _ _ ⟨B, d, h1, h2, h3, h4⟩ => ⟨B, d, h1, Lib.hid h2, h3⟩
    have HOF : ∀ n : Nat, 1 ≤ n → n ≤ 81 → Hid (∀ wx B d, RowsAt wx B 2 tickRow (ticksOf l0) → Calls Try.prog 7 #[.slice B l0.length d, .int .i64 (n : Int)] wx fun e w' => ∃ A c res er, e = .returned (.tuple #[.slice A res.length c, .int .i64 er]) ∧ Hid (FoldIs (onesOf (ticksOf l0)) n res er) ∧ Hid (RowsAt w' A 6 CandleR.row res) ∧ Below wx.heap.size wx w' ∧ Hid (res.length ≤ c)) := fun n h1 h2 => Lib.hid fun wx B d hx => by
      rw [← hsl]
      exact (candle_of (ticksOf l0) B d n wx hx hok (by omega) h1 (by omega)).mono fun _ _ ⟨A, c, res, er, h1, h2, h3, h4, h5⟩ => ⟨A, c, res, er, h1, Lib.hid h2, Lib.hid h3, h4, Lib.hid h5⟩
    have HO1 := HOF n hn1 (by omega)
    have HO2 := HOF N hN1 (by omega)
    have HFO : Hid (∀ wx A c x e, FoldIs (onesOf (ticksOf l0)) n x e → RowsAt wx A 6 CandleR.row x → x.length ≤ c → Calls Try.prog 11 #[.slice A x.length c, .int .i64 (m : Int)] wx fun e w' => ∃ A c res er, e = .returned (.tuple #[.slice A res.length c, .int .i64 er]) ∧ Hid (FoldIs x m res er) ∧ Hid (RowsAt w' A 6 CandleR.row res) ∧ Below wx.heap.size wx w') := Lib.hid fun wx A c x e hF hx hc =>
      (candle_fold x A c m wx hx (fold_ok hF (ones_ok _ hok) (by omega) (ones_one _)) (by have := fold_len hF hn1; omega) hc hm1 (by omega)).mono fun _ _ ⟨A, c, res, er, h1, h2, h3, h4, _⟩ => ⟨A, c, res, er, h1, Lib.hid h2, Lib.hid h3, h4⟩
    clear hr hg hb hm w1 w2 hok hsl HOF
    go_enter Try.func4, Try.ntmps4
    go_upto_region 9 with (first | (go_at_call 5; (with_reducible refine (AW.out _).mono ?_); rintro e w1 ⟨rfl, hB1⟩; have hBT := hB1) | (go_at_call 8; (with_reducible refine (HTR.out _ hBT).mono ?_); rintro e w2 ⟨T, dt, rfl, R3, hB2⟩) | (go_at_call 7; (with_reducible refine (HO1.out _ _ _ R3.out).mono ?_); rintro e w3 ⟨A3, c3, x, er, rfl, F3, R4, hB3, hx3⟩) | (go_at_call 7; (with_reducible refine (HO2.out _ _ _ R3.out).mono ?_); rintro e w6 ⟨A6, c6, z, er3, rfl, F6, R6, hB6, hx6⟩) | (go_at_call 11; (with_reducible refine (HFO.out _ _ _ _ _ F3.out R4.out hx3.out).mono ?_); rintro e w4 ⟨A4, c4, y, er2, rfl, F4, R5, hB4⟩; have hBT := below_at (below_at (below_at hBT hB2) hB3) hB4))
    have hBF : Below W.heap.size W w6 := below_at (below_at hBT hB2) hB6
    have HBF := Lib.hid hBF
    have e1 := fold_err F3.out
    have e2 := fold_err F4.out
    have e3 := fold_err F6.out
    have hfin := fun (h1 : er = 0) (h2 : er2 = 0) (h3 : er3 = 0) => fold_fold hn1 hm1 (ones_pos (ticksOf l0)) (by have h := F3.out; rw [h1] at h; exact h) (by have h := F4.out; rw [h2] at h; exact h) (by have h := F6.out; rw [h3, HN.out] at h; exact h)
    have HFIN := Lib.hid hfin
    have HFI : Hid (er3 = 0 → ∀ c ∈ z, c.fine) := Lib.hid fun h3 => fold_fine hN1 (ones_pos _) (ones_fine _ (ticks_ok1 l0 HG.out)) (by have h := F6.out; rw [h3] at h; exact h)
    have hlz := fold_len F6.out hN1
    have RY := Lib.hid (R5.out.moved (hB2.trans (hB6.mono hB2.size)))
    have hzl : z.length ≤ 100 := by omega
    clear hfin hBF hB1 hB2 hB3 hB4 hB6 hBT hlz R5 R3 R4 F3 F4 F6 HO1 HO2 HFO HTR AW HR HG hol hx3 hx6
    rcases e1 with rfl | rfl
    rotate_left
    · go_wp2
      go_ret
      exact ⟨rfl, HBF.out⟩
    rcases e2 with rfl | rfl
    rotate_left
    · go_wp2
      go_ret
      exact ⟨rfl, HBF.out⟩
    rcases e3 with rfl | rfl
    rotate_left
    · go_wp2
      go_ret
      exact ⟨rfl, HBF.out⟩
    obtain rfl := HFIN.out rfl rfl rfl
    have HFI2 := Lib.hid (HFI.out rfl)
    clear HFIN HFI
    go_wp2
    go_loopw [72] (fun v72 wr => ∃ k : Nat, k ≤ y.length ∧ v72 = .int .i64 (k : Int) ∧ Below w6.heap.size w6 wr) (fun v _ => y.length - (intOf v).toNat)
    case atStart => exact ⟨0, by omega, rfl, Below.refl _ _⟩
    case round =>
      obtain ⟨k, hk, rfl, hB⟩ := hrel
      by_cases hlt : k < y.length
      · obtain ⟨b, o, rfl, g0, g1, g2, g3, g4, g5⟩ := candle_cells (RY.out.moved hB) k hlt
        obtain ⟨b2, o2, rfl, d0, d1, d2, d3, d4, d5⟩ := candle_cells (R6.out.moved hB) k hlt
        obtain ⟨x, hx⟩ : ∃ x, x = y[k] := ⟨_, rfl⟩
        rw [← hx] at g0 g1 g2 g3 g4 g5 d0 d1 d2 d3 d4 d5
        clear hx
        go_wp2
        go_quiet (fail)
        go_wp2
        go_roundw
        case rel => exact ⟨k + 1, by omega, by go_num, below_drewN hB _⟩
        case measure => simp [intOf]; omega
      · obtain ⟨w7, rfl⟩ : ∃ x, x = wr := ⟨_, rfl⟩
        go_wp2
        go_loopw [87] (fun v87 wr => ∃ k : Nat, k ≤ y.length ∧ v87 = .int .i64 (k : Int) ∧ Below w6.heap.size w6 wr) (fun v _ => y.length - (intOf v).toNat)
        case atStart => exact ⟨0, by omega, rfl, hB⟩
        case round =>
          obtain ⟨k, hk, rfl, hB⟩ := hrel
          by_cases hlt : k < y.length
          · obtain ⟨b2, o2, rfl, d0, d1, d2, d3, d4, d5⟩ := candle_cells (R6.out.moved hB) k hlt
            have hxf := HFI2.out y[k] (List.getElem_mem hlt)
            obtain ⟨x, hx⟩ : ∃ x, x = y[k] := ⟨_, rfl⟩
            rw [← hx] at d0 d1 d2 d3 d4 d5 hxf
            clear hx
            have hxb := fun wx => body35 x wx hxf.f hxf.l
            have BO : Hid (∀ wx, Calls Try.prog 13 #[.agg x.arr] wx fun e w' => e = .returned (.int .i64 (bodyOf x)) ∧ Below wx.heap.size wx w') := Lib.hid hxb
            have SU : Hid (∀ wx, Calls Try.prog 12 #[.int .i64 x.last, .int .i64 x.first] wx fun e w' => e = .returned (.tuple #[.int .i64 (fits64 (x.last - x.first)), .int .i64 (over64 (x.last - x.first))]) ∧ Drew wx w') := Lib.hid fun wx => ref_sub x.last x.first wx hxf.l hxf.f
            have q1 : decide (x.high < x.low) = false := by have := hxf.lh; simp; omega
            have q2 : decide (x.first < x.low) = false := by have := hxf.lf; simp; omega
            have q3 : decide (x.high < x.last) = false := by have := hxf.hl; simp; omega
            have q4 : ¬ x.high < x.low := by simpa using q1
            have q5 : ¬ x.first < x.low := by simpa using q2
            have q6 : ¬ x.high < x.last := by simpa using q3
            clear hxb hxf
            have HBO : bodyOf x = if in64 (x.last - x.first) = true then x.last - x.first else if x.last < x.first then -9223372036854775808 else 9223372036854775807 := rfl
            rw [HBO] at BO
            clear HBO
            obtain ⟨x0, x1, x2, x3, x4, x5⟩ := x
            simp only at d0 d1 d2 d3 d4 d5 BO SU q1 q2 q3 q4 q5 q6
            by_cases hz : in64 (x3 - x0) = true
            · rw [if_pos hz] at BO
              rw [show fits64 (x3 - x0) = x3 - x0 by simp [fits64, hz], show over64 (x3 - x0) = 0 by simp [over64, hz]] at SU
              clear hz
              obtain ⟨D, hD⟩ : ∃ D, D = x3 - x0 := ⟨_, rfl⟩
              rw [← hD] at BO SU
              clear hD
              go_upto_region 23 with (go_at_call 12; (with_reducible refine (SU.out _).mono ?_); rintro e w8 ⟨rfl, ⟨nd, rfl⟩⟩)
              have K7 : ((wr.alloc (.cells #[.int .i64 x0, .int .i64 x1, .int .i64 x2, .int .i64 x3, .int .i64 x4, .int .i64 x5] 42)).drewN nd).heap[wr.heap.size]? = some (.cells (CandleR.arr ⟨x0, x1, x2, x3, x4, x5⟩) 42 (0, 0)) := heap_alloc_new _ _
              have hB7 : Below w6.heap.size w6 ((wr.alloc (.cells #[.int .i64 x0, .int .i64 x1, .int .i64 x2, .int .i64 x3, .int .i64 x4, .int .i64 x5] 42)).drewN nd) := below_drewN (hB.alloc hB.size _) nd
              generalize (wr.alloc (.cells #[.int .i64 x0, .int .i64 x1, .int .i64 x2, .int .i64 x3, .int .i64 x4, .int .i64 x5] 42)).drewN nd = W7 at K7 hB7 ⊢
              clear d0 d1 d2 d3 d4 d5 SU
              refine wp_region_held_drew (S := fun wx => wx.heap[wr.heap.size]? = some (.cells (CandleR.arr ⟨x0, x1, x2, x3, x4, x5⟩) 42 (0, 0)) ∧ Below w6.heap.size w6 wx) (by kernel_rfl) ⟨K7, below_drew1 hB7⟩ (fun hHeld => ?_)
              refine wpAnyH_take (i := 0) (v := ?_) (by (try simp only [List.getElem?_toArray, List.getElem?_cons_succ, List.getElem?_cons_zero]); exact rfl) (by kernel_rfl) (by kernel_rfl) (by kernel_rfl) (by intro _ _ _ h; exact h) (Or.inl ⟨by rfl, ?_⟩) hHeld ?_
              rotate_left
              · intro w hSw
                obtain ⟨z0, z1, z2, z3, z4, z5⟩ := heap_cells_ok hSw.1
                simp only at z0 z1 z2 z3 z4 z5
                go_simp
                all_goals (with_reducible rfl)
              simp only [Act.put, List.setIfInBounds_toArray, List.set_cons_zero, List.set_cons_succ]
              refine wpAnyH_take (i := 1) (v := ?_) (by (try simp only [List.getElem?_toArray, List.getElem?_cons_succ, List.getElem?_cons_zero]); exact rfl) (by kernel_rfl) (by kernel_rfl) (by kernel_rfl) (by intro _ _ _ h; exact h) (Or.inl ⟨by rfl, ?_⟩) hHeld ?_
              rotate_left
              · intro w hSw
                obtain ⟨z0, z1, z2, z3, z4, z5⟩ := heap_cells_ok hSw.1
                simp only at z0 z1 z2 z3 z4 z5
                go_simp
                all_goals (with_reducible rfl)
              simp only [Act.put, List.setIfInBounds_toArray, List.set_cons_zero, List.set_cons_succ]
              refine wpAnyH_take (i := 2) (v := ?_) (by (try simp only [List.getElem?_toArray, List.getElem?_cons_succ, List.getElem?_cons_zero]); exact rfl) (by kernel_rfl) (by kernel_rfl) (by kernel_rfl) (by intro _ _ _ h; exact h) (Or.inl ⟨by rfl, ?_⟩) hHeld ?_
              rotate_left
              · intro w hSw
                obtain ⟨z0, z1, z2, z3, z4, z5⟩ := heap_cells_ok hSw.1
                simp only at z0 z1 z2 z3 z4 z5
                go_simp
                all_goals (with_reducible rfl)
              simp only [Act.put, List.setIfInBounds_toArray, List.set_cons_zero, List.set_cons_succ]
              refine wpAnyH_take (i := 3) (v := ?_) (by (try simp only [List.getElem?_toArray, List.getElem?_cons_succ, List.getElem?_cons_zero]); exact rfl) (by kernel_rfl) (by kernel_rfl) (by kernel_rfl) (by intro _ _ _ h; exact h) (Or.inl ⟨by rfl, ?_⟩) hHeld ?_
              rotate_left
              · intro w hSw
                obtain ⟨z0, z1, z2, z3, z4, z5⟩ := heap_cells_ok hSw.1
                simp only at z0 z1 z2 z3 z4 z5
                go_simp
                all_goals (with_reducible rfl)
              simp only [Act.put, List.setIfInBounds_toArray, List.set_cons_zero, List.set_cons_succ]
              refine wpAnyH_take (i := 5) (v := ?_) (by (try simp only [List.getElem?_toArray, List.getElem?_cons_succ, List.getElem?_cons_zero]); exact rfl) (by kernel_rfl) (by kernel_rfl) (by kernel_rfl) (by intro _ _ _ h; exact h) (Or.inl ⟨by rfl, ?_⟩) hHeld ?_
              rotate_left
              · intro w hSw
                obtain ⟨z0, z1, z2, z3, z4, z5⟩ := heap_cells_ok hSw.1
                simp only at z0 z1 z2 z3 z4 z5
                go_simp
                all_goals (with_reducible rfl)
              simp only [Act.put, List.setIfInBounds_toArray, List.set_cons_zero, List.set_cons_succ]
              refine wpAnyH_ready (rs := [4]) (by kernel_rfl) (by simp) ?_
              refine AllReadyH.cons (by (try simp only [List.getElem?_toArray, List.getElem?_cons_succ, List.getElem?_cons_zero]); exact rfl) (fun K hK => ?_) AllReadyH.nil
              rw [if_pos (by rfl)]
              go_simp
              go_at_call 13
              refine (BO.out _).mono ?_
              rintro e w9 ⟨rfl, hB9⟩
              go_wp2_with fail
              refine hK.out _ _ ⟨(hB9.block _ (heap_lt hHeld.1)).trans hHeld.1, hHeld.2.trans (hB9.mono hHeld.2.size)⟩ (fun hHeld => ?_)
              clear hK K
              (try simp only [Act.put, List.setIfInBounds_toArray, List.set_cons_zero, List.set_cons_succ])
              refine wpAnyH_take (i := 6) (v := ?_) (by (try simp only [List.getElem?_toArray, List.getElem?_cons_succ, List.getElem?_cons_zero]); exact rfl) (by kernel_rfl) (by kernel_rfl) (by kernel_rfl) (by intro _ _ _ h; exact h) (Or.inl ⟨by rfl, ?_⟩) hHeld ?_
              rotate_left
              · intro w hSw
                obtain ⟨z0, z1, z2, z3, z4, z5⟩ := heap_cells_ok hSw.1
                simp only at z0 z1 z2 z3 z4 z5
                go_simp
                all_goals (with_reducible rfl)
              simp only [Act.put, List.setIfInBounds_toArray, List.set_cons_zero, List.set_cons_succ]
              refine wpAnyH_take (i := 7) (v := ?_) (by (try simp only [List.getElem?_toArray, List.getElem?_cons_succ, List.getElem?_cons_zero]); exact rfl) (by kernel_rfl) (by kernel_rfl) (by kernel_rfl) (by intro _ _ _ h; exact h) (Or.inl ⟨by rfl, ?_⟩) hHeld ?_
              rotate_left
              · intro w hSw
                obtain ⟨z0, z1, z2, z3, z4, z5⟩ := heap_cells_ok hSw.1
                simp only at z0 z1 z2 z3 z4 z5
                go_simp
                all_goals (with_reducible rfl)
              simp only [Act.put, List.setIfInBounds_toArray, List.set_cons_zero, List.set_cons_succ]
              refine wpAnyH_take (i := 8) (v := ?_) (by (try simp only [List.getElem?_toArray, List.getElem?_cons_succ, List.getElem?_cons_zero]); exact rfl) (by kernel_rfl) (by kernel_rfl) (by kernel_rfl) (by intro _ _ _ h; exact h) (Or.inl ⟨by rfl, ?_⟩) hHeld ?_
              rotate_left
              · intro w hSw
                obtain ⟨z0, z1, z2, z3, z4, z5⟩ := heap_cells_ok hSw.1
                simp only at z0 z1 z2 z3 z4 z5
                go_simp
                all_goals (with_reducible rfl)
              simp only [Act.put, List.setIfInBounds_toArray, List.set_cons_zero, List.set_cons_succ]
              refine wpAnyH_take (i := 9) (v := ?_) (by (try simp only [List.getElem?_toArray, List.getElem?_cons_succ, List.getElem?_cons_zero]); exact rfl) (by kernel_rfl) (by kernel_rfl) (by kernel_rfl) (by intro _ _ _ h; exact h) (Or.inl ⟨by rfl, ?_⟩) hHeld ?_
              rotate_left
              · intro w hSw
                obtain ⟨z0, z1, z2, z3, z4, z5⟩ := heap_cells_ok hSw.1
                simp only at z0 z1 z2 z3 z4 z5
                go_simp
                all_goals (with_reducible rfl)
              simp only [Act.put, List.setIfInBounds_toArray, List.set_cons_zero, List.set_cons_succ]
              refine wpAnyH_take (i := 10) (v := ?_) (by (try simp only [List.getElem?_toArray, List.getElem?_cons_succ, List.getElem?_cons_zero]); exact rfl) (by kernel_rfl) (by kernel_rfl) (by kernel_rfl) (by intro _ _ _ h; exact h) (Or.inl ⟨by rfl, ?_⟩) hHeld ?_
              rotate_left
              · intro w hSw
                obtain ⟨z0, z1, z2, z3, z4, z5⟩ := heap_cells_ok hSw.1
                simp only at z0 z1 z2 z3 z4 z5
                go_simp
                all_goals (with_reducible rfl)
              simp only [Act.put, List.setIfInBounds_toArray, List.set_cons_zero, List.set_cons_succ]
              refine wpAnyH_take (i := 11) (v := ?_) (by (try simp only [List.getElem?_toArray, List.getElem?_cons_succ, List.getElem?_cons_zero]); exact rfl) (by kernel_rfl) (by kernel_rfl) (by kernel_rfl) (by intro _ _ _ h; exact h) (Or.inl ⟨by rfl, ?_⟩) hHeld ?_
              rotate_left
              · intro w hSw
                obtain ⟨z0, z1, z2, z3, z4, z5⟩ := heap_cells_ok hSw.1
                simp only at z0 z1 z2 z3 z4 z5
                go_simp
                all_goals (with_reducible rfl)
              simp only [Act.put, List.setIfInBounds_toArray, List.set_cons_zero, List.set_cons_succ]
              refine wpAnyH_take (i := 12) (v := undef) (by (try simp only [List.getElem?_toArray, List.getElem?_cons_succ, List.getElem?_cons_zero]); exact rfl) (by kernel_rfl) (by kernel_rfl) (by kernel_rfl) (by intro _ _ _ h; exact h) (Or.inr ⟨by rfl, rfl⟩) hHeld ?_
              simp only [Act.put, List.setIfInBounds_toArray, List.set_cons_zero, List.set_cons_succ]
              refine wpAnyH_take (i := 13) (v := undef) (by (try simp only [List.getElem?_toArray, List.getElem?_cons_succ, List.getElem?_cons_zero]); exact rfl) (by kernel_rfl) (by kernel_rfl) (by kernel_rfl) (by intro _ _ _ h; exact h) (Or.inr ⟨by rfl, rfl⟩) hHeld ?_
              simp only [Act.put, List.setIfInBounds_toArray, List.set_cons_zero, List.set_cons_succ]
              refine wpAnyH_take (i := 14) (v := undef) (by (try simp only [List.getElem?_toArray, List.getElem?_cons_succ, List.getElem?_cons_zero]); exact rfl) (by kernel_rfl) (by kernel_rfl) (by kernel_rfl) (by intro _ _ _ h; exact h) (Or.inr ⟨by rfl, rfl⟩) hHeld ?_
              simp only [Act.put, List.setIfInBounds_toArray, List.set_cons_zero, List.set_cons_succ]
              refine wpAnyH_take (i := 15) (v := undef) (by (try simp only [List.getElem?_toArray, List.getElem?_cons_succ, List.getElem?_cons_zero]); exact rfl) (by kernel_rfl) (by kernel_rfl) (by kernel_rfl) (by intro _ _ _ h; exact h) (Or.inr ⟨by rfl, rfl⟩) hHeld ?_
              simp only [Act.put, List.setIfInBounds_toArray, List.set_cons_zero, List.set_cons_succ]
              refine wpAnyH_take (i := 16) (v := undef) (by (try simp only [List.getElem?_toArray, List.getElem?_cons_succ, List.getElem?_cons_zero]); exact rfl) (by kernel_rfl) (by kernel_rfl) (by kernel_rfl) (by intro _ _ _ h; exact h) (Or.inr ⟨by rfl, rfl⟩) hHeld ?_
              simp only [Act.put, List.setIfInBounds_toArray, List.set_cons_zero, List.set_cons_succ]
              refine wpAnyH_take (i := 17) (v := undef) (by (try simp only [List.getElem?_toArray, List.getElem?_cons_succ, List.getElem?_cons_zero]); exact rfl) (by kernel_rfl) (by kernel_rfl) (by kernel_rfl) (by intro _ _ _ h; exact h) (Or.inr ⟨by rfl, rfl⟩) hHeld ?_
              simp only [Act.put, List.setIfInBounds_toArray, List.set_cons_zero, List.set_cons_succ]
              refine wpAnyH_take (i := 18) (v := undef) (by (try simp only [List.getElem?_toArray, List.getElem?_cons_succ, List.getElem?_cons_zero]); exact rfl) (by kernel_rfl) (by kernel_rfl) (by kernel_rfl) (by intro _ _ _ h; exact h) (Or.inr ⟨by rfl, rfl⟩) hHeld ?_
              simp only [Act.put, List.setIfInBounds_toArray, List.set_cons_zero, List.set_cons_succ]
              refine wpAnyH_take (i := 19) (v := undef) (by (try simp only [List.getElem?_toArray, List.getElem?_cons_succ, List.getElem?_cons_zero]); exact rfl) (by kernel_rfl) (by kernel_rfl) (by kernel_rfl) (by intro _ _ _ h; exact h) (Or.inr ⟨by rfl, rfl⟩) hHeld ?_
              simp only [Act.put, List.setIfInBounds_toArray, List.set_cons_zero, List.set_cons_succ]
              refine wpAnyH_take (i := 20) (v := undef) (by (try simp only [List.getElem?_toArray, List.getElem?_cons_succ, List.getElem?_cons_zero]); exact rfl) (by kernel_rfl) (by kernel_rfl) (by kernel_rfl) (by intro _ _ _ h; exact h) (Or.inr ⟨by rfl, rfl⟩) hHeld ?_
              simp only [Act.put, List.setIfInBounds_toArray, List.set_cons_zero, List.set_cons_succ]
              refine wpAnyH_take (i := 21) (v := ?_) (by (try simp only [List.getElem?_toArray, List.getElem?_cons_succ, List.getElem?_cons_zero]); exact rfl) (by kernel_rfl) (by kernel_rfl) (by kernel_rfl) (by intro _ _ _ h; exact h) (Or.inl ⟨by rfl, ?_⟩) hHeld ?_
              rotate_left
              · intro w hSw
                obtain ⟨z0, z1, z2, z3, z4, z5⟩ := heap_cells_ok hSw.1
                simp only at z0 z1 z2 z3 z4 z5
                go_simp
                all_goals (with_reducible rfl)
              simp only [Act.put, List.setIfInBounds_toArray, List.set_cons_zero, List.set_cons_succ]
              refine wpAnyH_take (i := 22) (v := ?_) (by (try simp only [List.getElem?_toArray, List.getElem?_cons_succ, List.getElem?_cons_zero]); exact rfl) (by kernel_rfl) (by kernel_rfl) (by kernel_rfl) (by intro _ _ _ h; exact h) (Or.inl ⟨by rfl, ?_⟩) hHeld ?_
              rotate_left
              · intro w hSw
                obtain ⟨z0, z1, z2, z3, z4, z5⟩ := heap_cells_ok hSw.1
                simp only at z0 z1 z2 z3 z4 z5
                go_simp
                all_goals (with_reducible rfl)
              simp only [Act.put, List.setIfInBounds_toArray, List.set_cons_zero, List.set_cons_succ]
              refine wpAnyH_take (i := 23) (v := ?_) (by (try simp only [List.getElem?_toArray, List.getElem?_cons_succ, List.getElem?_cons_zero]); exact rfl) (by kernel_rfl) (by kernel_rfl) (by kernel_rfl) (by intro _ _ _ h; exact h) (Or.inl ⟨by rfl, ?_⟩) hHeld ?_
              rotate_left
              · intro w hSw
                obtain ⟨z0, z1, z2, z3, z4, z5⟩ := heap_cells_ok hSw.1
                simp only at z0 z1 z2 z3 z4 z5
                go_simp
                all_goals (with_reducible rfl)
              simp only [Act.put, List.setIfInBounds_toArray, List.set_cons_zero, List.set_cons_succ]
              refine wpAnyH_take (i := 24) (v := ?_) (by (try simp only [List.getElem?_toArray, List.getElem?_cons_succ, List.getElem?_cons_zero]); exact rfl) (by kernel_rfl) (by kernel_rfl) (by kernel_rfl) (by intro _ _ _ h; exact h) (Or.inl ⟨by rfl, ?_⟩) hHeld ?_
              rotate_left
              · intro w hSw
                obtain ⟨z0, z1, z2, z3, z4, z5⟩ := heap_cells_ok hSw.1
                simp only at z0 z1 z2 z3 z4 z5
                go_simp
                all_goals (with_reducible rfl)
              simp only [Act.put, List.setIfInBounds_toArray, List.set_cons_zero, List.set_cons_succ]
              refine wpAnyH_take (i := 25) (v := ?_) (by (try simp only [List.getElem?_toArray, List.getElem?_cons_succ, List.getElem?_cons_zero]); exact rfl) (by kernel_rfl) (by kernel_rfl) (by kernel_rfl) (by intro _ _ _ h; exact h) (Or.inl ⟨by rfl, ?_⟩) hHeld ?_
              rotate_left
              · intro w hSw
                obtain ⟨z0, z1, z2, z3, z4, z5⟩ := heap_cells_ok hSw.1
                simp only at z0 z1 z2 z3 z4 z5
                go_simp
                all_goals (with_reducible rfl)
              simp only [Act.put, List.setIfInBounds_toArray, List.set_cons_zero, List.set_cons_succ]
              refine wpAnyH_take (i := 26) (v := ?_) (by (try simp only [List.getElem?_toArray, List.getElem?_cons_succ, List.getElem?_cons_zero]); exact rfl) (by kernel_rfl) (by kernel_rfl) (by kernel_rfl) (by intro _ _ _ h; exact h) (Or.inl ⟨by rfl, ?_⟩) hHeld ?_
              rotate_left
              · intro w hSw
                obtain ⟨z0, z1, z2, z3, z4, z5⟩ := heap_cells_ok hSw.1
                simp only at z0 z1 z2 z3 z4 z5
                go_simp
                all_goals (with_reducible rfl)
              simp only [Act.put, List.setIfInBounds_toArray, List.set_cons_zero, List.set_cons_succ]
              refine wpAnyH_take (i := 27) (v := ?_) (by (try simp only [List.getElem?_toArray, List.getElem?_cons_succ, List.getElem?_cons_zero]); exact rfl) (by kernel_rfl) (by kernel_rfl) (by kernel_rfl) (by intro _ _ _ h; exact h) (Or.inl ⟨by rfl, ?_⟩) hHeld ?_
              rotate_left
              · intro w hSw
                obtain ⟨z0, z1, z2, z3, z4, z5⟩ := heap_cells_ok hSw.1
                simp only at z0 z1 z2 z3 z4 z5
                go_simp
                all_goals (with_reducible rfl)
              simp only [Act.put, List.setIfInBounds_toArray, List.set_cons_zero, List.set_cons_succ]
              refine wpAnyH_take (i := 28) (v := ?_) (by (try simp only [List.getElem?_toArray, List.getElem?_cons_succ, List.getElem?_cons_zero]); exact rfl) (by kernel_rfl) (by kernel_rfl) (by kernel_rfl) (by intro _ _ _ h; exact h) (Or.inl ⟨by rfl, ?_⟩) hHeld ?_
              rotate_left
              · intro w hSw
                obtain ⟨z0, z1, z2, z3, z4, z5⟩ := heap_cells_ok hSw.1
                simp only at z0 z1 z2 z3 z4 z5
                go_simp
                all_goals (with_reducible rfl)
              simp only [Act.put, List.setIfInBounds_toArray, List.set_cons_zero, List.set_cons_succ]
              refine wpAnyH_take (i := 29) (v := ?_) (by (try simp only [List.getElem?_toArray, List.getElem?_cons_succ, List.getElem?_cons_zero]); exact rfl) (by kernel_rfl) (by kernel_rfl) (by kernel_rfl) (by intro _ _ _ h; exact h) (Or.inl ⟨by rfl, ?_⟩) hHeld ?_
              rotate_left
              · intro w hSw
                obtain ⟨z0, z1, z2, z3, z4, z5⟩ := heap_cells_ok hSw.1
                simp only at z0 z1 z2 z3 z4 z5
                go_simp
                all_goals (with_reducible rfl)
              simp only [Act.put, List.setIfInBounds_toArray, List.set_cons_zero, List.set_cons_succ]
              refine wpAnyH_take (i := 30) (v := ?_) (by (try simp only [List.getElem?_toArray, List.getElem?_cons_succ, List.getElem?_cons_zero]); exact rfl) (by kernel_rfl) (by kernel_rfl) (by kernel_rfl) (by intro _ _ _ h; exact h) (Or.inl ⟨by rfl, ?_⟩) hHeld ?_
              rotate_left
              · intro w hSw
                obtain ⟨z0, z1, z2, z3, z4, z5⟩ := heap_cells_ok hSw.1
                simp only at z0 z1 z2 z3 z4 z5
                go_simp
                all_goals (with_reducible rfl)
              simp only [Act.put, List.setIfInBounds_toArray, List.set_cons_zero, List.set_cons_succ]
              refine wpAnyH_take (i := 31) (v := ?_) (by (try simp only [List.getElem?_toArray, List.getElem?_cons_succ, List.getElem?_cons_zero]); exact rfl) (by kernel_rfl) (by kernel_rfl) (by kernel_rfl) (by intro _ _ _ h; exact h) (Or.inl ⟨by rfl, ?_⟩) hHeld ?_
              rotate_left
              · intro w hSw
                obtain ⟨z0, z1, z2, z3, z4, z5⟩ := heap_cells_ok hSw.1
                simp only at z0 z1 z2 z3 z4 z5
                go_simp
                all_goals (with_reducible rfl)
              simp only [Act.put, List.setIfInBounds_toArray, List.set_cons_zero, List.set_cons_succ]
              refine wpAnyH_take (i := 32) (v := ?_) (by (try simp only [List.getElem?_toArray, List.getElem?_cons_succ, List.getElem?_cons_zero]); exact rfl) (by kernel_rfl) (by kernel_rfl) (by kernel_rfl) (by intro _ _ _ h; exact h) (Or.inl ⟨by rfl, ?_⟩) hHeld ?_
              rotate_left
              · intro w hSw
                obtain ⟨z0, z1, z2, z3, z4, z5⟩ := heap_cells_ok hSw.1
                simp only at z0 z1 z2 z3 z4 z5
                go_simp
                all_goals (with_reducible rfl)
              simp only [Act.put, List.setIfInBounds_toArray, List.set_cons_zero, List.set_cons_succ]
              refine wpAnyH_take (i := 33) (v := ?_) (by (try simp only [List.getElem?_toArray, List.getElem?_cons_succ, List.getElem?_cons_zero]); exact rfl) (by kernel_rfl) (by kernel_rfl) (by kernel_rfl) (by intro _ _ _ h; exact h) (Or.inl ⟨by rfl, ?_⟩) hHeld ?_
              rotate_left
              · intro w hSw
                obtain ⟨z0, z1, z2, z3, z4, z5⟩ := heap_cells_ok hSw.1
                simp only at z0 z1 z2 z3 z4 z5
                go_simp
                all_goals (with_reducible rfl)
              simp only [Act.put, List.setIfInBounds_toArray, List.set_cons_zero, List.set_cons_succ]
              refine wpAnyH_take (i := 34) (v := ?_) (by (try simp only [List.getElem?_toArray, List.getElem?_cons_succ, List.getElem?_cons_zero]); exact rfl) (by kernel_rfl) (by kernel_rfl) (by kernel_rfl) (by intro _ _ _ h; exact h) (Or.inl ⟨by rfl, ?_⟩) hHeld ?_
              rotate_left
              · intro w hSw
                obtain ⟨z0, z1, z2, z3, z4, z5⟩ := heap_cells_ok hSw.1
                simp only at z0 z1 z2 z3 z4 z5
                go_simp
                all_goals (with_reducible rfl)
              simp only [Act.put, List.setIfInBounds_toArray, List.set_cons_zero, List.set_cons_succ]
              refine wpAnyH_take (i := 35) (v := ?_) (by (try simp only [List.getElem?_toArray, List.getElem?_cons_succ, List.getElem?_cons_zero]); exact rfl) (by kernel_rfl) (by kernel_rfl) (by kernel_rfl) (by intro _ _ _ h; exact h) (Or.inl ⟨by rfl, ?_⟩) hHeld ?_
              rotate_left
              · intro w hSw
                obtain ⟨z0, z1, z2, z3, z4, z5⟩ := heap_cells_ok hSw.1
                simp only at z0 z1 z2 z3 z4 z5
                go_simp
                all_goals (with_reducible rfl)
              simp only [Act.put, List.setIfInBounds_toArray, List.set_cons_zero, List.set_cons_succ]
              refine wpAnyH_take (i := 36) (v := ?_) (by (try simp only [List.getElem?_toArray, List.getElem?_cons_succ, List.getElem?_cons_zero]); exact rfl) (by kernel_rfl) (by kernel_rfl) (by kernel_rfl) (by intro _ _ _ h; exact h) (Or.inl ⟨by rfl, ?_⟩) hHeld ?_
              rotate_left
              · intro w hSw
                obtain ⟨z0, z1, z2, z3, z4, z5⟩ := heap_cells_ok hSw.1
                simp only at z0 z1 z2 z3 z4 z5
                go_simp
                all_goals (with_reducible rfl)
              simp only [Act.put, List.setIfInBounds_toArray, List.set_cons_zero, List.set_cons_succ]
              refine wpAnyH_take (i := 37) (v := ?_) (by (try simp only [List.getElem?_toArray, List.getElem?_cons_succ, List.getElem?_cons_zero]); exact rfl) (by kernel_rfl) (by kernel_rfl) (by kernel_rfl) (by intro _ _ _ h; exact h) (Or.inl ⟨by rfl, ?_⟩) hHeld ?_
              rotate_left
              · intro w hSw
                obtain ⟨z0, z1, z2, z3, z4, z5⟩ := heap_cells_ok hSw.1
                simp only at z0 z1 z2 z3 z4 z5
                go_simp
                all_goals (with_reducible rfl)
              simp only [Act.put, List.setIfInBounds_toArray, List.set_cons_zero, List.set_cons_succ]
              refine wpAnyH_take (i := 38) (v := ?_) (by (try simp only [List.getElem?_toArray, List.getElem?_cons_succ, List.getElem?_cons_zero]); exact rfl) (by kernel_rfl) (by kernel_rfl) (by kernel_rfl) (by intro _ _ _ h; exact h) (Or.inl ⟨by rfl, ?_⟩) hHeld ?_
              rotate_left
              · intro w hSw
                obtain ⟨z0, z1, z2, z3, z4, z5⟩ := heap_cells_ok hSw.1
                simp only at z0 z1 z2 z3 z4 z5
                go_simp
                all_goals (with_reducible rfl)
              simp only [Act.put, List.setIfInBounds_toArray, List.set_cons_zero, List.set_cons_succ]
              refine wpAnyH_take (i := 39) (v := ?_) (by (try simp only [List.getElem?_toArray, List.getElem?_cons_succ, List.getElem?_cons_zero]); exact rfl) (by kernel_rfl) (by kernel_rfl) (by kernel_rfl) (by intro _ _ _ h; exact h) (Or.inl ⟨by rfl, ?_⟩) hHeld ?_
              rotate_left
              · intro w hSw
                obtain ⟨z0, z1, z2, z3, z4, z5⟩ := heap_cells_ok hSw.1
                simp only at z0 z1 z2 z3 z4 z5
                go_simp
                all_goals (with_reducible rfl)
              simp only [Act.put, List.setIfInBounds_toArray, List.set_cons_zero, List.set_cons_succ]
              refine wpAnyH_take (i := 40) (v := ?_) (by (try simp only [List.getElem?_toArray, List.getElem?_cons_succ, List.getElem?_cons_zero]); exact rfl) (by kernel_rfl) (by kernel_rfl) (by kernel_rfl) (by intro _ _ _ h; exact h) (Or.inl ⟨by rfl, ?_⟩) hHeld ?_
              rotate_left
              · intro w hSw
                obtain ⟨z0, z1, z2, z3, z4, z5⟩ := heap_cells_ok hSw.1
                simp only at z0 z1 z2 z3 z4 z5
                go_simp
                all_goals (with_reducible rfl)
              simp only [Act.put, List.setIfInBounds_toArray, List.set_cons_zero, List.set_cons_succ]
              refine wpAnyH_take (i := 41) (v := ?_) (by (try simp only [List.getElem?_toArray, List.getElem?_cons_succ, List.getElem?_cons_zero]); exact rfl) (by kernel_rfl) (by kernel_rfl) (by kernel_rfl) (by intro _ _ _ h; exact h) (Or.inl ⟨by rfl, ?_⟩) hHeld ?_
              rotate_left
              · intro w hSw
                obtain ⟨z0, z1, z2, z3, z4, z5⟩ := heap_cells_ok hSw.1
                simp only at z0 z1 z2 z3 z4 z5
                go_simp
                all_goals (with_reducible rfl)
              simp only [Act.put, List.setIfInBounds_toArray, List.set_cons_zero, List.set_cons_succ]
              refine wpAnyH_take (i := 42) (v := ?_) (by (try simp only [List.getElem?_toArray, List.getElem?_cons_succ, List.getElem?_cons_zero]); exact rfl) (by kernel_rfl) (by kernel_rfl) (by kernel_rfl) (by intro _ _ _ h; exact h) (Or.inl ⟨by rfl, ?_⟩) hHeld ?_
              rotate_left
              · intro w hSw
                obtain ⟨z0, z1, z2, z3, z4, z5⟩ := heap_cells_ok hSw.1
                simp only at z0 z1 z2 z3 z4 z5
                go_simp
                all_goals (with_reducible rfl)
              simp only [Act.put, List.setIfInBounds_toArray, List.set_cons_zero, List.set_cons_succ]
              refine wpAnyH_take (i := 43) (v := ?_) (by (try simp only [List.getElem?_toArray, List.getElem?_cons_succ, List.getElem?_cons_zero]); exact rfl) (by kernel_rfl) (by kernel_rfl) (by kernel_rfl) (by intro _ _ _ h; exact h) (Or.inl ⟨by rfl, ?_⟩) hHeld ?_
              rotate_left
              · intro w hSw
                obtain ⟨z0, z1, z2, z3, z4, z5⟩ := heap_cells_ok hSw.1
                simp only at z0 z1 z2 z3 z4 z5
                go_simp
                all_goals (with_reducible rfl)
              simp only [Act.put, List.setIfInBounds_toArray, List.set_cons_zero, List.set_cons_succ]
              refine wpAnyH_done (by kernel_rfl) ?_ _
              have hBE := hHeld.2
              clear hHeld
              go_wp2
              go_roundw
              case rel => exact ⟨k + 1, by omega, by go_num, hBE⟩
              case measure => simp [intOf]; omega
            · rw [if_neg hz] at BO
              have hz2 : in64 (x3 - x0) = false := by simpa using hz
              rw [show fits64 (x3 - x0) = 0 by simp [fits64, hz2], show over64 (x3 - x0) = 24 by simp [over64, hz2]] at SU
              rw [in64_not] at hz2
              obtain ⟨D, hD⟩ : ∃ D, D = if x3 < x0 then (-9223372036854775808 : Int) else 9223372036854775807 := ⟨_, rfl⟩
              rw [← hD] at BO
              have q7 : decide (0 < D) = decide (x0 < x3) := by
                rw [hD]
                by_cases h : x3 < x0
                · rw [if_pos h]; rw [decide_eq_false (by omega), decide_eq_false (by omega)]
                · rw [if_neg h]; rw [decide_eq_true (by omega), decide_eq_true (by omega)]
              obtain ⟨bb, hbb⟩ : ∃ bb, bb = decide (x0 < x3) := ⟨_, rfl⟩
              rw [← hbb] at q7
              clear hz hz2 hD
              go_upto_region 23 with (go_at_call 12; (with_reducible refine (SU.out _).mono ?_); rintro e w8 ⟨rfl, ⟨nd, rfl⟩⟩)
              have K7 : ((wr.alloc (.cells #[.int .i64 x0, .int .i64 x1, .int .i64 x2, .int .i64 x3, .int .i64 x4, .int .i64 x5] 42)).drewN nd).heap[wr.heap.size]? = some (.cells (CandleR.arr ⟨x0, x1, x2, x3, x4, x5⟩) 42 (0, 0)) := heap_alloc_new _ _
              have hB7 : Below w6.heap.size w6 ((wr.alloc (.cells #[.int .i64 x0, .int .i64 x1, .int .i64 x2, .int .i64 x3, .int .i64 x4, .int .i64 x5] 42)).drewN nd) := below_drewN (hB.alloc hB.size _) nd
              generalize (wr.alloc (.cells #[.int .i64 x0, .int .i64 x1, .int .i64 x2, .int .i64 x3, .int .i64 x4, .int .i64 x5] 42)).drewN nd = W7 at K7 hB7 ⊢
              clear d0 d1 d2 d3 d4 d5 SU
              refine wp_region_held_drew (S := fun wx => wx.heap[wr.heap.size]? = some (.cells (CandleR.arr ⟨x0, x1, x2, x3, x4, x5⟩) 42 (0, 0)) ∧ Below w6.heap.size w6 wx) (by kernel_rfl) ⟨K7, below_drew1 hB7⟩ (fun hHeld => ?_)
              refine wpAnyH_take (i := 0) (v := ?_) (by (try simp only [List.getElem?_toArray, List.getElem?_cons_succ, List.getElem?_cons_zero]); exact rfl) (by kernel_rfl) (by kernel_rfl) (by kernel_rfl) (by intro _ _ _ h; exact h) (Or.inl ⟨by rfl, ?_⟩) hHeld ?_
              rotate_left
              · intro w hSw
                obtain ⟨z0, z1, z2, z3, z4, z5⟩ := heap_cells_ok hSw.1
                simp only at z0 z1 z2 z3 z4 z5
                go_simp
                all_goals (with_reducible rfl)
              simp only [Act.put, List.setIfInBounds_toArray, List.set_cons_zero, List.set_cons_succ]
              refine wpAnyH_take (i := 1) (v := ?_) (by (try simp only [List.getElem?_toArray, List.getElem?_cons_succ, List.getElem?_cons_zero]); exact rfl) (by kernel_rfl) (by kernel_rfl) (by kernel_rfl) (by intro _ _ _ h; exact h) (Or.inl ⟨by rfl, ?_⟩) hHeld ?_
              rotate_left
              · intro w hSw
                obtain ⟨z0, z1, z2, z3, z4, z5⟩ := heap_cells_ok hSw.1
                simp only at z0 z1 z2 z3 z4 z5
                go_simp
                all_goals (with_reducible rfl)
              simp only [Act.put, List.setIfInBounds_toArray, List.set_cons_zero, List.set_cons_succ]
              refine wpAnyH_take (i := 2) (v := ?_) (by (try simp only [List.getElem?_toArray, List.getElem?_cons_succ, List.getElem?_cons_zero]); exact rfl) (by kernel_rfl) (by kernel_rfl) (by kernel_rfl) (by intro _ _ _ h; exact h) (Or.inl ⟨by rfl, ?_⟩) hHeld ?_
              rotate_left
              · intro w hSw
                obtain ⟨z0, z1, z2, z3, z4, z5⟩ := heap_cells_ok hSw.1
                simp only at z0 z1 z2 z3 z4 z5
                go_simp
                all_goals (with_reducible rfl)
              simp only [Act.put, List.setIfInBounds_toArray, List.set_cons_zero, List.set_cons_succ]
              refine wpAnyH_take (i := 3) (v := undef) (by (try simp only [List.getElem?_toArray, List.getElem?_cons_succ, List.getElem?_cons_zero]); exact rfl) (by kernel_rfl) (by kernel_rfl) (by kernel_rfl) (by intro _ _ _ h; exact h) (Or.inr ⟨by rfl, rfl⟩) hHeld ?_
              simp only [Act.put, List.setIfInBounds_toArray, List.set_cons_zero, List.set_cons_succ]
              refine wpAnyH_take (i := 4) (v := undef) (by (try simp only [List.getElem?_toArray, List.getElem?_cons_succ, List.getElem?_cons_zero]); exact rfl) (by kernel_rfl) (by kernel_rfl) (by kernel_rfl) (by intro _ _ _ h; exact h) (Or.inr ⟨by rfl, rfl⟩) hHeld ?_
              simp only [Act.put, List.setIfInBounds_toArray, List.set_cons_zero, List.set_cons_succ]
              refine wpAnyH_take (i := 5) (v := undef) (by (try simp only [List.getElem?_toArray, List.getElem?_cons_succ, List.getElem?_cons_zero]); exact rfl) (by kernel_rfl) (by kernel_rfl) (by kernel_rfl) (by intro _ _ _ h; exact h) (Or.inr ⟨by rfl, rfl⟩) hHeld ?_
              simp only [Act.put, List.setIfInBounds_toArray, List.set_cons_zero, List.set_cons_succ]
              refine wpAnyH_take (i := 6) (v := undef) (by (try simp only [List.getElem?_toArray, List.getElem?_cons_succ, List.getElem?_cons_zero]); exact rfl) (by kernel_rfl) (by kernel_rfl) (by kernel_rfl) (by intro _ _ _ h; exact h) (Or.inr ⟨by rfl, rfl⟩) hHeld ?_
              simp only [Act.put, List.setIfInBounds_toArray, List.set_cons_zero, List.set_cons_succ]
              refine wpAnyH_take (i := 7) (v := ?_) (by (try simp only [List.getElem?_toArray, List.getElem?_cons_succ, List.getElem?_cons_zero]); exact rfl) (by kernel_rfl) (by kernel_rfl) (by kernel_rfl) (by intro _ _ _ h; exact h) (Or.inl ⟨by rfl, ?_⟩) hHeld ?_
              rotate_left
              · intro w hSw
                obtain ⟨z0, z1, z2, z3, z4, z5⟩ := heap_cells_ok hSw.1
                simp only at z0 z1 z2 z3 z4 z5
                go_simp
                all_goals (with_reducible rfl)
              simp only [Act.put, List.setIfInBounds_toArray, List.set_cons_zero, List.set_cons_succ]
              refine wpAnyH_take (i := 8) (v := ?_) (by (try simp only [List.getElem?_toArray, List.getElem?_cons_succ, List.getElem?_cons_zero]); exact rfl) (by kernel_rfl) (by kernel_rfl) (by kernel_rfl) (by intro _ _ _ h; exact h) (Or.inl ⟨by rfl, ?_⟩) hHeld ?_
              rotate_left
              · intro w hSw
                obtain ⟨z0, z1, z2, z3, z4, z5⟩ := heap_cells_ok hSw.1
                simp only at z0 z1 z2 z3 z4 z5
                go_simp
                all_goals (with_reducible rfl)
              simp only [Act.put, List.setIfInBounds_toArray, List.set_cons_zero, List.set_cons_succ]
              refine wpAnyH_take (i := 9) (v := ?_) (by (try simp only [List.getElem?_toArray, List.getElem?_cons_succ, List.getElem?_cons_zero]); exact rfl) (by kernel_rfl) (by kernel_rfl) (by kernel_rfl) (by intro _ _ _ h; exact h) (Or.inl ⟨by rfl, ?_⟩) hHeld ?_
              rotate_left
              · intro w hSw
                obtain ⟨z0, z1, z2, z3, z4, z5⟩ := heap_cells_ok hSw.1
                simp only at z0 z1 z2 z3 z4 z5
                go_simp
                all_goals (with_reducible rfl)
              simp only [Act.put, List.setIfInBounds_toArray, List.set_cons_zero, List.set_cons_succ]
              refine wpAnyH_take (i := 10) (v := ?_) (by (try simp only [List.getElem?_toArray, List.getElem?_cons_succ, List.getElem?_cons_zero]); exact rfl) (by kernel_rfl) (by kernel_rfl) (by kernel_rfl) (by intro _ _ _ h; exact h) (Or.inl ⟨by rfl, ?_⟩) hHeld ?_
              rotate_left
              · intro w hSw
                obtain ⟨z0, z1, z2, z3, z4, z5⟩ := heap_cells_ok hSw.1
                simp only at z0 z1 z2 z3 z4 z5
                go_simp
                all_goals (with_reducible rfl)
              simp only [Act.put, List.setIfInBounds_toArray, List.set_cons_zero, List.set_cons_succ]
              refine wpAnyH_take (i := 11) (v := ?_) (by (try simp only [List.getElem?_toArray, List.getElem?_cons_succ, List.getElem?_cons_zero]); exact rfl) (by kernel_rfl) (by kernel_rfl) (by kernel_rfl) (by intro _ _ _ h; exact h) (Or.inl ⟨by rfl, ?_⟩) hHeld ?_
              rotate_left
              · intro w hSw
                obtain ⟨z0, z1, z2, z3, z4, z5⟩ := heap_cells_ok hSw.1
                simp only at z0 z1 z2 z3 z4 z5
                go_simp
                all_goals (with_reducible rfl)
              simp only [Act.put, List.setIfInBounds_toArray, List.set_cons_zero, List.set_cons_succ]
              refine wpAnyH_take (i := 12) (v := ?_) (by (try simp only [List.getElem?_toArray, List.getElem?_cons_succ, List.getElem?_cons_zero]); exact rfl) (by kernel_rfl) (by kernel_rfl) (by kernel_rfl) (by intro _ _ _ h; exact h) (Or.inl ⟨by rfl, ?_⟩) hHeld ?_
              rotate_left
              · intro w hSw
                obtain ⟨z0, z1, z2, z3, z4, z5⟩ := heap_cells_ok hSw.1
                simp only at z0 z1 z2 z3 z4 z5
                go_simp
                all_goals (with_reducible rfl)
              simp only [Act.put, List.setIfInBounds_toArray, List.set_cons_zero, List.set_cons_succ]
              refine wpAnyH_take (i := 15) (v := ?_) (by (try simp only [List.getElem?_toArray, List.getElem?_cons_succ, List.getElem?_cons_zero]); exact rfl) (by kernel_rfl) (by kernel_rfl) (by kernel_rfl) (by intro _ _ _ h; exact h) (Or.inl ⟨by rfl, ?_⟩) hHeld ?_
              rotate_left
              · intro w hSw
                obtain ⟨z0, z1, z2, z3, z4, z5⟩ := heap_cells_ok hSw.1
                simp only at z0 z1 z2 z3 z4 z5
                go_simp
                all_goals (with_reducible rfl)
              simp only [Act.put, List.setIfInBounds_toArray, List.set_cons_zero, List.set_cons_succ]
              refine wpAnyH_take (i := 16) (v := ?_) (by (try simp only [List.getElem?_toArray, List.getElem?_cons_succ, List.getElem?_cons_zero]); exact rfl) (by kernel_rfl) (by kernel_rfl) (by kernel_rfl) (by intro _ _ _ h; exact h) (Or.inl ⟨by rfl, ?_⟩) hHeld ?_
              rotate_left
              · intro w hSw
                obtain ⟨z0, z1, z2, z3, z4, z5⟩ := heap_cells_ok hSw.1
                simp only at z0 z1 z2 z3 z4 z5
                go_simp
                all_goals (with_reducible rfl)
              simp only [Act.put, List.setIfInBounds_toArray, List.set_cons_zero, List.set_cons_succ]
              refine wpAnyH_take (i := 17) (v := ?_) (by (try simp only [List.getElem?_toArray, List.getElem?_cons_succ, List.getElem?_cons_zero]); exact rfl) (by kernel_rfl) (by kernel_rfl) (by kernel_rfl) (by intro _ _ _ h; exact h) (Or.inl ⟨by rfl, ?_⟩) hHeld ?_
              rotate_left
              · intro w hSw
                obtain ⟨z0, z1, z2, z3, z4, z5⟩ := heap_cells_ok hSw.1
                simp only at z0 z1 z2 z3 z4 z5
                go_simp
                all_goals (with_reducible rfl)
              simp only [Act.put, List.setIfInBounds_toArray, List.set_cons_zero, List.set_cons_succ]
              refine wpAnyH_take (i := 18) (v := ?_) (by (try simp only [List.getElem?_toArray, List.getElem?_cons_succ, List.getElem?_cons_zero]); exact rfl) (by kernel_rfl) (by kernel_rfl) (by kernel_rfl) (by intro _ _ _ h; exact h) (Or.inl ⟨by rfl, ?_⟩) hHeld ?_
              rotate_left
              · intro w hSw
                obtain ⟨z0, z1, z2, z3, z4, z5⟩ := heap_cells_ok hSw.1
                simp only at z0 z1 z2 z3 z4 z5
                go_simp
                all_goals (with_reducible rfl)
              simp only [Act.put, List.setIfInBounds_toArray, List.set_cons_zero, List.set_cons_succ]
              refine wpAnyH_take (i := 19) (v := ?_) (by (try simp only [List.getElem?_toArray, List.getElem?_cons_succ, List.getElem?_cons_zero]); exact rfl) (by kernel_rfl) (by kernel_rfl) (by kernel_rfl) (by intro _ _ _ h; exact h) (Or.inl ⟨by rfl, ?_⟩) hHeld ?_
              rotate_left
              · intro w hSw
                obtain ⟨z0, z1, z2, z3, z4, z5⟩ := heap_cells_ok hSw.1
                simp only at z0 z1 z2 z3 z4 z5
                go_simp
                all_goals (with_reducible rfl)
              simp only [Act.put, List.setIfInBounds_toArray, List.set_cons_zero, List.set_cons_succ]
              refine wpAnyH_ready (rs := [13]) (by kernel_rfl) (by simp) ?_
              refine AllReadyH.cons (by (try simp only [List.getElem?_toArray, List.getElem?_cons_succ, List.getElem?_cons_zero]); exact rfl) (fun K hK => ?_) AllReadyH.nil
              rw [if_pos (by rfl)]
              go_simp
              go_at_call 13
              refine (BO.out _).mono ?_
              rintro e w9 ⟨rfl, hB9⟩
              go_wp2_with fail
              refine hK.out _ _ ⟨(hB9.block _ (heap_lt hHeld.1)).trans hHeld.1, hHeld.2.trans (hB9.mono hHeld.2.size)⟩ (fun hHeld => ?_)
              clear hK K
              (try simp only [Act.put, List.setIfInBounds_toArray, List.set_cons_zero, List.set_cons_succ])
              refine wpAnyH_take (i := 14) (v := ?_) (by (try simp only [List.getElem?_toArray, List.getElem?_cons_succ, List.getElem?_cons_zero]); exact rfl) (by kernel_rfl) (by kernel_rfl) (by kernel_rfl) (by intro _ _ _ h; exact h) (Or.inl ⟨by rfl, ?_⟩) hHeld ?_
              rotate_left
              · intro w hSw
                obtain ⟨z0, z1, z2, z3, z4, z5⟩ := heap_cells_ok hSw.1
                simp only at z0 z1 z2 z3 z4 z5
                go_simp
                all_goals (with_reducible rfl)
              simp only [Act.put, List.setIfInBounds_toArray, List.set_cons_zero, List.set_cons_succ]
              refine wpAnyH_take (i := 20) (v := ?_) (by (try simp only [List.getElem?_toArray, List.getElem?_cons_succ, List.getElem?_cons_zero]); exact rfl) (by kernel_rfl) (by kernel_rfl) (by kernel_rfl) (by intro _ _ _ h; exact h) (Or.inl ⟨by rfl, ?_⟩) hHeld ?_
              rotate_left
              · intro w hSw
                obtain ⟨z0, z1, z2, z3, z4, z5⟩ := heap_cells_ok hSw.1
                simp only at z0 z1 z2 z3 z4 z5
                go_simp
                all_goals (with_reducible rfl)
              simp only [Act.put, List.setIfInBounds_toArray, List.set_cons_zero, List.set_cons_succ]
              refine wpAnyH_take (i := 21) (v := ?_) (by (try simp only [List.getElem?_toArray, List.getElem?_cons_succ, List.getElem?_cons_zero]); exact rfl) (by kernel_rfl) (by kernel_rfl) (by kernel_rfl) (by intro _ _ _ h; exact h) (Or.inl ⟨by rfl, ?_⟩) hHeld ?_
              rotate_left
              · intro w hSw
                obtain ⟨z0, z1, z2, z3, z4, z5⟩ := heap_cells_ok hSw.1
                simp only at z0 z1 z2 z3 z4 z5
                go_simp
                all_goals (with_reducible rfl)
              simp only [Act.put, List.setIfInBounds_toArray, List.set_cons_zero, List.set_cons_succ]
              refine wpAnyH_take (i := 22) (v := ?_) (by (try simp only [List.getElem?_toArray, List.getElem?_cons_succ, List.getElem?_cons_zero]); exact rfl) (by kernel_rfl) (by kernel_rfl) (by kernel_rfl) (by intro _ _ _ h; exact h) (Or.inl ⟨by rfl, ?_⟩) hHeld ?_
              rotate_left
              · intro w hSw
                obtain ⟨z0, z1, z2, z3, z4, z5⟩ := heap_cells_ok hSw.1
                simp only at z0 z1 z2 z3 z4 z5
                go_simp
                all_goals (with_reducible rfl)
              simp only [Act.put, List.setIfInBounds_toArray, List.set_cons_zero, List.set_cons_succ]
              refine wpAnyH_take (i := 23) (v := ?_) (by (try simp only [List.getElem?_toArray, List.getElem?_cons_succ, List.getElem?_cons_zero]); exact rfl) (by kernel_rfl) (by kernel_rfl) (by kernel_rfl) (by intro _ _ _ h; exact h) (Or.inl ⟨by rfl, ?_⟩) hHeld ?_
              rotate_left
              · intro w hSw
                obtain ⟨z0, z1, z2, z3, z4, z5⟩ := heap_cells_ok hSw.1
                simp only at z0 z1 z2 z3 z4 z5
                go_simp
                all_goals (with_reducible rfl)
              simp only [Act.put, List.setIfInBounds_toArray, List.set_cons_zero, List.set_cons_succ]
              refine wpAnyH_take (i := 24) (v := ?_) (by (try simp only [List.getElem?_toArray, List.getElem?_cons_succ, List.getElem?_cons_zero]); exact rfl) (by kernel_rfl) (by kernel_rfl) (by kernel_rfl) (by intro _ _ _ h; exact h) (Or.inl ⟨by rfl, ?_⟩) hHeld ?_
              rotate_left
              · intro w hSw
                obtain ⟨z0, z1, z2, z3, z4, z5⟩ := heap_cells_ok hSw.1
                simp only at z0 z1 z2 z3 z4 z5
                go_simp
                all_goals (with_reducible rfl)
              simp only [Act.put, List.setIfInBounds_toArray, List.set_cons_zero, List.set_cons_succ]
              refine wpAnyH_take (i := 25) (v := ?_) (by (try simp only [List.getElem?_toArray, List.getElem?_cons_succ, List.getElem?_cons_zero]); exact rfl) (by kernel_rfl) (by kernel_rfl) (by kernel_rfl) (by intro _ _ _ h; exact h) (Or.inl ⟨by rfl, ?_⟩) hHeld ?_
              rotate_left
              · intro w hSw
                obtain ⟨z0, z1, z2, z3, z4, z5⟩ := heap_cells_ok hSw.1
                simp only at z0 z1 z2 z3 z4 z5
                go_simp
                all_goals (with_reducible rfl)
              simp only [Act.put, List.setIfInBounds_toArray, List.set_cons_zero, List.set_cons_succ]
              refine wpAnyH_take (i := 26) (v := ?_) (by (try simp only [List.getElem?_toArray, List.getElem?_cons_succ, List.getElem?_cons_zero]); exact rfl) (by kernel_rfl) (by kernel_rfl) (by kernel_rfl) (by intro _ _ _ h; exact h) (Or.inl ⟨by rfl, ?_⟩) hHeld ?_
              rotate_left
              · intro w hSw
                obtain ⟨z0, z1, z2, z3, z4, z5⟩ := heap_cells_ok hSw.1
                simp only at z0 z1 z2 z3 z4 z5
                go_simp
                all_goals (with_reducible rfl)
              simp only [Act.put, List.setIfInBounds_toArray, List.set_cons_zero, List.set_cons_succ]
              refine wpAnyH_take (i := 27) (v := ?_) (by (try simp only [List.getElem?_toArray, List.getElem?_cons_succ, List.getElem?_cons_zero]); exact rfl) (by kernel_rfl) (by kernel_rfl) (by kernel_rfl) (by intro _ _ _ h; exact h) (Or.inl ⟨by rfl, ?_⟩) hHeld ?_
              rotate_left
              · intro w hSw
                obtain ⟨z0, z1, z2, z3, z4, z5⟩ := heap_cells_ok hSw.1
                simp only at z0 z1 z2 z3 z4 z5
                go_simp
                all_goals (with_reducible rfl)
              simp only [Act.put, List.setIfInBounds_toArray, List.set_cons_zero, List.set_cons_succ]
              refine wpAnyH_take (i := 28) (v := ?_) (by (try simp only [List.getElem?_toArray, List.getElem?_cons_succ, List.getElem?_cons_zero]); exact rfl) (by kernel_rfl) (by kernel_rfl) (by kernel_rfl) (by intro _ _ _ h; exact h) (Or.inl ⟨by rfl, ?_⟩) hHeld ?_
              rotate_left
              · intro w hSw
                obtain ⟨z0, z1, z2, z3, z4, z5⟩ := heap_cells_ok hSw.1
                simp only at z0 z1 z2 z3 z4 z5
                go_simp
                all_goals (with_reducible rfl)
              simp only [Act.put, List.setIfInBounds_toArray, List.set_cons_zero, List.set_cons_succ]
              refine wpAnyH_take (i := 29) (v := ?_) (by (try simp only [List.getElem?_toArray, List.getElem?_cons_succ, List.getElem?_cons_zero]); exact rfl) (by kernel_rfl) (by kernel_rfl) (by kernel_rfl) (by intro _ _ _ h; exact h) (Or.inl ⟨by rfl, ?_⟩) hHeld ?_
              rotate_left
              · intro w hSw
                obtain ⟨z0, z1, z2, z3, z4, z5⟩ := heap_cells_ok hSw.1
                simp only at z0 z1 z2 z3 z4 z5
                go_simp
                all_goals (with_reducible rfl)
              simp only [Act.put, List.setIfInBounds_toArray, List.set_cons_zero, List.set_cons_succ]
              refine wpAnyH_take (i := 30) (v := ?_) (by (try simp only [List.getElem?_toArray, List.getElem?_cons_succ, List.getElem?_cons_zero]); exact rfl) (by kernel_rfl) (by kernel_rfl) (by kernel_rfl) (by intro _ _ _ h; exact h) (Or.inl ⟨by rfl, ?_⟩) hHeld ?_
              rotate_left
              · intro w hSw
                obtain ⟨z0, z1, z2, z3, z4, z5⟩ := heap_cells_ok hSw.1
                simp only at z0 z1 z2 z3 z4 z5
                go_simp
                all_goals (with_reducible rfl)
              simp only [Act.put, List.setIfInBounds_toArray, List.set_cons_zero, List.set_cons_succ]
              refine wpAnyH_take (i := 31) (v := ?_) (by (try simp only [List.getElem?_toArray, List.getElem?_cons_succ, List.getElem?_cons_zero]); exact rfl) (by kernel_rfl) (by kernel_rfl) (by kernel_rfl) (by intro _ _ _ h; exact h) (Or.inl ⟨by rfl, ?_⟩) hHeld ?_
              rotate_left
              · intro w hSw
                obtain ⟨z0, z1, z2, z3, z4, z5⟩ := heap_cells_ok hSw.1
                simp only at z0 z1 z2 z3 z4 z5
                go_simp
                all_goals (with_reducible rfl)
              simp only [Act.put, List.setIfInBounds_toArray, List.set_cons_zero, List.set_cons_succ]
              refine wpAnyH_take (i := 32) (v := ?_) (by (try simp only [List.getElem?_toArray, List.getElem?_cons_succ, List.getElem?_cons_zero]); exact rfl) (by kernel_rfl) (by kernel_rfl) (by kernel_rfl) (by intro _ _ _ h; exact h) (Or.inl ⟨by rfl, ?_⟩) hHeld ?_
              rotate_left
              · intro w hSw
                obtain ⟨z0, z1, z2, z3, z4, z5⟩ := heap_cells_ok hSw.1
                simp only at z0 z1 z2 z3 z4 z5
                go_simp
                all_goals (with_reducible rfl)
              simp only [Act.put, List.setIfInBounds_toArray, List.set_cons_zero, List.set_cons_succ]
              refine wpAnyH_take (i := 33) (v := ?_) (by (try simp only [List.getElem?_toArray, List.getElem?_cons_succ, List.getElem?_cons_zero]); exact rfl) (by kernel_rfl) (by kernel_rfl) (by kernel_rfl) (by intro _ _ _ h; exact h) (Or.inl ⟨by rfl, ?_⟩) hHeld ?_
              rotate_left
              · intro w hSw
                obtain ⟨z0, z1, z2, z3, z4, z5⟩ := heap_cells_ok hSw.1
                simp only at z0 z1 z2 z3 z4 z5
                go_simp
                all_goals (with_reducible rfl)
              simp only [Act.put, List.setIfInBounds_toArray, List.set_cons_zero, List.set_cons_succ]
              refine wpAnyH_take (i := 34) (v := ?_) (by (try simp only [List.getElem?_toArray, List.getElem?_cons_succ, List.getElem?_cons_zero]); exact rfl) (by kernel_rfl) (by kernel_rfl) (by kernel_rfl) (by intro _ _ _ h; exact h) (Or.inl ⟨by rfl, ?_⟩) hHeld ?_
              rotate_left
              · intro w hSw
                obtain ⟨z0, z1, z2, z3, z4, z5⟩ := heap_cells_ok hSw.1
                simp only at z0 z1 z2 z3 z4 z5
                go_simp
                all_goals (with_reducible rfl)
              simp only [Act.put, List.setIfInBounds_toArray, List.set_cons_zero, List.set_cons_succ]
              refine wpAnyH_take (i := 35) (v := ?_) (by (try simp only [List.getElem?_toArray, List.getElem?_cons_succ, List.getElem?_cons_zero]); exact rfl) (by kernel_rfl) (by kernel_rfl) (by kernel_rfl) (by intro _ _ _ h; exact h) (Or.inl ⟨by rfl, ?_⟩) hHeld ?_
              rotate_left
              · intro w hSw
                obtain ⟨z0, z1, z2, z3, z4, z5⟩ := heap_cells_ok hSw.1
                simp only at z0 z1 z2 z3 z4 z5
                go_simp
                all_goals (with_reducible rfl)
              simp only [Act.put, List.setIfInBounds_toArray, List.set_cons_zero, List.set_cons_succ]
              refine wpAnyH_take (i := 36) (v := ?_) (by (try simp only [List.getElem?_toArray, List.getElem?_cons_succ, List.getElem?_cons_zero]); exact rfl) (by kernel_rfl) (by kernel_rfl) (by kernel_rfl) (by intro _ _ _ h; exact h) (Or.inl ⟨by rfl, ?_⟩) hHeld ?_
              rotate_left
              · intro w hSw
                obtain ⟨z0, z1, z2, z3, z4, z5⟩ := heap_cells_ok hSw.1
                simp only at z0 z1 z2 z3 z4 z5
                go_simp
                all_goals (with_reducible rfl)
              simp only [Act.put, List.setIfInBounds_toArray, List.set_cons_zero, List.set_cons_succ]
              refine wpAnyH_take (i := 37) (v := ?_) (by (try simp only [List.getElem?_toArray, List.getElem?_cons_succ, List.getElem?_cons_zero]); exact rfl) (by kernel_rfl) (by kernel_rfl) (by kernel_rfl) (by intro _ _ _ h; exact h) (Or.inl ⟨by rfl, ?_⟩) hHeld ?_
              rotate_left
              · intro w hSw
                obtain ⟨z0, z1, z2, z3, z4, z5⟩ := heap_cells_ok hSw.1
                simp only at z0 z1 z2 z3 z4 z5
                go_simp
                all_goals (with_reducible rfl)
              simp only [Act.put, List.setIfInBounds_toArray, List.set_cons_zero, List.set_cons_succ]
              refine wpAnyH_take (i := 38) (v := ?_) (by (try simp only [List.getElem?_toArray, List.getElem?_cons_succ, List.getElem?_cons_zero]); exact rfl) (by kernel_rfl) (by kernel_rfl) (by kernel_rfl) (by intro _ _ _ h; exact h) (Or.inl ⟨by rfl, ?_⟩) hHeld ?_
              rotate_left
              · intro w hSw
                obtain ⟨z0, z1, z2, z3, z4, z5⟩ := heap_cells_ok hSw.1
                simp only at z0 z1 z2 z3 z4 z5
                go_simp
                all_goals (with_reducible rfl)
              simp only [Act.put, List.setIfInBounds_toArray, List.set_cons_zero, List.set_cons_succ]
              refine wpAnyH_take (i := 39) (v := ?_) (by (try simp only [List.getElem?_toArray, List.getElem?_cons_succ, List.getElem?_cons_zero]); exact rfl) (by kernel_rfl) (by kernel_rfl) (by kernel_rfl) (by intro _ _ _ h; exact h) (Or.inl ⟨by rfl, ?_⟩) hHeld ?_
              rotate_left
              · intro w hSw
                obtain ⟨z0, z1, z2, z3, z4, z5⟩ := heap_cells_ok hSw.1
                simp only at z0 z1 z2 z3 z4 z5
                go_simp
                all_goals (with_reducible rfl)
              simp only [Act.put, List.setIfInBounds_toArray, List.set_cons_zero, List.set_cons_succ]
              refine wpAnyH_take (i := 40) (v := ?_) (by (try simp only [List.getElem?_toArray, List.getElem?_cons_succ, List.getElem?_cons_zero]); exact rfl) (by kernel_rfl) (by kernel_rfl) (by kernel_rfl) (by intro _ _ _ h; exact h) (Or.inl ⟨by rfl, ?_⟩) hHeld ?_
              rotate_left
              · intro w hSw
                obtain ⟨z0, z1, z2, z3, z4, z5⟩ := heap_cells_ok hSw.1
                simp only at z0 z1 z2 z3 z4 z5
                go_simp
                all_goals (with_reducible rfl)
              simp only [Act.put, List.setIfInBounds_toArray, List.set_cons_zero, List.set_cons_succ]
              refine wpAnyH_take (i := 41) (v := ?_) (by (try simp only [List.getElem?_toArray, List.getElem?_cons_succ, List.getElem?_cons_zero]); exact rfl) (by kernel_rfl) (by kernel_rfl) (by kernel_rfl) (by intro _ _ _ h; exact h) (Or.inl ⟨by rfl, ?_⟩) hHeld ?_
              rotate_left
              · intro w hSw
                obtain ⟨z0, z1, z2, z3, z4, z5⟩ := heap_cells_ok hSw.1
                simp only at z0 z1 z2 z3 z4 z5
                go_simp
                all_goals (with_reducible rfl)
              simp only [Act.put, List.setIfInBounds_toArray, List.set_cons_zero, List.set_cons_succ]
              refine wpAnyH_take (i := 42) (v := ?_) (by (try simp only [List.getElem?_toArray, List.getElem?_cons_succ, List.getElem?_cons_zero]); exact rfl) (by kernel_rfl) (by kernel_rfl) (by kernel_rfl) (by intro _ _ _ h; exact h) (Or.inl ⟨by rfl, ?_⟩) hHeld ?_
              rotate_left
              · intro w hSw
                obtain ⟨z0, z1, z2, z3, z4, z5⟩ := heap_cells_ok hSw.1
                simp only at z0 z1 z2 z3 z4 z5
                go_simp
                all_goals (with_reducible rfl)
              simp only [Act.put, List.setIfInBounds_toArray, List.set_cons_zero, List.set_cons_succ]
              refine wpAnyH_take (i := 43) (v := ?_) (by (try simp only [List.getElem?_toArray, List.getElem?_cons_succ, List.getElem?_cons_zero]); exact rfl) (by kernel_rfl) (by kernel_rfl) (by kernel_rfl) (by intro _ _ _ h; exact h) (Or.inl ⟨by rfl, ?_⟩) hHeld ?_
              rotate_left
              · intro w hSw
                obtain ⟨z0, z1, z2, z3, z4, z5⟩ := heap_cells_ok hSw.1
                simp only at z0 z1 z2 z3 z4 z5
                go_simp
                all_goals (with_reducible rfl)
              simp only [Act.put, List.setIfInBounds_toArray, List.set_cons_zero, List.set_cons_succ]
              refine wpAnyH_done (by kernel_rfl) ?_ _
              have hBE := hHeld.2
              clear hHeld
              go_wp2
              go_roundw
              case rel => exact ⟨k + 1, by omega, by go_num, hBE⟩
              case measure => simp [intOf]; omega
          · go_wp2
            go_ret
            exact ⟨rfl, below_at HBF.out hB⟩
end Go.Proofs.Ytfhbmeebkhefhaa
