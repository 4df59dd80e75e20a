/-
  The walk of CandleMakes: of each so many trades one.
-/
import Derived.Test.YtfhbmeebkhefhaaCanCols
namespace Go.Proofs.Ytfhbmeebkhefhaa
open Go.RowKit
set_option linter.unusedVariables false
set_option linter.unusedSimpArgs false

theorem fold_det {l : List CandleR} {n : Nat} {r q : List CandleR} {e f : Int} (h : FoldIs l n r e) (k : FoldIs l n q f) : r = q ∧ e = f := by
  rcases h with ⟨h1, rfl, rfl⟩ | ⟨⟨j, h1, h2⟩, rfl, rfl⟩ <;> rcases k with ⟨k1, rfl, rfl⟩ | ⟨⟨i, k1, k2⟩, rfl, rfl⟩
  · exact ⟨rfl, rfl⟩
  · exact absurd (h1 i k1) k2
  · exact absurd (k1 j h1) h2
  · exact ⟨rfl, rfl⟩
theorem awake_fold : FoldIs (onesOf [(5, 1), (7, 1), (6, 2)]) 3 [⟨5, 7, 5, 6, 4, 3⟩] 0 :=
  .inl ⟨fun k hk => by
    have : k = 0 := by have : nCh (onesOf [(5, 1), (7, 1), (6, 2)]).length 3 = 1 := by decide
                       omega
    subst this; decide, rfl, by decide⟩
theorem ticks_ok (l : List TradeR) (hg : ∀ r ∈ l, r.good) : ∀ r ∈ ticksOf l, in64 r.2 = true := by
  intro r hr
  simp only [ticksOf, List.mem_map] at hr
  obtain ⟨t, h1, rfl⟩ := hr
  rw [in64_iff]
  exact (hg t h1).size
theorem fold_len {l : List CandleR} {n : Nat} {r : List CandleR} {e : Int} (h : FoldIs l n r e) (hn : 1 ≤ n) : r.length ≤ l.length := by
  rcases h with ⟨_, _, rfl⟩ | ⟨_, _, rfl⟩
  · simp only [List.length_map, List.length_range]
    refine Nat.le_of_not_lt fun h => ?_
    have h1 := (nCh_lt hn).1 h
    have h2 := Nat.le_mul_of_pos_right l.length hn
    omega
  · simp

set_option maxRecDepth 100000 in
set_option maxHeartbeats 4000000 in
theorem awake35 (w : World) : Calls Try.prog 5 #[] w fun e w' => e = .returned (.bool true) ∧ Below w.heap.size w w' := by
  have HO : Hid (Calls Try.prog 7 #[.slice (some ⟨w.heap.size, 0, none⟩) 3 3, .int .i64 3] (w.alloc (.cells #[.int .i64 5, .int .i64 1, .int .i64 7, .int .i64 1, .int .i64 6, .int .i64 2] 32)) fun e w' => ∃ b o c, e = .returned (.tuple #[.slice (some ⟨b, o, none⟩) 1 c, .int .i64 0]) ∧
      w'.cell? ⟨b, o, none⟩ = some (.int .i64 5) ∧ w'.cell? ⟨b, o + 1, none⟩ = some (.int .i64 7) ∧ w'.cell? ⟨b, o + 2, none⟩ = some (.int .i64 5) ∧ w'.cell? ⟨b, o + 3, none⟩ = some (.int .i64 6) ∧ w'.cell? ⟨b, o + 4, none⟩ = some (.int .i64 4) ∧ w'.cell? ⟨b, o + 5, none⟩ = some (.int .i64 3) ∧ Below w.heap.size w w') := Lib.hid (by
    have hrow : RowsAt (w.alloc (.cells #[.int .i64 5, .int .i64 1, .int .i64 7, .int .i64 1, .int .i64 6, .int .i64 2] 32)) (some ⟨w.heap.size, 0, none⟩) 2 tickRow [(5, 1), (7, 1), (6, 2)] := by
      refine ⟨.inr ⟨_, _, rfl, fun i r hi j v hv => ?_⟩⟩
      have hc := fun k => cell_of_row (w.alloc (.cells #[.int .i64 5, .int .i64 1, .int .i64 7, .int .i64 1, .int .i64 6, .int .i64 2] 32)) w.heap.size k #[.int .i64 5, .int .i64 1, .int .i64 7, .int .i64 1, .int .i64 6, .int .i64 2] 32 (0, 0) (heap_alloc_new _ _)
      rw [hc]
      match i, hi with
      | 0, hi | 1, hi | 2, hi =>
        cases hi
        match j, hv with
        | 0, hv | 1, hv => cases hv; rfl
        | j + 2, hv => simp [tickRow] at hv
      | i + 3, hi => simp at hi
    refine (candle_of [(5, 1), (7, 1), (6, 2)] (some ⟨w.heap.size, 0, none⟩) 3 3 _ hrow (by decide) (by decide) (by decide) (by decide)).mono ?_
    rintro e w' ⟨A, c, res, er, rfl, hF, hR, hB, hc⟩
    obtain ⟨rfl, rfl⟩ := fold_det hF awake_fold
    obtain ⟨b, o, rfl, c0, c1, c2, c3, c4, c5⟩ := candle_cells hR 0 (by decide)
    simp only [Nat.zero_mul, Nat.add_zero] at c0 c1 c2 c3 c4 c5
    exact ⟨b, o, c, rfl, c0, c1, c2, c3, c4, c5, below_at ((Below.refl _ _).alloc (Nat.le_refl _) _) hB⟩)
  go_enter Try.func5, Try.ntmps5
  go_wp2_with (go_at_call 7; (with_reducible refine HO.out.mono ?_); rintro e w1 ⟨b, o, c, rfl, c0, c1, c2, c3, c4, c5, hB⟩)
  go_ret
  exact ⟨rfl, hB⟩

/-- what Of and the document's Of say of any number -/
theorem of_any (l : List (Int × Int)) (A : Option Addr) (c : Nat) (n : Int) (w : World) (hr : RowsAt w A 2 tickRow l) (hok : ∀ r ∈ l, in64 r.2 = true) (hlen : l.length ≤ 900) (hn2 : n ≤ 9223372036854775807) (P : List CandleR → Int → Prop)
    (hP : ∀ res er, (1 ≤ n ∧ FoldIs (onesOf l) n.toNat res er) ∨ (n < 1 ∧ res = [] ∧ er = 2) → P res er) :
    Calls Try.prog 7 #[.slice A l.length c, .int .i64 n] w fun e w' => ∃ A c res er, e = .returned (.tuple #[.slice A res.length c, .int .i64 er]) ∧ P res er ∧ RowsAt w' A 6 CandleR.row res ∧ Below w.heap.size w w' := by
  by_cases h : n < 1
  · exact (candle_of_bad l A c n w hr hlen h).mono fun _ _ ⟨h1, h2⟩ => ⟨none, 0, [], 2, h1, hP _ _ (.inr ⟨h, rfl, rfl⟩), ⟨.inl rfl⟩, h2⟩
  · obtain ⟨m, rfl⟩ : ∃ m : Nat, n = (m : Int) := ⟨n.toNat, by omega⟩
    exact (candle_of l A c m w hr hok hlen (by omega) (by omega)).mono fun _ _ ⟨A, c, res, er, h1, h2, h3, h4, _⟩ => ⟨A, c, res, er, h1, hP _ _ (.inl ⟨by omega, by simpa using h2⟩), h3, h4⟩
theorem ref_any (l : List (Int × Int)) (A B : Option Addr) (c d : Nat) (n : Int) (w : World) (hp : RowsAt w A 1 intRow (l.map (·.1))) (hs : RowsAt w B 1 intRow (l.map (·.2))) (hc : l.length ≤ c) (hd : l.length ≤ d) (hok : ∀ r ∈ l, in64 r.2 = true) (hlen : l.length ≤ 900) (hn2 : n ≤ 9223372036854775807) :
    Calls Try.prog 9 #[.slice A l.length c, .slice B l.length d, .int .i64 n] w fun e w' => ∃ A c res er, e = .returned (.tuple #[.slice A res.length c, .int .i64 er]) ∧ ((1 ≤ n ∧ FoldIs (onesOf l) n.toNat res er) ∨ (n < 1 ∧ res = [] ∧ er = 2)) ∧ RowsAt w' A 6 CandleR.row res ∧ Below w.heap.size w w' := by
  by_cases h : n < 1
  · exact (ref_of35_bad _ _ n w h).mono fun _ _ ⟨h1, h2⟩ => ⟨none, 0, [], 2, h1, .inr ⟨h, rfl, rfl⟩, ⟨.inl rfl⟩, h2⟩
  · obtain ⟨m, rfl⟩ : ∃ m : Nat, n = (m : Int) := ⟨n.toNat, by omega⟩
    exact (ref_of35 l A B c d m w hp hs hc hd hok hlen (by omega) (by omega)).mono fun _ _ ⟨A, c, res, er, h1, h2, h3, h4⟩ => ⟨A, c, res, er, h1, .inl ⟨by omega, by simpa using h2⟩, h3, h4⟩
theorem any_det {l : List CandleR} {n : Int} {r q : List CandleR} {e f : Int} (h : (1 ≤ n ∧ FoldIs l n.toNat r e) ∨ (n < 1 ∧ r = [] ∧ e = 2)) (k : (1 ≤ n ∧ FoldIs l n.toNat q f) ∨ (n < 1 ∧ q = [] ∧ f = 2)) : r = q ∧ e = f := by
  rcases h with ⟨h1, h2⟩ | ⟨h1, rfl, rfl⟩ <;> rcases k with ⟨k1, k2⟩ | ⟨k1, rfl, rfl⟩
  · exact fold_det h2 k2
  · omega
  · omega
  · exact ⟨rfl, rfl⟩
theorem any_len {l : List CandleR} {n : Int} {r : List CandleR} {e : Int} (h : (1 ≤ n ∧ FoldIs l n.toNat r e) ∨ (n < 1 ∧ r = [] ∧ e = 2)) : r.length ≤ l.length := by
  rcases h with ⟨h1, h2⟩ | ⟨h1, rfl, rfl⟩
  · exact fold_len h2 (by omega)
  · simp

set_option maxRecDepth 100000 in
set_option maxHeartbeats 4000000 in
theorem CandleMakes_walk (a0 : Option Addr) (l0 : List TradeR) (c0 : Nat) (a1 : Int) (W : World) (hr : RowsAt W a0 4 TradeR.row l0) (hg : ∀ r ∈ l0, r.good) (hb : l0.length ≤ c0) (hm : c0 ≤ maxLen) (w1 : (Lit.int .i64 a1).wf = true) :
    Calls Try.prog 3 #[.slice a0 l0.length c0, .int .i64 a1] W fun e w' => e = .returned (.bool true) ∧ Below W.heap.size W w' := by
  have AW : Hid (∀ wx, Calls Try.prog 5 #[] wx fun e w' => e = .returned (.bool true) ∧ Below wx.heap.size wx w') := Lib.hid awake35
  have ha := wfI64 w1
  have hB0 : Below W.heap.size W W := Below.refl _ _
  by_cases hbig : 100 < l0.length
  · go_enter Try.func3, Try.ntmps3
    go_wp2_with (go_at_call 5; (with_reducible refine (AW.out _).mono ?_); rintro e w1 ⟨rfl, hB⟩)
    go_ret
    exact ⟨rfl, hB⟩
  · have hsl : (ticksOf l0).length = l0.length := by simp [ticksOf]
    have hol : (onesOf (ticksOf l0)).length = l0.length := by simp [onesOf, ticksOf]
    have HR := Lib.hid hr
    have hok := ticks_ok l0 hg
    have HCO : Hid (∀ wx, Below W.heap.size W wx → Calls Try.prog 6 #[.slice a0 l0.length c0] wx fun e w' => ∃ B C d f, e = .returned (.tuple #[.slice B l0.length d, .slice C l0.length f]) ∧ Hid (RowsAt w' B 1 intRow ((ticksOf l0).map (·.1))) ∧ Hid (RowsAt w' C 1 intRow ((ticksOf l0).map (·.2))) ∧ Below W.heap.size W w' ∧ l0.length ≤ d ∧ l0.length ≤ f) := Lib.hid fun wx hx =>
      (columns35 l0 a0 c0 wx (HR.out.moved hx) (by omega)).mono fun _ _ ⟨B, C, d, f, h1, h2, h3, h4, h5, h6⟩ => ⟨B, C, d, f, h1, Lib.hid h2, Lib.hid h3, below_at hx h4, h5, h6⟩
    have HTR : Hid (∀ wx, Below W.heap.size W wx → Calls Try.prog 8 #[.slice a0 l0.length c0] wx fun e w' => ∃ B d, e = .returned (.slice B l0.length d) ∧ Hid (RowsAt w' B 2 tickRow (ticksOf l0)) ∧ Below wx.heap.size wx w') := Lib.hid fun wx hx =>
      (candle_trades l0 a0 c0 wx (HR.out.moved hx) (by omega)).mono fun _ _ ⟨B, d, h1, h2, h3, h4⟩ => ⟨B, d, h1, Lib.hid h2, h3⟩
    have HOF : Hid (∀ wx B d, RowsAt wx B 2 tickRow (ticksOf l0) → Calls Try.prog 7 #[.slice B l0.length d, .int .i64 a1] wx fun e w' => ∃ A c res er, e = .returned (.tuple #[.slice A res.length c, .int .i64 er]) ∧ Hid ((1 ≤ a1 ∧ FoldIs (onesOf (ticksOf l0)) a1.toNat res er) ∨ (a1 < 1 ∧ res = [] ∧ er = 2)) ∧ Hid (RowsAt w' A 6 CandleR.row res) ∧ Below wx.heap.size wx w') := Lib.hid fun wx B d hx => by
      rw [← hsl]
      exact (of_any (ticksOf l0) B d a1 wx hx hok (by omega) ha.2 _ (fun _ _ h => h)).mono fun _ _ ⟨A, c, res, er, h1, h2, h3, h4⟩ => ⟨A, c, res, er, h1, Lib.hid h2, Lib.hid h3, h4⟩
    have HRF : Hid (∀ wx B C d f, RowsAt wx B 1 intRow ((ticksOf l0).map (·.1)) → RowsAt wx C 1 intRow ((ticksOf l0).map (·.2)) → l0.length ≤ d → l0.length ≤ f → Calls Try.prog 9 #[.slice B l0.length d, .slice C l0.length f, .int .i64 a1] wx fun e w' => ∃ A c res er, e = .returned (.tuple #[.slice A res.length c, .int .i64 er]) ∧ Hid ((1 ≤ a1 ∧ FoldIs (onesOf (ticksOf l0)) a1.toNat res er) ∨ (a1 < 1 ∧ res = [] ∧ er = 2)) ∧ Hid (RowsAt w' A 6 CandleR.row res) ∧ Below wx.heap.size wx w') := Lib.hid fun wx B C d f h1 h2 h3 h4 => by
      rw [← hsl] at h3 h4 ⊢
      exact (ref_any (ticksOf l0) B C d f a1 wx h1 h2 h3 h4 hok (by omega) ha.2).mono fun _ _ ⟨A, c, res, er, h1, h2, h3, h4⟩ => ⟨A, c, res, er, h1, Lib.hid h2, Lib.hid h3, h4⟩
    clear hr hg hb hm w1 hok hsl ha
    go_enter Try.func3, Try.ntmps3
    go_wp2_with (first | (go_at_call 5; (with_reducible refine (AW.out _).mono ?_); rintro e w1 ⟨rfl, hB1⟩) | (go_at_call 6; (with_reducible refine (HCO.out _ hB1).mono ?_); rintro e w2 ⟨B, C, d, f, rfl, R1, R2, hB2, hd, hf⟩) | (go_at_call 8; (with_reducible refine (HTR.out _ hB2).mono ?_); rintro e w3 ⟨T, dt, rfl, R3, hB3⟩) | (go_at_call 7; (with_reducible refine (HOF.out _ _ _ R3.out).mono ?_); rintro e w4 ⟨A4, c4, res, er, rfl, F4, R4, hB4⟩; have hB24 := below_at hB3 hB4) | (go_at_call 9; (with_reducible refine (HRF.out _ _ _ _ _ (R1.out.moved hB24) (R2.out.moved hB24) hd hf).mono ?_); rintro e w5 ⟨A5, c5, res2, er2, rfl, F5, R5, hB5⟩; obtain ⟨rfl, rfl⟩ := any_det F4.out F5.out; have hll := any_len F4.out; have HSM : Hid (Calls Try.prog 10 #[.slice A4 res.length c4, .slice A5 res.length c5] w5 fun e w' => e = .returned (.bool true) ∧ Below w5.heap.size w5 w') := Lib.hid (by have h := same35 res res A4 A5 c4 c5 w5 (R4.out.moved hB5) R5.out (by omega) (by omega); simpa using h)) | (go_at_call 10; (with_reducible refine HSM.out.mono ?_); rintro e w6 ⟨rfl, hB6⟩))
    go_ret
    exact ⟨rfl, below_at (below_at (below_at hB2 hB24) hB5) hB6⟩
end Go.Proofs.Ytfhbmeebkhefhaa
