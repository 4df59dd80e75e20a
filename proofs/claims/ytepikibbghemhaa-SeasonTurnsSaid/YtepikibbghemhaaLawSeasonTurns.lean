/-
  The walk of SeasonTurns: turns go round by four, one way and the other; what isn't waves of a row doesn't come back; trades are counted by their sizes.
-/
import Derived.Test.YtepikibbghemhaaSeaTrades
namespace Go.Proofs.Ytepikibbghemhaa
open Go.RowKit
set_option linter.unusedVariables false
set_option linter.unusedSimpArgs false

theorem tmod4 (n : Int) : n.tmod 4 = 0 ↔ n % 4 = 0 := by
  rw [← Int.dvd_iff_emod_eq_zero]
  constructor
  · intro h; exact Int.dvd_of_tmod_eq_zero h
  · intro h; exact Int.tmod_eq_zero_of_dvd h
theorem wfI32 {n : Int} (h : (Lit.int .i32 n).wf = true) : -2147483648 ≤ n ∧ n ≤ 2147483647 := by
  simp only [Lit.wf, Bool.and_eq_true, decide_eq_true_eq] at h
  exact h
theorem turn_back : ∀ j : Nat, j < 4 → ∃ p q, cMulBits (tRe j) (tIm j) (tRe ((4 - j) % 4)) (tIm ((4 - j) % 4)) = some (p, q) ∧ FloatKind.f64.format.order p 4607182418800017408 = some .eq ∧ FloatKind.f64.format.order q 0 = some .eq
  | 0, _ => ⟨4607182418800017408, 0, by decide +kernel, by decide +kernel, by decide +kernel⟩
  | 1, _ => ⟨4607182418800017408, 9223372036854775808, by decide +kernel, by decide +kernel, by decide +kernel⟩
  | 2, _ => ⟨4607182418800017408, 9223372036854775808, by decide +kernel, by decide +kernel, by decide +kernel⟩
  | 3, _ => ⟨4607182418800017408, 9223372036854775808, by decide +kernel, by decide +kernel, by decide +kernel⟩
theorem turn_next : ∀ j : Nat, j < 4 → ∃ p q, cMulBits (tRe j) (tIm j) 0 4607182418800017408 = some (p, q) ∧ FloatKind.f64.format.order p (tRe ((j + 1) % 4)) = some .eq ∧ FloatKind.f64.format.order q (tIm ((j + 1) % 4)) = some .eq
  | 0, _ => ⟨_, _, turn_01, by decide +kernel, by decide +kernel⟩
  | 1, _ => ⟨_, _, turn_12, by decide +kernel, by decide +kernel⟩
  | 2, _ => ⟨_, _, turn_23, by decide +kernel, by decide +kernel⟩
  | 3, _ => ⟨4607182418800017408, 9223372036854775808, by decide +kernel, by decide +kernel, by decide +kernel⟩
theorem turn_same : ∀ j : Nat, j < 4 → FloatKind.f64.format.order (tRe j) (tRe j) = some .eq ∧ FloatKind.f64.format.order (tIm j) (tIm j) = some .eq
  | 0, _ => ⟨by decide +kernel, by decide +kernel⟩
  | 1, _ => ⟨by decide +kernel, by decide +kernel⟩
  | 2, _ => ⟨by decide +kernel, by decide +kernel⟩
  | 3, _ => ⟨by decide +kernel, by decide +kernel⟩

def oddF (re im : Int) : Nat → Nat × Nat := fun m => match m with | 0 => (floatOfInt .f64 re, floatOfInt .f64 im) | _ => (0, 0)
def oddN (n : Int) : Nat → Int := fun m => match m with | 0 => n | _ => 0
theorem odd_rep (re im : Int) (h1 : re.natAbs ≤ 2147483648) (h2 : im.natAbs ≤ 2147483648) : ∀ m, m < 4 → CRep (oddF re im m).1 (oddF re im m).2 (oddN re m) (oddN im m) := fun m hm => by
  match m, hm with
  | 0, _ => exact ⟨rep_of re (by omega), rep_of im (by omega)⟩
  | 1, _ | 2, _ | 3, _ => exact ⟨rep_zero, rep_zero⟩
theorem odd_R (re im : Int) (p : Nat) : pR (oddN re) (oddN im) p 4 = re ∧ pI (oddN re) (oddN im) p 4 = im := by
  simp [pR, pI, oddN, tA, tB]
theorem odd_le (n : Int) (h : n.natAbs ≤ 2147483648) : ∀ m, m < 4 → (oddN n m).natAbs ≤ 1125899906842624 := fun m hm => by
  match m, hm with
  | 0, _ => simp only [oddN]; omega
  | 1, _ | 2, _ | 3, _ => simp [oddN]

theorem run_isAgg_i (w : World) : (isAgg 2).run Try.prog w = .ok false w := by kernel_rfl
theorem run_part_i {xs : Array Value} {off : Nat} {v : Value} (hx : xs[off]? = some v) (w : World) : (part 2 xs off).run Try.prog w = .ok v w := by
  simp [part, Sem.run_bind, run_isAgg_i, hx]
theorem run_eqIn_i (d : Nat) (a b : Int) (w : World) : (Op.equalIn (d + 1) 2 (.int .i64 a) (.int .i64 b)).run Try.prog w = .ok (a == b) w := by
  simp [Op.equalIn, Sem.run_bind, run_underlying Try.underlying2]
theorem cells_i : Try.prog.cellsOf 2 = 1 := by kernel_rfl
theorem info_i1 : (Try.prog.info? 2).map (·.size) = some 1 := by kernel_rfl
theorem run_eql_i4 (g : Nat → Int) (w : World) : (binOp .eql 41 (.agg (iRow g)) (.agg (iRow g))).run Try.prog w = .ok (.bool true) w := by
  have key : (Op.equal 41 (.agg (iRow g)) (.agg (iRow g))).run Try.prog w = .ok true w := by
    obtain ⟨i, hi⟩ : ∃ i, Try.prog.info? 2 = some i := by
      have h := info_i1
      cases hx : Try.prog.info? 2 with
      | none => rw [hx] at h; cases h
      | some i => exact ⟨i, rfl⟩
    have hr : List.range 4 = [0, 1, 2, 3] := by decide
    obtain ⟨D, hh⟩ : ∃ D, Op.maxDepth = D + 1 + 1 := ⟨9998, rfl⟩
    rw [Op.equal, hh, run_equalIn_array w _ _ _ Try.underlying41 hi, cells_i, hr]
    have p := fun (f : Nat → Int) m hm => run_part_i (iRow_at f m hm)
    simp [Op.eqItems, Sem.run_bind, p g 0 (by decide), p g 1 (by decide), p g 2 (by decide), p g 3 (by decide), run_eqIn_i]
  simp [binOp, Sem.run_bind, key]
theorem iRow_cells {w : World} {b : Nat} {g : Nat → Int} {t : TypeId} (h : w.heap[b]? = some (.cells (iRow g) t (0, 0))) :
    w.cell? ⟨b, 0, none⟩ = some (.int .i64 (g 0)) ∧ w.cell? ⟨b, 1, none⟩ = some (.int .i64 (g 1)) ∧ w.cell? ⟨b, 2, none⟩ = some (.int .i64 (g 2)) ∧ w.cell? ⟨b, 3, none⟩ = some (.int .i64 (g 3)) := by
  refine ⟨?_, ?_, ?_, ?_⟩ <;> rw [cell_of_row _ _ _ _ _ _ h] <;> rfl
theorem iRow_put {w : World} (w0 : World) (g : Nat → Int) (t : TypeId) (h : Below w0.heap.size w0 w) :
    Below w0.heap.size w0 ((w.alloc (.cells iz4 t)).setRow w.heap.size (iRow g)) ∧ ((w.alloc (.cells iz4 t)).setRow w.heap.size (iRow g)).heap[w.heap.size]? = some (.cells (iRow g) t (0, 0)) ∧
    Below w.heap.size w ((w.alloc (.cells iz4 t)).setRow w.heap.size (iRow g)) := by
  have hb : Below w.heap.size w ((w.alloc (.cells iz4 t)).setRow w.heap.size (iRow g)) :=
    ((Below.refl _ _).alloc (Nat.le_refl _) _).trans ⟨rfl, rfl, rfl, by simp, fun j hj => setRow_other _ _ _ _ (by omega)⟩
  exact ⟨below_at h hb, setRow_heap _ _ _ _ _ _ (heap_alloc_new _ _), hb⟩
theorem ofIs_same {l : List Int} {f g : Nat → Nat × Nat} {a b : Bool} (h : OfIs l f a) (k : OfIs l g b) : a = b ∧ eq4 f g = true := by
  rcases h with ⟨rfl, h1, h2⟩ | ⟨rfl, h1, rfl⟩ <;> rcases k with ⟨rfl, k1, k2⟩ | ⟨rfl, k1, rfl⟩
  · exact ⟨rfl, eq4_same h2 k2⟩
  · omega
  · omega
  · exact ⟨rfl, eq4_zero⟩

abbrev zr (X Y : Nat) : Array Value := #[.complex .f64 X Y, .complex .f64 0 0, .complex .f64 0 0, .complex .f64 0 0]
theorem zr_info (X Y : Nat) : (Try.prog.info? 26).map (·.size) = some (zr X Y).size := info_wave
theorem zr_size (X Y : Nat) : z4.size = (zr X Y).size := rfl
theorem zr_one (X Y : Nat) : (zr X Y).all (·.oneCell') = true := by simp [Value.oneCell']
theorem zr_put {w : World} (w0 : World) (X Y : Nat) (t : TypeId) (h : Below w0.heap.size w0 w) :
    Below w0.heap.size w0 ((w.alloc (.cells z4 t)).setRow w.heap.size (zr X Y)) ∧ ((w.alloc (.cells z4 t)).setRow w.heap.size (zr X Y)).heap[w.heap.size]? = some (.cells (zr X Y) t (0, 0)) ∧
    Below w.heap.size w ((w.alloc (.cells z4 t)).setRow w.heap.size (zr X Y)) := by
  have hb : Below w.heap.size w ((w.alloc (.cells z4 t)).setRow w.heap.size (zr X Y)) :=
    ((Below.refl _ _).alloc (Nat.le_refl _) _).trans ⟨rfl, rfl, rfl, by simp, fun j hj => setRow_other _ _ _ _ (by omega)⟩
  exact ⟨below_at h hb, setRow_heap _ _ _ _ _ _ (heap_alloc_new _ _), hb⟩

set_option maxRecDepth 100000 in
set_option maxHeartbeats 16000000 in
theorem SeasonTurns_walk (k re im : Int) (A : Option Addr) (l : List TradeR) (c : Nat) (w : World) (wk : (Lit.int .i64 k).wf = true) (wr : (Lit.int .i32 re).wf = true) (wi : (Lit.int .i32 im).wf = true) (hr : RowsAt w A 4 TradeR.row l) (hg : ∀ r ∈ l, r.good) (hc : l.length ≤ c) (hm : c ≤ maxLen) :
    Calls Try.prog 4 #[.int .i64 k, .int .i32 re, .int .i32 im, .slice A l.length c] w fun e w' => e = .returned (.bool true) ∧ Below w.heap.size w w' := by
  have hlen : l.length ≤ 9223372036854775807 := Nat.le_trans hc hm
  have W0 : Below w.heap.size w w := Below.refl _ _
  have AW : Hid (∀ wx, Below w.heap.size w wx → Calls Try.prog 6 #[] wx fun e w' => e = .returned (.bool true) ∧ Below w.heap.size w w') := Lib.hid fun wx h => (awake33 wx).mono fun _ _ ⟨h1, h2⟩ => ⟨h1, below_at h h2⟩
  by_cases hbig : 100 < l.length
  · go_enter Try.func4, Try.ntmps4
    go_wp2_with (go_at_call 6; (with_reducible refine (AW.out _ (by assumption)).mono ?_); rintro e w1 ⟨rfl, hB1⟩)
    go_ret
    exact ⟨rfl, hB1⟩
  · have HR := Lib.hid hr
    have HG := Lib.hid hg
    have HI : Hid (∀ n ∈ sizesOf l, I64 n) := Lib.hid (by
      intro n hn
      simp only [sizesOf, List.mem_map] at hn
      obtain ⟨r, h1, rfl⟩ := hn
      exact (hg r h1).size)
    have HSL := Lib.hid (show (sizesOf l).length = l.length by simp [sizesOf])
    clear hr hg hc hm
    have TR : Hid (∀ wx, Below w.heap.size w wx → Calls Try.prog 11 #[.slice A l.length c] wx fun e w' => ∃ f b, e = .returned (.tuple #[.agg (row4 f), .bool b]) ∧ Hid (OfIs (sizesOf l) f b) ∧ Below wx.heap.size wx w' ∧ Below w.heap.size w w') := Lib.hid fun wx h =>
      (season_trades l A c wx (HR.out.moved h) HG.out (by omega)).mono fun _ _ ⟨f, b, h1, h2, h3⟩ => ⟨f, b, h1, Lib.hid h2, h3, below_at h h3⟩
    obtain ⟨wr0, wr1⟩ := wfI32 wr
    obtain ⟨wi0, wi1⟩ := wfI32 wi
    obtain ⟨wk0, wk1⟩ := wfI64 wk
    clear wk wr wi
    obtain ⟨X, hX⟩ : ∃ X, X = floatOfInt .f64 re := ⟨_, rfl⟩
    obtain ⟨Y, hY⟩ : ∃ Y, Y = floatOfInt .f64 im := ⟨_, rfl⟩
    have hcv1 : ∀ w, (convert 21 33 (.int .i32 re)).run Try.prog w = .ok (.float .f64 X) w := fun w => by rw [hX]; exact run_convert_int_float (P := Try.prog) w 21 33 .i32 .f64 re (by kernel_rfl) (by kernel_rfl)
    have hcv2 : ∀ w, (convert 21 33 (.int .i32 im)).run Try.prog w = .ok (.float .f64 Y) w := fun w => by rw [hY]; exact run_convert_int_float (P := Try.prog) w 21 33 .i32 .f64 im (by kernel_rfl) (by kernel_rfl)
    obtain ⟨okB, hokB⟩ : ∃ b, b = decide (im = 0 ∧ re % 4 = 0) := ⟨_, rfl⟩
    have BK : Hid (∀ wx, Below w.heap.size w wx → Calls Try.prog 12 #[.agg #[.complex .f64 X Y, .complex .f64 0 0, .complex .f64 0 0, .complex .f64 0 0]] wx fun e w' => ∃ g : Nat → Int, Hid (okB = true → ∀ p, p < 4 → g p = re.tdiv 4) ∧ e = .returned (.tuple #[.agg (iRow g), .bool okB]) ∧ Below wx.heap.size wx w' ∧ Below w.heap.size w w') := Lib.hid fun wx h => by
      have := season_back (oddF re im) (oddN re) (oddN im) wx (odd_rep re im (by omega) (by omega)) (odd_le re (by omega)) (odd_le im (by omega))
      rw [hX, hY]
      refine this.mono fun e w' ⟨h1, h2⟩ => ?_
      rcases h2 with ⟨h3, g, h4, h5⟩ | ⟨⟨p, hp, h3⟩, h4⟩
      · have h6 := h3 0 (by decide)
        unfold okAt at h6
        rw [(odd_R re im 0).1, (odd_R re im 0).2] at h6
        have : okB = true := by rw [hokB]; exact decide_eq_true h6
        rw [this]
        exact ⟨g, Lib.hid fun _ p hp => by rw [h4 p hp, (odd_R re im p).1], h5, h1, below_at h h1⟩
      · unfold okAt at h3
        rw [(odd_R re im p).1, (odd_R re im p).2] at h3
        have : okB = false := by rw [hokB]; exact decide_eq_false h3
        rw [this]
        exact ⟨fun _ => 0, Lib.hid (fun h => by cases h), h4, h1, below_at h h1⟩
    have HOK := Lib.hid hokB
    clear hX hY hokB
    go_enter Try.func4, Try.ntmps4
    go_wp2_with (go_at_call 6; (with_reducible refine (AW.out _ (by assumption)).mono ?_); rintro e w1 ⟨rfl, hB1⟩)
    have HB1 := Lib.hid hB1
    clear hB1 W0 AW
    go_loopw [9, 27] (fun v4 v9 wr => ∃ k : Nat, k ≤ l.length ∧ v9 = .int .i64 (k : Int) ∧ Hid (wr.ownsRow w1.heap.size 2 1 v4 k (((sizesOf l).take k).map fun n => Value.int .i64 n)) ∧ Below w1.heap.size w1 wr) (fun _ v _ => l.length - (intOf v).toNat)
    case atStart => exact ⟨0, by omega, rfl, Lib.hid own_none, Below.refl _ _⟩
    case round =>
      obtain ⟨q, hq, rfl, HO, hB⟩ := hrel
      by_cases hlt : q < l.length
      · obtain ⟨b, o, rfl, c0, c1, c2, c3⟩ := trade_cells ((HR.out.moved HB1.out).moved hB) q hlt
        have hTS := Lib.hid (sizes_take_succ l q hlt)
        obtain ⟨x0, hx0⟩ : ∃ x, x = l[q].maker := ⟨_, rfl⟩
        obtain ⟨x1, hx1⟩ : ∃ x, x = l[q].taker := ⟨_, rfl⟩
        obtain ⟨x2, hx2⟩ : ∃ x, x = l[q].price := ⟨_, rfl⟩
        obtain ⟨x3, hx3⟩ : ∃ x, x = l[q].size := ⟨_, rfl⟩
        rw [← hx0] at c0; rw [← hx1] at c1; rw [← hx2] at c2; rw [← hx3] at c3 hTS
        clear hx0 hx1 hx2 hx3
        go_wp2_with (at_builtin; refine wp_append_row rfl (.tmp 31) (.tmp 34) 22 rfl w1.heap.size 2 Try.underlying22 (.int .i64 0) 1 8 info_i64 rfl (by decide) (by decide) _ _ q _ rfl ((HO.out.alloc _).alloc _) #[.int .i64 x3] (wr.heap.size + 1) (heap_new (by simp)) rfl (by simp [Value.oneCell']) rfl (by omega) (by have := hB.size; simp; omega) ?_; intro v' w2 hown1 hB1; have HO1 := Lib.hid hown1; clear hown1)
        go_roundw
        case rel => exact ⟨q + 1, by omega, by go_num, Lib.hid (by rw [hTS.out]; exact HO1.out), ((hB.alloc hB.size _).alloc (by have := hB.size; simp; omega) _).trans hB1⟩
        case measure => simp [intOf]; omega
      · obtain rfl : q = l.length := by omega
        have ho := HO.out
        rw [List.take_of_length_le (by rw [HSL.out]; omega)] at ho
        rw [← HSL.out] at ho
        obtain ⟨a, c', rfl, hrow, h1, h2⟩ := own_rows (enc := intRow) (l := sizesOf l) ho (fun _ => rfl)
        have HROW := Lib.hid hrow
        have hBR : Below w.heap.size w wr := HB1.out.trans (hB.mono HB1.out.size)
        clear ho h1 h2 hrow hB HO
        go_upto_region 12 with (first | (go_at_call 11; (with_reducible refine (TR.out _ (by assumption)).mono ?_); rintro e w2 ⟨f1, b1, rfl, F1, hC2, hB2⟩) | (with_reducible refine wpList_store_row rfl 26 (.tmp 12) (.tmp 40) rfl w2.heap.size (row4 f1) rfl rfl 26 z4 (heap_alloc_new _ _) (row4_info _) (row4_z4 _) (row4_one _) ?_))
        obtain ⟨P1, P2, P3, P4⟩ := row4_put w f1 26 hB2
        have hC3 := below_at hC2 P4
        generalize (w2.alloc (.cells z4 26)).setRow w2.heap.size (row4 f1) = w3 at P1 P2 P3 P4 hC3 ⊢
        have Q1 := Lib.hid P2
        have OF : Hid (Calls Try.prog 7 #[.slice a (sizesOf l).length c'] w3 fun e w' => ∃ f b, e = .returned (.tuple #[.agg (row4 f), .bool b]) ∧ Hid (OfIs (sizesOf l) f b) ∧ Below w3.heap.size w3 w' ∧ Below w.heap.size w w') := Lib.hid
          ((season_of (sizesOf l) a c' w3 (HROW.out.moved hC3) HI.out (by rw [HSL.out]; omega)).mono fun _ _ ⟨f, b, h1, h2, h3⟩ => ⟨f, b, h1, Lib.hid h2, h3, below_at P1 h3⟩)
        clear P2 P3 P4 hC3 hC2 hB2
        go_upto_region 13 with (first | (go_at_call 7; (with_reducible refine OF.out.mono ?_); rintro e w4 ⟨f2, b2, rfl, F2, hC4, hB4⟩; have Q2 := Lib.hid ((hC4.block _ (heap_lt Q1.out)).trans Q1.out)) | (with_reducible refine wpList_store_row rfl 26 (.tmp 14) (.tmp 45) rfl w4.heap.size (row4 f2) rfl rfl 26 z4 (heap_alloc_new _ _) (row4_info _) (row4_z4 _) (row4_one _) ?_))
        obtain ⟨hbb, heq⟩ := ofIs_same F1.out F2.out
        subst hbb
        have HEQ := Lib.hid heq
        clear heq
        obtain ⟨R1, R2, R3, R4⟩ := row4_put w f2 26 hB4
        have Q3 := Lib.hid ((R4.block _ (heap_lt Q2.out)).trans Q2.out)
        generalize (w4.alloc (.cells z4 26)).setRow w4.heap.size (row4 f2) = w5 at R1 R2 R3 R4 Q3 ⊢
        have Q4 := Lib.hid R2
        clear R2 R3 R4 hB4 hC4 P1
        go_upto_region 14 with (with_reducible refine wpList_store_row rfl 26 (.tmp 16) (.tmp 52) rfl w5.heap.size (zr X Y) rfl rfl 26 z4 (heap_alloc_new _ _) (zr_info _ _) (zr_size _ _) (zr_one _ _) ?_)
        obtain ⟨R2, R3, R4⟩ := zr_put w X Y 26 R1
        have Q5 := Lib.hid ((R4.block _ (heap_lt Q3.out)).trans Q3.out)
        have Q6 := Lib.hid ((R4.block _ (heap_lt Q4.out)).trans Q4.out)
        generalize (w5.alloc (.cells z4 26)).setRow w5.heap.size (zr X Y) = w6 at R2 R3 R4 Q5 Q6 ⊢
        have Q7 := Lib.hid R3
        clear R1 R3 R4
        go_upto_region 15 with (first | (with_reducible refine wpList_load_row rfl 26 (.tmp 16) rfl w5.heap.size rfl 26 (zr X Y) (0, 0) _ Q7.out Try.underlying26 rfl (zr_info _ _) ?_) | (go_at_call 12; (with_reducible refine (BK.out _ (by assumption)).mono ?_); rintro e w7 ⟨g, HGG, rfl, hC7, hB7⟩; have Q8 := Lib.hid ((hC7.block _ (heap_lt Q5.out)).trans Q5.out); have Q9 := Lib.hid ((hC7.block _ (heap_lt Q6.out)).trans Q6.out)) | (with_reducible refine wpList_store_row rfl 41 (.tmp 17) (.tmp 56) rfl w7.heap.size (iRow g) rfl rfl 41 iz4 (heap_alloc_new _ _) (iRow_info _) (iRow_size _) (iRow_one _) ?_))
        obtain ⟨S2, S3, S4⟩ := iRow_put w g 41 hB7
        obtain ⟨c0, c1, c2, c3⟩ := row4_cells ((S4.block _ (heap_lt Q8.out)).trans Q8.out)
        obtain ⟨d0, d1, d2, d3⟩ := row4_cells ((S4.block _ (heap_lt Q9.out)).trans Q9.out)
        generalize (w7.alloc (.cells iz4 41)).setRow w7.heap.size (iRow g) = w8 at S2 S3 S4 c0 c1 c2 c3 d0 d1 d2 d3 ⊢
        obtain ⟨e0, e1, e2, e3⟩ := iRow_cells S3
        have HS2 := Lib.hid S2
        clear S2 S3 S4 hC7 hB7 R2
        have EQ : ∀ w, (binOp .eql 26 (.agg #[.complex .f64 (f1 0).1 (f1 0).2, .complex .f64 (f1 1).1 (f1 1).2, .complex .f64 (f1 2).1 (f1 2).2, .complex .f64 (f1 3).1 (f1 3).2]) (.agg #[.complex .f64 (f2 0).1 (f2 0).2, .complex .f64 (f2 1).1 (f2 1).2, .complex .f64 (f2 2).1 (f2 2).2, .complex .f64 (f2 3).1 (f2 3).2])).run Try.prog w = .ok (.bool true) w := fun w => by
          have := run_eql_wave f1 f2 w
          rw [HEQ.out] at this
          exact this
        obtain ⟨j, hj⟩ : ∃ j : Nat, k % 4 = j := ⟨(k % 4).toNat, by omega⟩
        have hj4 : j < 4 := by omega
        have hb3 : bits .and .i64 k 3 = (j : Int) := by rw [and3, hj]
        obtain ⟨N1, hN1⟩ : ∃ N : Int, IntKind.i64.wrap (-k) = N := ⟨_, rfl⟩
        have hN2 : N1 % 4 = ((4 - j) % 4 : Nat) := by
          rw [← hN1, IntKind.wrap_i64]; omega
        have U1 : Hid (∀ wx, Calls Try.prog 13 #[.int .i64 k] wx fun e w' => e = .returned (.complex .f64 (tRe j) (tIm j)) ∧ wx = w') := Lib.hid fun wx => season_turn k wx j hj4 hj
        have U2 : Hid (∀ wx, Calls Try.prog 13 #[.int .i64 N1] wx fun e w' => e = .returned (.complex .f64 (tRe ((4 - j) % 4)) (tIm ((4 - j) % 4))) ∧ wx = w') := Lib.hid fun wx => season_turn N1 wx _ (Nat.mod_lt _ (by decide)) hN2
        have U3 : Hid (∀ wx, Calls Try.prog 13 #[.int .i64 (j : Int)] wx fun e w' => e = .returned (.complex .f64 (tRe j) (tIm j)) ∧ wx = w') := Lib.hid fun wx => season_turn j wx j hj4 (by omega)
        have U4 : Hid (∀ wx, Calls Try.prog 13 #[.int .i64 ((j : Int) + 1)] wx fun e w' => e = .returned (.complex .f64 (tRe ((j + 1) % 4)) (tIm ((j + 1) % 4))) ∧ wx = w') := Lib.hid fun wx => season_turn _ wx _ (Nat.mod_lt _ (by decide)) (by omega)
        obtain ⟨p1, q1, M1, O1, O2⟩ := turn_back j hj4
        obtain ⟨p2, q2, M2, O3, O4⟩ := turn_next j hj4
        obtain ⟨O5, O6⟩ := turn_same j hj4
        have m1 := fun w => run_complex_mul (P := Try.prog) w 24 _ _ _ _ _ _ M1
        have m2 := fun w => run_complex_mul (P := Try.prog) w 24 _ _ _ _ _ _ M2
        clear M1 M2 hN2 hj
        have ha1 : 0 ≤ (j : Int) := by omega
        have ha2 : (j : Int) < 4 := by omega
        obtain ⟨t1, ht1⟩ : ∃ t, t = tRe j := ⟨_, rfl⟩
        obtain ⟨t2, ht2⟩ : ∃ t, t = tIm j := ⟨_, rfl⟩
        obtain ⟨t3, ht3⟩ : ∃ t, t = tRe ((4 - j) % 4) := ⟨_, rfl⟩
        obtain ⟨t4, ht4⟩ : ∃ t, t = tIm ((4 - j) % 4) := ⟨_, rfl⟩
        obtain ⟨t5, ht5⟩ : ∃ t, t = tRe ((j + 1) % 4) := ⟨_, rfl⟩
        obtain ⟨t6, ht6⟩ : ∃ t, t = tIm ((j + 1) % 4) := ⟨_, rfl⟩
        rw [← ht3, ← ht4] at U2 m1
        rw [← ht5] at U4 O3
        rw [← ht6] at U4 O4
        rw [← ht1, ← ht2] at U1 U3 m1 m2
        rw [← ht1] at O5
        rw [← ht2] at O6
        clear ht1 ht2 ht3 ht4 ht5 ht6
        clear OF TR BK
        by_cases him : im = 0
        · by_cases hre : re % 4 = 0
          · have hok : okB = true := by rw [HOK.out]; exact decide_eq_true ⟨him, hre⟩
            subst hok
            subst him
            have hg := HGG.out rfl
            have EI : ∀ w, (binOp .eql 41 (.agg #[.int .i64 (g 0), .int .i64 (g 1), .int .i64 (g 2), .int .i64 (g 3)]) (.agg #[.int .i64 (re.tdiv 4), .int .i64 (re.tdiv 4), .int .i64 (re.tdiv 4), .int .i64 (re.tdiv 4)])).run Try.prog w = .ok (.bool true) w := fun w => by
              have := run_eql_i4 g w
              have e : iRow g = #[.int .i64 (re.tdiv 4), .int .i64 (re.tdiv 4), .int .i64 (re.tdiv 4), .int .i64 (re.tdiv 4)] := by
                unfold iRow; rw [hg 0 (by decide), hg 1 (by decide), hg 2 (by decide), hg 3 (by decide)]
              rw [← e]
              exact this
            have hrm : re.tmod 4 = 0 := (tmod4 re).2 hre
            obtain ⟨z1, z2⟩ := eq_bb hrm
            clear hg hre HGG
            go_wp2_with (go_at_call 13; first | ((with_reducible refine (U1.out _).mono ?_); rintro e w9 ⟨rfl, rfl⟩) | ((with_reducible refine (U2.out _).mono ?_); rintro e w9 ⟨rfl, rfl⟩) | ((with_reducible refine (U3.out _).mono ?_); rintro e w9 ⟨rfl, rfl⟩) | ((with_reducible refine (U4.out _).mono ?_); rintro e w9 ⟨rfl, rfl⟩))
            go_ret
            exact ⟨rfl, HS2.out⟩
          · have hok : okB = false := by rw [HOK.out]; exact decide_eq_false fun h => hre h.2
            subst hok
            subst him
            have hrm : ¬ re.tmod 4 = 0 := fun h => hre ((tmod4 re).1 h)
            obtain ⟨z1, z2⟩ := ne_bb hrm
            clear hre HGG
            go_wp2_with (go_at_call 13; first | ((with_reducible refine (U1.out _).mono ?_); rintro e w9 ⟨rfl, rfl⟩) | ((with_reducible refine (U2.out _).mono ?_); rintro e w9 ⟨rfl, rfl⟩) | ((with_reducible refine (U3.out _).mono ?_); rintro e w9 ⟨rfl, rfl⟩) | ((with_reducible refine (U4.out _).mono ?_); rintro e w9 ⟨rfl, rfl⟩))
            go_ret
            exact ⟨rfl, HS2.out⟩
        · have hok : okB = false := by rw [HOK.out]; exact decide_eq_false fun h => him h.1
          subst hok
          obtain ⟨z1, z2⟩ := ne_bb him
          clear HGG
          go_wp2_with (go_at_call 13; first | ((with_reducible refine (U1.out _).mono ?_); rintro e w9 ⟨rfl, rfl⟩) | ((with_reducible refine (U2.out _).mono ?_); rintro e w9 ⟨rfl, rfl⟩) | ((with_reducible refine (U3.out _).mono ?_); rintro e w9 ⟨rfl, rfl⟩) | ((with_reducible refine (U4.out _).mono ?_); rintro e w9 ⟨rfl, rfl⟩))
          go_ret
          exact ⟨rfl, HS2.out⟩
end Go.Proofs.Ytepikibbghemhaa
