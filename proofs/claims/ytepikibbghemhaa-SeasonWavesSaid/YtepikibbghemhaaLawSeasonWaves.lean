/-
  The walk of SeasonWaves: the waves of any row, the sums they come back to, their powers.
-/
import Derived.Test.YtepikibbghemhaaSeaPow
import Derived.Test.YtepikibbghemhaaRecs
namespace Go.Proofs.Ytepikibbghemhaa
open Go.RowKit
set_option linter.unusedVariables false
set_option linter.unusedSimpArgs false

theorem rep_neq {x y : Nat} {a b : Int} (hx : Rep 0 x a) (hy : Rep 0 y b) (h : a = b) : FloatKind.f64.format.order x y = some .eq := by
  have := rep_eq hx hy
  rw [decide_eq_true h] at this
  simpa using this

theorem run_index_row4 (f : Nat → Nat × Nat) (j : Nat) (h : j < 4) (w : World) : (Instr.index 26 (.agg (row4 f)) (.int .i64 j)).run Try.prog w = .ok (.complex .f64 (f j).1 (f j).2) w := by
  have hb : 0 ≤ (j : Int) ∧ (j : Int) < ((4 : Nat) : Int) := by omega
  have hc := row4_at f j h
  cases hq : Try.prog.info? 24 with
  | none => have := info_c128; simp [hq] at this
  | some i =>
    have hs : i.size = 1 := by have := info_c128; simpa [hq] using this
    simp [Instr.index, run_underlying Try.underlying26, asIntOf, hb, part, Sem.run_bind, sizeOf, typeInfo, hq, hs, run_isAgg_c, hc, go_sem]
    intro h2; omega

set_option maxRecDepth 100000 in
set_option maxHeartbeats 8000000 in
theorem SeasonWaves_walk (A : Option Addr) (l : List Int) (c : Nat) (m : Int) (w : World) (hr : RowsAt w A 1 intRow l) (hb : ∀ n ∈ l, I64 n) (hc : l.length ≤ c) (hm : c ≤ maxLen) (wm : (Lit.int .i64 m).wf = true) :
    Calls Try.prog 3 #[.slice A l.length c, .int .i64 m] w fun e w' => e = .returned (.bool true) ∧ Below w.heap.size w w' := by
  have hlen : l.length ≤ 9223372036854775807 := Nat.le_trans hc hm
  have W0 : Below w.heap.size w w := Below.refl _ _
  have AW : Hid (∀ wx, Below w.heap.size w wx → Calls Try.prog 6 #[] wx fun e w' => e = .returned (.bool true) ∧ Below w.heap.size w w') := Lib.hid fun wx h => (awake33 wx).mono fun _ _ ⟨h1, h2⟩ => ⟨h1, below_at h h2⟩
  by_cases hbig : 300 < l.length
  · go_enter Try.func3, Try.ntmps3
    go_wp2_with (go_at_call 6; (with_reducible refine (AW.out _ (by assumption)).mono ?_); rintro e w1 ⟨rfl, hB1⟩)
    go_ret
    exact ⟨rfl, hB1⟩
  · by_cases ht : total l ≤ 1125899906842624
    · obtain ⟨s, hs⟩ : ∃ s, s = sumsN l l.length := ⟨_, rfl⟩
      have OF : Hid (∀ wx, Below w.heap.size w wx → Calls Try.prog 7 #[.slice A l.length c] wx fun e w' => ∃ f, Hid (Waves f s) ∧ e = .returned (.tuple #[.agg (row4 f), .bool true]) ∧ Below w.heap.size w w') := Lib.hid fun wx h =>
        (season_of_yes l A c wx (hr.moved h) hb hlen ht).mono fun _ _ ⟨f, h1, h2, h3⟩ => ⟨f, Lib.hid (by rw [hs]; exact h1), h2, below_at h h3⟩
      have SU : Hid (∀ wx, Below w.heap.size w wx → Calls Try.prog 8 #[.slice A l.length c] wx fun e w' => ∃ q, e = .returned (.tuple #[.slice (some ⟨q, 0, none⟩) 4 4, .bool true]) ∧ Below w.heap.size w w' ∧ Below wx.heap.size wx w' ∧ w'.heap[q]? = some (.cells (sRow s) 2 (0, 0))) := Lib.hid fun wx h =>
        (ref_sums l A c wx (hr.moved h) hb hlen).mono fun _ _ ⟨h1, h2⟩ => by
          rcases h2 with ⟨_, q, h3, h4, h5⟩ | ⟨h3, _⟩
          · exact ⟨q, h3, below_at h h1, h1, by rw [hs]; exact h5⟩
          · omega
      have HSZ : Hid (s.size ≤ 1125899906842624) := Lib.hid (by rw [hs]; exact Nat.le_trans (sumsN_size l _ (Nat.le_refl _)) (Nat.le_trans (total_take_le l _) ht))
      have RW : Hid (∀ q wx, Below w.heap.size w wx → wx.heap[q]? = some (.cells (sRow s) 2 (0, 0)) → Calls Try.prog 9 #[.slice (some ⟨q, 0, none⟩) 4 4] wx fun e w' => ∃ r i, e = .returned (.tuple #[.slice (some ⟨r, 0, none⟩) 4 4, .slice (some ⟨i, 0, none⟩) 4 4]) ∧ Below w.heap.size w w' ∧ Below wx.heap.size wx w' ∧ w'.heap[r]? = some (.cells (reRow s) 2 (0, 0)) ∧ w'.heap[i]? = some (.cells (imRow s) 2 (0, 0))) := Lib.hid fun q wx h hq =>
        (ref_waves s q wx hq HSZ.out).mono fun _ _ ⟨h1, r, i, h2, h3, h4, h5, h6⟩ => ⟨r, i, h2, below_at h h1, h1, h5, h6⟩
      obtain ⟨j, hj⟩ : ∃ j : Nat, m % 4 = j := ⟨(m % 4).toNat, by omega⟩
      have hj4 : j < 4 := by omega
      have hband : bits .and .i64 m 3 = (j : Int) := by rw [and3, hj]
      have PW : Hid (∀ f wx, Below w.heap.size w wx → Waves f s → Calls Try.prog 10 #[.agg (row4 f), .int .i64 m] wx fun e w' => ∃ n : Int, e = .returned (.int .i64 n) ∧ Below w.heap.size w w' ∧ Below wx.heap.size wx w' ∧ -1 ≤ n ∧ Hid ((-1048576 < s.re j ∧ s.re j < 1048576 ∧ -1048576 < s.im j ∧ s.im j < 1048576) → n = s.re j * s.re j + s.im j * s.im j)) := Lib.hid fun f wx h hf =>
        (season_power f s m j wx hj4 hj hf).mono fun _ _ ⟨h1, n, h2, h3, h4⟩ => ⟨n, h2, below_at h h1, h1, h3, Lib.hid h4⟩
      clear hr hb hs ht hj
      go_enter Try.func3, Try.ntmps3
      go_upto_region 6 with (first | (go_at_call 6; (with_reducible refine (AW.out _ (by assumption)).mono ?_); rintro e w1 ⟨rfl, hB1⟩) | (go_at_call 7; (with_reducible refine (OF.out _ (by assumption)).mono ?_); rintro e w2 ⟨f, HF, rfl, hB2⟩) | (with_reducible refine wpList_store_row rfl 26 (.tmp 5) (.tmp 25) rfl w2.heap.size (row4 f) rfl rfl 26 z4 (heap_alloc_new _ _) (row4_info _) (row4_z4 _) (row4_one _) ?_))
      obtain ⟨P1, P2, P3, -⟩ := row4_put w f 26 hB2
      generalize (w2.alloc (.cells z4 26)).setRow w2.heap.size (row4 f) = w3 at P1 P2 P3 ⊢
      have P2 := Lib.hid P2
      clear W0 hB1 hB2
      go_upto_region 10 with (first | (go_at_call 8; (with_reducible refine (SU.out _ (by assumption)).mono ?_); rintro e w4 ⟨q, rfl, hB4, hC4, hQ4⟩; have P4 := Lib.hid ((hC4.block _ (heap_lt P2.out)).trans P2.out); have Q4 := Lib.hid hQ4; clear hQ4 hC4 P1) | (go_at_call 9; (with_reducible refine (RW.out _ _ (by assumption) Q4.out).mono ?_); rintro e w5 ⟨r, i, rfl, hB5, hC5, hR5, hI5⟩; have P5 := Lib.hid ((hC5.block _ (heap_lt P4.out)).trans P4.out); have R5 := Lib.hid hR5; have I5 := Lib.hid hI5; clear hR5 hI5 hC5 hB4))
      have hB5 := Lib.hid hB5
      go_wp2_with (with_reducible refine wpList_load_row rfl 26 (.tmp 5) rfl w2.heap.size rfl 26 (row4 f) (0, 0) _ P5.out Try.underlying26 rfl (row4_info _) ?_)
      go_loop [53] (fun v53 => ∃ k : Nat, k ≤ 4 ∧ v53 = .int .i64 (k : Int)) (fun v => 4 - (intOf v).toNat)
      case atStart => exact ⟨0, by omega, rfl⟩
      case round =>
        obtain ⟨k, hk, rfl⟩ := hrel
        by_cases hlt : k < 4
        · have hidx := fun w => run_index_row4 f k hlt w
          have cr : w5.cell? ⟨r, k, none⟩ = some (.int .i64 (s.re k)) := by rw [cell_of_row _ _ _ _ _ _ R5.out, reRow_at s k hlt]
          have ci : w5.cell? ⟨i, k, none⟩ = some (.int .i64 (s.im k)) := by rw [cell_of_row _ _ _ _ _ _ I5.out, imRow_at s k hlt]
          have hk2 : (k : Int) < 4 := by omega
          have n1 := rep_neq (HF.out k hlt).1 (rep_of (s.re k) (by have := re_le s k; have := HSZ.out; omega)) rfl
          have n2 := rep_neq (HF.out k hlt).2 (rep_of (s.im k) (by have := im_le s k; have := HSZ.out; omega)) rfl
          have hconv := fun (x : Int) w => run_convert_int_float (P := Try.prog) w 2 33 .i64 .f64 x (by kernel_rfl) (by kernel_rfl)
          obtain ⟨a, ha⟩ : ∃ a, a = s.re k := ⟨_, rfl⟩
          obtain ⟨b, hb⟩ : ∃ b, b = s.im k := ⟨_, rfl⟩
          rw [← ha] at cr n1
          rw [← hb] at ci n2
          clear ha hb
          go_wp2
          go_round
          case rel => exact ⟨k + 1, by omega, by go_num⟩
          case measure => simp [intOf]; omega
        · have hB6 := hB5.out
          have c2 := fun w => run_index_row4 f j hj4 w
          go_wp2_with (first | (with_reducible refine wpList_load_row rfl 26 (.tmp 5) rfl w2.heap.size rfl 26 (row4 f) (0, 0) _ P5.out Try.underlying26 rfl (row4_info _) ?_) | (go_at_call 10; (with_reducible refine (PW.out _ _ (by assumption) HF.out).mono ?_); rintro e w6 ⟨n, rfl, hB7, hC7, hn1, HN⟩; have cr : w6.cell? ⟨r, j, none⟩ = some (.int .i64 (s.re j)) := (by rw [cell_of_row _ _ _ _ _ _ ((hC7.block _ (heap_lt R5.out)).trans R5.out), reRow_at s j hj4]); have ci : w6.cell? ⟨i, j, none⟩ = some (.int .i64 (s.im j)) := (by rw [cell_of_row _ _ _ _ _ _ ((hC7.block _ (heap_lt I5.out)).trans I5.out), imRow_at s j hj4])))
          have ha1 : (s.re j).natAbs ≤ 1125899906842624 := by have := re_le s j; have := HSZ.out; omega
          have hb1 : (s.im j).natAbs ≤ 1125899906842624 := by have := im_le s j; have := HSZ.out; omega
          obtain ⟨a, ha⟩ : ∃ a, a = s.re j := ⟨_, rfl⟩
          obtain ⟨b, hb⟩ : ∃ b, b = s.im j := ⟨_, rfl⟩
          rw [← ha] at cr ha1 HN
          rw [← hb] at ci hb1 HN
          clear ha hb hB5 hB6 PW OF SU RW AW
          by_cases hsm : -1048576 < a ∧ a < 1048576 ∧ -1048576 < b ∧ b < 1048576
          · obtain ⟨k1, k2, k3, k4⟩ := hsm
            have q1 := sq_le k1 k2
            have q2 := sq_le k3 k4
            have hn := HN.out ⟨k1, k2, k3, k4⟩
            obtain ⟨x, hx⟩ : ∃ x, x = a * a := ⟨_, rfl⟩
            obtain ⟨y, hy⟩ : ∃ y, y = b * b := ⟨_, rfl⟩
            rw [← hx] at q1 hn
            rw [← hy] at q2 hn
            have e1 : IntKind.i64.wrap (a * a) = x := by rw [← hx]; exact IntWalk.i64_in _ (by omega)
            have e2 : IntKind.i64.wrap (b * b) = y := by rw [← hy]; exact IntWalk.i64_in _ (by omega)
            have e3 : IntKind.i64.wrap (x + y) = n := by rw [hn]; exact IntWalk.i64_in _ (by omega)
            clear hx hy hn q1 q2
            go_quiet (fail)
            go_wp2
            go_ret
            exact ⟨rfl, below_drewN hB7 _⟩
          · have hcase : a ≤ -1048576 ∨ (-1048576 < a ∧ 1048576 ≤ a) ∨ (-1048576 < a ∧ a < 1048576 ∧ b ≤ -1048576) ∨ (-1048576 < a ∧ a < 1048576 ∧ -1048576 < b ∧ 1048576 ≤ b) := by omega
            clear hsm HN
            rcases hcase with k1 | ⟨k1, k2⟩ | ⟨k1, k2, k3⟩ | ⟨k1, k2, k3, k4⟩
            all_goals
              go_quiet (fail)
              go_wp2
              go_ret
              exact ⟨rfl, below_drewN hB7 _⟩
    · have ht' : 1125899906842624 < total l := by omega
      have OF : Hid (∀ wx, Below w.heap.size w wx → Calls Try.prog 7 #[.slice A l.length c] wx fun e w' => e = .returned (.tuple #[.agg (row4 c00), .bool false]) ∧ Below w.heap.size w w') := Lib.hid fun wx h =>
        (season_of_no l A c wx (hr.moved h) hb hlen ht').mono fun _ _ ⟨h2, h3⟩ => ⟨h2, below_at h h3⟩
      have SU : Hid (∀ wx, Below w.heap.size w wx → Calls Try.prog 8 #[.slice A l.length c] wx fun e w' => e = .returned (.tuple #[.slice none 0 0, .bool false]) ∧ Below w.heap.size w w' ∧ Below wx.heap.size wx w') := Lib.hid fun wx h =>
        (ref_sums l A c wx (hr.moved h) hb hlen).mono fun _ _ ⟨h1, h2⟩ => by
          rcases h2 with ⟨h3, _⟩ | ⟨_, h3⟩
          · omega
          · exact ⟨h3, below_at h h1, h1⟩
      clear hr hb ht ht'
      go_enter Try.func3, Try.ntmps3
      go_upto_region 6 with (first | (go_at_call 6; (with_reducible refine (AW.out _ (by assumption)).mono ?_); rintro e w1 ⟨rfl, hB1⟩) | (go_at_call 7; (with_reducible refine (OF.out _ (by assumption)).mono ?_); rintro e w2 ⟨rfl, hB2⟩) | (with_reducible refine wpList_store_row rfl 26 (.tmp 5) (.tmp 25) rfl w2.heap.size (row4 c00) rfl rfl 26 z4 (heap_alloc_new _ _) (row4_info _) (row4_z4 _) (row4_one _) ?_))
      obtain ⟨P1, P2, P3, -⟩ := row4_put w c00 26 hB2
      generalize (w2.alloc (.cells z4 26)).setRow w2.heap.size (row4 c00) = w3 at P1 P2 P3 ⊢
      have P2 := Lib.hid P2
      clear W0 hB1 hB2
      have EQ : ∀ w, (binOp .eql 26 (.agg z4) (.agg z4)).run Try.prog w = .ok (.bool true) w := fun w => by
        have := run_eql_wave c00 c00 w
        rw [eq4_zero] at this
        exact this
      go_upto_region 8 with (go_at_call 8; (with_reducible refine (SU.out _ (by assumption)).mono ?_); rintro e w4 ⟨rfl, hB4, hC4⟩; obtain ⟨c0, c1, c2, c3⟩ := row4_cells ((hC4.block _ (heap_lt P2.out)).trans P2.out); simp only [c00] at c0 c1 c2 c3)
      go_wp2
      go_ret
      exact ⟨rfl, hB4⟩
end Go.Proofs.Ytepikibbghemhaa
