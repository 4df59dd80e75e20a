/-
  The sums by places, out of waves: season's Back.
-/
import Derived.Test.YtepikibbghemhaaSeaWhole
import Derived.Test.YtepikibbghemhaaSeaPow
import Derived.Test.YtepikibbghemhaaRow
namespace Go.Proofs.Ytepikibbghemhaa
open Go.RowKit
set_option linter.unusedVariables false
set_option linter.unusedSimpArgs false

/-- the sums of waves' products, part by part -/
def pR (A B : Nat → Int) (p : Nat) : Nat → Int
  | 0 => 0
  | n + 1 => pR A B p n + (A n * tA (n * p % 4) - B n * tB (n * p % 4))
def pI (A B : Nat → Int) (p : Nat) : Nat → Int
  | 0 => 0
  | n + 1 => pI A B p n + (A n * tB (n * p % 4) + B n * tA (n * p % 4))
theorem t_one (j : Nat) (h : j < 4) (a b K : Int) (ha : a.natAbs ≤ 1125899906842624) (hb : b.natAbs ≤ 1125899906842624) :
    (a * tA j).natAbs ≤ 1125899906842624 ∧ (b * tB j).natAbs ≤ 1125899906842624 ∧ (a * tB j).natAbs ≤ 1125899906842624 ∧ (b * tA j).natAbs ≤ 1125899906842624 ∧ (a * tA j - b * tB j).natAbs ≤ 1125899906842624 ∧ (a * tB j + b * tA j).natAbs ≤ 1125899906842624 := by
  match j, h with
  | 0, _ | 1, _ | 2, _ | 3, _ => simp [tA, tB]; omega
theorem p_le (A B : Nat → Int) (p : Nat) (hA : ∀ m, m < 4 → (A m).natAbs ≤ 1125899906842624) (hB : ∀ m, m < 4 → (B m).natAbs ≤ 1125899906842624) : ∀ n, n ≤ 4 → (pR A B p n).natAbs ≤ n * 1125899906842624 ∧ (pI A B p n).natAbs ≤ n * 1125899906842624
  | 0, _ => by simp [pR, pI]
  | n + 1, h => by
    obtain ⟨h1, h2⟩ := p_le A B p hA hB n (by omega)
    have := t_one (n * p % 4) (Nat.mod_lt _ (by decide)) (A n) (B n) 0 (hA n (by omega)) (hB n (by omega))
    simp only [pR, pI]
    omega

def iRow (g : Nat → Int) : Array Value := #[.int .i64 (g 0), .int .i64 (g 1), .int .i64 (g 2), .int .i64 (g 3)]
theorem iRow_at (g : Nat → Int) (i : Nat) (h : i < 4) : (iRow g)[i]? = some (.int .i64 (g i)) := by
  match i, h with
  | 0, _ | 1, _ | 2, _ | 3, _ => rfl
def updI (g : Nat → Int) (m : Nat) (n : Int) : Nat → Int := fun i => if i = m then n else g i
theorem iRow_set (g : Nat → Int) (i : Nat) (n : Int) (h : i < 4) : (iRow g).setIfInBounds i (.int .i64 n) = iRow (updI g i n) := by
  match i, h with
  | 0, _ | 1, _ | 2, _ | 3, _ => rfl
abbrev iz4 : Array Value := #[.int .i64 0, .int .i64 0, .int .i64 0, .int .i64 0]
theorem info_i4 : (Try.prog.info? 41).map (·.size) = some 4 := by kernel_rfl
theorem iRow_info (g : Nat → Int) : (Try.prog.info? 41).map (·.size) = some (iRow g).size := info_i4
theorem iRow_size (g : Nat → Int) : iz4.size = (iRow g).size := rfl
theorem iz4_size : iz4.size = iz4.size := rfl
theorem iz4_info : (Try.prog.info? 41).map (·.size) = some iz4.size := info_i4
theorem iz4_one : iz4.all (·.oneCell') = true := by simp [Value.oneCell']
theorem iRow_one (g : Nat → Int) : (iRow g).all (·.oneCell') = true := by simp [iRow, Value.oneCell']
theorem run_index_row4' (f : Nat → Nat × Nat) (j : Nat) (h : j < 4) (w : World) : (Instr.index 26 (.agg (row4 f)) (.int .i64 j)).run Try.prog w = .ok (.complex .f64 (f j).1 (f j).2) w := by
  have hb : 0 ≤ (j : Int) ∧ (j : Int) < ((4 : Nat) : Int) := by omega
  have hc := row4_at f j h
  cases hq : Try.prog.info? 24 with
  | none => have := info_c128; simp [hq] at this
  | some i =>
    have hs : i.size = 1 := by have := info_c128; simpa [hq] using this
    simp [Instr.index, run_underlying Try.underlying26, asIntOf, hb, part, Sem.run_bind, sizeOf, typeInfo, hq, hs, run_isAgg_c, hc, go_sem]
    intro h2; omega

/-- one wave's part of a sum -/
theorem back_step {u v x y : Nat} {A B : Nat → Int} {p n : Nat} (hn : n < 4) (hA : ∀ m, m < 4 → (A m).natAbs ≤ 1125899906842624) (hB : ∀ m, m < 4 → (B m).natAbs ≤ 1125899906842624)
    (h : CRep u v (pR A B p n) (pI A B p n)) (hf : CRep x y (A n) (B n)) :
    ∃ q r q' r', cMulBits x y (tRe (n * p % 4)) (tIm (n * p % 4)) = some (q, r) ∧ cSumBits .add .f64 u v q r = some (q', r') ∧ CRep q' r' (pR A B p (n + 1)) (pI A B p (n + 1)) := by
  have hj : n * p % 4 < 4 := Nat.mod_lt _ (by decide)
  have ht := turn_rep _ hj
  have hb := t_one _ hj (A n) (B n) 0 (hA n hn) (hB n hn)
  have hp := p_le A B p hA hB n (by omega)
  obtain ⟨q, r, e1, r1⟩ := crep_mul hf ht (by omega) (by omega) (by omega) (by omega) (by omega) (by omega)
  have hnK : n * 1125899906842624 ≤ 3 * 1125899906842624 := Nat.mul_le_mul_right _ (by omega)
  obtain ⟨q', r', e2, r2⟩ := crep_add h r1 (by omega) (by omega)
  exact ⟨q, r, q', r', e1, e2, r2⟩

/-- the sum at place p is a whole one -/
def okAt (A B : Nat → Int) (p : Nat) : Prop := pI A B p 4 = 0 ∧ pR A B p 4 % 4 = 0

set_option maxRecDepth 100000 in
set_option maxHeartbeats 4000000 in
theorem season_back (f : Nat → Nat × Nat) (A B : Nat → Int) (w : World) (hf : ∀ m, m < 4 → CRep (f m).1 (f m).2 (A m) (B m)) (hA : ∀ m, m < 4 → (A m).natAbs ≤ 1125899906842624) (hB : ∀ m, m < 4 → (B m).natAbs ≤ 1125899906842624) :
    Calls Try.prog 12 #[.agg (row4 f)] w fun e w' => Below w.heap.size w w' ∧
      (((∀ p, p < 4 → okAt A B p) ∧ ∃ g : Nat → Int, (∀ p, p < 4 → g p = (pR A B p 4).tdiv 4) ∧ e = .returned (.tuple #[.agg (iRow g), .bool true])) ∨
       ((∃ p, p < 4 ∧ ¬ okAt A B p) ∧ e = .returned (.tuple #[.agg iz4, .bool false]))) := by
  have HF := Lib.hid hf
  have HA := Lib.hid hA
  have HB := Lib.hid hB
  have hW0 : Below w.heap.size w w := Below.refl _ _
  have TU : Hid (∀ (N : Int) (j : Nat), j < 4 → N % 4 = j → ∀ wx, Calls Try.prog 13 #[.int .i64 N] wx fun e w' => e = .returned (.complex .f64 (tRe j) (tIm j)) ∧ wx = w') := Lib.hid fun N j hj hN wx => season_turn N wx j hj hN
  have WH : Hid (∀ (x y : Nat) (a b : Int), CRep x y a b → a.natAbs ≤ 4503599627370496 → ∀ wx, Calls Try.prog 17 #[.complex .f64 x y] wx fun e w' => wx = w' ∧
      ((b = 0 ∧ a % 4 = 0 ∧ e = .returned (.tuple #[.int .i64 (a.tdiv 4), .bool true])) ∨ (¬ (b = 0 ∧ a % 4 = 0) ∧ e = .returned (.tuple #[.int .i64 0, .bool false])))) := Lib.hid fun x y a b h ha wx => season_whole x y a b wx h ha
  clear hf hA hB
  go_enter Try.func12, Try.ntmps12
  go_wp2
  go_loopw [11] (fun v11 wr => ∃ (k : Nat) (g : Nat → Int), k ≤ 4 ∧ v11 = .int .i64 (k : Int) ∧ Below w.heap.size w wr ∧ Hid (wr.heap[w.heap.size]? = some (.cells (row4 f) 26 (0, 0))) ∧ Hid (wr.heap[w.heap.size + 1]? = some (.cells iz4 41 (0, 0))) ∧ Hid (wr.heap[w.heap.size + 2]? = some (.cells (iRow g) 41 (0, 0))) ∧ Hid (∀ p, p < k → okAt A B p ∧ g p = (pR A B p 4).tdiv 4)) (fun v _ => 4 - (intOf v).toNat)
  case atStart =>
    refine ⟨0, fun _ => 0, by omega, rfl, ?_, Lib.hid ?_, Lib.hid ?_, Lib.hid ?_, Lib.hid fun p hp => (by omega)⟩
    · exact (((hW0.alloc (Nat.le_refl _) _).alloc (by simp) _).alloc (by simp; omega) _)
    · rw [Below.heap_alloc _ _ _ (by simp; omega)]; exact heap_alloc2_old _ _ _
    · rw [Below.heap_alloc _ _ _ (by simp)]; exact heap_alloc2_new _ _ _
    · exact heap_new (by simp)
  case round =>
    obtain ⟨k, g, hk, rfl, hB, H0, H1, H2, HG⟩ := hrel
    by_cases hlt : k < 4
    · go_wp2_with (with_reducible refine wpList_load_row rfl 26 (.tmp 1) rfl w.heap.size rfl 26 (row4 f) (0, 0) _ H0.out Try.underlying26 rfl (row4_info _) ?_)
      go_loop [6, 15] (fun v6 v15 => ∃ (n : Nat) (u v : Nat), n ≤ 4 ∧ v15 = .int .i64 (n : Int) ∧ v6 = .complex .f64 u v ∧ Hid (CRep u v (pR A B k n) (pI A B k n))) (fun _ v => 4 - (intOf v).toNat)
      case atStart => exact ⟨0, 0, 0, by omega, rfl, rfl, Lib.hid ⟨rep_zero, rep_zero⟩⟩
      case round =>
        obtain ⟨n, u, v, hn, rfl, rfl, HC⟩ := hrel
        by_cases hn4 : n < 4
        · obtain ⟨q, r, q', r', E1, E2, E3⟩ := back_step hn4 HA.out HB.out HC.out (HF.out n hn4)
          have E4 := Lib.hid E3
          have hidx := fun w => run_index_row4' f n hn4 w
          have hmul := fun w => run_complex_mul (P := Try.prog) w 24 _ _ _ _ _ _ E1
          have hadd := fun w => run_complex_sum (P := Try.prog) w .add (.inl rfl) 24 .f64 _ _ _ _ _ _ E2
          obtain ⟨N, hN⟩ : ∃ N : Int, N = (n : Int) * (k : Int) := ⟨_, rfl⟩
          have hN1 : IntKind.i64.wrap ((n : Int) * (k : Int)) = N := by
            have h9 : n * k ≤ 4 * 4 := Nat.mul_le_mul (by omega) (by omega)
            have h8 : ((n * k : Nat) : Int) = (n : Int) * (k : Int) := Int.natCast_mul _ _
            rw [hN, IntWalk.i64_in _ (by omega)]
          have T1 : Hid (∀ wx, Calls Try.prog 13 #[.int .i64 N] wx fun e w' => e = .returned (.complex .f64 (tRe (n * k % 4)) (tIm (n * k % 4))) ∧ wx = w') := Lib.hid fun wx => TU.out N (n * k % 4) (Nat.mod_lt _ (by decide)) (by rw [hN, ← Int.natCast_mul]; omega) wx
          have hk2 : (n : Int) < 4 := by omega
          obtain ⟨j, hj⟩ : ∃ j, j = n * k % 4 := ⟨_, rfl⟩
          rw [← hj] at hmul T1
          clear E1 E2 E3 hN hj
          go_wp2_with (go_at_call 13; (with_reducible refine (T1.out _).mono ?_); rintro e w' ⟨rfl, rfl⟩)
          go_round
          case rel => exact ⟨n + 1, q', r', by omega, by go_num, rfl, E4⟩
          case measure => simp [intOf]; omega
        · obtain rfl : n = 4 := by omega
          have hle := p_le A B k HA.out HB.out 4 (by omega)
          have HL : Hid ((pR A B k 4).natAbs ≤ 4503599627370496) := Lib.hid (by omega)
          clear hle
          by_cases hok : okAt A B k
          · have W1 : Hid (∀ wx, Calls Try.prog 17 #[.complex .f64 u v] wx fun e w' => e = .returned (.tuple #[.int .i64 ((pR A B k 4).tdiv 4), .bool true]) ∧ wx = w') := Lib.hid fun wx =>
              (WH.out u v _ _ HC.out HL.out wx).mono fun _ _ ⟨h1, h2⟩ => by
                rcases h2 with ⟨_, _, h3⟩ | ⟨h3, _⟩
                · exact ⟨h3, h1⟩
                · exact absurd hok h3
            have HOK := Lib.hid hok
            clear hok
            obtain ⟨t, ht⟩ : ∃ t, t = (pR A B k 4).tdiv 4 := ⟨_, rfl⟩
            rw [← ht] at W1
            have HT := Lib.hid ht
            clear ht
            have hcell : wr.cell? ⟨w.heap.size + 2, k, none⟩ = some (.int .i64 (g k)) := by rw [cell_of_row _ _ _ _ _ _ H2.out, iRow_at g k hlt]
            have hfz : wr.frozen? ⟨w.heap.size + 2, k, none⟩ = false := frozen_of_row _ _ _ _ _ H2.out
            go_wp2_with (go_at_call 17; (with_reducible refine (W1.out _).mono ?_); rintro e w' ⟨rfl, rfl⟩)
            go_roundw
            case rel =>
              refine ⟨k + 1, updI g k t, by omega, by go_num, hB.setCell (by simp; omega) _, Lib.hid ?_, Lib.hid ?_, Lib.hid ?_, Lib.hid fun p hp => ?_⟩
              · rw [heap_setCell_other _ _ _ _ (by simp; omega)]; exact H0.out
              · rw [heap_setCell_other _ _ _ _ (by simp)]; exact H1.out
              · rw [← iRow_set g k t hlt]; exact heap_setCell_same _ _ _ _ _ _ H2.out
              · unfold updI
                by_cases e : p = k
                · subst e; rw [if_pos rfl]; exact ⟨HOK.out, HT.out⟩
                · rw [if_neg e]; exact HG.out p (by omega)
            case measure => simp [intOf]; omega
          · have W1 : Hid (∀ wx, Calls Try.prog 17 #[.complex .f64 u v] wx fun e w' => e = .returned (.tuple #[.int .i64 0, .bool false]) ∧ wx = w') := Lib.hid fun wx =>
              (WH.out u v _ _ HC.out HL.out wx).mono fun _ _ ⟨h1, h2⟩ => by
                rcases h2 with ⟨h3, h4, _⟩ | ⟨_, h3⟩
                · exact absurd ⟨h3, h4⟩ hok
                · exact ⟨h3, h1⟩
            have HOK := Lib.hid hok
            clear hok
            go_wp2_with (first | (go_at_call 17; (with_reducible refine (W1.out _).mono ?_); rintro e w' ⟨rfl, rfl⟩) | (with_reducible refine wpList_store_row rfl 41 (.tmp 2) (.tmp 35) rfl (w.heap.size + 1) iz4 rfl rfl 41 iz4 H1.out iz4_info iz4_size iz4_one ?_))
            have H3 := setRow_heap _ (w.heap.size + 1) iz4 iz4 41 (0, 0) H1.out
            refine bodyPost_ret (results_row_tmp2 Try.results12 _ _ (w.heap.size + 1) 41 iz4 (0, 0) _ rfl H3 Try.underlying41 rfl iz4_info) rfl ?_
            exact ⟨hB.trans ⟨rfl, rfl, rfl, by simp, fun j hj => setRow_other _ _ _ _ (by omega)⟩, .inr ⟨⟨k, hlt, HOK.out⟩, rfl⟩⟩
    · obtain rfl : k = 4 := by omega
      go_wp2_with (first | (with_reducible refine wpList_load_row rfl 41 (.tmp 4) rfl (w.heap.size + 2) rfl 41 (iRow g) (0, 0) _ H2.out Try.underlying41 rfl (iRow_info _) ?_) | (with_reducible refine wpList_store_row rfl 41 (.tmp 2) (.tmp 40) rfl (w.heap.size + 1) (iRow g) rfl rfl 41 iz4 H1.out (iRow_info _) (iRow_size _) (iRow_one _) ?_))
      have H3 := setRow_heap _ (w.heap.size + 1) iz4 (iRow g) 41 (0, 0) H1.out
      refine bodyPost_ret (results_row_tmp2 Try.results12 _ _ (w.heap.size + 1) 41 (iRow g) (0, 0) _ rfl H3 Try.underlying41 rfl (iRow_info _)) rfl ?_
      exact ⟨hB.trans ⟨rfl, rfl, rfl, by simp, fun j hj => setRow_other _ _ _ _ (by omega)⟩, .inl ⟨fun p hp => (HG.out p hp).1, g, fun p hp => (HG.out p hp).2, rfl⟩⟩
end Go.Proofs.Ytepikibbghemhaa
