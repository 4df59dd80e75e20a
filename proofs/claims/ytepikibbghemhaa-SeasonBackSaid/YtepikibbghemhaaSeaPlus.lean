/-
  Waves put together; waves of a row that begins later; and their sums.
-/
import Derived.Test.YtepikibbghemhaaSeaTrades
import Derived.StillTailTactics
namespace Go.Proofs.Ytepikibbghemhaa
open Go.RowKit
set_option linter.unusedVariables false
set_option linter.unusedSimpArgs false

def S4.add (s t : S4) : S4 := ⟨s.a + t.a, s.b + t.b, s.c + t.c, s.d + t.d⟩
def S4.later (s : S4) (i : Nat) : S4 := match i with | 0 => s | 1 => ⟨s.d, s.a, s.b, s.c⟩ | 2 => ⟨s.c, s.d, s.a, s.b⟩ | _ => ⟨s.b, s.c, s.d, s.a⟩
theorem add_re (s t : S4) (m : Nat) : (s.add t).re m = s.re m + t.re m := by unfold S4.re S4.add; split <;> (try simp only []) <;> omega
theorem add_im (s t : S4) (m : Nat) : (s.add t).im m = s.im m + t.im m := by unfold S4.im S4.add; split <;> (try simp only []) <;> omega
theorem add_put (s t : S4) (i : Nat) (m n : Int) : (s.put i m).add (t.put i n) = (s.add t).put i (m + n) := by
  unfold S4.put S4.add
  split <;> simp <;> omega
theorem put_zero (s : S4) (i : Nat) : s.put i 0 = s := by
  unfold S4.put
  split <;> simp
theorem later_put (s : S4) (i j : Nat) (hi : i < 4) (hj : j < 4) (n : Int) : (s.put j n).later i = (s.later i).put ((i + j) % 4) n := by
  match i, hi, j, hj with
  | 0, _, 0, _ | 0, _, 1, _ | 0, _, 2, _ | 0, _, 3, _ | 1, _, 0, _ | 1, _, 1, _ | 1, _, 2, _ | 1, _, 3, _ | 2, _, 0, _ | 2, _, 1, _ | 2, _, 2, _ | 2, _, 3, _ | 3, _, 0, _ | 3, _, 1, _ | 3, _, 2, _ | 3, _, 3, _ => rfl
theorem later_wave (s : S4) (m i : Nat) (hm : m < 4) (hi : i < 4) : (s.later i).re m = s.re m * tA (tj m i) - s.im m * tB (tj m i) ∧ (s.later i).im m = s.re m * tB (tj m i) + s.im m * tA (tj m i) := by
  match m, hm, i, hi with
  | 0, _, 0, _ | 0, _, 1, _ | 0, _, 2, _ | 0, _, 3, _ | 1, _, 0, _ | 1, _, 1, _ | 1, _, 2, _ | 1, _, 3, _ | 2, _, 0, _ | 2, _, 1, _ | 2, _, 2, _ | 2, _, 3, _ | 3, _, 0, _ | 3, _, 1, _ | 3, _, 2, _ | 3, _, 3, _ =>
    simp [S4.later, S4.re, S4.im, tj, tA, tB]; try omega
theorem later_size (s : S4) (i : Nat) : (s.later i).size = s.size := by unfold S4.later S4.size; split <;> simp only [] <;> omega
/-- what comes back -/
theorem back_sum (s : S4) (p : Nat) (hp : p < 4) : pR s.re s.im p 4 = 4 * s.at p ∧ pI s.re s.im p 4 = 0 := by
  match p, hp with
  | 0, _ | 1, _ | 2, _ | 3, _ => simp [pR, pI, S4.re, S4.im, S4.at, tA, tB]; omega

theorem sumsN_past (l : List Int) : ∀ d, sumsN l (l.length + d) = sumsN l l.length
  | 0 => rfl
  | d + 1 => by
    show (sumsN l (l.length + d)).put _ (l[l.length + d]?.getD 0) = _
    rw [List.getElem?_eq_none (by omega), Option.getD_none, put_zero, sumsN_past l d]
theorem sumsN_add (a b c : List Int) : ∀ n, (∀ i, i < n → c[i]?.getD 0 = a[i]?.getD 0 + b[i]?.getD 0) → sumsN c n = (sumsN a n).add (sumsN b n)
  | 0, _ => rfl
  | n + 1, h => by
    show (sumsN c n).put (n % 4) _ = ((sumsN a n).put (n % 4) _).add ((sumsN b n).put (n % 4) _)
    rw [add_put, ← sumsN_add a b c n (fun i hi => h i (by omega)), h n (by omega)]
theorem sumsN_zero (a : List Int) (n : Nat) : ∀ k, k ≤ n → sumsN (List.replicate n 0 ++ a) k = ⟨0, 0, 0, 0⟩
  | 0, _ => rfl
  | k + 1, h => by
    show (sumsN (List.replicate n 0 ++ a) k).put (k % 4) _ = _
    rw [sumsN_zero a n k (by omega), List.getElem?_append_left (by simp; omega)]
    simp [List.getElem?_replicate, show k < n by omega, put_zero]
theorem sumsN_later (a : List Int) (n : Nat) : ∀ k, sumsN (List.replicate n 0 ++ a) (n + k) = (sumsN a k).later (n % 4)
  | 0 => by
    rw [Nat.add_zero, sumsN_zero a n n (Nat.le_refl _)]
    show _ = (⟨0, 0, 0, 0⟩ : S4).later (n % 4)
    unfold S4.later; split <;> rfl
  | k + 1 => by
    show (sumsN (List.replicate n 0 ++ a) (n + k)).put ((n + k) % 4) ((List.replicate n 0 ++ a)[n + k]?.getD 0) = ((sumsN a k).put (k % 4) (a[k]?.getD 0)).later (n % 4)
    rw [later_put _ _ _ (by omega) (by omega), ← sumsN_later a n k, List.getElem?_append_right (by simp)]
    have e1 : n + k - (List.replicate n (0 : Int)).length = k := by simp
    have e2 : (n % 4 + k % 4) % 4 = (n + k) % 4 := by omega
    rw [e1, e2]

def plusF (f h : Nat → Nat × Nat) : Nat → Nat × Nat := fun m => (cSumBits .add .f64 (f m).1 (f m).2 (h m).1 (h m).2).getD (0, 0)
def laterF (f : Nat → Nat × Nat) (i : Nat) : Nat → Nat × Nat := fun m => (cMulBits (f m).1 (f m).2 (tRe (tj m i)) (tIm (tj m i))).getD (0, 0)
theorem plusF_bits {f h : Nat → Nat × Nat} {s t : S4} (hf : Waves f s) (hh : Waves h t) (hs : s.size ≤ 1125899906842624) (ht : t.size ≤ 1125899906842624) (m : Nat) (hm : m < 4) :
    cSumBits .add .f64 (f m).1 (f m).2 (h m).1 (h m).2 = some (plusF f h m) ∧ CRep (plusF f h m).1 (plusF f h m).2 ((s.add t).re m) ((s.add t).im m) := by
  have h1 := re_le s m
  have h2 := im_le s m
  have h3 := re_le t m
  have h4 := im_le t m
  obtain ⟨p, q, e, r⟩ := crep_add (hf m hm) (hh m hm) (by omega) (by omega)
  unfold plusF
  rw [e, add_re, add_im]
  exact ⟨rfl, r⟩
theorem laterF_bits {f : Nat → Nat × Nat} {s : S4} (hf : Waves f s) (hs : s.size ≤ 1125899906842624) (i : Nat) (hi : i < 4) (m : Nat) (hm : m < 4) :
    cMulBits (f m).1 (f m).2 (tRe (tj m i)) (tIm (tj m i)) = some (laterF f i m) ∧ CRep (laterF f i m).1 (laterF f i m).2 ((s.later i).re m) ((s.later i).im m) := by
  have h1 := re_le s m
  have h2 := im_le s m
  have hb := t_one _ (tj_lt m i) (s.re m) (s.im m) 0 (by omega) (by omega)
  obtain ⟨p, q, e, r⟩ := crep_mul (hf m hm) (turn_rep _ (tj_lt m i)) (by omega) (by omega) (by omega) (by omega) (by omega) (by omega)
  unfold laterF
  rw [e, (later_wave s m i hm hi).1, (later_wave s m i hm hi).2]
  exact ⟨rfl, r⟩
def half2 (f g : Nat → Nat × Nat) (n : Nat) : Nat → Nat × Nat := fun m => if m < n then g m else f m
theorem half2_next (f g : Nat → Nat × Nat) (n : Nat) : upd (half2 f g n) n (g n) = half2 f g (n + 1) := by
  funext m
  unfold upd half2
  by_cases e : m = n
  · subst e; rw [if_pos rfl, if_pos (by omega)]
  · rw [if_neg e]
    by_cases h : m < n
    · rw [if_pos h, if_pos (by omega)]
    · rw [if_neg h, if_neg (by omega)]
theorem half2_at (f g : Nat → Nat × Nat) (n : Nat) : half2 f g n n = f n := by unfold half2; rw [if_neg (Nat.lt_irrefl _)]
theorem half2_zero (f g : Nat → Nat × Nat) : half2 f g 0 = f := by funext m; unfold half2; rw [if_neg (by omega)]
theorem half2_last (f g : Nat → Nat × Nat) : row4 (half2 f g 4) = row4 g := rfl

set_option maxRecDepth 100000 in
set_option maxHeartbeats 4000000 in
theorem season_plus (f h : Nat → Nat × Nat) (s t : S4) (w : World) (hf : Waves f s) (hh : Waves h t) (hs : s.size ≤ 1125899906842624) (ht : t.size ≤ 1125899906842624) :
    Calls Try.prog 14 #[.agg (row4 f), .agg (row4 h)] w fun e w' => e = .returned (.agg (row4 (plusF f h))) ∧ Below w.heap.size w w' := by
  have HP := Lib.hid (fun m hm => (plusF_bits hf hh hs ht m hm).1)
  have hW0 : Below w.heap.size w w := Below.refl _ _
  clear hf hh hs ht
  obtain ⟨g, hg⟩ : ∃ g, g = plusF f h := ⟨_, rfl⟩
  rw [← hg] at HP ⊢
  clear hg
  go_enter Try.func14, Try.ntmps14
  go_wp2
  go_loopw [6] (fun v6 wr => ∃ k : Nat, k ≤ 4 ∧ v6 = .int .i64 (k : Int) ∧ Below w.heap.size w wr ∧ Hid (wr.heap[w.heap.size]? = some (.cells (row4 (half2 f g k)) 26 (0, 0))) ∧ Hid (wr.heap[w.heap.size + 1]? = some (.cells (row4 h) 26 (0, 0))) ∧ Hid (wr.heap[w.heap.size + 2]? = some (.cells z4 26 (0, 0)))) (fun v _ => 4 - (intOf v).toNat)
  case atStart =>
    refine ⟨0, by omega, rfl, ?_, Lib.hid ?_, Lib.hid ?_, Lib.hid ?_⟩
    · exact ((hW0.alloc (Nat.le_refl _) _).alloc (by simp) _).alloc (by simp; omega) _
    · rw [Below.heap_alloc _ _ _ (by simp; omega), half2_zero]; exact heap_alloc2_old _ _ _
    · rw [Below.heap_alloc _ _ _ (by simp)]; exact heap_alloc2_new _ _ _
    · exact heap_new (by simp)
  case round =>
    obtain ⟨k, hk, rfl, hB, H0, H1, H2⟩ := hrel
    by_cases hlt : k < 4
    · have hadd := fun w => run_complex_sum (P := Try.prog) w .add (.inl rfl) 24 .f64 _ _ _ _ _ _ (HP.out k hlt)
      have hst : ∀ (a : Addr) (w : World), (store a (.complex .f64 (g k).1 (g k).2)).run Try.prog w = stored Try.prog w a (.complex .f64 (g k).1 (g k).2) .plain := fun a w => run_store Try.prog w a _ _ rfl
      have c0 : wr.cell? ⟨w.heap.size, k, none⟩ = some (.complex .f64 (f k).1 (f k).2) := by rw [cell_of_row _ _ _ _ _ _ H0.out, row4_at _ k hlt, half2_at]
      have hfz : wr.frozen? ⟨w.heap.size, k, none⟩ = false := frozen_of_row _ _ _ _ _ H0.out
      have c1 : wr.cell? ⟨w.heap.size + 1, k, none⟩ = some (.complex .f64 (h k).1 (h k).2) := by rw [cell_of_row _ _ _ _ _ _ H1.out, row4_at _ k hlt]
      have hk2 : (k : Int) < 4 := by omega
      have hk3 : 0 ≤ (k : Int) := by omega
      go_wp2
      refine wp_region_still_tail 8 (by kernel_rfl) (by kernel_rfl) ?_
      simp only [List.take_succ_cons, List.take_zero, List.drop_succ_cons, List.drop_zero]
      repeat still_step
      refine wpStill_nil ?_
      change wpList _ _ _ _ _ wr.drew
      go_wp2
      go_roundw
      case rel =>
        refine ⟨k + 1, by omega, by go_num, (hB.setCell (by simp) _).drew, Lib.hid ?_, Lib.hid ?_, Lib.hid ?_⟩
        · show (wr.setCell _ _).heap[w.heap.size]? = _
          rw [← half2_next, ← row4_set _ k (g k) hlt]; exact heap_setCell_same _ _ _ _ _ _ H0.out
        · show (wr.setCell _ _).heap[w.heap.size + 1]? = _
          rw [heap_setCell_other _ _ _ _ (by simp)]; exact H1.out
        · show (wr.setCell _ _).heap[w.heap.size + 2]? = _
          rw [heap_setCell_other _ _ _ _ (by simp)]; exact H2.out
      case measure => simp [intOf]; omega
    · obtain rfl : k = 4 := by omega
      have H3 : Hid (wr.heap[w.heap.size]? = some (.cells (row4 g) 26 (0, 0))) := Lib.hid (by rw [← half2_last f g]; exact H0.out)
      go_wp2_with (first | (with_reducible refine wpList_load_row rfl 26 (.tmp 2) rfl w.heap.size rfl 26 (row4 g) (0, 0) _ H3.out Try.underlying26 rfl (row4_info _) ?_) | (with_reducible refine wpList_store_row rfl 26 (.tmp 4) (.tmp 18) rfl (w.heap.size + 2) (row4 g) rfl rfl 26 z4 H2.out (row4_info _) (row4_z4 _) (row4_one _) ?_))
      refine bodyPost_ret (results_cell_row Try.results14 _ _ (w.heap.size + 2) 26 (row4 g) (0, 0) _ rfl (setRow_heap _ _ _ _ _ _ H2.out) Try.underlying26 rfl (row4_info _)) rfl ?_
      exact ⟨rfl, hB.trans ⟨rfl, rfl, rfl, by simp, fun j hj => setRow_other _ _ _ _ (by omega)⟩⟩

set_option maxRecDepth 100000 in
set_option maxHeartbeats 4000000 in
theorem season_later (f : Nat → Nat × Nat) (s : S4) (n : Int) (i : Nat) (w : World) (hf : Waves f s) (hs : s.size ≤ 1125899906842624) (hi : i < 4) (hn : n % 4 = i) :
    Calls Try.prog 15 #[.agg (row4 f), .int .i64 n] w fun e w' => e = .returned (.agg (row4 (laterF f i))) ∧ Below w.heap.size w w' := by
  have HP := Lib.hid (fun m hm => (laterF_bits hf hs i hi m hm).1)
  have hW0 : Below w.heap.size w w := Below.refl _ _
  have hand : bits .and .i64 n 3 = (i : Int) := by rw [and3, hn]
  clear hf hs hn
  obtain ⟨g, hg⟩ : ∃ g, g = laterF f i := ⟨_, rfl⟩
  rw [← hg] at HP ⊢
  clear hg
  go_enter Try.func15, Try.ntmps15
  go_wp2
  go_loopw [6] (fun v6 wr => ∃ k : Nat, k ≤ 4 ∧ v6 = .int .i64 (k : Int) ∧ Below w.heap.size w wr ∧ Hid (wr.heap[w.heap.size]? = some (.cells (row4 (half2 f g k)) 26 (0, 0))) ∧ Hid (wr.heap[w.heap.size + 1]? = some (.cells z4 26 (0, 0)))) (fun v _ => 4 - (intOf v).toNat)
  case atStart =>
    refine ⟨0, by omega, rfl, ?_, Lib.hid ?_, Lib.hid ?_⟩
    · exact (hW0.alloc (Nat.le_refl _) _).alloc (by simp) _
    · rw [half2_zero]; exact heap_alloc2_old _ _ _
    · exact heap_alloc2_new _ _ _
  case round =>
    obtain ⟨m, hm, rfl, hB, H0, H2⟩ := hrel
    by_cases hm4 : m < 4
    · have hmul := fun w => run_complex_mul (P := Try.prog) w 24 _ _ _ _ _ _ (HP.out m hm4)
      have hst : ∀ (a : Addr) (w : World), (store a (.complex .f64 (g m).1 (g m).2)).run Try.prog w = stored Try.prog w a (.complex .f64 (g m).1 (g m).2) .plain := fun a w => run_store Try.prog w a _ _ rfl
      have TU : Hid (∀ wx, Calls Try.prog 13 #[.int .i64 (-(m : Int) * (i : Int))] wx fun e w' => e = .returned (.complex .f64 (tRe (tj m i)) (tIm (tj m i))) ∧ w' = wx) := Lib.hid fun wx => (season_turn _ wx (tj m i) (tj_lt m i) (tj_of m i)).mono fun _ _ h => ⟨h.1, h.2.symm⟩
      obtain ⟨N, hN⟩ : ∃ N : Int, N = -(m : Int) * (i : Int) := ⟨_, rfl⟩
      have hN1 : IntKind.i64.wrap (-(m : Int) * (i : Int)) = N := by
        have e : -(m : Int) * (i : Int) = -((m * i : Nat) : Int) := by rw [Int.neg_mul, ← Int.natCast_mul]
        have h9 : m * i ≤ 4 * 4 := Nat.mul_le_mul (by omega) (by omega)
        rw [hN, IntWalk.i64_in _ (by rw [e]; omega)]
      rw [← hN] at TU
      clear hN
      obtain ⟨M, hM⟩ : ∃ M : Int, M = -(m : Int) := ⟨_, rfl⟩
      rw [← hM] at hN1
      have hN0 : IntKind.i64.wrap (-(m : Int)) = M := by rw [← hM]; exact IntWalk.i64_in _ (by omega)
      clear hM
      have c0 : wr.cell? ⟨w.heap.size, m, none⟩ = some (.complex .f64 (f m).1 (f m).2) := by rw [cell_of_row _ _ _ _ _ _ H0.out, row4_at _ m hm4, half2_at]
      have hfz : wr.frozen? ⟨w.heap.size, m, none⟩ = false := frozen_of_row _ _ _ _ _ H0.out
      have hm0 : 0 ≤ (m : Int) := by omega
      have hm1 : (m : Int) < 4 := by omega
      go_wp2
      refine wp_region_still_tail 11 (by kernel_rfl) (by kernel_rfl) ?_
      simp only [List.take_succ_cons, List.take_zero, List.drop_succ_cons, List.drop_zero]
      repeat still_step
      still_call (TU.out _)
      repeat still_step
      refine wpStill_nil ?_
      change wpList _ _ _ _ _ wr.drew
      go_wp2
      go_roundw
      case rel =>
        refine ⟨m + 1, by omega, by go_num, (hB.setCell (by simp) _).drew, Lib.hid ?_, Lib.hid ?_⟩
        · show (wr.setCell _ _).heap[w.heap.size]? = _
          rw [← half2_next, ← row4_set _ m (g m) hm4]; exact heap_setCell_same _ _ _ _ _ _ H0.out
        · show (wr.setCell _ _).heap[w.heap.size + 1]? = _
          rw [heap_setCell_other _ _ _ _ (by simp)]; exact H2.out
      case measure => simp [intOf]; omega
    · obtain rfl : m = 4 := by omega
      have H3 : Hid (wr.heap[w.heap.size]? = some (.cells (row4 g) 26 (0, 0))) := Lib.hid (by rw [← half2_last f g]; exact H0.out)
      go_wp2_with (first | (with_reducible refine wpList_load_row rfl 26 (.tmp 2) rfl w.heap.size rfl 26 (row4 g) (0, 0) _ H3.out Try.underlying26 rfl (row4_info _) ?_) | (with_reducible refine wpList_store_row rfl 26 (.tmp 4) (.tmp 21) rfl (w.heap.size + 1) (row4 g) rfl rfl 26 z4 H2.out (row4_info _) (row4_z4 _) (row4_one _) ?_))
      refine bodyPost_ret (results_cell_row Try.results15 _ _ (w.heap.size + 1) 26 (row4 g) (0, 0) _ rfl (setRow_heap _ _ _ _ _ _ H2.out) Try.underlying26 rfl (row4_info _)) rfl ?_
      exact ⟨rfl, hB.trans ⟨rfl, rfl, rfl, by simp, fun j hj => setRow_other _ _ _ _ (by omega)⟩⟩
end Go.Proofs.Ytepikibbghemhaa
