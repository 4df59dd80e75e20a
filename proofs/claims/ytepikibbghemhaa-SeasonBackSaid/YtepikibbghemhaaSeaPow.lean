/-
  A wave's power; the chapter's example.
-/
import Derived.Test.YtepikibbghemhaaSeaWav
namespace Go.Proofs.Ytepikibbghemhaa
open Go.RowKit
set_option linter.unusedVariables false
set_option linter.unusedSimpArgs false

theorem sq_le {a : Int} (h1 : -1048576 < a) (h2 : a < 1048576) : 0 ≤ a * a ∧ a * a ≤ 1048576 * 1048576 := by
  rcases Int.le_total 0 a with h | h
  · exact ⟨Int.mul_nonneg h h, Int.mul_le_mul (by omega) (by omega) h (by omega)⟩
  · have e : a * a = (-a) * (-a) := by rw [Int.neg_mul_neg]
    rw [e]
    exact ⟨Int.mul_nonneg (by omega) (by omega), Int.mul_le_mul (by omega) (by omega) (by omega) (by omega)⟩

set_option maxHeartbeats 4000000 in
theorem season_power (f : Nat → Nat × Nat) (s : S4) (m : Int) (j : Nat) (w : World) (hj : j < 4) (hm : m % 4 = j) (hf : Waves f s) :
    Calls Try.prog 10 #[.agg (row4 f), .int .i64 m] w fun e w' => Below w.heap.size w w' ∧
      ∃ n : Int, e = .returned (.int .i64 n) ∧ -1 ≤ n ∧ ((-1048576 < s.re j ∧ s.re j < 1048576 ∧ -1048576 < s.im j ∧ s.im j < 1048576) → n = s.re j * s.re j + s.im j * s.im j) := by
  have hW0 : Below w.heap.size w w := Below.refl _ _
  have hb : bits .and .i64 m 3 = (j : Int) := by rw [and3, hm]
  clear hm
  obtain ⟨h1, h2⟩ := hf j hj
  obtain ⟨p, e1, n1⟩ := square_nn h1
  obtain ⟨q, e2, n2⟩ := square_nn h2
  obtain ⟨z, e3, n3⟩ := add_nn n1 n2
  have hz : (-1048576 < s.re j ∧ s.re j < 1048576 ∧ -1048576 < s.im j ∧ s.im j < 1048576) → Rep 0 z (s.re j * s.re j + s.im j * s.im j) ∧ 0 ≤ s.re j * s.re j + s.im j * s.im j ∧ s.re j * s.re j + s.im j * s.im j < 4611686018427387904 := by
    obtain ⟨a, ha⟩ : ∃ a, a = s.re j := ⟨_, rfl⟩
    obtain ⟨b, hb⟩ : ∃ b, b = s.im j := ⟨_, rfl⟩
    rw [← ha, ← hb]
    rw [← ha] at h1
    rw [← hb] at h2
    rintro ⟨k1, k2, k3, k4⟩
    have q1 : 0 ≤ a * a ∧ a * a ≤ 1048576 * 1048576 := sq_le k1 k2
    have q2 : 0 ≤ b * b ∧ b * b ≤ 1048576 * 1048576 := sq_le k3 k4
    obtain ⟨p', f1, r1⟩ := rep_mul h1 h1 (by omega)
    obtain ⟨q', f2, r2⟩ := rep_mul h2 h2 (by omega)
    rw [e1] at f1; cases f1
    rw [e2] at f2; cases f2
    obtain ⟨z', f3, r3⟩ := rep_add r1 r2 (by omega)
    rw [e3] at f3; cases f3
    exact ⟨r3, by omega, by omega⟩
  have HZ := Lib.hid hz
  have l1 := fun w => run_float_arith (P := Try.prog) w .mul 33 .f64 _ _ _ e1
  have l2 := fun w => run_float_arith (P := Try.prog) w .mul 33 .f64 _ _ _ e2
  have l3 := fun w => run_float_arith (P := Try.prog) w .add 33 .f64 _ _ _ e3
  have hc : (w.alloc (.cells (row4 f) 26)).cell? ⟨w.heap.size, j, none⟩ = some (.complex .f64 (f j).1 (f j).2) := by
    rw [cell_of_row _ _ _ _ _ _ (heap_alloc_new _ _), row4_at f j hj]
  clear e1 e2 e3 n1 n2 h1 h2 hz
  cases ho : (FloatKind.f64.format.order z 4886405595696988160 == some .lt)
  · have HN : Hid (¬ (-1048576 < s.re j ∧ s.re j < 1048576 ∧ -1048576 < s.im j ∧ s.im j < 1048576)) := Lib.hid fun h => by
      obtain ⟨r, _, r2⟩ := HZ.out h
      rw [rep_order_pos r read_62, compare_lt_iff] at ho
      simp at ho
      omega
    go_enter Try.func10, Try.ntmps10
    go_wp2
    go_ret
    exact ⟨hW0.alloc (Nat.le_refl _) _, -1, rfl, by omega, fun h => absurd h HN.out⟩
  · obtain ⟨n, g1, g2⟩ := nn_toInt n3 ho
    have HN : Hid ((-1048576 < s.re j ∧ s.re j < 1048576 ∧ -1048576 < s.im j ∧ s.im j < 1048576) → n = s.re j * s.re j + s.im j * s.im j) := Lib.hid fun h => by
      obtain ⟨r, r1, r2⟩ := HZ.out h
      have := rep_toInt r (by omega) (by omega)
      rw [g1] at this
      cases this; rfl
    have hcv := fun w => run_convert_float_int (P := Try.prog) w 33 2 .f64 .i64 z n (by kernel_rfl) (by kernel_rfl) g1
    clear g1
    go_enter Try.func10, Try.ntmps10
    go_wp2
    go_ret
    exact ⟨hW0.alloc (Nat.le_refl _) _, n, rfl, by omega, HN.out⟩

def kk (m : Nat) : Nat × Nat := match m with | 0 => (4613937818241073152, 0) | 1 => (4607182418800017408, 13835058055282163712) | 2 => (13830554455654793216, 0) | _ => (4607182418800017408, 4611686018427387904)
theorem kk_rep : Waves kk (sumsN [1, 2] 2) := fun m hm => by
  match m, hm with
  | 0, _ => exact ⟨⟨false, 51, by decide +kernel, fun _ => rfl⟩, rep_zero⟩
  | 1, _ => exact ⟨rep_one, ⟨true, 51, by decide +kernel, fun _ => rfl⟩⟩
  | 2, _ => exact ⟨rep_mone, rep_zero⟩
  | 3, _ => exact ⟨rep_one, ⟨false, 51, by decide +kernel, fun _ => rfl⟩⟩

theorem row4_z4 (f : Nat → Nat × Nat) : z4.size = (row4 f).size := rfl
/-- the four cells of waves that lie in memory -/
theorem row4_cells {w : World} {g : Nat} {f : Nat → Nat × Nat} {t : TypeId} (h : w.heap[g]? = some (.cells (row4 f) t (0, 0))) :
    w.cell? ⟨g, 0, none⟩ = some (.complex .f64 (f 0).1 (f 0).2) ∧ w.cell? ⟨g, 1, none⟩ = some (.complex .f64 (f 1).1 (f 1).2) ∧ w.cell? ⟨g, 2, none⟩ = some (.complex .f64 (f 2).1 (f 2).2) ∧ w.cell? ⟨g, 3, none⟩ = some (.complex .f64 (f 3).1 (f 3).2) := by
  refine ⟨?_, ?_, ?_, ?_⟩ <;> rw [cell_of_row _ _ _ _ _ _ h] <;> rfl
/-- waves stored into a block just made -/
theorem row4_put {w : World} (w0 : World) (f : Nat → Nat × Nat) (t : TypeId) (h : Below w0.heap.size w0 w) :
    Below w0.heap.size w0 ((w.alloc (.cells z4 t)).setRow w.heap.size (row4 f)) ∧ ((w.alloc (.cells z4 t)).setRow w.heap.size (row4 f)).heap[w.heap.size]? = some (.cells (row4 f) t (0, 0)) ∧ ((w.alloc (.cells z4 t)).setRow w.heap.size (row4 f)).heap.size = w.heap.size + 1 ∧
    Below w.heap.size w ((w.alloc (.cells z4 t)).setRow w.heap.size (row4 f)) := by
  have hb : Below w.heap.size w ((w.alloc (.cells z4 t)).setRow w.heap.size (row4 f)) :=
    ((Below.refl _ _).alloc (Nat.le_refl _) _).trans ⟨rfl, rfl, rfl, by simp, fun j hj => setRow_other _ _ _ _ (by omega)⟩
  exact ⟨below_at h hb, setRow_heap _ _ _ _ _ _ (heap_alloc_new _ _), by simp, hb⟩
theorem info_sea : (Try.prog.info? 26).map (·.size) = some 4 := by kernel_rfl
set_option maxRecDepth 100000 in
set_option maxHeartbeats 4000000 in
theorem awake33 (w : World) : Calls Try.prog 6 #[] w fun e w' => e = .returned (.bool true) ∧ Below w.heap.size w w' := by
  have hW0 : Below w.heap.size w w := Below.refl _ _
  have OF : Hid (∀ wx, wx.heap[w.heap.size]? = some (.cells #[.int .i64 1, .int .i64 2] 2 (0, 0)) → Below w.heap.size w wx → Calls Try.prog 7 #[.slice (some ⟨w.heap.size, 0, none⟩) 2 2] wx fun e w' => ∃ f, Hid (Waves f (sumsN [1, 2] 2)) ∧ e = .returned (.tuple #[.agg (row4 f), .bool true]) ∧ Below w.heap.size w w') := Lib.hid fun wx h hb =>
    (season_of_yes [1, 2] _ 2 wx ⟨.inr ⟨w.heap.size, 0, rfl, fun i r hi j v hv => by
      have hj : j = 0 := by
        rcases Nat.eq_zero_or_pos j with h | h
        · exact h
        · rw [List.getElem?_eq_none (show (intRow r).length ≤ j from h)] at hv; cases hv
      subst hj
      simp [intRow] at hv
      subst hv
      rw [cell_of_row _ _ _ _ _ _ h]
      match i, hi with
      | 0, hi => simp at hi; subst hi; rfl
      | 1, hi => simp at hi; subst hi; rfl⟩⟩ (by simp [I64]) (by decide) (by decide)).mono fun _ _ ⟨f, h1, h2, h3⟩ => ⟨f, Lib.hid h1, h2, below_at hb h3⟩
  have TU : Hid (∀ wx, Calls Try.prog 13 #[.int .i64 1] wx fun e w' => e = .returned (.complex .f64 0 4607182418800017408) ∧ wx = w') := Lib.hid fun wx => season_turn 1 wx 1 (by decide) (by decide)
  have h1 : ∀ w, (binOp .eql 24 (.complex .f64 0 4607182418800017408) (.complex .f64 0 4607182418800017408)).run Try.prog w = .ok (.bool true) w := fun w => by
    rw [run_eql_complex]; congr 2
  have hHB : Below w.heap.size w (w.alloc (.cells #[.int .i64 1, .int .i64 2] 2)) := hW0.alloc (Nat.le_refl _) _
  have hHN : (w.alloc (.cells #[.int .i64 1, .int .i64 2] 2)).heap[w.heap.size]? = some (.cells #[.int .i64 1, .int .i64 2] 2 (0, 0)) := heap_alloc_new _ _
  go_enter Try.func6, Try.ntmps6
  go_upto_region 2 with (first | (go_at_call 7; (with_reducible refine (OF.out _ hHN hHB).mono ?_); rintro e w1 ⟨f, HF, rfl, hB1⟩) | (with_reducible refine wpList_store_row rfl 26 (.tmp 1) (.tmp 6) rfl w1.heap.size (row4 f) rfl rfl 26 z4 (heap_alloc_new _ _) (row4_info _) (row4_z4 _) (row4_one _) ?_))
  obtain ⟨P1, P2, P3, -⟩ := row4_put w f 26 hB1
  generalize (w1.alloc (.cells z4 26)).setRow w1.heap.size (row4 f) = w2 at P1 P2 P3 ⊢
  obtain ⟨c0, c1, c2, c3⟩ := row4_cells P2
  have EQ : ∀ w, (binOp .eql 26 (.agg #[.complex .f64 (f 0).1 (f 0).2, .complex .f64 (f 1).1 (f 1).2, .complex .f64 (f 2).1 (f 2).2, .complex .f64 (f 3).1 (f 3).2]) (.agg #[.complex .f64 4613937818241073152 0, .complex .f64 4607182418800017408 13835058055282163712, .complex .f64 13830554455654793216 0, .complex .f64 4607182418800017408 4611686018427387904])).run Try.prog w = .ok (.bool true) w := fun w => by
    have := run_eql_wave f kk w
    rw [eq4_same HF.out kk_rep] at this
    exact this
  clear P2
  go_wp2_with (go_at_call 13; (with_reducible refine (TU.out _).mono ?_); rintro e w3 ⟨rfl, rfl⟩)
  trace_state
  go_ret
  exact ⟨rfl, P1⟩
end Go.Proofs.Ytepikibbghemhaa
