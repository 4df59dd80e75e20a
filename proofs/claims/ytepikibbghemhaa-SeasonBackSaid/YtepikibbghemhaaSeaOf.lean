/-
  The waves of a row: season.Of.
-/
import Derived.Test.YtepikibbghemhaaSeaSmall
import Derived.StillTailTactics
namespace Go.Proofs.Ytepikibbghemhaa
open Go.RowKit
set_option linter.unusedVariables false
set_option linter.unusedSimpArgs false

theorem results_row_tmp2 {P : Program} {fn : Func} {p u : Tmp} {ty : TypeId} (h : fn.results = #[.cell p ty, .tmp u]) (tmps : Array Value) (w : World) (g : Nat) (t : TypeId) (cs : Array Value) (fr : Nat × Nat) (d : TypeDesc)
    (hp : tmps.getD p undef = .pointer (some ⟨g, 0, none⟩)) (hg : w.heap[g]? = some (.cells cs t fr))
    (hu : P.underlying ty = some d) (hd : (match d with | .struct _ | .array _ _ => true | _ => false) = true) (hi : (P.info? ty).map (·.size) = some cs.size) :
    (results fn tmps).run P w = .ok (.tuple #[.agg cs, tmps.getD u undef]) w := by
  rw [results_cell_tmp h, hp]
  simp [asAddr, Result.andThen, run_loadVar_row w g t ty cs fr d hg hu hd hi]
theorem info_wave : (Try.prog.info? 26).map (·.size) = some 4 := by kernel_rfl

/-- four waves' bits -/
def row4 (f : Nat → Nat × Nat) : Array Value := #[.complex .f64 (f 0).1 (f 0).2, .complex .f64 (f 1).1 (f 1).2, .complex .f64 (f 2).1 (f 2).2, .complex .f64 (f 3).1 (f 3).2]
abbrev z4 : Array Value := #[.complex .f64 0 0, .complex .f64 0 0, .complex .f64 0 0, .complex .f64 0 0]
theorem row4_size (f g : Nat → Nat × Nat) : (row4 f).size = (row4 g).size := rfl
theorem row4_info (f : Nat → Nat × Nat) : (Try.prog.info? 26).map (·.size) = some (row4 f).size := info_wave
theorem row4_one (f : Nat → Nat × Nat) : (row4 f).all (·.oneCell') = true := by simp [row4, Value.oneCell']
theorem z4_info : (Try.prog.info? 26).map (·.size) = some z4.size := info_wave
theorem z4_size : z4.size = z4.size := rfl
theorem z4_one : z4.all (·.oneCell') = true := by simp [Value.oneCell']
theorem row4_at (f : Nat → Nat × Nat) (m : Nat) (h : m < 4) : (row4 f)[m]? = some (.complex .f64 (f m).1 (f m).2) := by
  match m, h with
  | 0, _ | 1, _ | 2, _ | 3, _ => rfl
def upd (f : Nat → Nat × Nat) (m : Nat) (p : Nat × Nat) : Nat → Nat × Nat := fun i => if i = m then p else f i
theorem row4_set (f : Nat → Nat × Nat) (m : Nat) (p : Nat × Nat) (h : m < 4) : (row4 f).setIfInBounds m (.complex .f64 p.1 p.2) = row4 (upd f m p) := by
  match m, h with
  | 0, _ | 1, _ | 2, _ | 3, _ => rfl
def c00 : Nat → Nat × Nat := fun _ => (0, 0)
/-- waves that stand for s's -/
def Waves (f : Nat → Nat × Nat) (s : S4) : Prop := ∀ m, m < 4 → CRep (f m).1 (f m).2 (s.re m) (s.im m)
/-- the first m waves are the next one's already -/
def Half (f : Nat → Nat × Nat) (s s' : S4) (n : Nat) : Prop := ∀ m, m < 4 → if m < n then CRep (f m).1 (f m).2 (s'.re m) (s'.im m) else CRep (f m).1 (f m).2 (s.re m) (s.im m)
theorem waves_zero : Waves c00 ⟨0, 0, 0, 0⟩ := fun m h => by
  match m, h with
  | 0, _ | 1, _ | 2, _ | 3, _ => exact ⟨rep_zero, rep_zero⟩
theorem half_first {f : Nat → Nat × Nat} {s s' : S4} (h : Waves f s) : Half f s s' 0 := fun m hm => by rw [if_neg (by omega)]; exact h m hm
theorem half_last {f : Nat → Nat × Nat} {s s' : S4} (h : Half f s s' 4) : Waves f s' := fun m hm => by have := h m hm; rwa [if_pos hm] at this
theorem half_next {f : Nat → Nat × Nat} {s s' : S4} {n : Nat} (h : Half f s s' n) (hn : n < 4) (p : Nat × Nat) (hp : CRep p.1 p.2 (s'.re n) (s'.im n)) : Half (upd f n p) s s' (n + 1) := fun m hm => by
  unfold upd
  by_cases e : m = n
  · subst e; rw [if_pos (by omega), if_pos rfl]; exact hp
  · have := h m hm
    rw [if_neg e]
    by_cases hlt : m < n
    · rw [if_pos hlt] at this; rw [if_pos (by omega)]; exact this
    · rw [if_neg hlt] at this; rw [if_neg (by omega)]; exact this

/-- a wave's next value -/
theorem wave_step {u v : Nat} {s : S4} {m i : Nat} {n : Int} (hm : m < 4) (hi : i < 4) (h : CRep u v (s.re m) (s.im m)) (hs : s.size ≤ 1125899906842624) (hn : n.natAbs ≤ 1125899906842624) :
    ∃ p q p' q', cMulBits (floatOfInt .f64 n) 0 (tRe (tj m i)) (tIm (tj m i)) = some (p, q) ∧ cSumBits .add .f64 u v p q = some (p', q') ∧ CRep p' q' ((s.put i n).re m) ((s.put i n).im m) := by
  have hr := re_le s m
  have hj := im_le s m
  have hn' : CRep (floatOfInt .f64 n) 0 n 0 := ⟨rep_of n (by omega), rep_zero⟩
  have ht := turn_rep (tj m i) (tj_lt m i)
  have hA := tA_le (tj m i)
  have hB := tB_le (tj m i)
  obtain ⟨a, ha⟩ : ∃ a, a = tA (tj m i) := ⟨_, rfl⟩
  obtain ⟨b, hb⟩ : ∃ b, b = tB (tj m i) := ⟨_, rfl⟩
  rw [← ha, ← hb] at ht
  rw [← ha] at hA
  rw [← hb] at hB
  have na : (n * a).natAbs ≤ 1125899906842624 := by rcases hA with h | h | h <;> simp [h] <;> omega
  have nb : (n * b).natAbs ≤ 1125899906842624 := by rcases hB with h | h | h <;> simp [h] <;> omega
  obtain ⟨p, q, e1, r1⟩ := crep_mul hn' ht (by omega) (by simp) (by omega) (by simp) (by simp; omega) (by simp; omega)
  have r2 : CRep p q (n * a) (n * b) := by simpa using r1
  obtain ⟨p', q', e2, r3⟩ := crep_add h r2 (by omega) (by omega)
  refine ⟨p, q, p', q', e1, e2, ?_⟩
  rw [re_put s m i n hm hi, im_put s m i n hm hi, ← ha, ← hb]
  exact r3

set_option maxRecDepth 100000 in
set_option maxHeartbeats 4000000 in
theorem season_of_yes (l : List Int) (A : Option Addr) (c : Nat) (w : World) (hr : RowsAt w A 1 intRow l) (hb : ∀ n ∈ l, I64 n) (hlen : l.length ≤ 9223372036854775807) (hs : total l ≤ 1125899906842624) :
    Calls Try.prog 7 #[.slice A l.length c] w fun e w' => ∃ f, Waves f (sumsN l l.length) ∧ e = .returned (.tuple #[.agg (row4 f), .bool true]) ∧ Below w.heap.size w w' := by
  have SM : Hid (∀ wx, Below w.heap.size w wx → Calls Try.prog 16 #[.slice A l.length c] wx fun e w' => e = .returned (.bool true) ∧ wx = w') := Lib.hid fun wx h => by
    have := season_small l A c wx (hr.moved h) hb hlen
    rwa [small_yes hs] at this
  have HR := Lib.hid hr
  have HS := Lib.hid hs
  have hW0 : Below w.heap.size w w := Below.refl _ _
  clear hr hb hs
  go_enter Try.func7, Try.ntmps7
  have hB0 : Below w.heap.size w ((w.alloc (.cells z4 26)).alloc (.cells z4 26)) := ((hW0.alloc (Nat.le_refl _) _).alloc (by simp) _)
  go_wp2_with (first | (go_at_call 16; (with_reducible refine (SM.out _ (by assumption)).mono ?_); rintro e w1 ⟨rfl, rfl⟩))
  clear hB0
  go_loopw [14] (fun v14 wr => ∃ (k : Nat) (f : Nat → Nat × Nat), k ≤ l.length ∧ v14 = .int .i64 (k : Int) ∧ Below w.heap.size w wr ∧ Hid (wr.heap.size = w.heap.size + 2) ∧ Hid (wr.heap[w.heap.size]? = some (.cells (row4 c00) 26 (0, 0))) ∧ Hid (wr.heap[w.heap.size + 1]? = some (.cells (row4 f) 26 (0, 0))) ∧ Hid (Waves f (sumsN l k))) (fun v _ => l.length - (intOf v).toNat)
  case atStart => exact ⟨0, c00, by omega, rfl, ((hW0.alloc (Nat.le_refl _) _).alloc (by simp) _), Lib.hid (by simp), Lib.hid (heap_alloc2_old _ _ _), Lib.hid (heap_alloc2_new _ _ _), Lib.hid waves_zero⟩
  case round =>
    obtain ⟨k, f, hk, rfl, hB, HZ, H0, H1, HW⟩ := hrel
    by_cases hlt : k < l.length
    · obtain ⟨b, o, rfl, hc⟩ := ints_at (HR.out.moved hB) k hlt
      have HX : Hid ((l[k]).natAbs ≤ 1125899906842624) := Lib.hid (Nat.le_trans (mem_le l _ (List.getElem_mem hlt)) HS.out)
      have HSZ : Hid ((sumsN l k).size ≤ 1125899906842624) := Lib.hid (Nat.le_trans (sumsN_size l k hk) (Nat.le_trans (total_take_le l k) HS.out))
      have HN : Hid (sumsN l (k + 1) = (sumsN l k).put (k % 4) l[k]) := Lib.hid (by show (sumsN l k).put (k % 4) (l[k]?.getD 0) = _; rw [List.getElem?_eq_getElem hlt]; rfl)
      obtain ⟨x, hx⟩ : ∃ x, x = l[k] := ⟨_, rfl⟩
      rw [← hx] at hc HX HN
      clear hx
      obtain ⟨s, hs⟩ : ∃ s, s = sumsN l k := ⟨_, rfl⟩
      rw [← hs] at HW HSZ HN
      clear hs
      obtain ⟨i, hi⟩ : ∃ i, i = k % 4 := ⟨_, rfl⟩
      have hand : bits .and .i64 (k : Int) 3 = (i : Int) := by rw [and3, hi]; omega
      have hi4 : i < 4 := by omega
      rw [← hi] at HN
      clear hi
      go_wp2
      obtain ⟨wo, rfl⟩ : ∃ x, x = wr := ⟨_, rfl⟩
      go_loopw [19] (fun v19 wq => ∃ (m : Nat) (g : Nat → Nat × Nat), m ≤ 4 ∧ v19 = .int .i64 (m : Int) ∧ Below w.heap.size w wq ∧ Hid (wq.heap.size = w.heap.size + 2) ∧ Hid (wq.heap[w.heap.size]? = some (.cells (row4 c00) 26 (0, 0))) ∧ Hid (wq.heap[w.heap.size + 1]? = some (.cells (row4 g) 26 (0, 0))) ∧ Hid (Half g s (s.put i x) m)) (fun v _ => 4 - (intOf v).toNat)
      case atStart => exact ⟨0, f, by omega, rfl, hB, HZ, H0, H1, Lib.hid (half_first HW.out)⟩
      case round =>
        clear hc hB HZ H0 H1 HW
        obtain ⟨m, g, hm, rfl, hB, HZ, H0, H1, HH⟩ := hrel
        by_cases hm4 : m < 4
        · obtain ⟨p, q, p', q', E1, E2, E3⟩ := wave_step hm4 hi4 (by have := HH.out m hm4; rwa [if_neg (by omega)] at this) HSZ.out HX.out
          have E4 := Lib.hid E3
          have hconv := fun w => run_convert_int_float (P := Try.prog) w 2 33 .i64 .f64 x (by kernel_rfl) (by kernel_rfl)
          have hmul := fun w => run_complex_mul (P := Try.prog) w 24 _ _ _ _ _ _ E1
          have hadd := fun w => run_complex_sum (P := Try.prog) w .add (.inl rfl) 24 .f64 _ _ _ _ _ _ E2
          have TU : Hid (∀ wx, Calls Try.prog 13 #[.int .i64 (-(m : Int) * (i : Int))] wx fun e w' => e = .returned (.complex .f64 (tRe (tj m i)) (tIm (tj m i))) ∧ w' = wx) := Lib.hid fun wx => (season_turn _ wx (tj m i) (tj_lt m i) (tj_of m i)).mono fun _ _ h => ⟨h.1, h.2.symm⟩
          have hst : ∀ (a : Addr) (w : World), (store a (.complex .f64 p' q')).run Try.prog w = stored Try.prog w a (.complex .f64 p' q') .plain := fun a w => run_store Try.prog w a _ _ rfl
          clear E1 E2 E3
          obtain ⟨N, hN⟩ : ∃ N : Int, N = -(m : Int) * (i : Int) := ⟨_, rfl⟩
          have hN1 : IntKind.i64.wrap (-(m : Int) * (i : Int)) = N := by
            have e : -(m : Int) * (i : Int) = -((m * i : Nat) : Int) := by rw [Int.neg_mul, ← Int.natCast_mul]
            have h9 : m * i ≤ 4 * 4 := Nat.mul_le_mul (by omega) (by omega)
            rw [hN, IntWalk.i64_in _ (by rw [e]; omega)]
          rw [← hN] at TU
          clear hN
          obtain ⟨M, hM⟩ : ∃ M : Int, M = -(m : Int) := ⟨_, rfl⟩
          rw [← hM] at hN1
          have hcell : wr.cell? ⟨w.heap.size + 1, m, none⟩ = some (.complex .f64 (g m).1 (g m).2) := by rw [cell_of_row _ _ _ _ _ _ H1.out, row4_at g m hm4]
          have hfz : wr.frozen? ⟨w.heap.size + 1, m, none⟩ = false := frozen_of_row _ _ _ _ _ H1.out
          have hm0 : 0 ≤ (m : Int) := by omega
          have hN0 : IntKind.i64.wrap (-(m : Int)) = M := by rw [← hM]; exact IntWalk.i64_in _ (by omega)
          clear hM
          go_wp2
          refine wp_region_still_tail 15 (by kernel_rfl) (by kernel_rfl) ?_
          simp only [List.take_succ_cons, List.take_zero, List.drop_succ_cons, List.drop_zero]
          repeat still_step
          still_call (TU.out _)
          repeat still_step
          refine wpStill_nil ?_
          change wpList _ _ _ _ _ wr.drew
          go_wp2
          go_roundw
          case rel =>
            refine ⟨m + 1, upd g m (p', q'), by omega, by go_num, (hB.setCell (by simp) _).drew, Lib.hid ?_, Lib.hid ?_, Lib.hid ?_, Lib.hid (half_next HH.out hm4 (p', q') E4.out)⟩
            · have h := HZ.out; simpa [World.setCell, World.drew] using h
            · show (wr.setCell _ _).heap[w.heap.size]? = _
              rw [heap_setCell_other _ _ _ _ (by simp)]; exact H0.out
            · show (wr.setCell _ _).heap[w.heap.size + 1]? = _
              rw [← row4_set g m (p', q') hm4]; exact heap_setCell_same _ _ _ _ _ _ H1.out
          case measure => simp [intOf]; omega
        · have hm44 : m = 4 := by omega
          subst hm44
          go_wp2
          go_roundw
          case rel => exact ⟨k + 1, g, by omega, by go_num, hB, HZ, H0, H1, Lib.hid (by rw [HN.out]; exact half_last HH.out)⟩
          case measure => simp [intOf]; omega
    · have hkl : Hid (k = l.length) := Lib.hid (by omega)
      go_wp2_with (first | (with_reducible refine wpList_load_row rfl 26 (.tmp 4) rfl (w.heap.size + 1) rfl 26 (row4 f) (0, 0) _ H1.out Try.underlying26 rfl (row4_info _) ?_) | (with_reducible refine wpList_store_row rfl 26 (.tmp 2) (.tmp 39) rfl w.heap.size (row4 f) rfl rfl 26 (row4 c00) H0.out (row4_info _) (row4_size _ _) (row4_one _) ?_))
      have H2 : (wr.setRow w.heap.size (row4 f)).heap[w.heap.size]? = some (.cells (row4 f) 26 (0, 0)) := setRow_heap _ _ _ _ _ _ H0.out
      refine bodyPost_ret (results_row_tmp2 Try.results7 _ _ w.heap.size 26 (row4 f) (0, 0) _ rfl H2 Try.underlying26 rfl info_wave) rfl ?_
      refine ⟨f, by rw [← hkl.out]; exact HW.out, rfl, ?_⟩
      exact hB.trans ⟨rfl, rfl, rfl, by simp, fun j hj => setRow_other _ _ _ _ (by omega)⟩

set_option maxRecDepth 100000 in
set_option maxHeartbeats 4000000 in
theorem season_of_no (l : List Int) (A : Option Addr) (c : Nat) (w : World) (hr : RowsAt w A 1 intRow l) (hb : ∀ n ∈ l, I64 n) (hlen : l.length ≤ 9223372036854775807) (hs : 1125899906842624 < total l) :
    Calls Try.prog 7 #[.slice A l.length c] w fun e w' => e = .returned (.tuple #[.agg (row4 c00), .bool false]) ∧ Below w.heap.size w w' := by
  have SM : Hid (∀ wx, Below w.heap.size w wx → Calls Try.prog 16 #[.slice A l.length c] wx fun e w' => e = .returned (.bool false) ∧ wx = w') := Lib.hid fun wx h => by
    have := season_small l A c wx (hr.moved h) hb hlen
    rwa [small_no hs] at this
  have hW0 : Below w.heap.size w w := Below.refl _ _
  clear hr hb hs
  go_enter Try.func7, Try.ntmps7
  have hB0 : Below w.heap.size w ((w.alloc (.cells z4 26)).alloc (.cells z4 26)) := ((hW0.alloc (Nat.le_refl _) _).alloc (by simp) _)
  have H0 : Hid (((w.alloc (.cells z4 26)).alloc (.cells z4 26)).heap[w.heap.size]? = some (.cells z4 26 (0, 0))) := Lib.hid (heap_alloc2_old _ _ _)
  have H1 : Hid (((w.alloc (.cells z4 26)).alloc (.cells z4 26)).heap[w.heap.size + 1]? = some (.cells z4 26 (0, 0))) := Lib.hid (heap_alloc2_new _ _ _)
  go_wp2_with (first | (go_at_call 16; (with_reducible refine (SM.out _ (by assumption)).mono ?_); rintro e w1 ⟨rfl, rfl⟩) | (with_reducible refine wpList_load_row rfl 26 (.tmp 4) rfl (w.heap.size + 1) rfl 26 z4 (0, 0) _ H1.out Try.underlying26 rfl z4_info ?_) | (with_reducible refine wpList_store_row rfl 26 (.tmp 2) (.tmp 11) rfl w.heap.size z4 rfl rfl 26 z4 H0.out z4_info z4_size z4_one ?_))
  refine bodyPost_ret (results_row_tmp2 Try.results7 _ _ w.heap.size 26 z4 (0, 0) _ rfl (setRow_heap _ _ _ _ _ _ H0.out) Try.underlying26 rfl info_wave) rfl ?_
  exact ⟨rfl, hB0.trans ⟨rfl, rfl, rfl, by simp, fun j hj => setRow_other _ _ _ _ (by omega)⟩⟩
end Go.Proofs.Ytepikibbghemhaa
