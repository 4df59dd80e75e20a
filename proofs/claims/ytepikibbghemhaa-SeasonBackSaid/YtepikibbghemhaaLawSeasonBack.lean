/-
  The walk of SeasonBack: what comes back are the sums by places; two rows put together have the waves of both; a row that begins later has those that are told.
-/
import Derived.Test.YtepikibbghemhaaSeaPlus
import Derived.Test.YtepikibbghemhaaAppSrc
import Derived.Deep.RegionHeld3
namespace Go.Proofs.Ytepikibbghemhaa
open Go.RowKit
set_option linter.unusedVariables false
set_option linter.unusedSimpArgs false

/-- number i of a row; 0 beyond it -/
def nth (l : List Int) (i : Nat) : Int := l[i]?.getD 0
def BIG : Int := 1099511627776
def fitsI (l : List Int) (i : Nat) : Prop := (nth l i).natAbs ≤ 1099511627776
def bothL (a b : List Int) (k : Nat) : List Int := (List.range k).map fun i => nth a i + nth b i
theorem bothL_succ (a b : List Int) (k : Nat) : (bothL a b (k + 1)).map (fun n => Value.int .i64 n) = (bothL a b k).map (fun n => Value.int .i64 n) ++ [.int .i64 (nth a k + nth b k)] := by
  simp [bothL, List.range_succ]
theorem bothL_length (a b : List Int) (k : Nat) : (bothL a b k).length = k := by simp [bothL]
theorem bothL_nth (a b : List Int) (k i : Nat) (h : i < k) : (bothL a b k)[i]?.getD 0 = nth a i + nth b i := by simp [bothL, h]
theorem nth_in {l : List Int} {i : Nat} (h : i < l.length) : nth l i = l[i] := by simp [nth, h]
theorem nth_out {l : List Int} {i : Nat} (h : ¬ i < l.length) : nth l i = 0 := by simp [nth, Nat.le_of_not_lt h]
theorem total_le (l : List Int) (K : Nat) (h : ∀ n ∈ l, n.natAbs ≤ K) : total l ≤ l.length * K := by
  induction l with
  | nil => simp [total]
  | cons a l ih =>
    have h1 := ih fun n hn => h n (List.mem_cons_of_mem _ hn)
    have h2 := h a (List.mem_cons_self ..)
    simp only [total, List.map_cons, List.sum_cons, List.length_cons] at *
    rw [Nat.succ_mul]
    omega
theorem total_fits (l : List Int) (n : Nat) (hn : l.length ≤ n) (h : ∀ i, i < n → fitsI l i) (h100 : l.length ≤ 100) : total l ≤ 109951162777600 := by
  have := total_le l 1099511627776 fun x hx => by
    obtain ⟨i, hi, rfl⟩ := List.mem_iff_getElem.1 hx
    have := h i (by omega)
    unfold fitsI at this
    rwa [nth_in hi] at this
  have h2 : l.length * 1099511627776 ≤ 100 * 1099511627776 := Nat.mul_le_mul_right _ h100
  omega
theorem total_both (a b : List Int) (n : Nat) (hn : n ≤ 100) (ha : ∀ i, i < n → fitsI a i) (hb : ∀ i, i < n → fitsI b i) : total (bothL a b n) ≤ 219902325555200 := by
  have := total_le (bothL a b n) 2199023255552 fun x hx => by
    simp only [bothL, List.mem_map, List.mem_range] at hx
    obtain ⟨i, hi, rfl⟩ := hx
    have h1 := ha i hi
    have h2 := hb i hi
    unfold fitsI at h1 h2
    omega
  rw [bothL_length] at this
  have h2 : n * 2199023255552 ≤ 100 * 2199023255552 := Nat.mul_le_mul_right _ hn
  omega
theorem total_app (n : Nat) (a : List Int) : total (List.replicate n 0 ++ a) = total a := by
  induction n with
  | zero => simp
  | succ n ih => simp only [List.replicate_succ, List.cons_append, total, List.map_cons, List.sum_cons] at *; simp [ih]
theorem sumsN_both (a b : List Int) (n : Nat) (ha : a.length ≤ n) (hb : b.length ≤ n) : sumsN (bothL a b n) n = (sumsN a a.length).add (sumsN b b.length) := by
  rw [sumsN_add a b _ n fun i hi => by rw [bothL_nth _ _ _ _ hi]; rfl]
  obtain ⟨d, rfl⟩ : ∃ d, n = a.length + d := ⟨n - a.length, by omega⟩
  rw [sumsN_past]
  obtain ⟨d', hd'⟩ : ∃ d', a.length + d = b.length + d' := ⟨a.length + d - b.length, by omega⟩
  rw [hd', sumsN_past]

theorem own_later {w : World} {base : Nat} {e : TypeId} {v : Value} {N : Nat} {a : List Int} (h : w.ownsRow base e 1 v (N + a.length) ((madeCells (Value.int .i64 0).cells (N * 1)).toList ++ a.map (fun n => .int .i64 n))) :
    ∃ D dc, v = .slice D (N + a.length) dc ∧ RowsAt w D 1 intRow (List.replicate N 0 ++ a) := by
  rw [show (Value.int IntKind.i64 0).cells = #[.int .i64 0] from rfl, toList_madeCells_one, Nat.mul_one] at h
  have e1 : List.replicate N (Value.int .i64 0) ++ a.map (fun n => .int .i64 n) = (List.replicate N (0 : Int) ++ a).map (fun n => .int .i64 n) := by simp
  have e2 : N + a.length = (List.replicate N (0 : Int) ++ a).length := by simp
  rw [e1, e2] at h
  obtain ⟨D, dc, h1, h2, _⟩ := own_rows (enc := intRow) h (fun _ => rfl)
  exact ⟨D, dc, by rw [h1, ← e2], h2⟩
theorem iRow_laid {w : World} (w0 : World) (g : Nat → Int) (t : TypeId) (h : Below w0.heap.size w0 w) :
    Below w0.heap.size w0 ((w.alloc (.cells iz4 t)).setRow w.heap.size (iRow g)) ∧ ((w.alloc (.cells iz4 t)).setRow w.heap.size (iRow g)).heap[w.heap.size]? = some (.cells (iRow g) t (0, 0)) ∧
    Below w.heap.size w ((w.alloc (.cells iz4 t)).setRow w.heap.size (iRow g)) := by
  have hb : Below w.heap.size w ((w.alloc (.cells iz4 t)).setRow w.heap.size (iRow g)) :=
    ((Below.refl _ _).alloc (Nat.le_refl _) _).trans ⟨rfl, rfl, rfl, by simp, fun j hj => setRow_other _ _ _ _ (by omega)⟩
  exact ⟨below_at h hb, setRow_heap _ _ _ _ _ _ (heap_alloc_new _ _), hb⟩
/-- the sum behind j of the two rows -/
def S_of (a b : List Int) (k j : Nat) : Int := match j with | 0 => 0 | 1 => nth a k | _ => nth a k + nth b k
theorem S_one (a b : List Int) (k : Nat) : S_of a b k 1 = nth a k := rfl
theorem S_two (a b : List Int) (k : Nat) : S_of a b k 2 = nth a k + nth b k := rfl

set_option maxRecDepth 100000 in
set_option maxHeartbeats 16000000 in
theorem SeasonBack_walk (A : Option Addr) (a : List Int) (ca : Nat) (B : Option Addr) (b : List Int) (cb : Nat) (n : Int) (w : World)
    (hra : RowsAt w A 1 intRow a) (hga : ∀ x ∈ a, I64 x) (hla : a.length ≤ ca) (hma : ca ≤ maxLen) (hca : A = none → ca = 0)
    (hrb : RowsAt w B 1 intRow b) (hgb : ∀ x ∈ b, I64 x) (hlb : b.length ≤ cb) (hmb : cb ≤ maxLen) (hcb : B = none → cb = 0) (wn : (Lit.int .u8 n).wf = true) :
    Calls Try.prog 5 #[.slice A a.length ca, .slice B b.length cb, .int .u8 n] w fun e w' => e = .returned (.bool true) ∧ Below w.heap.size w w' := by
  have hlen1 : a.length ≤ 9223372036854775807 := Nat.le_trans hla hma
  have hlen2 : b.length ≤ 9223372036854775807 := Nat.le_trans hlb hmb
  have W0 : Below w.heap.size w w := Below.refl _ _
  have AW : Hid (∀ wx, Below w.heap.size w wx → Calls Try.prog 6 #[] wx fun e w' => e = .returned (.bool true) ∧ Below w.heap.size w w') := Lib.hid fun wx h => (awake33 wx).mono fun _ _ ⟨h1, h2⟩ => ⟨h1, below_at h h2⟩
  by_cases hbig : 100 < a.length ∨ 100 < b.length
  · have hcase : 100 < a.length ∨ (a.length ≤ 100 ∧ 100 < b.length) := by omega
    clear hbig
    rcases hcase with h | ⟨h, h2⟩ <;>
    · go_enter Try.func5, Try.ntmps5
      go_wp2_with (go_at_call 6; (with_reducible refine (AW.out _ (by assumption)).mono ?_); rintro e w1 ⟨rfl, hB1⟩)
      go_ret
      exact ⟨rfl, hB1⟩
  · have hA : a.length ≤ 100 := by omega
    have hB : b.length ≤ 100 := by omega
    clear hbig
    have HRA := Lib.hid hra
    have HRB := Lib.hid hrb
    obtain ⟨wn0, wn1⟩ := wfU8 wn
    have HGA := Lib.hid hga
    have HGB := Lib.hid hgb
    have HCA := Lib.hid hca
    clear hra hrb hga hgb hca hcb wn
    obtain ⟨M, hM⟩ : ∃ M, M = max a.length b.length := ⟨_, rfl⟩
    have HMA : Hid (a.length ≤ M) := Lib.hid (by omega)
    have HMB : Hid (b.length ≤ M) := Lib.hid (by omega)
    have hM100 : M ≤ 100 := by omega
    have hmx : ∀ (ts : Array TypeId) (t : TypeId) (w : World), (Builtin.max_ ts t #[.int .i64 (a.length : Int), .int .i64 (b.length : Int)]).run Try.prog w = .ok (.int .i64 (M : Int)) w := fun ts t w => by
      rw [run_max_int2]
      have : (if (b.length : Int) > (a.length : Int) then (b.length : Int) else (a.length : Int)) = (M : Int) := by split <;> omega
      rw [this]
    clear hM
    go_enter Try.func5, Try.ntmps5
    go_wp2_with (go_at_call 6; (with_reducible refine (AW.out _ (by assumption)).mono ?_); rintro e w1 ⟨rfl, hB1⟩)
    clear hmx
    have HB1 := Lib.hid hB1
    clear hB1 W0 AW
    go_loopw [7, 40] (fun v7 v40 wr => ∃ k : Nat, k ≤ M ∧ v40 = .int .i64 (k : Int) ∧ Hid (wr.ownsRow w1.heap.size 2 1 v7 k ((bothL a b k).map fun n => Value.int .i64 n)) ∧ Below w1.heap.size w1 wr ∧ Hid (∀ i, i < k → fitsI a i ∧ fitsI b i)) (fun _ v _ => M - (intOf v).toNat)
    case atStart => exact ⟨0, by omega, rfl, Lib.hid own_none, Below.refl _ _, Lib.hid fun i hi => (by omega)⟩
    case round =>
      obtain ⟨k, hk, rfl, HO, hBr, HF⟩ := hrel
      by_cases hlt : k < M
      · go_upto_region 11 with fail
        have hBw : Below w1.heap.size w1 (wr.alloc (.cells #[.slice A a.length ca, .slice B b.length cb] 22)) := hBr.alloc hBr.size _
        have c0 : (wr.alloc (.cells #[.slice A a.length ca, .slice B b.length cb] 22)).cell? ⟨wr.heap.size, 0, none⟩ = some (.slice A a.length ca) := by rw [cell_of_row _ _ _ _ _ _ (heap_alloc_new _ _)]; rfl
        have c1 : (wr.alloc (.cells #[.slice A a.length ca, .slice B b.length cb] 22)).cell? ⟨wr.heap.size, 1, none⟩ = some (.slice B b.length cb) := by rw [cell_of_row _ _ _ _ _ _ (heap_alloc_new _ _)]; rfl
        have HO2 := Lib.hid (HO.out.alloc (.cells #[.slice A a.length ca, .slice B b.length cb] 22))
        generalize wr.alloc (.cells #[.slice A a.length ca, .slice B b.length cb] 22) = w2 at hBw c0 c1 HO2 ⊢
        have hBw2 : Below w.heap.size w w2 := HB1.out.trans (hBw.mono HB1.out.size)
        go_loop [9, 47] (fun v9 v47 => ∃ j : Nat, j ≤ 2 ∧ v47 = .int .i64 (j : Int) ∧ v9 = .int .i64 (S_of a b k j) ∧ Hid ((1 ≤ j → fitsI a k) ∧ (2 ≤ j → fitsI b k))) (fun _ v => 2 - (intOf v).toNat)
        case atStart => exact ⟨0, by omega, rfl, rfl, Lib.hid ⟨fun h => (by omega), fun h => (by omega)⟩⟩
        case round =>
          obtain ⟨j, hj, rfl, rfl, HP⟩ := hrel
          have hcase : j = 0 ∨ j = 1 ∨ j = 2 := by omega
          clear hj
          rcases hcase with rfl | rfl | rfl
          · -- row 0
            rw [show S_of a b k 0 = 0 from rfl]
            by_cases hin : k < a.length
            · obtain ⟨g, o, hgo, hcx⟩ := ints_at (HRA.out.moved hBw2) k hin
              obtain ⟨x, hx⟩ : ∃ x, x = a[k] := ⟨_, rfl⟩
              have hnx : nth a k = x := by rw [nth_in hin, hx]
              rw [← hx] at hcx
              have HNX := Lib.hid hnx
              clear hx hnx
              subst hgo
              have hin' : (k : Int) < (a.length : Int) := by omega
              by_cases hfit : x.natAbs ≤ 1099511627776
              · go_wp2
                go_round
                case rel => exact ⟨1, by omega, rfl, by congr 1; rw [S_one, HNX.out], Lib.hid ⟨fun _ => (by unfold fitsI; rw [HNX.out]; exact hfit), fun h => (by omega)⟩⟩
                case measure => simp [intOf]
              · have hcase : 1099511627776 < x ∨ (x ≤ 1099511627776 ∧ x < -1099511627776) := by omega
                clear hfit
                rcases hcase with h | ⟨h, h2⟩ <;>
                · go_wp2
                  go_ret
                  exact ⟨rfl, hBw2⟩
            · have hnx : nth a k = 0 := nth_out hin
              have HNX := Lib.hid hnx
              have hin' : ¬ (k : Int) < (a.length : Int) := by omega
              clear hnx
              go_wp2
              go_round
              case rel => exact ⟨1, by omega, rfl, by congr 1; rw [S_one, HNX.out], Lib.hid ⟨fun _ => (by unfold fitsI; rw [HNX.out]; decide), fun h => (by omega)⟩⟩
              case measure => simp [intOf]
          · -- row 1
            rw [S_one]
            have hyb : (nth a k).natAbs ≤ 1099511627776 := HP.out.1 (by omega)
            obtain ⟨y, hy⟩ : ∃ y, y = nth a k := ⟨_, rfl⟩
            rw [← hy] at hyb ⊢
            have HY := Lib.hid hy
            clear hy
            by_cases hin : k < b.length
            · obtain ⟨g, o, hgo, hcx⟩ := ints_at (HRB.out.moved hBw2) k hin
              obtain ⟨x, hx⟩ : ∃ x, x = b[k] := ⟨_, rfl⟩
              have hnx : nth b k = x := by rw [nth_in hin, hx]
              rw [← hx] at hcx
              have HNX := Lib.hid hnx
              clear hx hnx
              subst hgo
              have hin' : (k : Int) < (b.length : Int) := by omega
              by_cases hfit : x.natAbs ≤ 1099511627776
              · go_wp2
                go_round
                case rel => exact ⟨2, by omega, rfl, by congr 1; rw [S_two, HNX.out, ← HY.out], Lib.hid ⟨fun _ => HP.out.1 (by omega), fun _ => (by unfold fitsI; rw [HNX.out]; exact hfit)⟩⟩
                case measure => simp [intOf]
              · have hcase : 1099511627776 < x ∨ (x ≤ 1099511627776 ∧ x < -1099511627776) := by omega
                clear hfit
                rcases hcase with h | ⟨h, h2⟩ <;>
                · go_wp2
                  go_ret
                  exact ⟨rfl, hBw2⟩
            · have hnx : nth b k = 0 := nth_out hin
              have HNX := Lib.hid hnx
              have hin' : ¬ (k : Int) < (b.length : Int) := by omega
              clear hnx
              go_wp2
              go_round
              case rel => exact ⟨2, by omega, rfl, by congr 1; rw [S_two, HNX.out, ← HY.out]; omega, Lib.hid ⟨fun _ => HP.out.1 (by omega), fun _ => (by unfold fitsI; rw [HNX.out]; decide)⟩⟩
              case measure => simp [intOf]
          · obtain ⟨y, hy⟩ : ∃ y, y = nth a k + nth b k := ⟨_, rfl⟩
            have hS := Lib.hid (bothL_succ a b k)
            rw [← hy] at hS
            rw [S_two, ← hy]
            clear hy
            have hFk := HP.out
            go_wp2_with (at_builtin; refine wp_append_row rfl (.tmp 74) (.tmp 76) 22 rfl w1.heap.size 2 Try.underlying22 (.int .i64 0) 1 8 info_i64 rfl (by decide) (by decide) _ _ k _ rfl (HO2.out.alloc _) #[.int .i64 y] w2.heap.size (heap_new rfl) rfl (by simp [Value.oneCell']) rfl (by omega) (by have := hBw.size; simp; omega) ?_; intro v' w3 hown1 hB3; have HO1 := Lib.hid hown1; clear hown1)
            go_roundw
            case rel =>
              refine ⟨k + 1, by omega, by go_num, Lib.hid (by rw [hS.out]; exact HO1.out), (hBw.alloc hBw.size _).trans hB3, Lib.hid fun i hi => ?_⟩
              by_cases e : i = k
              · subst e; exact ⟨hFk.1 (by omega), hFk.2 (by omega)⟩
              · exact HF.out i (by omega)
            case measure => simp [intOf]; omega
      · obtain rfl : k = M := by omega
        have ho := HO.out
        have hbl := bothL_length a b k
        rw [show wr.ownsRow w1.heap.size 2 1 u7 k ((bothL a b k).map fun n => Value.int .i64 n) = wr.ownsRow w1.heap.size 2 1 u7 (bothL a b k).length ((bothL a b k).map fun n => Value.int .i64 n) by rw [hbl]] at ho
        obtain ⟨C, cc, rfl, hrow, h1, h2⟩ := own_rows (enc := intRow) (l := bothL a b k) ho (fun _ => rfl)
        have HROW := Lib.hid hrow
        have hBR : Below w.heap.size w wr := HB1.out.trans (hBr.mono HB1.out.size)
        -- the plain facts
        have fa := total_fits a k HMA.out (fun i hi => (HF.out i hi).1) hA
        have fb := total_fits b k HMB.out (fun i hi => (HF.out i hi).2) hB
        have fc := total_both a b k hM100 (fun i hi => (HF.out i hi).1) (fun i hi => (HF.out i hi).2)
        have hI : ∀ x ∈ bothL a b k, I64 x := fun x hx => by
          have := mem_le _ _ hx
          unfold I64; omega
        obtain ⟨N, hN⟩ : ∃ N : Nat, n = N := ⟨n.toNat, by omega⟩
        subst hN
        have fd : total (List.replicate N 0 ++ a) ≤ 109951162777600 := by rw [total_app]; exact fa
        have hI2 : ∀ x ∈ List.replicate N 0 ++ a, I64 x := fun x hx => by
          have := mem_le _ _ hx
          unfold I64; omega
        obtain ⟨s, hs⟩ : ∃ s, s = sumsN a a.length := ⟨_, rfl⟩
        obtain ⟨t, ht⟩ : ∃ t, t = sumsN b b.length := ⟨_, rfl⟩
        have ss : s.size ≤ 109951162777600 := by rw [hs]; exact Nat.le_trans (sumsN_size a _ (Nat.le_refl _)) (Nat.le_trans (total_take_le a _) fa)
        have st : t.size ≤ 109951162777600 := by rw [ht]; exact Nat.le_trans (sumsN_size b _ (Nat.le_refl _)) (Nat.le_trans (total_take_le b _) fb)
        have e1 : sumsN (bothL a b k) (bothL a b k).length = s.add t := by rw [hbl, hs, ht]; exact sumsN_both a b k HMA.out HMB.out
        have e2 : sumsN (List.replicate N 0 ++ a) (List.replicate N 0 ++ a).length = s.later (N % 4) := by
          rw [List.length_append, List.length_replicate, hs]; exact sumsN_later a N a.length
        have O1 : Hid (∀ wx, Below w.heap.size w wx → Calls Try.prog 7 #[.slice A a.length ca] wx fun e w' => ∃ f, Hid (Waves f s) ∧ e = .returned (.tuple #[.agg (row4 f), .bool true]) ∧ Below wx.heap.size wx w' ∧ Below w.heap.size w w') := Lib.hid fun wx h =>
          (season_of_yes a A ca wx (HRA.out.moved h) HGA.out hlen1 (by omega)).mono fun _ _ ⟨f, h1, h2, h3⟩ => ⟨f, Lib.hid (by rw [hs]; exact h1), h2, h3, below_at h h3⟩
        have O2 : Hid (∀ wx, Below w.heap.size w wx → Calls Try.prog 7 #[.slice B b.length cb] wx fun e w' => ∃ f, Hid (Waves f t) ∧ e = .returned (.tuple #[.agg (row4 f), .bool true]) ∧ Below wx.heap.size wx w' ∧ Below w.heap.size w w') := Lib.hid fun wx h =>
          (season_of_yes b B cb wx (HRB.out.moved h) HGB.out hlen2 (by omega)).mono fun _ _ ⟨f, h1, h2, h3⟩ => ⟨f, Lib.hid (by rw [ht]; exact h1), h2, h3, below_at h h3⟩
        have O3 : Hid (∀ wx, Below wr.heap.size wr wx → Calls Try.prog 7 #[.slice C k cc] wx fun e w' => ∃ f, Hid (Waves f (s.add t)) ∧ e = .returned (.tuple #[.agg (row4 f), .bool true]) ∧ Below wx.heap.size wx w' ∧ Below w.heap.size w w') := Lib.hid fun wx h =>
          (show Calls Try.prog 7 #[.slice C k cc] wx fun e w' => ∃ f, Waves f (sumsN (bothL a b k) (bothL a b k).length) ∧ e = .returned (.tuple #[.agg (row4 f), .bool true]) ∧ Below wx.heap.size wx w' by
            have := season_of_yes (bothL a b k) C cc wx (HROW.out.moved h) hI (by omega) (by omega)
            rw [show (Value.slice C (bothL a b k).length cc) = .slice C k cc by rw [hbl]] at this
            exact this).mono fun _ _ ⟨f, h1, h2, h3⟩ => ⟨f, Lib.hid (by rw [← e1]; exact h1), h2, h3, below_at (below_at hBR h) h3⟩
        have O4 : Hid (∀ (D : Option Addr) (dc : Nat) wx, Below w.heap.size w wx → RowsAt wx D 1 intRow (List.replicate N 0 ++ a) → Calls Try.prog 7 #[.slice D (N + a.length) dc] wx fun e w' => ∃ f, Hid (Waves f (s.later (N % 4))) ∧ e = .returned (.tuple #[.agg (row4 f), .bool true]) ∧ Below wx.heap.size wx w' ∧ Below w.heap.size w w') := Lib.hid fun D dc wx h hr => by
          have := season_of_yes (List.replicate N 0 ++ a) D dc wx hr hI2 (by simp; omega) (by omega)
          rw [List.length_append, List.length_replicate] at this
          exact this.mono fun _ _ ⟨f, h1, h2, h3⟩ => ⟨f, Lib.hid (by rw [← e2, List.length_append, List.length_replicate]; exact h1), h2, h3, below_at h h3⟩
        have SU : Hid (∀ wx, Below w.heap.size w wx → Calls Try.prog 8 #[.slice A a.length ca] wx fun e w' => ∃ q, e = .returned (.tuple #[.slice (some ⟨q, 0, none⟩) 4 4, .bool true]) ∧ Below w.heap.size w w' ∧ Below wx.heap.size wx w' ∧ w'.heap[q]? = some (.cells (sRow s) 2 (0, 0))) := Lib.hid fun wx h =>
          (ref_sums a A ca wx (HRA.out.moved h) HGA.out hlen1).mono fun _ _ ⟨h1, h2⟩ => by
            rcases h2 with ⟨_, q, h3, h4, h5⟩ | ⟨h3, _⟩
            · exact ⟨q, h3, below_at h h1, h1, by rw [hs]; exact h5⟩
            · omega
        have BK : Hid (∀ f wx, Waves f s → Below w.heap.size w wx → Calls Try.prog 12 #[.agg (row4 f)] wx fun e w' => ∃ g : Nat → Int, Hid (∀ p, p < 4 → g p = s.at p) ∧ e = .returned (.tuple #[.agg (iRow g), .bool true]) ∧ Below wx.heap.size wx w' ∧ Below w.heap.size w w') := Lib.hid fun f wx hf h => by
          refine (season_back f s.re s.im wx hf (fun m _ => by have := re_le s m; omega) (fun m _ => by have := im_le s m; omega)).mono fun e w' ⟨h1, h2⟩ => ?_
          rcases h2 with ⟨_, g, h4, h5⟩ | ⟨⟨p, hp, h3⟩, _⟩
          · exact ⟨g, Lib.hid fun p hp => by rw [h4 p hp, (back_sum s p hp).1, Int.mul_tdiv_cancel_left _ (by decide)], h5, h1, below_at h h1⟩
          · exfalso
            apply h3
            unfold okAt
            rw [(back_sum s p hp).1, (back_sum s p hp).2]
            exact ⟨rfl, by omega⟩
        have PL : Hid (∀ f h wx, Waves f s → Waves h t → Below w.heap.size w wx → Calls Try.prog 14 #[.agg (row4 f), .agg (row4 h)] wx fun e w' => e = .returned (.agg (row4 (plusF f h))) ∧ Below wx.heap.size wx w' ∧ Below w.heap.size w w') := Lib.hid fun f h wx hf hh hb =>
          (season_plus f h s t wx hf hh (by omega) (by omega)).mono fun _ _ ⟨h1, h2⟩ => ⟨h1, h2, below_at hb h2⟩
        have LT : Hid (∀ f wx, Waves f s → Below w.heap.size w wx → Calls Try.prog 15 #[.agg (row4 f), .int .i64 (N : Int)] wx fun e w' => e = .returned (.agg (row4 (laterF f (N % 4)))) ∧ Below wx.heap.size wx w' ∧ Below w.heap.size w w') := Lib.hid fun f wx hf hb =>
          (season_later f s (N : Int) (N % 4) wx hf (by omega) (Nat.mod_lt _ (by decide)) (by omega)).mono fun _ _ ⟨h1, h2⟩ => ⟨h1, h2, below_at hb h2⟩
        have SS := Lib.hid ss
        have ST := Lib.hid st
        have hN255 : N ≤ 255 := by omega
        clear ho h1 h2 hrow hs ht fa fb fc fd e1 e2 hI hI2 ss st HB1 HF HO hBr wn0 wn1
        have HBR := Lib.hid hBR
        go_upto_region 21 with (first | (go_at_call 7; (with_reducible refine (O1.out _ (by assumption)).mono ?_); rintro e w2 ⟨f1, F1, rfl, hC2, hB2⟩) | (with_reducible refine wpList_store_row rfl 26 (.tmp 12) (.tmp 82) rfl w2.heap.size (row4 f1) rfl rfl 26 z4 (heap_alloc_new _ _) (row4_info _) (row4_z4 _) (row4_one _) ?_))
        obtain ⟨P1, P2, P3, P4⟩ := row4_put w f1 26 hB2
        have hR3 := below_at hC2 P4
        generalize (w2.alloc (.cells z4 26)).setRow w2.heap.size (row4 f1) = w3 at P1 P2 P3 P4 hR3 ⊢
        have Q1 := Lib.hid P2
        have HR3 := Lib.hid hR3
        clear P2 P3 P4 hR3 hC2 hB2 hBR
        go_upto_region 22 with (first | (go_at_call 7; (with_reducible refine (O2.out _ (by assumption)).mono ?_); rintro e w4 ⟨f2, F2, rfl, hC4, hB4⟩; have Q2 := Lib.hid ((hC4.block _ (heap_lt Q1.out)).trans Q1.out)) | (with_reducible refine wpList_store_row rfl 26 (.tmp 14) (.tmp 87) rfl w4.heap.size (row4 f2) rfl rfl 26 z4 (heap_alloc_new _ _) (row4_info _) (row4_z4 _) (row4_one _) ?_))
        obtain ⟨P2, P3, P4, P5⟩ := row4_put w f2 26 hB4
        have HR5 := Lib.hid (below_at (below_at HR3.out hC4) P5)
        have R1 := Lib.hid ((P5.block _ (heap_lt Q2.out)).trans Q2.out)
        generalize (w4.alloc (.cells z4 26)).setRow w4.heap.size (row4 f2) = w5 at P2 P3 P4 P5 HR5 R1 ⊢
        have R2 := Lib.hid P3
        clear P3 P4 P5 hC4 hB4 P1 Q1 Q2 HR3
        have hR5 := HR5.out
        go_upto_region 23 with (first | (go_at_call 7; (with_reducible refine (O3.out _ (by assumption)).mono ?_); rintro e w6 ⟨f3, F3, rfl, hC6, hB6⟩; have S1 := Lib.hid ((hC6.block _ (heap_lt R1.out)).trans R1.out); have S2 := Lib.hid ((hC6.block _ (heap_lt R2.out)).trans R2.out)) | (with_reducible refine wpList_store_row rfl 26 (.tmp 16) (.tmp 92) rfl w6.heap.size (row4 f3) rfl rfl 26 z4 (heap_alloc_new _ _) (row4_info _) (row4_z4 _) (row4_one _) ?_))
        obtain ⟨P1, P3, P4, P5⟩ := row4_put w f3 26 hB6
        have T1 := Lib.hid ((P5.block _ (heap_lt S1.out)).trans S1.out)
        have T2 := Lib.hid ((P5.block _ (heap_lt S2.out)).trans S2.out)
        generalize (w6.alloc (.cells z4 26)).setRow w6.heap.size (row4 f3) = w7 at P1 P3 P4 P5 T1 T2 ⊢
        have T3 := Lib.hid P3
        have hbase := P1.size
        clear P3 P4 P5 hC6 hB6 P2 R1 R2 S1 S2 hR5
        obtain ⟨i0, hi, hz0, hz1, hz2⟩ := info_parts info_i64
        have HRA7 := Lib.hid (HRA.out.moved P1)
        go_upto_region 24 with (first | (with_reducible refine wpList_make_full _ rfl (.tmp 95) (.tmp 95) 22 rfl w7.heap.size 2 i0 (.int .i64 0) 1 Try.underlying22 hi hz0 hz1 .u8 .u8 (N : Int) (N : Int) N rfl rfl rfl rfl (by rw [hz2]; omega) (by unfold maxLen; omega) (Nat.le_refl _) ?_; intro w8 hown hg; have HO8 := Lib.hid hown; have B8 := Lib.hid ((Below.refl w7.heap.size w7).grown hg (Nat.le_refl _) (fun k h => by cases h)); clear hown hg) | (at_builtin; refine wp_append_src rfl (.tmp 96) (.tmp 97) 22 rfl w7.heap.size 2 Try.underlying22 (.int .i64 0) 8 info_i64 rfl (by decide) _ _ N _ rfl HO8.out intRow (fun n => .int .i64 n) (fun _ => rfl) (fun _ => rfl) A a ca (HRA7.out.moved B8.out) HCA.out rfl (by omega) B8.out.size ?_; intro v9 w9 hown9 hB9; obtain ⟨D, dc, rfl, hrow9⟩ := own_later hown9; clear hown9; have B9 := below_at P1 (B8.out.trans hB9); have T4 := Lib.hid (((B8.out.trans hB9).block _ (heap_lt T1.out)).trans T1.out); have T5 := Lib.hid (((B8.out.trans hB9).block _ (heap_lt T2.out)).trans T2.out); have T6 := Lib.hid (((B8.out.trans hB9).block _ (heap_lt T3.out)).trans T3.out); clear hB9) | (go_at_call 7; (with_reducible refine (O4.out _ _ _ B9 hrow9).mono ?_); rintro e w10 ⟨f4, F4, rfl, hC10, hB10⟩; have T4 := Lib.hid ((hC10.block _ (heap_lt T4.out)).trans T4.out); have T5 := Lib.hid ((hC10.block _ (heap_lt T5.out)).trans T5.out); have T6 := Lib.hid ((hC10.block _ (heap_lt T6.out)).trans T6.out)) | (with_reducible refine wpList_store_row rfl 26 (.tmp 18) (.tmp 100) rfl w10.heap.size (row4 f4) rfl rfl 26 z4 (heap_alloc_new _ _) (row4_info _) (row4_z4 _) (row4_one _) ?_))
        obtain ⟨P1, P3, P4, P5⟩ := row4_put w f4 26 hB10
        have U1 := Lib.hid ((P5.block _ (heap_lt T4.out)).trans T4.out)
        have U2 := Lib.hid ((P5.block _ (heap_lt T5.out)).trans T5.out)
        have U3 := Lib.hid ((P5.block _ (heap_lt T6.out)).trans T6.out)
        generalize (w10.alloc (.cells z4 26)).setRow w10.heap.size (row4 f4) = w11 at P1 P3 P4 P5 U1 U2 U3 ⊢
        have U4 := Lib.hid P3
        clear P3 P4 P5 hC10 hB10 T1 T2 T3 T4 T5 T6 hrow9 B8 HRA7 HO8
        go_upto_region 25 with (first | (with_reducible refine wpList_load_row rfl 26 (.tmp 12) rfl w2.heap.size rfl 26 (row4 f1) (0, 0) _ U1.out Try.underlying26 rfl (row4_info _) ?_) | (go_at_call 12; (with_reducible refine (BK.out _ _ F1.out (by assumption)).mono ?_); rintro e w12 ⟨g, HGG, rfl, hC12, hB12⟩; have V1 := Lib.hid ((hC12.block _ (heap_lt U1.out)).trans U1.out); have V2 := Lib.hid ((hC12.block _ (heap_lt U2.out)).trans U2.out); have V3 := Lib.hid ((hC12.block _ (heap_lt U3.out)).trans U3.out); have V4 := Lib.hid ((hC12.block _ (heap_lt U4.out)).trans U4.out)) | (with_reducible refine wpList_store_row rfl 41 (.tmp 20) (.tmp 105) rfl w12.heap.size (iRow g) rfl rfl 41 iz4 (heap_alloc_new _ _) (iRow_info _) (iRow_size _) (iRow_one _) ?_))
        obtain ⟨Q1, Q2, Q3⟩ := iRow_laid w g 41 hB12
        have X1 := Lib.hid ((Q3.block _ (heap_lt V1.out)).trans V1.out)
        have X2 := Lib.hid ((Q3.block _ (heap_lt V2.out)).trans V2.out)
        have X3 := Lib.hid ((Q3.block _ (heap_lt V3.out)).trans V3.out)
        have X4 := Lib.hid ((Q3.block _ (heap_lt V4.out)).trans V4.out)
        generalize (w12.alloc (.cells iz4 41)).setRow w12.heap.size (iRow g) = w13 at Q1 Q2 Q3 X1 X2 X3 X4 ⊢
        have X5 := Lib.hid Q2
        clear Q2 Q3 hC12 hB12 P1 V1 V2 V3 V4 U1 U2 U3 U4
        go_upto_region 26 with (go_at_call 8; (with_reducible refine (SU.out _ (by assumption)).mono ?_); rintro e w14 ⟨q, rfl, hB14, hC14, hQ14⟩; have Y1 := Lib.hid ((hC14.block _ (heap_lt X1.out)).trans X1.out); have Y2 := Lib.hid ((hC14.block _ (heap_lt X2.out)).trans X2.out); have Y3 := Lib.hid ((hC14.block _ (heap_lt X3.out)).trans X3.out); have Y4 := Lib.hid ((hC14.block _ (heap_lt X4.out)).trans X4.out); have Y5 := Lib.hid ((hC14.block _ (heap_lt X5.out)).trans X5.out); have Y6 := Lib.hid hQ14)
        obtain ⟨w2s, hw2s⟩ : ∃ x, x = w2.heap.size := ⟨_, rfl⟩
        obtain ⟨w4s, hw4s⟩ : ∃ x, x = w4.heap.size := ⟨_, rfl⟩
        obtain ⟨w6s, hw6s⟩ : ∃ x, x = w6.heap.size := ⟨_, rfl⟩
        obtain ⟨w10s, hw10s⟩ : ∃ x, x = w10.heap.size := ⟨_, rfl⟩
        obtain ⟨w12s, hw12s⟩ : ∃ x, x = w12.heap.size := ⟨_, rfl⟩
        rw [← hw2s] at Y1 ⊢
        rw [← hw4s] at Y2 ⊢
        rw [← hw6s] at Y3 ⊢
        rw [← hw10s] at Y4 ⊢
        rw [← hw12s] at Y5 ⊢
        clear hw2s hw4s hw6s hw10s hw12s
        obtain ⟨a0, a1, a2, a3⟩ := row4_cells Y1.out
        obtain ⟨b0, b1, b2, b3⟩ := row4_cells Y2.out
        obtain ⟨c0, c1, c2, c3⟩ := row4_cells Y3.out
        obtain ⟨d0, d1, d2, d3⟩ := row4_cells Y4.out
        have S0 : (fun wx : World => (wx.cell? ⟨w2s, 0, none⟩ = some (.complex .f64 (f1 0).1 (f1 0).2) ∧ wx.cell? ⟨w2s, 1, none⟩ = some (.complex .f64 (f1 1).1 (f1 1).2) ∧ wx.cell? ⟨w2s, 2, none⟩ = some (.complex .f64 (f1 2).1 (f1 2).2) ∧ wx.cell? ⟨w2s, 3, none⟩ = some (.complex .f64 (f1 3).1 (f1 3).2) ∧ wx.cell? ⟨w4s, 0, none⟩ = some (.complex .f64 (f2 0).1 (f2 0).2) ∧ wx.cell? ⟨w4s, 1, none⟩ = some (.complex .f64 (f2 1).1 (f2 1).2) ∧ wx.cell? ⟨w4s, 2, none⟩ = some (.complex .f64 (f2 2).1 (f2 2).2) ∧ wx.cell? ⟨w4s, 3, none⟩ = some (.complex .f64 (f2 3).1 (f2 3).2) ∧ wx.cell? ⟨w6s, 0, none⟩ = some (.complex .f64 (f3 0).1 (f3 0).2) ∧ wx.cell? ⟨w6s, 1, none⟩ = some (.complex .f64 (f3 1).1 (f3 1).2) ∧ wx.cell? ⟨w6s, 2, none⟩ = some (.complex .f64 (f3 2).1 (f3 2).2) ∧ wx.cell? ⟨w6s, 3, none⟩ = some (.complex .f64 (f3 3).1 (f3 3).2) ∧ wx.cell? ⟨w10s, 0, none⟩ = some (.complex .f64 (f4 0).1 (f4 0).2) ∧ wx.cell? ⟨w10s, 1, none⟩ = some (.complex .f64 (f4 1).1 (f4 1).2) ∧ wx.cell? ⟨w10s, 2, none⟩ = some (.complex .f64 (f4 2).1 (f4 2).2) ∧ wx.cell? ⟨w10s, 3, none⟩ = some (.complex .f64 (f4 3).1 (f4 3).2) ∧ Below w14.heap.size w14 wx)) w14 := ⟨a0, a1, a2, a3, b0, b1, b2, b3, c0, c1, c2, c3, d0, d1, d2, d3, Below.refl _ _⟩
        obtain ⟨z1, hz1⟩ : ∃ z, z = plusF f1 f2 := ⟨_, rfl⟩
        obtain ⟨z2, hz2⟩ : ∃ z, z = laterF f1 (N % 4) := ⟨_, rfl⟩
        have C1 : Hid (∀ wx : World, (wx.cell? ⟨w2s, 0, none⟩ = some (.complex .f64 (f1 0).1 (f1 0).2) ∧ wx.cell? ⟨w2s, 1, none⟩ = some (.complex .f64 (f1 1).1 (f1 1).2) ∧ wx.cell? ⟨w2s, 2, none⟩ = some (.complex .f64 (f1 2).1 (f1 2).2) ∧ wx.cell? ⟨w2s, 3, none⟩ = some (.complex .f64 (f1 3).1 (f1 3).2) ∧ wx.cell? ⟨w4s, 0, none⟩ = some (.complex .f64 (f2 0).1 (f2 0).2) ∧ wx.cell? ⟨w4s, 1, none⟩ = some (.complex .f64 (f2 1).1 (f2 1).2) ∧ wx.cell? ⟨w4s, 2, none⟩ = some (.complex .f64 (f2 2).1 (f2 2).2) ∧ wx.cell? ⟨w4s, 3, none⟩ = some (.complex .f64 (f2 3).1 (f2 3).2) ∧ wx.cell? ⟨w6s, 0, none⟩ = some (.complex .f64 (f3 0).1 (f3 0).2) ∧ wx.cell? ⟨w6s, 1, none⟩ = some (.complex .f64 (f3 1).1 (f3 1).2) ∧ wx.cell? ⟨w6s, 2, none⟩ = some (.complex .f64 (f3 2).1 (f3 2).2) ∧ wx.cell? ⟨w6s, 3, none⟩ = some (.complex .f64 (f3 3).1 (f3 3).2) ∧ wx.cell? ⟨w10s, 0, none⟩ = some (.complex .f64 (f4 0).1 (f4 0).2) ∧ wx.cell? ⟨w10s, 1, none⟩ = some (.complex .f64 (f4 1).1 (f4 1).2) ∧ wx.cell? ⟨w10s, 2, none⟩ = some (.complex .f64 (f4 2).1 (f4 2).2) ∧ wx.cell? ⟨w10s, 3, none⟩ = some (.complex .f64 (f4 3).1 (f4 3).2) ∧ Below w14.heap.size w14 wx) → Calls Try.prog 14 #[.agg #[.complex .f64 (f1 0).1 (f1 0).2, .complex .f64 (f1 1).1 (f1 1).2, .complex .f64 (f1 2).1 (f1 2).2, .complex .f64 (f1 3).1 (f1 3).2], .agg #[.complex .f64 (f2 0).1 (f2 0).2, .complex .f64 (f2 1).1 (f2 1).2, .complex .f64 (f2 2).1 (f2 2).2, .complex .f64 (f2 3).1 (f2 3).2]] wx fun e w' => e = .returned (.agg (row4 z1)) ∧ (fun wx : World => (wx.cell? ⟨w2s, 0, none⟩ = some (.complex .f64 (f1 0).1 (f1 0).2) ∧ wx.cell? ⟨w2s, 1, none⟩ = some (.complex .f64 (f1 1).1 (f1 1).2) ∧ wx.cell? ⟨w2s, 2, none⟩ = some (.complex .f64 (f1 2).1 (f1 2).2) ∧ wx.cell? ⟨w2s, 3, none⟩ = some (.complex .f64 (f1 3).1 (f1 3).2) ∧ wx.cell? ⟨w4s, 0, none⟩ = some (.complex .f64 (f2 0).1 (f2 0).2) ∧ wx.cell? ⟨w4s, 1, none⟩ = some (.complex .f64 (f2 1).1 (f2 1).2) ∧ wx.cell? ⟨w4s, 2, none⟩ = some (.complex .f64 (f2 2).1 (f2 2).2) ∧ wx.cell? ⟨w4s, 3, none⟩ = some (.complex .f64 (f2 3).1 (f2 3).2) ∧ wx.cell? ⟨w6s, 0, none⟩ = some (.complex .f64 (f3 0).1 (f3 0).2) ∧ wx.cell? ⟨w6s, 1, none⟩ = some (.complex .f64 (f3 1).1 (f3 1).2) ∧ wx.cell? ⟨w6s, 2, none⟩ = some (.complex .f64 (f3 2).1 (f3 2).2) ∧ wx.cell? ⟨w6s, 3, none⟩ = some (.complex .f64 (f3 3).1 (f3 3).2) ∧ wx.cell? ⟨w10s, 0, none⟩ = some (.complex .f64 (f4 0).1 (f4 0).2) ∧ wx.cell? ⟨w10s, 1, none⟩ = some (.complex .f64 (f4 1).1 (f4 1).2) ∧ wx.cell? ⟨w10s, 2, none⟩ = some (.complex .f64 (f4 2).1 (f4 2).2) ∧ wx.cell? ⟨w10s, 3, none⟩ = some (.complex .f64 (f4 3).1 (f4 3).2) ∧ Below w14.heap.size w14 wx)) w') := Lib.hid fun wx hs =>
          (PL.out f1 f2 wx F1.out F2.out (hB14.trans (hs.2.2.2.2.2.2.2.2.2.2.2.2.2.2.2.2.mono hB14.size))).mono fun _ _ ⟨h1, h2, h3⟩ => ⟨by rw [hz1]; exact h1, ⟨cell_stays h2 hs.1, cell_stays h2 hs.2.1, cell_stays h2 hs.2.2.1, cell_stays h2 hs.2.2.2.1, cell_stays h2 hs.2.2.2.2.1, cell_stays h2 hs.2.2.2.2.2.1, cell_stays h2 hs.2.2.2.2.2.2.1, cell_stays h2 hs.2.2.2.2.2.2.2.1, cell_stays h2 hs.2.2.2.2.2.2.2.2.1, cell_stays h2 hs.2.2.2.2.2.2.2.2.2.1, cell_stays h2 hs.2.2.2.2.2.2.2.2.2.2.1, cell_stays h2 hs.2.2.2.2.2.2.2.2.2.2.2.1, cell_stays h2 hs.2.2.2.2.2.2.2.2.2.2.2.2.1, cell_stays h2 hs.2.2.2.2.2.2.2.2.2.2.2.2.2.1, cell_stays h2 hs.2.2.2.2.2.2.2.2.2.2.2.2.2.2.1, cell_stays h2 hs.2.2.2.2.2.2.2.2.2.2.2.2.2.2.2.1, below_at hs.2.2.2.2.2.2.2.2.2.2.2.2.2.2.2.2 h2⟩⟩
        have C2 : Hid (∀ wx : World, (wx.cell? ⟨w2s, 0, none⟩ = some (.complex .f64 (f1 0).1 (f1 0).2) ∧ wx.cell? ⟨w2s, 1, none⟩ = some (.complex .f64 (f1 1).1 (f1 1).2) ∧ wx.cell? ⟨w2s, 2, none⟩ = some (.complex .f64 (f1 2).1 (f1 2).2) ∧ wx.cell? ⟨w2s, 3, none⟩ = some (.complex .f64 (f1 3).1 (f1 3).2) ∧ wx.cell? ⟨w4s, 0, none⟩ = some (.complex .f64 (f2 0).1 (f2 0).2) ∧ wx.cell? ⟨w4s, 1, none⟩ = some (.complex .f64 (f2 1).1 (f2 1).2) ∧ wx.cell? ⟨w4s, 2, none⟩ = some (.complex .f64 (f2 2).1 (f2 2).2) ∧ wx.cell? ⟨w4s, 3, none⟩ = some (.complex .f64 (f2 3).1 (f2 3).2) ∧ wx.cell? ⟨w6s, 0, none⟩ = some (.complex .f64 (f3 0).1 (f3 0).2) ∧ wx.cell? ⟨w6s, 1, none⟩ = some (.complex .f64 (f3 1).1 (f3 1).2) ∧ wx.cell? ⟨w6s, 2, none⟩ = some (.complex .f64 (f3 2).1 (f3 2).2) ∧ wx.cell? ⟨w6s, 3, none⟩ = some (.complex .f64 (f3 3).1 (f3 3).2) ∧ wx.cell? ⟨w10s, 0, none⟩ = some (.complex .f64 (f4 0).1 (f4 0).2) ∧ wx.cell? ⟨w10s, 1, none⟩ = some (.complex .f64 (f4 1).1 (f4 1).2) ∧ wx.cell? ⟨w10s, 2, none⟩ = some (.complex .f64 (f4 2).1 (f4 2).2) ∧ wx.cell? ⟨w10s, 3, none⟩ = some (.complex .f64 (f4 3).1 (f4 3).2) ∧ Below w14.heap.size w14 wx) → Calls Try.prog 15 #[.agg #[.complex .f64 (f1 0).1 (f1 0).2, .complex .f64 (f1 1).1 (f1 1).2, .complex .f64 (f1 2).1 (f1 2).2, .complex .f64 (f1 3).1 (f1 3).2], .int .i64 (N : Int)] wx fun e w' => e = .returned (.agg (row4 z2)) ∧ (fun wx : World => (wx.cell? ⟨w2s, 0, none⟩ = some (.complex .f64 (f1 0).1 (f1 0).2) ∧ wx.cell? ⟨w2s, 1, none⟩ = some (.complex .f64 (f1 1).1 (f1 1).2) ∧ wx.cell? ⟨w2s, 2, none⟩ = some (.complex .f64 (f1 2).1 (f1 2).2) ∧ wx.cell? ⟨w2s, 3, none⟩ = some (.complex .f64 (f1 3).1 (f1 3).2) ∧ wx.cell? ⟨w4s, 0, none⟩ = some (.complex .f64 (f2 0).1 (f2 0).2) ∧ wx.cell? ⟨w4s, 1, none⟩ = some (.complex .f64 (f2 1).1 (f2 1).2) ∧ wx.cell? ⟨w4s, 2, none⟩ = some (.complex .f64 (f2 2).1 (f2 2).2) ∧ wx.cell? ⟨w4s, 3, none⟩ = some (.complex .f64 (f2 3).1 (f2 3).2) ∧ wx.cell? ⟨w6s, 0, none⟩ = some (.complex .f64 (f3 0).1 (f3 0).2) ∧ wx.cell? ⟨w6s, 1, none⟩ = some (.complex .f64 (f3 1).1 (f3 1).2) ∧ wx.cell? ⟨w6s, 2, none⟩ = some (.complex .f64 (f3 2).1 (f3 2).2) ∧ wx.cell? ⟨w6s, 3, none⟩ = some (.complex .f64 (f3 3).1 (f3 3).2) ∧ wx.cell? ⟨w10s, 0, none⟩ = some (.complex .f64 (f4 0).1 (f4 0).2) ∧ wx.cell? ⟨w10s, 1, none⟩ = some (.complex .f64 (f4 1).1 (f4 1).2) ∧ wx.cell? ⟨w10s, 2, none⟩ = some (.complex .f64 (f4 2).1 (f4 2).2) ∧ wx.cell? ⟨w10s, 3, none⟩ = some (.complex .f64 (f4 3).1 (f4 3).2) ∧ Below w14.heap.size w14 wx)) w') := Lib.hid fun wx hs =>
          (LT.out f1 wx F1.out (hB14.trans (hs.2.2.2.2.2.2.2.2.2.2.2.2.2.2.2.2.mono hB14.size))).mono fun _ _ ⟨h1, h2, h3⟩ => ⟨by rw [hz2]; exact h1, ⟨cell_stays h2 hs.1, cell_stays h2 hs.2.1, cell_stays h2 hs.2.2.1, cell_stays h2 hs.2.2.2.1, cell_stays h2 hs.2.2.2.2.1, cell_stays h2 hs.2.2.2.2.2.1, cell_stays h2 hs.2.2.2.2.2.2.1, cell_stays h2 hs.2.2.2.2.2.2.2.1, cell_stays h2 hs.2.2.2.2.2.2.2.2.1, cell_stays h2 hs.2.2.2.2.2.2.2.2.2.1, cell_stays h2 hs.2.2.2.2.2.2.2.2.2.2.1, cell_stays h2 hs.2.2.2.2.2.2.2.2.2.2.2.1, cell_stays h2 hs.2.2.2.2.2.2.2.2.2.2.2.2.1, cell_stays h2 hs.2.2.2.2.2.2.2.2.2.2.2.2.2.1, cell_stays h2 hs.2.2.2.2.2.2.2.2.2.2.2.2.2.2.1, cell_stays h2 hs.2.2.2.2.2.2.2.2.2.2.2.2.2.2.2.1, below_at hs.2.2.2.2.2.2.2.2.2.2.2.2.2.2.2.2 h2⟩⟩
        have EQ1 : ∀ w, (binOp .neq 26 (.agg (row4 z1)) (.agg #[.complex .f64 (f3 0).1 (f3 0).2, .complex .f64 (f3 1).1 (f3 1).2, .complex .f64 (f3 2).1 (f3 2).2, .complex .f64 (f3 3).1 (f3 3).2])).run Try.prog w = .ok (.bool false) w := fun w => by
          have := run_neq_wave z1 f3 w
          rw [hz1, eq4_same (fun m hm => (plusF_bits F1.out F2.out (by have := SS.out; omega) (by have := ST.out; omega) m hm).2) F3.out] at this
          rw [hz1]; exact this
        have EQ2 : ∀ w, (binOp .neq 26 (.agg (row4 z2)) (.agg #[.complex .f64 (f4 0).1 (f4 0).2, .complex .f64 (f4 1).1 (f4 1).2, .complex .f64 (f4 2).1 (f4 2).2, .complex .f64 (f4 3).1 (f4 3).2])).run Try.prog w = .ok (.bool false) w := fun w => by
          have := run_neq_wave z2 f4 w
          rw [hz2, eq4_same (fun m hm => (laterF_bits F1.out (by have := SS.out; omega) (N % 4) (Nat.mod_lt _ (by decide)) m hm).2) F4.out] at this
          rw [hz2]; exact this
        have hBd : Below w14.heap.size w14 w14.drew := (Below.refl _ _).drew
        have HB14 := Lib.hid hB14
        clear hz1 hz2 S0
        clear Q1 X1 X2 X3 X4 X5 Y1 Y2 Y3 Y4 hB14 O1 O2 O3 O4 SU BK PL LT hC14 hQ14 B9 HR5 HBR HROW HCA HMA HMB HRA HRB HGA HGB
        have hwN : IntKind.i64.wrap (N : Int) = (N : Int) := IntWalk.i64_in _ (by omega)
        go_region_held3 (fun wx => (wx.cell? ⟨w2s, 0, none⟩ = some (.complex .f64 (f1 0).1 (f1 0).2) ∧ wx.cell? ⟨w2s, 1, none⟩ = some (.complex .f64 (f1 1).1 (f1 1).2) ∧ wx.cell? ⟨w2s, 2, none⟩ = some (.complex .f64 (f1 2).1 (f1 2).2) ∧ wx.cell? ⟨w2s, 3, none⟩ = some (.complex .f64 (f1 3).1 (f1 3).2) ∧ wx.cell? ⟨w4s, 0, none⟩ = some (.complex .f64 (f2 0).1 (f2 0).2) ∧ wx.cell? ⟨w4s, 1, none⟩ = some (.complex .f64 (f2 1).1 (f2 1).2) ∧ wx.cell? ⟨w4s, 2, none⟩ = some (.complex .f64 (f2 2).1 (f2 2).2) ∧ wx.cell? ⟨w4s, 3, none⟩ = some (.complex .f64 (f2 3).1 (f2 3).2) ∧ wx.cell? ⟨w6s, 0, none⟩ = some (.complex .f64 (f3 0).1 (f3 0).2) ∧ wx.cell? ⟨w6s, 1, none⟩ = some (.complex .f64 (f3 1).1 (f3 1).2) ∧ wx.cell? ⟨w6s, 2, none⟩ = some (.complex .f64 (f3 2).1 (f3 2).2) ∧ wx.cell? ⟨w6s, 3, none⟩ = some (.complex .f64 (f3 3).1 (f3 3).2) ∧ wx.cell? ⟨w10s, 0, none⟩ = some (.complex .f64 (f4 0).1 (f4 0).2) ∧ wx.cell? ⟨w10s, 1, none⟩ = some (.complex .f64 (f4 1).1 (f4 1).2) ∧ wx.cell? ⟨w10s, 2, none⟩ = some (.complex .f64 (f4 2).1 (f4 2).2) ∧ wx.cell? ⟨w10s, 3, none⟩ = some (.complex .f64 (f4 3).1 (f4 3).2) ∧ Below w14.heap.size w14 wx)) (first | assumption | go_keep)
          (first | (go_at_call 14; (with_reducible refine (C1.out _ (by assumption)).mono ?_); rintro e w' ⟨rfl, hS⟩) | (go_at_call 15; (with_reducible refine (C2.out _ (by assumption)).mono ?_); rintro e w' ⟨rfl, hS⟩))
        have hfin : (fun wx : World => (wx.cell? ⟨w2s, 0, none⟩ = some (.complex .f64 (f1 0).1 (f1 0).2) ∧ wx.cell? ⟨w2s, 1, none⟩ = some (.complex .f64 (f1 1).1 (f1 1).2) ∧ wx.cell? ⟨w2s, 2, none⟩ = some (.complex .f64 (f1 2).1 (f1 2).2) ∧ wx.cell? ⟨w2s, 3, none⟩ = some (.complex .f64 (f1 3).1 (f1 3).2) ∧ wx.cell? ⟨w4s, 0, none⟩ = some (.complex .f64 (f2 0).1 (f2 0).2) ∧ wx.cell? ⟨w4s, 1, none⟩ = some (.complex .f64 (f2 1).1 (f2 1).2) ∧ wx.cell? ⟨w4s, 2, none⟩ = some (.complex .f64 (f2 2).1 (f2 2).2) ∧ wx.cell? ⟨w4s, 3, none⟩ = some (.complex .f64 (f2 3).1 (f2 3).2) ∧ wx.cell? ⟨w6s, 0, none⟩ = some (.complex .f64 (f3 0).1 (f3 0).2) ∧ wx.cell? ⟨w6s, 1, none⟩ = some (.complex .f64 (f3 1).1 (f3 1).2) ∧ wx.cell? ⟨w6s, 2, none⟩ = some (.complex .f64 (f3 2).1 (f3 2).2) ∧ wx.cell? ⟨w6s, 3, none⟩ = some (.complex .f64 (f3 3).1 (f3 3).2) ∧ wx.cell? ⟨w10s, 0, none⟩ = some (.complex .f64 (f4 0).1 (f4 0).2) ∧ wx.cell? ⟨w10s, 1, none⟩ = some (.complex .f64 (f4 1).1 (f4 1).2) ∧ wx.cell? ⟨w10s, 2, none⟩ = some (.complex .f64 (f4 2).1 (f4 2).2) ∧ wx.cell? ⟨w10s, 3, none⟩ = some (.complex .f64 (f4 3).1 (f4 3).2) ∧ Below w14.heap.size w14 wx)) w' := by assumption
        have hBB := hfin.2.2.2.2.2.2.2.2.2.2.2.2.2.2.2.2
        have G1 := Lib.hid ((hBB.block _ (heap_lt Y5.out)).trans Y5.out)
        have G2 := Lib.hid ((hBB.block _ (heap_lt Y6.out)).trans Y6.out)
        have HBF : Hid (Below w.heap.size w w') := Lib.hid (HB14.out.trans (hBB.mono HB14.out.size))
        clear hfin hBB
        go_wp2
        go_loopw [150] (fun v wr => ∃ j : Nat, j ≤ 4 ∧ v = .int .i64 (j : Int) ∧ Drew w' wr) (fun v _ => 4 - (intOf v).toNat)
        case atStart => exact ⟨0, by omega, rfl, by repeat (first | exact Drew.refl _ | apply Drew.step)⟩
        case round =>
          obtain ⟨j, hj, rfl, ⟨⟨d, rfl⟩⟩⟩ := hrel
          by_cases hlt4 : j < 4
          · have e1 : w'.cell? ⟨w12s, j, none⟩ = some (.int .i64 (g j)) := by rw [cell_of_row _ _ _ _ _ _ G1.out, iRow_at g j hlt4]
            have e2 : w'.cell? ⟨q, j, none⟩ = some (.int .i64 (s.at j)) := by rw [cell_of_row _ _ _ _ _ _ G2.out, sRow_at s j hlt4]
            rw [HGG.out j hlt4] at e1
            obtain ⟨x, hx⟩ : ∃ x, x = s.at j := ⟨_, rfl⟩
            rw [← hx] at e1 e2
            clear hx
            have j1 : (j : Int) < 4 := by omega
            have j0 : 0 ≤ (j : Int) := by omega
            go_wp2
            go_quiet (fail)
            go_wp2
            go_roundw
            case rel => exact ⟨j + 1, by omega, by go_num, by repeat (first | exact Drew.refl _ | apply Drew.step)⟩
            case measure => simp [intOf]; omega
          · go_wp2
            go_ret
            exact ⟨rfl, below_drewN HBF.out _⟩
end Go.Proofs.Ytepikibbghemhaa
