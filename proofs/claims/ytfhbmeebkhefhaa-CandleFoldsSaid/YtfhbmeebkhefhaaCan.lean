/-
  Candles: One, Join, and the join of a row.
-/
import Derived.Test.YtfhbmeebkhefhaaRecs
import Derived.Test.YtfhbmeebkhefhaaRow
import Derived.Test.YtfhbmeebkhefhaaAmt
import Derived.Test.YtfhbmeebkhefhaaAmtRef
import Derived.Test.YtfhbmeebkhefhaaResRow
import Derived.StillTailTactics
namespace Go.Proofs.Ytfhbmeebkhefhaa
open Go.RowKit
set_option linter.unusedVariables false
set_option linter.unusedSimpArgs false

structure CandleR where
  first : Int
  high : Int
  low : Int
  last : Int
  size : Int
  trades : Int
  deriving DecidableEq
instance : Inhabited CandleR := ⟨⟨0, 0, 0, 0, 0, 0⟩⟩
def CandleR.row (r : CandleR) : List Value := [.int .i64 r.first, .int .i64 r.high, .int .i64 r.low, .int .i64 r.last, .int .i64 r.size, .int .i64 r.trades]
abbrev CandleR.arr (r : CandleR) : Array Value := #[.int .i64 r.first, .int .i64 r.high, .int .i64 r.low, .int .i64 r.last, .int .i64 r.size, .int .i64 r.trades]
abbrev zeroC : CandleR := ⟨0, 0, 0, 0, 0, 0⟩
def oneC (p s : Int) : CandleR := ⟨p, p, p, p, s, 1⟩
/-- two as one, whatever their sizes come to -/
def glue (c d : CandleR) : CandleR := ⟨c.first, max c.high d.high, min c.low d.low, d.last, c.size + d.size, c.trades + d.trades⟩
def joinC (c d : CandleR) : CandleR × Int := if c.trades = 0 then (d, 0) else if d.trades = 0 then (c, 0) else if in64 (c.size + d.size) = true then (glue c d, 0) else (zeroC, 24)
/-- all of a row, behind what there is -/
def joinA (c : CandleR) : List CandleR → CandleR × Int
  | [] => (c, 0)
  | d :: l => if (joinC c d).2 = 0 then joinA (joinC c d).1 l else (zeroC, (joinC c d).2)
def joinL (l : List CandleR) : CandleR × Int := joinA zeroC l

/-- numbers that a candle of a row of a few has -/
structure CandleR.ok (c : CandleR) (K : Int) : Prop where
  size : in64 c.size = true
  t0 : 0 ≤ c.trades
  t1 : c.trades ≤ K

theorem c6_info (r : CandleR) : (Try.prog.info? 42).map (·.size) = some r.arr.size := show (Try.prog.info? 42).map (·.size) = some 6 by kernel_rfl
theorem c6_size (r q : CandleR) : r.arr.size = q.arr.size := rfl
theorem c6_one (r : CandleR) : r.arr.all (·.oneCell') = true := by simp [Value.oneCell']
theorem run_min2 {P : Program} (ts : Array TypeId) (t : TypeId) (a b : Int) (w : World) : (Builtin.min_ ts t #[.int .i64 a, .int .i64 b]).run P w = .ok (.int .i64 (min a b)) w := by
  have : min a b = if b < a then b else a := by by_cases h : b < a <;> simp [h] <;> omega
  rw [this]
  simp [Builtin.min_, Builtin.min2]
theorem run_max2 {P : Program} (ts : Array TypeId) (t : TypeId) (a b : Int) (w : World) : (Builtin.max_ ts t #[.int .i64 a, .int .i64 b]).run P w = .ok (.int .i64 (max a b)) w := by
  rw [run_max_int2]
  have : max a b = if b > a then b else a := by by_cases h : a < b <;> simp [h] <;> omega
  rw [this]

set_option maxRecDepth 100000 in
set_option maxHeartbeats 1000000 in
theorem candle_one (p s : Int) (w : World) :
    Calls Try.prog 14 #[.int .i64 p, .int .i64 s] w fun e w' => e = .returned (.agg (oneC p s).arr) ∧ Below w.heap.size w w' := by
  go_enter Try.func14, Try.ntmps14
  go_wp2
  refine bodyPost_ret (v := .agg #[.int .i64 p, .int .i64 p, .int .i64 p, .int .i64 p, .int .i64 s, .int .i64 1]) (by simp [results, Try.results14, go_sem]) rfl ?_
  exact ⟨rfl, (Below.refl _ _).alloc (Nat.le_refl _) _⟩

set_option maxRecDepth 100000 in
set_option maxHeartbeats 2000000 in
theorem candle_join2 (c d : CandleR) (w : World) (hc : c.ok 1000000) (hd : d.ok 1000000) :
    Calls Try.prog 21 #[.agg c.arr, .agg d.arr] w fun e w' => e = .returned (.tuple #[.agg (joinC c d).1.arr, .int .i64 (joinC c d).2]) ∧ Below w.heap.size w w' := by
  obtain ⟨cs, ct0, ct1⟩ := hc
  obtain ⟨ds, dt0, dt1⟩ := hd
  have AD : Hid (∀ wx, Calls Try.prog 22 #[.int .i64 c.size, .int .i64 d.size] wx fun e w' => e = .returned (.tuple #[.int .i64 (fits64 (c.size + d.size)), .int .i64 (over64 (c.size + d.size))]) ∧ Drew wx w') := Lib.hid fun wx => amount_add c.size d.size wx cs ds
  have H0 : Hid (∀ n, ((((w.alloc (.cells c.arr 42)).alloc (.cells d.arr 42)).alloc (.cells zeroC.arr 42)).drewN n).heap[w.heap.size]? = some (.cells c.arr 42 (0, 0))) := Lib.hid fun n => by
    rw [heap_of_drewN, Below.heap_alloc _ _ _ (by simp; omega)]; exact heap_alloc2_old _ _ _
  have H1 : Hid (∀ n, ((((w.alloc (.cells c.arr 42)).alloc (.cells d.arr 42)).alloc (.cells zeroC.arr 42)).drewN n).heap[w.heap.size + 1]? = some (.cells d.arr 42 (0, 0))) := Lib.hid fun n => by
    rw [heap_of_drewN, Below.heap_alloc _ _ _ (by simp)]; exact heap_alloc2_new _ _ _
  have H2 : Hid (∀ n, ((((w.alloc (.cells c.arr 42)).alloc (.cells d.arr 42)).alloc (.cells zeroC.arr 42)).drewN n).heap[w.heap.size + 1 + 1]? = some (.cells zeroC.arr 42 (0, 0))) := Lib.hid fun n => by
    rw [heap_of_drewN]; exact heap_new (by simp)
  have HB : Hid (∀ n, Below w.heap.size w ((((w.alloc (.cells c.arr 42)).alloc (.cells d.arr 42)).alloc (.cells zeroC.arr 42)).drewN n)) := Lib.hid fun n =>
    below_drewN ((((Below.refl _ _).alloc (Nat.le_refl _) _).alloc (by simp) _).alloc (by simp; omega) _) n
  have hmx := fun ts t w => run_max2 (P := Try.prog) ts t c.high d.high w
  have hmn := fun ts t w => run_min2 (P := Try.prog) ts t c.low d.low w
  obtain ⟨c0, c1, c2, c3, c4, c5⟩ := c
  obtain ⟨d0, d1, d2, d3, d4, d5⟩ := d
  simp only at cs ct0 ct1 ds dt0 dt1 AD hmx hmn
  obtain ⟨sz, hsz⟩ : ∃ z, z = c4 + d4 := ⟨_, rfl⟩
  obtain ⟨mx, hmxe⟩ : ∃ z, z = max c1 d1 := ⟨_, rfl⟩
  obtain ⟨mn, hmne⟩ : ∃ z, z = min c2 d2 := ⟨_, rfl⟩
  rw [← hsz] at AD
  rw [← hmxe] at hmx
  rw [← hmne] at hmn
  have hG : Hid (glue ⟨c0, c1, c2, c3, c4, c5⟩ ⟨d0, d1, d2, d3, d4, d5⟩ = ⟨c0, mx, mn, d3, sz, c5 + d5⟩) := Lib.hid (by unfold glue; rw [hsz, hmxe, hmne])
  by_cases h1 : c5 = 0
  · obtain ⟨z1, z2⟩ := eq_bb h1
    have E : joinC ⟨c0, c1, c2, c3, c4, c5⟩ ⟨d0, d1, d2, d3, d4, d5⟩ = (⟨d0, d1, d2, d3, d4, d5⟩, 0) := by unfold joinC; rw [if_pos h1]
    rw [E]
    clear E cs ds h1 hsz hmxe hmne
    go_enter Try.func21, Try.ntmps21
    go_wp2
    refine bodyPost_ret (v := .tuple #[.agg #[.int .i64 d0, .int .i64 d1, .int .i64 d2, .int .i64 d3, .int .i64 d4, .int .i64 d5], .int .i64 0]) (by simp [results, Try.results21, go_sem]) rfl ?_
    exact ⟨rfl, (((Below.refl _ _).alloc (Nat.le_refl _) _).alloc (by simp) _).alloc (by simp; omega) _⟩
  · obtain ⟨y1, y2⟩ := ne_bb h1
    by_cases h2 : d5 = 0
    · obtain ⟨z1, z2⟩ := eq_bb h2
      have E : joinC ⟨c0, c1, c2, c3, c4, c5⟩ ⟨d0, d1, d2, d3, d4, d5⟩ = (⟨c0, c1, c2, c3, c4, c5⟩, 0) := by unfold joinC; rw [if_neg h1, if_pos h2]
      rw [E]
      clear E cs ds h2 hsz hmxe hmne
      go_enter Try.func21, Try.ntmps21
      go_wp2
      refine bodyPost_ret (v := .tuple #[.agg #[.int .i64 c0, .int .i64 c1, .int .i64 c2, .int .i64 c3, .int .i64 c4, .int .i64 c5], .int .i64 0]) (by simp [results, Try.results21, go_sem]) rfl ?_
      exact ⟨rfl, (((Below.refl _ _).alloc (Nat.le_refl _) _).alloc (by simp) _).alloc (by simp; omega) _⟩
    · obtain ⟨z1, z2⟩ := ne_bb h2
      by_cases hs : in64 sz = true
      · have E : joinC ⟨c0, c1, c2, c3, c4, c5⟩ ⟨d0, d1, d2, d3, d4, d5⟩ = (glue ⟨c0, c1, c2, c3, c4, c5⟩ ⟨d0, d1, d2, d3, d4, d5⟩, 0) := by unfold joinC; rw [if_neg h1, if_neg h2, if_pos (by rw [← hsz]; exact hs)]
        rw [E]
        have e1 : fits64 sz = sz := by unfold fits64; rw [if_pos hs]
        have e2 : over64 sz = 0 := by unfold over64; rw [if_pos hs]
        rw [e1, e2] at AD
        clear E e1 e2 hs cs ds h1 h2 hsz hmxe hmne
        go_enter Try.func21, Try.ntmps21
        go_wp2_with (first | (go_at_call 22; (with_reducible refine (AD.out _).mono ?_); rintro e w1 ⟨rfl, ⟨n1, rfl⟩⟩) | (with_reducible refine wpList_store_row rfl 42 (.tmp 4) (.tmp 50) rfl (w.heap.size + 1 + 1) (CandleR.arr ⟨c0, mx, mn, d3, sz, c5 + d5⟩) rfl rfl 42 _ (H2.out n1) (c6_info _) (c6_size _ _) (c6_one _) ?_))
        refine bodyPost_ret (res_row_tmp Try.results21 _ _ (w.heap.size + 1 + 1) 42 (CandleR.arr ⟨c0, mx, mn, d3, sz, c5 + d5⟩) (0, 0) _ rfl (setRow_heap _ _ _ _ _ _ (H2.out n1)) Try.underlying42 rfl (c6_info _)) rfl ?_
        exact ⟨by rw [hG.out]; rfl, below_setRow (HB.out n1) _ _ (by omega)⟩
      · have E : joinC ⟨c0, c1, c2, c3, c4, c5⟩ ⟨d0, d1, d2, d3, d4, d5⟩ = (zeroC, 24) := by unfold joinC; rw [if_neg h1, if_neg h2, if_neg (by rw [← hsz]; exact hs)]
        rw [E]
        have e1 : fits64 sz = 0 := by unfold fits64; rw [if_neg hs]
        have e2 : over64 sz = 24 := by unfold over64; rw [if_neg hs]
        rw [e1, e2] at AD
        clear E e1 e2 hs cs ds h1 h2 hsz hmxe hmne
        go_enter Try.func21, Try.ntmps21
        go_wp2_with (first | (go_at_call 22; (with_reducible refine (AD.out _).mono ?_); rintro e w1 ⟨rfl, ⟨n1, rfl⟩⟩) | (with_reducible refine wpList_store_row rfl 42 (.tmp 4) (.tmp 28) rfl (w.heap.size + 1 + 1) (CandleR.arr ⟨0, 0, 0, 0, 0, 0⟩) rfl rfl 42 _ (H2.out n1) (c6_info _) (c6_size _ _) (c6_one _) ?_))
        refine bodyPost_ret (res_row_tmp Try.results21 _ _ (w.heap.size + 1 + 1) 42 (CandleR.arr ⟨0, 0, 0, 0, 0, 0⟩) (0, 0) _ rfl (setRow_heap _ _ _ _ _ _ (H2.out n1)) Try.underlying42 rfl (c6_info _)) rfl ?_
        exact ⟨rfl, below_setRow (HB.out n1) _ _ (by omega)⟩
end Go.Proofs.Ytfhbmeebkhefhaa
