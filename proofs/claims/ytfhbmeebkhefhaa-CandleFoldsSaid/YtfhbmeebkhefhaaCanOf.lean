/-
  Trades as ticks, and candles of so many each: candle.Trades, candle.Of.
-/
import Derived.Test.YtfhbmeebkhefhaaCanFold
import Derived.Handy
namespace Go.Proofs.Ytfhbmeebkhefhaa
open Go.RowKit
set_option linter.unusedVariables false
set_option linter.unusedSimpArgs false

theorem trade_cells {w : World} {a : Option Addr} {l : List TradeR} (h : RowsAt w a 4 TradeR.row l) (i : Nat) (hi : i < l.length) : ∃ b o, a = some ⟨b, o, none⟩ ∧
    w.cell? ⟨b, o + i * 4, none⟩ = some (.int .u64 l[i].maker) ∧ w.cell? ⟨b, o + i * 4 + 1, none⟩ = some (.int .u64 l[i].taker) ∧ w.cell? ⟨b, o + i * 4 + 2, none⟩ = some (.int .i64 l[i].price) ∧ w.cell? ⟨b, o + i * 4 + 3, none⟩ = some (.int .i64 l[i].size) := by
  obtain ⟨b, o, e, hc⟩ := h.at_ i hi
  exact ⟨b, o, e, hc 0 _ rfl, hc 1 _ rfl, hc 2 _ rfl, hc 3 _ rfl⟩
/-- a tick -/
def tickRow (r : Int × Int) : List Value := [.int .i64 r.1, .int .i64 r.2]
def ticksOf (l : List TradeR) : List (Int × Int) := l.map fun r => (r.price, r.size)
theorem info_tick : (Try.prog.info? 32).map (fun i => (i.zero, i.size, i.bytes)) = some (some (.agg #[.int .i64 0, .int .i64 0]), 2, 16) := by kernel_rfl
theorem flat_take_succ {ρ : Type} (enc : ρ → List Value) (l : List ρ) (k : Nat) (h : k < l.length) : (l.take (k + 1)).flatMap enc = (l.take k).flatMap enc ++ enc l[k] := by
  rw [List.take_succ_eq_append_getElem h, List.flatMap_append]; simp

set_option maxRecDepth 100000 in
set_option maxHeartbeats 4000000 in
theorem candle_trades (l : List TradeR) (A : Option Addr) (c : Nat) (w : World) (hr : RowsAt w A 4 TradeR.row l) (hlen : l.length ≤ 1000000) :
    Calls Try.prog 8 #[.slice A l.length c] w fun e w' => ∃ B d, e = .returned (.slice B l.length d) ∧ RowsAt w' B 2 tickRow (ticksOf l) ∧ Below w.heap.size w w' ∧ l.length ≤ d := by
  have HR := Lib.hid hr
  have hsl : (ticksOf l).length = l.length := by simp [ticksOf]
  clear hr
  go_enter Try.func8, Try.ntmps8
  go_wp2
  go_loopw [3, 8] (fun v3 v8 wr => ∃ k : Nat, k ≤ l.length ∧ v8 = .int .i64 (k : Int) ∧ Hid (wr.ownsRow w.heap.size 32 2 v3 k (((ticksOf l).take k).flatMap tickRow)) ∧ Below w.heap.size w wr) (fun _ v _ => l.length - (intOf v).toNat)
  case atStart => exact ⟨0, by omega, rfl, Lib.hid own_none, Below.refl _ _⟩
  case round =>
    obtain ⟨k, hk, rfl, HO, hB⟩ := hrel
    by_cases hlt : k < l.length
    · obtain ⟨b, o, rfl, c0, c1, c2, c3⟩ := trade_cells (HR.out.moved hB) k hlt
      have hTS := Lib.hid (flat_take_succ tickRow (ticksOf l) k (by omega))
      have hg : (ticksOf l)[k] = (l[k].price, l[k].size) := by simp [ticksOf]
      rw [hg] at hTS
      obtain ⟨x0, hx0⟩ : ∃ x, x = l[k].maker := ⟨_, rfl⟩
      obtain ⟨x1, hx1⟩ : ∃ x, x = l[k].taker := ⟨_, rfl⟩
      obtain ⟨x2, hx2⟩ : ∃ x, x = l[k].price := ⟨_, rfl⟩
      obtain ⟨x3, hx3⟩ : ∃ x, x = l[k].size := ⟨_, rfl⟩
      rw [← hx0] at c0; rw [← hx1] at c1; rw [← hx2] at c2 hTS; rw [← hx3] at c3 hTS
      clear hx0 hx1 hx2 hx3 hg
      go_wp2_with (at_builtin; refine wp_append_row rfl (.tmp 12) (.tmp 18) 33 rfl w.heap.size 32 Try.underlying33 (.agg #[.int .i64 0, .int .i64 0]) 2 16 info_tick rfl (by decide) (by decide) _ _ k _ rfl ((HO.out.alloc _).alloc _) #[.int .i64 x2, .int .i64 x3] (wr.heap.size + 1) (heap_new (by simp)) rfl (by simp [Value.oneCell']) rfl (by omega) (by have := hB.size; simp; omega) ?_; intro v' w2 hown1 hB1; have HO1 := Lib.hid hown1; clear hown1)
      go_roundw
      case rel => exact ⟨k + 1, by omega, by go_num, Lib.hid (by rw [hTS.out]; exact HO1.out), ((hB.alloc hB.size _).alloc (by have := hB.size; simp; omega) _).trans hB1⟩
      case measure => simp [intOf]; omega
    · obtain rfl : k = l.length := by omega
      have ho := HO.out
      rw [List.take_of_length_le (by omega)] at ho
      rw [← hsl] at ho
      obtain ⟨a, c', rfl, hrow, h1, h2⟩ := own_rowsN (enc := tickRow) (m := 2) (l := ticksOf l) ho (fun _ => rfl)
      clear ho
      have HRow := Lib.hid hrow
      rw [hsl] at h1
      rw [hsl]
      clear hrow h2 hsl
      go_wp2
      go_ret
      exact ⟨a, c', rfl, HRow.out, hB, h1⟩

theorem tick_at (p s : Int) (w : World) : Calls Try.prog 39 #[.agg #[.int .i64 p, .int .i64 s]] w fun e w' => e = .returned (.tuple #[.int .i64 p, .int .i64 s]) ∧ Below w.heap.size w w' := by
  go_enter Try.func39, Try.ntmps39
  go_wp2
  go_quiet (fail)
  go_wp2
  go_ret2
  exact ⟨rfl, by (repeat (first | exact Below.refl _ _ | assumption | apply below_drewN | (refine Below.setCell ?_ (by first | assumption | omega | (simp; try omega)) _) | (refine Below.alloc ?_ (by first | assumption | omega | (simp; try omega)) _)))⟩

/-- one of each -/
def onesOf (l : List (Int × Int)) : List CandleR := l.map fun r => oneC r.1 r.2
theorem tick_cells {w : World} {a : Option Addr} {l : List (Int × Int)} (h : RowsAt w a 2 tickRow l) (i : Nat) (hi : i < l.length) : ∃ b o, a = some ⟨b, o, none⟩ ∧
    w.cell? ⟨b, o + i * 2, none⟩ = some (.int .i64 l[i].1) ∧ w.cell? ⟨b, o + i * 2 + 1, none⟩ = some (.int .i64 l[i].2) := by
  obtain ⟨b, o, e, hc⟩ := h.at_ i hi
  exact ⟨b, o, e, hc 0 _ rfl, hc 1 _ rfl⟩

set_option maxRecDepth 100000 in
set_option maxHeartbeats 4000000 in
theorem candle_of_any (l : List (Int × Int)) (A : Option Addr) (c : Nat) (n : Int) (w : World) (G : Value → Value → World → Prop) (hr : RowsAt w A 2 tickRow l) (hlen : l.length ≤ 900)
    (hF : ∀ a c' wr, RowsAt wr a 6 CandleR.row (onesOf l) → (onesOf l).length ≤ c' → Calls Try.prog 11 #[.slice a (onesOf l).length c', .int .i64 n] wr fun e w' => ∃ v0 v1, e = .returned (.tuple #[v0, v1]) ∧ Hid (G v0 v1 w') ∧ Below wr.heap.size wr w') :
    Calls Try.prog 7 #[.slice A l.length c, .int .i64 n] w fun e w' => ∃ v0 v1, e = .returned (.tuple #[v0, v1]) ∧ G v0 v1 w' ∧ Below w.heap.size w w' := by
  have HFF := Lib.hid hF
  clear hF
  have HR := Lib.hid hr
  have hsl : (onesOf l).length = l.length := by simp [onesOf]
  clear hr
  go_enter Try.func7, Try.ntmps7
  go_wp2
  go_loopw [6, 13] (fun v6 v13 wr => ∃ k : Nat, k ≤ l.length ∧ v13 = .int .i64 (k : Int) ∧ Hid (wr.ownsRow w.heap.size 42 6 v6 k (((onesOf l).take k).flatMap CandleR.row)) ∧ Below w.heap.size w wr) (fun _ v _ => l.length - (intOf v).toNat)
  case atStart => exact ⟨0, by omega, rfl, Lib.hid own_none, Below.refl _ _⟩
  case round =>
    obtain ⟨k, hk, rfl, HO, hB⟩ := hrel
    by_cases hlt : k < l.length
    · obtain ⟨b, o, rfl, c0, c1⟩ := tick_cells (HR.out.moved hB) k hlt
      have hTS := Lib.hid (flat_take_succ CandleR.row (onesOf l) k (by omega))
      have hg : (onesOf l)[k] = oneC l[k].1 l[k].2 := by simp [onesOf]
      rw [hg] at hTS
      obtain ⟨x2, hx2⟩ : ∃ x, x = l[k].1 := ⟨_, rfl⟩
      obtain ⟨x3, hx3⟩ : ∃ x, x = l[k].2 := ⟨_, rfl⟩
      rw [← hx2] at c0 hTS; rw [← hx3] at c1 hTS
      clear hx2 hx3 hg
      have AT : Hid (∀ wx, Calls Try.prog 39 #[.agg #[.int .i64 x2, .int .i64 x3]] wx fun e w' => e = .returned (.tuple #[.int .i64 x2, .int .i64 x3]) ∧ Below wx.heap.size wx w') := Lib.hid (tick_at x2 x3)
      have ONE : Hid (∀ wx, Calls Try.prog 14 #[.int .i64 x2, .int .i64 x3] wx fun e w' => e = .returned (.agg (oneC x2 x3).arr) ∧ Below wx.heap.size wx w') := Lib.hid (candle_one x2 x3)
      go_wp2_with (first | (go_at_call 39; (with_reducible refine (AT.out _).mono ?_); rintro e w1 ⟨rfl, hB1⟩; skip) | (go_at_call 14; (with_reducible refine (ONE.out _).mono ?_); rintro e w2 ⟨rfl, hB2⟩; have hs2 := hB2.size; have hBw := below_at (below_at ((Below.refl _ wr).alloc (Nat.le_refl _) _) hB1) hB2) | (at_builtin; refine wp_append_row rfl (.tmp 23) (.tmp 27) 27 rfl w.heap.size 42 Try.underlying27 (.agg zeroC.arr) 6 48 info_candle rfl (by decide) (by decide) _ _ k _ rfl ((own_moved HO.out hBw).alloc _) (oneC x2 x3).arr w2.heap.size (heap_alloc_new _ _) rfl (by simp [Value.oneCell', oneC]) rfl (by omega) (by have := hB.size; have := hBw.size; simp; omega) ?_; intro v' w4 hown1 hB4; have HO1 := Lib.hid hown1; clear hown1))
      go_roundw
      case rel => exact ⟨k + 1, by omega, by go_num, Lib.hid (by rw [hTS.out]; exact HO1.out), ((below_at hB hBw).alloc (by have := hB.size; have := hBw.size; omega) _).trans hB4⟩
      case measure => simp [intOf]; omega
    · obtain rfl : k = l.length := by omega
      have ho := HO.out
      rw [List.take_of_length_le (by omega)] at ho
      rw [← hsl] at ho
      obtain ⟨a, c', rfl, hrow, h1, h2⟩ := own_rowsN (enc := CandleR.row) (m := 6) (l := onesOf l) ho (fun _ => rfl)
      clear ho
      have FO := Lib.hid (HFF.out a c' wr hrow h1)
      clear hrow h1 h2 hsl HFF
      go_wp2_with (go_at_call 11; (with_reducible refine FO.out.mono ?_); rintro e w3 ⟨v0, v1, rfl, HG, hB3⟩)
      go_ret2
      exact ⟨v0, v1, rfl, HG.out, below_at hB hB3⟩

theorem ones_ok (l : List (Int × Int)) (hok : ∀ r ∈ l, in64 r.2 = true) : ∀ x ∈ onesOf l, x.ok 1000 := by
  intro x hx
  simp only [onesOf, List.mem_map] at hx
  obtain ⟨r, h1, rfl⟩ := hx
  exact ⟨hok r h1, by show (0 : Int) ≤ 1; decide, by show (1 : Int) ≤ 1000; decide⟩
theorem candle_of (l : List (Int × Int)) (A : Option Addr) (c n : Nat) (w : World) (hr : RowsAt w A 2 tickRow l) (hok : ∀ r ∈ l, in64 r.2 = true) (hlen : l.length ≤ 900) (hn1 : 1 ≤ n) (hn2 : n ≤ 9223372036854775807) :
    Calls Try.prog 7 #[.slice A l.length c, .int .i64 (n : Int)] w fun e w' => ∃ A c res er, e = .returned (.tuple #[.slice A res.length c, .int .i64 er]) ∧ FoldIs (onesOf l) n res er ∧ RowsAt w' A 6 CandleR.row res ∧ Below w.heap.size w w' ∧ res.length ≤ c := by
  refine (candle_of_any l A c n w (fun v0 v1 w' => ∃ A c res er, v0 = .slice A res.length c ∧ v1 = .int .i64 er ∧ FoldIs (onesOf l) n res er ∧ RowsAt w' A 6 CandleR.row res ∧ res.length ≤ c) hr hlen fun a c' wr h1 h2 => ?_).mono ?_
  · exact (candle_fold (onesOf l) a c' n wr h1 (ones_ok l hok) (by simpa [onesOf] using hlen) h2 hn1 hn2).mono fun _ _ ⟨A, c, res, er, h1, h2, h3, h4, h5⟩ => ⟨_, _, h1, Lib.hid ⟨A, c, res, er, rfl, rfl, h2, h3, h5⟩, h4⟩
  · rintro e w' ⟨_, _, rfl, ⟨A, c, res, er, rfl, rfl, h2, h3, h5⟩, h4⟩
    exact ⟨A, c, res, er, rfl, h2, h3, h4, h5⟩
theorem candle_of_bad (l : List (Int × Int)) (A : Option Addr) (c : Nat) (n : Int) (w : World) (hr : RowsAt w A 2 tickRow l) (hlen : l.length ≤ 900) (hn1 : n < 1) :
    Calls Try.prog 7 #[.slice A l.length c, .int .i64 n] w fun e w' => e = .returned (.tuple #[.slice none 0 0, .int .i64 2]) ∧ Below w.heap.size w w' := by
  refine (candle_of_any l A c n w (fun v0 v1 _ => v0 = .slice none 0 0 ∧ v1 = .int .i64 2) hr hlen fun a c' wr h1 h2 => ?_).mono ?_
  · exact (candle_fold_bad _ n wr hn1).mono fun _ _ ⟨h1, h2⟩ => ⟨_, _, h1, Lib.hid ⟨rfl, rfl⟩, h2⟩
  · rintro e w' ⟨_, _, rfl, ⟨rfl, rfl⟩, h4⟩
    exact ⟨rfl, h4⟩
end Go.Proofs.Ytfhbmeebkhefhaa
