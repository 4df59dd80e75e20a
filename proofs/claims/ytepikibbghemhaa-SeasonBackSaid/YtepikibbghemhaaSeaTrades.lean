/-
  The waves of trades' sizes; waves put together; waves of a row that begins later.
-/
import Derived.Test.YtepikibbghemhaaSeaBack
import Derived.Test.YtepikibbghemhaaRecs
namespace Go.Proofs.Ytepikibbghemhaa
open Go.RowKit
set_option linter.unusedVariables false
set_option linter.unusedSimpArgs false

/-- what Of tells of a row -/
def OfIs (l : List Int) (f : Nat → Nat × Nat) (b : Bool) : Prop :=
  (b = true ∧ total l ≤ 1125899906842624 ∧ Waves f (sumsN l l.length)) ∨ (b = false ∧ 1125899906842624 < total l ∧ f = c00)
theorem season_of (l : List Int) (A : Option Addr) (c : Nat) (w : World) (hr : RowsAt w A 1 intRow l) (hb : ∀ n ∈ l, I64 n) (hlen : l.length ≤ 9223372036854775807) :
    Calls Try.prog 7 #[.slice A l.length c] w fun e w' => ∃ f b, e = .returned (.tuple #[.agg (row4 f), .bool b]) ∧ OfIs l f b ∧ Below w.heap.size w w' := by
  by_cases h : total l ≤ 1125899906842624
  · exact (season_of_yes l A c w hr hb hlen h).mono fun _ _ ⟨f, h1, h2, h3⟩ => ⟨f, true, h2, .inl ⟨rfl, h, h1⟩, h3⟩
  · exact (season_of_no l A c w hr hb hlen (by omega)).mono fun _ _ ⟨h1, h2⟩ => ⟨c00, false, h1, .inr ⟨rfl, by omega, rfl⟩, h2⟩

def sizesOf (l : List TradeR) : List Int := l.map TradeR.size
theorem info_i64 : (Try.prog.info? 2).map (fun i => (i.zero, i.size, i.bytes)) = some (some (.int .i64 0), 1, 8) := by kernel_rfl
theorem sizes_take_succ (l : List TradeR) (k : Nat) (h : k < l.length) : ((sizesOf l).take (k + 1)).map (fun n => Value.int .i64 n) = ((sizesOf l).take k).map (fun n => Value.int .i64 n) ++ [.int .i64 l[k].size] := by
  rw [List.take_succ_eq_append_getElem (by simpa [sizesOf] using h), List.map_append]
  simp [sizesOf]
theorem trade_cells {w : World} {a : Option Addr} {l : List TradeR} (h : RowsAt w a 4 TradeR.row l) (i : Nat) (hi : i < l.length) : ∃ b o, a = some ⟨b, o, none⟩ ∧
    w.cell? ⟨b, o + i * 4, none⟩ = some (.int .u64 l[i].maker) ∧ w.cell? ⟨b, o + i * 4 + 1, none⟩ = some (.int .u64 l[i].taker) ∧ w.cell? ⟨b, o + i * 4 + 2, none⟩ = some (.int .i64 l[i].price) ∧ w.cell? ⟨b, o + i * 4 + 3, none⟩ = some (.int .i64 l[i].size) := by
  obtain ⟨b, o, e, hc⟩ := h.at_ i hi
  exact ⟨b, o, e, hc 0 _ rfl, hc 1 _ rfl, hc 2 _ rfl, hc 3 _ rfl⟩

set_option maxRecDepth 100000 in
set_option maxHeartbeats 4000000 in
theorem season_trades (l : List TradeR) (A : Option Addr) (c : Nat) (w : World) (hr : RowsAt w A 4 TradeR.row l) (hg : ∀ r ∈ l, r.good) (hlen : l.length ≤ 1000000) :
    Calls Try.prog 11 #[.slice A l.length c] w fun e w' => ∃ f b, e = .returned (.tuple #[.agg (row4 f), .bool b]) ∧ OfIs (sizesOf l) f b ∧ Below w.heap.size w w' := by
  have HR := Lib.hid hr
  have HI : Hid (∀ n ∈ sizesOf l, I64 n) := Lib.hid (by
    intro n hn
    simp only [sizesOf, List.mem_map] at hn
    obtain ⟨r, h1, rfl⟩ := hn
    exact (hg r h1).size)
  have hsl : (sizesOf l).length = l.length := by simp [sizesOf]
  clear hr hg
  go_enter Try.func11, Try.ntmps11
  go_upto_region 1 with fail
  have hB0 : Below w.heap.size w (w.alloc (.cells z4 26)) := (Below.refl _ _).alloc (Nat.le_refl _) _
  have hZ0 : (w.alloc (.cells z4 26)).heap[w.heap.size]? = some (.cells z4 26 (0, 0)) := heap_alloc_new _ _
  have hS0 : (w.alloc (.cells z4 26)).heap.size = w.heap.size + 1 := by simp
  generalize w.alloc (.cells z4 26) = w1 at hB0 hZ0 hS0 ⊢
  have HZ0 := Lib.hid hZ0
  have HS0 := Lib.hid hS0
  have HB0 := Lib.hid hB0
  clear hB0 hZ0 hS0
  go_wp2
  go_loopw [4, 9] (fun v4 v9 wr => ∃ k : Nat, k ≤ l.length ∧ v9 = .int .i64 (k : Int) ∧ Hid (wr.ownsRow w1.heap.size 2 1 v4 k (((sizesOf l).take k).map fun n => Value.int .i64 n)) ∧ Below w1.heap.size w1 wr) (fun _ v _ => l.length - (intOf v).toNat)
  case atStart => exact ⟨0, by omega, rfl, Lib.hid own_none, Below.refl _ _⟩
  case round =>
    obtain ⟨k, hk, rfl, HO, hB⟩ := hrel
    by_cases hlt : k < l.length
    · obtain ⟨b, o, rfl, c0, c1, c2, c3⟩ := trade_cells ((HR.out.moved HB0.out).moved hB) k hlt
      have hTS := Lib.hid (sizes_take_succ l k hlt)
      obtain ⟨x0, hx0⟩ : ∃ x, x = l[k].maker := ⟨_, rfl⟩
      obtain ⟨x1, hx1⟩ : ∃ x, x = l[k].taker := ⟨_, rfl⟩
      obtain ⟨x2, hx2⟩ : ∃ x, x = l[k].price := ⟨_, rfl⟩
      obtain ⟨x3, hx3⟩ : ∃ x, x = l[k].size := ⟨_, rfl⟩
      rw [← hx0] at c0; rw [← hx1] at c1; rw [← hx2] at c2; rw [← hx3] at c3 hTS
      clear hx0 hx1 hx2 hx3
      go_wp2_with (at_builtin; refine wp_append_row rfl (.tmp 13) (.tmp 16) 22 rfl w1.heap.size 2 Try.underlying22 (.int .i64 0) 1 8 info_i64 rfl (by decide) (by decide) _ _ k _ rfl ((HO.out.alloc _).alloc _) #[.int .i64 x3] (wr.heap.size + 1) (heap_new (by simp)) rfl (by simp [Value.oneCell']) rfl (by omega) (by have := hB.size; simp; omega) ?_; intro v' w2 hown1 hB1; have HO1 := Lib.hid hown1; clear hown1)
      go_roundw
      case rel => exact ⟨k + 1, by omega, by go_num, Lib.hid (by rw [hTS.out]; exact HO1.out), ((hB.alloc hB.size _).alloc (by have := hB.size; simp; omega) _).trans hB1⟩
      case measure => simp [intOf]; omega
    · obtain rfl : k = l.length := by omega
      have ho := HO.out
      rw [List.take_of_length_le (by omega)] at ho
      rw [← hsl] at ho
      obtain ⟨a, c', rfl, hrow, h1, h2⟩ := own_rows (enc := intRow) (l := sizesOf l) ho (fun _ => rfl)
      clear ho
      have OF : Hid (Calls Try.prog 7 #[.slice a (sizesOf l).length c'] wr fun e w' => ∃ f b, e = .returned (.tuple #[.agg (row4 f), .bool b]) ∧ Hid (OfIs (sizesOf l) f b) ∧ Below wr.heap.size wr w') := Lib.hid
        ((season_of (sizesOf l) a c' wr hrow HI.out (by omega)).mono fun _ _ ⟨f, b, h1, h2, h3⟩ => ⟨f, b, h1, Lib.hid h2, h3⟩)
      have HZ1 : Hid (wr.heap[w.heap.size]? = some (.cells z4 26 (0, 0))) := Lib.hid ((hB.block _ (by have := HS0.out; omega)).trans HZ0.out)
      have HBR : Hid (Below w.heap.size w wr) := Lib.hid (HB0.out.trans (hB.mono (by have := HS0.out; omega)))
      clear hrow h1 h2 hsl
      go_wp2_with (first | (go_at_call 7; (with_reducible refine OF.out.mono ?_); rintro e w3 ⟨f, bb, rfl, HF, hB3⟩; have HZ2 := Lib.hid ((hB3.block _ (heap_lt HZ1.out)).trans HZ1.out)) | (with_reducible refine wpList_store_row rfl 26 (.tmp 2) (.tmp 21) rfl w.heap.size (row4 f) rfl rfl 26 z4 HZ2.out (row4_info _) (row4_z4 _) (row4_one _) ?_))
      refine bodyPost_ret (results_row_tmp2 Try.results11 _ _ w.heap.size 26 (row4 f) (0, 0) _ rfl (setRow_heap _ _ _ _ _ _ HZ2.out) Try.underlying26 rfl info_wave) rfl ?_
      exact ⟨f, bb, rfl, HF.out, (below_at HBR.out hB3).trans ⟨rfl, rfl, rfl, by simp, fun j hj => setRow_other _ _ _ _ (by omega)⟩⟩
end Go.Proofs.Ytepikibbghemhaa
