/-
  schema's makers of keys by contract.
-/
import Derived.Test.YtafdjgmdkbimoaaDoorSch
import Derived.Test.YtafdjgmdkbimoaaDoorKeyAfter
import Derived.Deep.RegionWith
namespace Go.Proofs.YtafdjgmdkbimoaaDoor
open Go.RowKit
set_option linter.unusedVariables false
set_option linter.unusedSimpArgs false

/-- a row of structs in a block of its own -/
theorem rows_block {ρ : Type} {w : World} {B m : Nat} {cs : Array Value} {t : TypeId} {enc : ρ → List Value} {l : List ρ} (he : ∀ r, (enc r).length = m) (h : w.heap[B]? = some (.cells cs t (0, 0))) (e : cs.toList = l.flatMap enc) : RowsAt w (some ⟨B, 0, none⟩) m enc l := by
  refine ⟨.inr ⟨B, 0, rfl, fun i r hi j v hv => ?_⟩⟩
  have hj : j < m := by
    have := (List.getElem?_eq_some_iff.1 hv).1
    rwa [he] at this
  rw [cell_of_row _ _ _ _ _ _ h]
  have h1 := flat_at he l i j r hi hj
  rw [hv, ← e] at h1
  simpa using h1

theorem of_block (sort : ByteArray) (l : List PartR) (cs : Array Value) (B : Nat) (w : World) (m : Int) (hb : w.heap[B]? = some (.cells cs 51 (0, 0))) (e : cs.toList = l.flatMap PartR.row) (hl : l.length ≤ 1000) (hg : ∀ p ∈ l, p.good) (hs : ∀ p ∈ l, p.s.size ≤ 300) (hso : sort.size ≤ 300) (hm : w.cell? ⟨0, 0, none⟩ = some (.int .i64 m)) (n : Nat) (hn : l.length = n) :
    Calls Tryd.prog 26 #[.string sort, .slice (some ⟨B, 0, none⟩) n n] w fun e w' => e = .returned (.string (ofS sort l)) ∧ Below w.heap.size w w' := by
  subst hn
  exact schema_of sort l _ _ w m (rows_block PartR.len' hb e) (fun h => by cases h) hl hg hs hso hm

theorem empty_le : ByteArray.empty.size ≤ maxLen := by decide
theorem good_count (u : Int) (h : 0 ≤ u ∧ u < 18446744073709551616) : PartR.good ⟨117, 0, u, ByteArray.empty⟩ := ⟨by simp, by simp, h, empty_le⟩
theorem good_up (n : Int) (h : -9223372036854775808 ≤ n ∧ n ≤ 9223372036854775807) : PartR.good ⟨105, n, 0, ByteArray.empty⟩ := ⟨by simp, h, by simp, empty_le⟩
theorem good_down (n : Int) (h : -9223372036854775808 ≤ n ∧ n ≤ 9223372036854775807) : PartR.good ⟨100, n, 0, ByteArray.empty⟩ := ⟨by simp, h, by simp, empty_le⟩
theorem good_text (s : ByteArray) (h : s.size ≤ 300) : PartR.good ⟨116, 0, 0, s⟩ := ⟨by simp, by simp, by simp, Nat.le_trans h (by decide : (300 : Nat) ≤ maxLen)⟩
theorem cell0 {w wx : World} {m : Int} (hm : w.cell? ⟨0, 0, none⟩ = some (.int .i64 m)) (h : Below w.heap.size w wx) : wx.cell? ⟨0, 0, none⟩ = some (.int .i64 m) := by
  have h0 : 0 < w.heap.size := cell_lt hm
  rw [h.cell (p := ⟨0, 0, none⟩) h0]; exact hm

set_option maxRecDepth 100000 in
set_option maxHeartbeats 4000000 in
theorem schema_balance (a n : Int) (m : Int) (w : World) (ha : 0 ≤ a ∧ a < 18446744073709551616) (hn : -9223372036854775808 ≤ n ∧ n ≤ 9223372036854775807) (hm : w.cell? ⟨0, 0, none⟩ = some (.int .i64 m)) :
    Calls Tryd.prog 15 #[.int .u64 a, .int .i64 n] w fun e w' => e = .returned (.string (ofS ⟨#[97]⟩ [⟨117, 0, a, ByteArray.empty⟩, ⟨105, n, 0, ByteArray.empty⟩])) ∧ Below w.heap.size w w' := by
  have W0 : Below w.heap.size w w := Below.refl _ _
  obtain ⟨S, hS⟩ : ∃ S, S = ofS ⟨#[97]⟩ [⟨117, 0, a, ByteArray.empty⟩, ⟨105, n, 0, ByteArray.empty⟩] := ⟨_, rfl⟩
  have OF : Hid (∀ wx B, Below w.heap.size w wx → wx.heap[B]? = some (.cells (#[.int .u8 117, .int .i64 0, .int .u64 a, .string ByteArray.empty, .int .u8 105, .int .i64 n, .int .u64 0, .string ByteArray.empty]) 51 (0, 0)) → Calls Tryd.prog 26 #[.string ⟨#[97]⟩, .slice (some ⟨B, 0, none⟩) 2 2] wx fun e w' => e = .returned (.string S) ∧ Below w.heap.size w w') := Lib.hid fun wx B h hblk => by
    rw [hS]
    exact (of_block ⟨#[97]⟩ [⟨117, 0, a, ByteArray.empty⟩, ⟨105, n, 0, ByteArray.empty⟩] _ B wx m hblk rfl (by simp) (by simp [good_count _ ha, good_up _ hn]) (by simp) (by decide) (cell0 hm h) 2 rfl).mono fun _ _ ⟨h1, h2⟩ => ⟨h1, below_at h h2⟩
  have K0 : Hid (∀ wx, Below w.heap.size w wx → Calls Tryd.prog 28 #[.int .u64 a] wx fun e w' => e = .returned (.agg (cells4 117 0 a ByteArray.empty)) ∧ Below w.heap.size w w') := Lib.hid fun wx h => (key_count a wx).mono fun _ _ ⟨h1, h2⟩ => ⟨h1, below_at h h2⟩
  have K1 : Hid (∀ wx, Below w.heap.size w wx → Calls Tryd.prog 27 #[.int .i64 n] wx fun e w' => e = .returned (.agg (cells4 105 n 0 ByteArray.empty)) ∧ Below w.heap.size w w') := Lib.hid fun wx h => (key_up n wx).mono fun _ _ ⟨h1, h2⟩ => ⟨h1, below_at h h2⟩
  rw [← hS]
  clear hS hm
  go_enter Tryd.func15, Tryd.ntmps15
  go_wp2_with (first | (go_at_call 28; (with_reducible refine (K0.out _ W0).mono ?_); rintro e w1 ⟨rfl, hB1⟩) | (go_at_call 27; (with_reducible refine (K1.out _ hB1).mono ?_); rintro e w2 ⟨rfl, hB2⟩) | (go_at_call 26; refine (OF.out _ _ (hB2.alloc hB2.size _) (heap_new rfl)).mono ?_; rintro e w9 ⟨rfl, hB9⟩))
  go_ret
  exact ⟨rfl, hB9⟩

set_option maxRecDepth 100000 in
set_option maxHeartbeats 4000000 in
theorem schema_order (a : Int) (m : Int) (w : World) (ha : 0 ≤ a ∧ a < 18446744073709551616) (hm : w.cell? ⟨0, 0, none⟩ = some (.int .i64 m)) :
    Calls Tryd.prog 16 #[.int .u64 a] w fun e w' => e = .returned (.string (ofS ⟨#[111]⟩ [⟨117, 0, a, ByteArray.empty⟩])) ∧ Below w.heap.size w w' := by
  have W0 : Below w.heap.size w w := Below.refl _ _
  obtain ⟨S, hS⟩ : ∃ S, S = ofS ⟨#[111]⟩ [⟨117, 0, a, ByteArray.empty⟩] := ⟨_, rfl⟩
  have OF : Hid (∀ wx B, Below w.heap.size w wx → wx.heap[B]? = some (.cells (#[.int .u8 117, .int .i64 0, .int .u64 a, .string ByteArray.empty]) 51 (0, 0)) → Calls Tryd.prog 26 #[.string ⟨#[111]⟩, .slice (some ⟨B, 0, none⟩) 1 1] wx fun e w' => e = .returned (.string S) ∧ Below w.heap.size w w') := Lib.hid fun wx B h hblk => by
    rw [hS]
    exact (of_block ⟨#[111]⟩ [⟨117, 0, a, ByteArray.empty⟩] _ B wx m hblk rfl (by simp) (by simp [good_count _ ha]) (by simp) (by decide) (cell0 hm h) 1 rfl).mono fun _ _ ⟨h1, h2⟩ => ⟨h1, below_at h h2⟩
  have K0 : Hid (∀ wx, Below w.heap.size w wx → Calls Tryd.prog 28 #[.int .u64 a] wx fun e w' => e = .returned (.agg (cells4 117 0 a ByteArray.empty)) ∧ Below w.heap.size w w') := Lib.hid fun wx h => (key_count a wx).mono fun _ _ ⟨h1, h2⟩ => ⟨h1, below_at h h2⟩
  rw [← hS]
  clear hS hm
  go_enter Tryd.func16, Tryd.ntmps16
  go_wp2_with (first | (go_at_call 28; (with_reducible refine (K0.out _ W0).mono ?_); rintro e w1 ⟨rfl, hB1⟩) | (go_at_call 26; refine (OF.out _ _ (hB1.alloc hB1.size _) (heap_new rfl)).mono ?_; rintro e w9 ⟨rfl, hB9⟩))
  go_ret
  exact ⟨rfl, hB9⟩

set_option maxRecDepth 100000 in
set_option maxHeartbeats 4000000 in
theorem schema_expiry (a b : Int) (m : Int) (w : World) (ha : 0 ≤ a ∧ a < 18446744073709551616) (hb : 0 ≤ b ∧ b < 18446744073709551616) (hm : w.cell? ⟨0, 0, none⟩ = some (.int .i64 m)) :
    Calls Tryd.prog 10 #[.int .u64 a, .int .u64 b] w fun e w' => e = .returned (.string (ofS ⟨#[101]⟩ [⟨117, 0, a, ByteArray.empty⟩, ⟨117, 0, b, ByteArray.empty⟩])) ∧ Below w.heap.size w w' := by
  have W0 : Below w.heap.size w w := Below.refl _ _
  obtain ⟨S, hS⟩ : ∃ S, S = ofS ⟨#[101]⟩ [⟨117, 0, a, ByteArray.empty⟩, ⟨117, 0, b, ByteArray.empty⟩] := ⟨_, rfl⟩
  have OF : Hid (∀ wx B, Below w.heap.size w wx → wx.heap[B]? = some (.cells (#[.int .u8 117, .int .i64 0, .int .u64 a, .string ByteArray.empty, .int .u8 117, .int .i64 0, .int .u64 b, .string ByteArray.empty]) 51 (0, 0)) → Calls Tryd.prog 26 #[.string ⟨#[101]⟩, .slice (some ⟨B, 0, none⟩) 2 2] wx fun e w' => e = .returned (.string S) ∧ Below w.heap.size w w') := Lib.hid fun wx B h hblk => by
    rw [hS]
    exact (of_block ⟨#[101]⟩ [⟨117, 0, a, ByteArray.empty⟩, ⟨117, 0, b, ByteArray.empty⟩] _ B wx m hblk rfl (by simp) (by simp [good_count _ ha, good_count _ hb]) (by simp) (by decide) (cell0 hm h) 2 rfl).mono fun _ _ ⟨h1, h2⟩ => ⟨h1, below_at h h2⟩
  have K0 : Hid (∀ wx, Below w.heap.size w wx → Calls Tryd.prog 28 #[.int .u64 a] wx fun e w' => e = .returned (.agg (cells4 117 0 a ByteArray.empty)) ∧ Below w.heap.size w w') := Lib.hid fun wx h => (key_count a wx).mono fun _ _ ⟨h1, h2⟩ => ⟨h1, below_at h h2⟩
  have K1 : Hid (∀ wx, Below w.heap.size w wx → Calls Tryd.prog 28 #[.int .u64 b] wx fun e w' => e = .returned (.agg (cells4 117 0 b ByteArray.empty)) ∧ Below w.heap.size w w') := Lib.hid fun wx h => (key_count b wx).mono fun _ _ ⟨h1, h2⟩ => ⟨h1, below_at h h2⟩
  rw [← hS]
  clear hS hm
  go_enter Tryd.func10, Tryd.ntmps10
  go_wp2_with (first | (go_at_call 28; (with_reducible refine (K0.out _ W0).mono ?_); rintro e w1 ⟨rfl, hB1⟩) | (go_at_call 28; (with_reducible refine (K1.out _ hB1).mono ?_); rintro e w2 ⟨rfl, hB2⟩) | (go_at_call 26; refine (OF.out _ _ (hB2.alloc hB2.size _) (heap_new rfl)).mono ?_; rintro e w9 ⟨rfl, hB9⟩))
  go_ret
  exact ⟨rfl, hB9⟩

theorem info_part1 : (Tryd.prog.info? 51).map (·.size) = some 4 := by kernel_rfl
theorem info_c4 (a n u : Int) (s : ByteArray) : (Tryd.prog.info? 51).map (·.size) = some (cells4 a n u s).size := info_part1
theorem size4' (a n u a' n' u' : Int) (s s' : ByteArray) : (cells4 a n u s).size = (cells4 a' n' u' s').size := rfl
theorem one4' (a n u : Int) (s : ByteArray) : (cells4 a n u s).all (·.oneCell') = true := by simp [cells4, Value.oneCell']
theorem below_setRow' {B g : Nat} {w v : World} (h : Below B w v) (hg : B ≤ g) (cs : Array Value) : Below B w (v.setRow g cs) := h.trans ⟨rfl, rfl, rfl, by simp, fun j hj => setRow_other _ _ _ _ (by omega)⟩

set_option maxRecDepth 100000 in
set_option maxHeartbeats 2000000 in
theorem schema_priced (sd n : Int) (w : World) :
    Calls Tryd.prog 24 #[.int .i64 sd, .int .i64 n] w fun e w' => e = .returned (.agg (cells4 (if sd = 1 then 100 else 105) n 0 ByteArray.empty)) ∧ Below w.heap.size w w' := by
  have hz := zero_part
  have H0 : Hid (Below w.heap.size w (w.alloc (.cells (cells4 0 0 0 ByteArray.empty) 51)) ∧ (w.alloc (.cells (cells4 0 0 0 ByteArray.empty) 51)).heap[w.heap.size]? = some (.cells (cells4 0 0 0 ByteArray.empty) 51 (0, 0))) := Lib.hid ⟨by (repeat (first | exact Below.refl _ _ | assumption | apply below_drewN | (refine Below.alloc ?_ (by first | assumption | omega | (simp; try omega)) _))), heap_alloc_new _ _⟩
  have PS : ∀ {wx w' : World}, (Below w.heap.size w wx ∧ wx.heap[w.heap.size]? = some (.cells (cells4 0 0 0 ByteArray.empty) 51 (0, 0))) → Below wx.heap.size wx w' → (Below w.heap.size w w' ∧ w'.heap[w.heap.size]? = some (.cells (cells4 0 0 0 ByteArray.empty) 51 (0, 0))) := fun ⟨h1, h2⟩ h => ⟨below_at h1 h, by rw [h.block _ (heap_lt h2)]; exact h2⟩
  by_cases h1 : sd = 1
  · obtain ⟨p1, q1⟩ := eq_bb h1
    rw [if_pos h1]
    have K : Hid (∀ wx, (Below w.heap.size w wx ∧ wx.heap[w.heap.size]? = some (.cells (cells4 0 0 0 ByteArray.empty) 51 (0, 0))) → Calls Tryd.prog 38 #[.int .i64 n] wx fun e w' => e = .returned (.agg (cells4 100 n 0 ByteArray.empty)) ∧ (Below w.heap.size w w' ∧ w'.heap[w.heap.size]? = some (.cells (cells4 0 0 0 ByteArray.empty) 51 (0, 0)))) := Lib.hid fun wx h => (key_down n wx).mono fun _ _ ⟨h1, h2⟩ => ⟨h1, PS h h2⟩
    clear h1 PS
    go_enter Tryd.func24, Tryd.ntmps24
    go_wp2_with (first
      | (go_at_call 38; (with_reducible refine (K.out _ H0.out).mono ?_); rintro e w1 ⟨rfl, T1⟩)
      | (with_reducible refine wpList_store_row rfl 51 (.tmp 4) (.tmp 8) rfl w.heap.size (cells4 100 n 0 ByteArray.empty) rfl rfl 51 (cells4 0 0 0 ByteArray.empty) T1.2 (info_c4 _ _ _ _) (size4' _ _ _ _ _ _ _ _) (one4' _ _ _ _) ?_))
    refine bodyPost_ret (results_cell_row Tryd.results24 _ _ w.heap.size 51 (cells4 100 n 0 ByteArray.empty) (0, 0) _ rfl (setRow_heap _ _ _ _ _ _ T1.2) Tryd.underlying51 rfl (info_c4 _ _ _ _)) rfl ?_
    exact ⟨rfl, below_setRow' T1.1 (Nat.le_refl _) _⟩
  · obtain ⟨p1, q1⟩ := ne_bb h1
    rw [if_neg h1]
    have K : Hid (∀ wx, (Below w.heap.size w wx ∧ wx.heap[w.heap.size]? = some (.cells (cells4 0 0 0 ByteArray.empty) 51 (0, 0))) → Calls Tryd.prog 27 #[.int .i64 n] wx fun e w' => e = .returned (.agg (cells4 105 n 0 ByteArray.empty)) ∧ (Below w.heap.size w w' ∧ w'.heap[w.heap.size]? = some (.cells (cells4 0 0 0 ByteArray.empty) 51 (0, 0)))) := Lib.hid fun wx h => (key_up n wx).mono fun _ _ ⟨h1, h2⟩ => ⟨h1, PS h h2⟩
    clear h1 PS
    go_enter Tryd.func24, Tryd.ntmps24
    go_wp2_with (first
      | (go_at_call 27; (with_reducible refine (K.out _ H0.out).mono ?_); rintro e w1 ⟨rfl, T1⟩)
      | (with_reducible refine wpList_store_row rfl 51 (.tmp 4) (.tmp 10) rfl w.heap.size (cells4 105 n 0 ByteArray.empty) rfl rfl 51 (cells4 0 0 0 ByteArray.empty) T1.2 (info_c4 _ _ _ _) (size4' _ _ _ _ _ _ _ _) (one4' _ _ _ _) ?_))
    refine bodyPost_ret (results_cell_row Tryd.results24 _ _ w.heap.size 51 (cells4 105 n 0 ByteArray.empty) (0, 0) _ rfl (setRow_heap _ _ _ _ _ _ T1.2) Tryd.underlying51 rfl (info_c4 _ _ _ _)) rfl ?_
    exact ⟨rfl, below_setRow' T1.1 (Nat.le_refl _) _⟩

/-- the parts of a place -/
def placeL (sd pr rk id : Int) : List PartR := [⟨105, sd, 0, ByteArray.empty⟩, ⟨if sd = 1 then 100 else 105, pr, 0, ByteArray.empty⟩, ⟨117, 0, rk, ByteArray.empty⟩, ⟨117, 0, id, ByteArray.empty⟩]
theorem place_good (sd pr rk id : Int) (h1 : -9223372036854775808 ≤ sd ∧ sd ≤ 9223372036854775807) (h2 : -9223372036854775808 ≤ pr ∧ pr ≤ 9223372036854775807) (h3 : 0 ≤ rk ∧ rk < 18446744073709551616) (h4 : 0 ≤ id ∧ id < 18446744073709551616) : ∀ p ∈ placeL sd pr rk id, p.good := by
  intro p hp
  simp only [placeL, List.mem_cons, List.mem_nil_iff, or_false] at hp
  rcases hp with rfl | rfl | rfl | rfl
  · exact good_up _ h1
  · split
    · exact good_down _ h2
    · exact good_up _ h2
  · exact good_count _ h3
  · exact good_count _ h4
theorem place_small (sd pr rk id : Int) : ∀ p ∈ placeL sd pr rk id, p.s.size ≤ 300 := by
  intro p hp
  simp only [placeL, List.mem_cons, List.mem_nil_iff, or_false] at hp
  rcases hp with rfl | rfl | rfl | rfl <;> simp

set_option maxRecDepth 100000 in
set_option maxHeartbeats 4000000 in
theorem schema_place (id ac sd pr sz lf rk ex st : Int) (m : Int) (w : World) (h1 : -9223372036854775808 ≤ sd ∧ sd ≤ 9223372036854775807) (h2 : -9223372036854775808 ≤ pr ∧ pr ≤ 9223372036854775807) (h3 : 0 ≤ rk ∧ rk < 18446744073709551616) (h4 : 0 ≤ id ∧ id < 18446744073709551616) (hm : w.cell? ⟨0, 0, none⟩ = some (.int .i64 m)) :
    Calls Tryd.prog 9 #[.agg #[.int .u64 id, .int .u64 ac, .int .i64 sd, .int .i64 pr, .int .i64 sz, .int .i64 lf, .int .u64 rk, .int .u64 ex, .int .i64 st]] w fun e w' => e = .returned (.string (ofS ⟨#[98]⟩ (placeL sd pr rk id))) ∧ Below w.heap.size w w' := by
  obtain ⟨S, hS⟩ : ∃ S, S = ofS ⟨#[98]⟩ (placeL sd pr rk id) := ⟨_, rfl⟩
  obtain ⟨q, hq⟩ : ∃ q : Int, q = if sd = 1 then 100 else 105 := ⟨_, rfl⟩
  have HPL : placeL sd pr rk id = [⟨105, sd, 0, ByteArray.empty⟩, ⟨q, pr, 0, ByteArray.empty⟩, ⟨117, 0, rk, ByteArray.empty⟩, ⟨117, 0, id, ByteArray.empty⟩] := by rw [hq]; rfl
  have OF : Hid (∀ wx B, (wx.cell? ⟨w.heap.size, 0, none⟩ = some (.int .u64 id) ∧ wx.cell? ⟨w.heap.size, 2, none⟩ = some (.int .i64 sd) ∧ wx.cell? ⟨w.heap.size, 3, none⟩ = some (.int .i64 pr) ∧ wx.cell? ⟨w.heap.size, 6, none⟩ = some (.int .u64 rk) ∧ Below w.heap.size w wx) → wx.heap[B]? = some (.cells (#[.int .u8 105, .int .i64 sd, .int .u64 0, .string ByteArray.empty, .int .u8 q, .int .i64 pr, .int .u64 0, .string ByteArray.empty, .int .u8 117, .int .i64 0, .int .u64 rk, .string ByteArray.empty, .int .u8 117, .int .i64 0, .int .u64 id, .string ByteArray.empty]) 51 (0, 0)) → Calls Tryd.prog 26 #[.string ⟨#[98]⟩, .slice (some ⟨B, 0, none⟩) 4 4] wx fun e w' => e = .returned (.string S) ∧ (w'.cell? ⟨w.heap.size, 0, none⟩ = some (.int .u64 id) ∧ w'.cell? ⟨w.heap.size, 2, none⟩ = some (.int .i64 sd) ∧ w'.cell? ⟨w.heap.size, 3, none⟩ = some (.int .i64 pr) ∧ w'.cell? ⟨w.heap.size, 6, none⟩ = some (.int .u64 rk) ∧ Below w.heap.size w w')) := Lib.hid fun wx B ⟨k0, k2, k3, k6, h⟩ hblk => by
    rw [hS]
    exact (of_block ⟨#[98]⟩ (placeL sd pr rk id) _ B wx m hblk (by rw [HPL]; rfl) (by simp [placeL]) (place_good sd pr rk id h1 h2 h3 h4) (place_small sd pr rk id) (by decide) (cell0 hm h) 4 rfl).mono fun _ _ ⟨h1, h2⟩ => ⟨h1, cell_stays h2 k0, cell_stays h2 k2, cell_stays h2 k3, cell_stays h2 k6, below_at h h2⟩
  have KU : Hid (∀ wx, (wx.cell? ⟨w.heap.size, 0, none⟩ = some (.int .u64 id) ∧ wx.cell? ⟨w.heap.size, 2, none⟩ = some (.int .i64 sd) ∧ wx.cell? ⟨w.heap.size, 3, none⟩ = some (.int .i64 pr) ∧ wx.cell? ⟨w.heap.size, 6, none⟩ = some (.int .u64 rk) ∧ Below w.heap.size w wx) → Calls Tryd.prog 27 #[.int .i64 sd] wx fun e w' => e = .returned (.agg (cells4 105 sd 0 ByteArray.empty)) ∧ (w'.cell? ⟨w.heap.size, 0, none⟩ = some (.int .u64 id) ∧ w'.cell? ⟨w.heap.size, 2, none⟩ = some (.int .i64 sd) ∧ w'.cell? ⟨w.heap.size, 3, none⟩ = some (.int .i64 pr) ∧ w'.cell? ⟨w.heap.size, 6, none⟩ = some (.int .u64 rk) ∧ Below w.heap.size w w')) := Lib.hid fun wx ⟨k0, k2, k3, k6, h⟩ => (key_up sd wx).mono fun _ _ ⟨h1, h2⟩ => ⟨h1, cell_stays h2 k0, cell_stays h2 k2, cell_stays h2 k3, cell_stays h2 k6, below_at h h2⟩
  have KP : Hid (∀ wx, (wx.cell? ⟨w.heap.size, 0, none⟩ = some (.int .u64 id) ∧ wx.cell? ⟨w.heap.size, 2, none⟩ = some (.int .i64 sd) ∧ wx.cell? ⟨w.heap.size, 3, none⟩ = some (.int .i64 pr) ∧ wx.cell? ⟨w.heap.size, 6, none⟩ = some (.int .u64 rk) ∧ Below w.heap.size w wx) → Calls Tryd.prog 24 #[.int .i64 sd, .int .i64 pr] wx fun e w' => e = .returned (.agg (cells4 q pr 0 ByteArray.empty)) ∧ (w'.cell? ⟨w.heap.size, 0, none⟩ = some (.int .u64 id) ∧ w'.cell? ⟨w.heap.size, 2, none⟩ = some (.int .i64 sd) ∧ w'.cell? ⟨w.heap.size, 3, none⟩ = some (.int .i64 pr) ∧ w'.cell? ⟨w.heap.size, 6, none⟩ = some (.int .u64 rk) ∧ Below w.heap.size w w')) := Lib.hid fun wx ⟨k0, k2, k3, k6, h⟩ => by
    rw [hq]; exact (schema_priced sd pr wx).mono fun _ _ ⟨h1, h2⟩ => ⟨h1, cell_stays h2 k0, cell_stays h2 k2, cell_stays h2 k3, cell_stays h2 k6, below_at h h2⟩
  have KR : Hid (∀ wx, (wx.cell? ⟨w.heap.size, 0, none⟩ = some (.int .u64 id) ∧ wx.cell? ⟨w.heap.size, 2, none⟩ = some (.int .i64 sd) ∧ wx.cell? ⟨w.heap.size, 3, none⟩ = some (.int .i64 pr) ∧ wx.cell? ⟨w.heap.size, 6, none⟩ = some (.int .u64 rk) ∧ Below w.heap.size w wx) → Calls Tryd.prog 28 #[.int .u64 rk] wx fun e w' => e = .returned (.agg (cells4 117 0 rk ByteArray.empty)) ∧ (w'.cell? ⟨w.heap.size, 0, none⟩ = some (.int .u64 id) ∧ w'.cell? ⟨w.heap.size, 2, none⟩ = some (.int .i64 sd) ∧ w'.cell? ⟨w.heap.size, 3, none⟩ = some (.int .i64 pr) ∧ w'.cell? ⟨w.heap.size, 6, none⟩ = some (.int .u64 rk) ∧ Below w.heap.size w w')) := Lib.hid fun wx ⟨k0, k2, k3, k6, h⟩ => (key_count rk wx).mono fun _ _ ⟨h1, h2⟩ => ⟨h1, cell_stays h2 k0, cell_stays h2 k2, cell_stays h2 k3, cell_stays h2 k6, below_at h h2⟩
  have KI : Hid (∀ wx, (wx.cell? ⟨w.heap.size, 0, none⟩ = some (.int .u64 id) ∧ wx.cell? ⟨w.heap.size, 2, none⟩ = some (.int .i64 sd) ∧ wx.cell? ⟨w.heap.size, 3, none⟩ = some (.int .i64 pr) ∧ wx.cell? ⟨w.heap.size, 6, none⟩ = some (.int .u64 rk) ∧ Below w.heap.size w wx) → Calls Tryd.prog 28 #[.int .u64 id] wx fun e w' => e = .returned (.agg (cells4 117 0 id ByteArray.empty)) ∧ (w'.cell? ⟨w.heap.size, 0, none⟩ = some (.int .u64 id) ∧ w'.cell? ⟨w.heap.size, 2, none⟩ = some (.int .i64 sd) ∧ w'.cell? ⟨w.heap.size, 3, none⟩ = some (.int .i64 pr) ∧ w'.cell? ⟨w.heap.size, 6, none⟩ = some (.int .u64 rk) ∧ Below w.heap.size w w')) := Lib.hid fun wx ⟨k0, k2, k3, k6, h⟩ => (key_count id wx).mono fun _ _ ⟨h1, h2⟩ => ⟨h1, cell_stays h2 k0, cell_stays h2 k2, cell_stays h2 k3, cell_stays h2 k6, below_at h h2⟩
  have HA : Hid (∀ wx, (wx.cell? ⟨w.heap.size, 0, none⟩ = some (.int .u64 id) ∧ wx.cell? ⟨w.heap.size, 2, none⟩ = some (.int .i64 sd) ∧ wx.cell? ⟨w.heap.size, 3, none⟩ = some (.int .i64 pr) ∧ wx.cell? ⟨w.heap.size, 6, none⟩ = some (.int .u64 rk) ∧ Below w.heap.size w wx) → ∀ o, ((wx.alloc o).cell? ⟨w.heap.size, 0, none⟩ = some (.int .u64 id) ∧ (wx.alloc o).cell? ⟨w.heap.size, 2, none⟩ = some (.int .i64 sd) ∧ (wx.alloc o).cell? ⟨w.heap.size, 3, none⟩ = some (.int .i64 pr) ∧ (wx.alloc o).cell? ⟨w.heap.size, 6, none⟩ = some (.int .u64 rk) ∧ Below w.heap.size w (wx.alloc o))) := Lib.hid fun wx ⟨k0, k2, k3, k6, h⟩ o => by
    have h2 : Below wx.heap.size wx (wx.alloc o) := (Below.refl _ _).alloc (Nat.le_refl _) _
    exact ⟨cell_stays h2 k0, cell_stays h2 k2, cell_stays h2 k3, cell_stays h2 k6, below_at h h2⟩
  rw [← hS]
  clear hS hq HPL h1 h2 h3 h4 hm
  go_enter Tryd.func9, Tryd.ntmps9
  go_wp2
  have B0 : Below w.heap.size w (w.alloc (.cells #[.int .u64 id, .int .u64 ac, .int .i64 sd, .int .i64 pr, .int .i64 sz, .int .i64 lf, .int .u64 rk, .int .u64 ex, .int .i64 st] 24)).drew := Below.drew (by (repeat (first | exact Below.refl _ _ | assumption | apply below_drewN | (refine Below.alloc ?_ (by first | assumption | omega | (simp; try omega)) _))))
  go_region_held3 (fun wx => (wx.cell? ⟨w.heap.size, 0, none⟩ = some (.int .u64 id) ∧ wx.cell? ⟨w.heap.size, 2, none⟩ = some (.int .i64 sd) ∧ wx.cell? ⟨w.heap.size, 3, none⟩ = some (.int .i64 pr) ∧ wx.cell? ⟨w.heap.size, 6, none⟩ = some (.int .u64 rk) ∧ Below w.heap.size w wx)) (first | assumption | exact HA.out _ (by assumption) _ | go_keep)
    (first | (go_at_call 27; (with_reducible refine (KU.out _ (by assumption)).mono ?_); rintro e w' ⟨rfl, hS⟩) | (go_at_call 24; (with_reducible refine (KP.out _ (by assumption)).mono ?_); rintro e w' ⟨rfl, hS⟩) | (go_at_call 28; first | (with_reducible refine (KR.out _ (by assumption)).mono ?_) | (with_reducible refine (KI.out _ (by assumption)).mono ?_)) <;> rintro e w' ⟨rfl, hS⟩ | (go_at_call 26; refine (OF.out _ _ (by first | assumption | exact HA.out _ (by assumption) _) (heap_new rfl)).mono ?_; rintro e w' ⟨rfl, hS⟩))
  go_wp2
  go_ret
  exact ⟨rfl, hS.2.2.2.2⟩

end Go.Proofs.YtafdjgmdkbimoaaDoor
