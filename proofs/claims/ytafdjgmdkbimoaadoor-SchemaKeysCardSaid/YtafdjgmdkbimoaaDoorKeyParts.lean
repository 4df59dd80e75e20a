/-
  key.part and key.Parts by contract.
-/
import Derived.Test.YtafdjgmdkbimoaaDoorKeyQuo
import Derived.Laws.Tables
import Derived.Laws.Tables
namespace Go.Proofs.YtafdjgmdkbimoaaDoor
open Go.RowKit
set_option linter.unusedVariables false
set_option linter.unusedSimpArgs false

theorem results_row_tmp {P : Program} {fn : Func} {p u : Tmp} {ty : TypeId} (h : fn.results = #[.cell p ty, .tmp u]) (tmps : Array Value) (w : World) (g : Nat) (t : TypeId) (cs : Array Value) (fr : Nat × Nat) (d : TypeDesc)
    (hp : tmps.getD p undef = .pointer (some ⟨g, 0, none⟩)) (hg : w.heap[g]? = some (.cells cs t fr))
    (hu : P.underlying ty = some d) (hd : (match d with | .struct _ | .array _ _ => true | _ => false) = true) (hi : (P.info? ty).map (·.size) = some cs.size) :
    (results fn tmps).run P w = .ok (.tuple #[.agg cs, tmps.getD u undef]) w := by
  rw [results_cell_tmp h, hp]
  simp [asAddr, Result.andThen, run_loadVar_row w g t ty cs fr d hg hu hd hi]

/-- a number out of eight bytes less 2^63 -/
def dropI (n : Int) : Int := n - 9223372036854775808
/-- the first part of bytes, and how many it has; below 0: it is none -/
def partD : List UInt8 → PartR × Int
  | [] => (⟨0, 0, 0, ByteArray.empty⟩, -1)
  | c :: r =>
    if c = 116 then (match unqL r [] with
      | none => (⟨116, 0, 0, ⟨#[]⟩⟩, -1)
      | some (t, q) => (⟨116, 0, 0, str t⟩, (r.length : Int) - (q.length : Int) + 1))
    else if r.length < 8 then (⟨c.toNat, 0, 0, ByteArray.empty⟩, -1)
    else if c = 105 then (⟨105, dropI (leN (r.take 8).reverse), 0, ByteArray.empty⟩, 9)
    else if c = 100 then (⟨100, dropI (18446744073709551615 - (leN (r.take 8).reverse : Int)), 0, ByteArray.empty⟩, 9)
    else if c = 117 then (⟨117, 0, leN (r.take 8).reverse, ByteArray.empty⟩, 9)
    else (⟨c.toNat, 0, 0, ByteArray.empty⟩, -1)

theorem heap_setCell_at {w : World} {g : Nat} {cs : Array Value} {t : TypeId} {fr : Nat × Nat} (hg : w.heap[g]? = some (.cells cs t fr)) (i : Nat) (v : Value) : (w.setCell ⟨g, i, none⟩ v).heap[g]? = some (.cells (cs.setIfInBounds i v) t fr) := by
  have hlt : g < w.heap.size := (Array.getElem?_eq_some_iff.1 hg).1
  have hv : w.heap[g] = .cells cs t fr := (Array.getElem?_eq_some_iff.1 hg).2
  unfold World.setCell
  rw [Array.getElem?_eq_getElem (by simpa using hlt), Array.getElem_modify]
  simp [hv]
theorem below_setRow {B g : Nat} {w v : World} (h : Below B w v) (hg : B ≤ g) (cs : Array Value) : Below B w (v.setRow g cs) := h.trans ⟨rfl, rfl, rfl, by simp, fun j hj => setRow_other _ _ _ _ (by omega)⟩
theorem size4 (a n u a' n' u' : Int) (s s' : ByteArray) : (cells4 a n u s).size = (cells4 a' n' u' s').size := rfl
theorem one4 (a n u : Int) (s : ByteArray) : (cells4 a n u s).all (·.oneCell') = true := by simp [cells4, Value.oneCell']

/-- what key.part keeps: its result's own block, and that of its part -/
structure P2 (w wx : World) (a : Int) : Prop where
  below : Below w.heap.size w wx
  own : wx.heap[w.heap.size]? = some (.cells (cells4 0 0 0 ByteArray.empty) 51 (0, 0))
  own2 : wx.heap[w.heap.size + 1]? = some (.cells (cells4 a 0 0 ByteArray.empty) 51 (0, 0))
theorem P2.step {w wx w' : World} {a : Int} (h : P2 w wx a) (hB : Below wx.heap.size wx w') : P2 w w' a :=
  ⟨below_at h.below hB, by rw [hB.block _ (heap_lt h.own)]; exact h.own, by rw [hB.block _ (heap_lt h.own2)]; exact h.own2⟩
theorem P2.first (w : World) (a : Int) : P2 w ((w.alloc (.cells (cells4 0 0 0 ByteArray.empty) 51)).alloc (.cells (cells4 a 0 0 ByteArray.empty) 51)) a := by
  have h1 : (w.alloc (.cells (cells4 0 0 0 ByteArray.empty) 51)).heap.size = w.heap.size + 1 := by simp
  refine ⟨by (repeat (first | exact Below.refl _ _ | assumption | apply below_drewN | (refine Below.alloc ?_ (by first | assumption | omega | (simp; try omega)) _))), ?_, ?_⟩
  · rw [Below.heap_alloc _ _ _ (by omega)]; exact heap_alloc_new _ _
  · have h := heap_alloc_new (w.alloc (.cells (cells4 0 0 0 ByteArray.empty) 51)) (.cells (cells4 a 0 0 ByteArray.empty) 51)
    rw [h1] at h
    exact h

theorem P2.own_set {w wx : World} {a : Int} (h : P2 w wx a) (i : Nat) (v : Value) : (wx.setCell ⟨w.heap.size + 1, i, none⟩ v).heap[w.heap.size]? = some (.cells (cells4 0 0 0 ByteArray.empty) 51 (0, 0)) := by
  rw [Below.heap_setCell _ _ _ _ (by simp)]; exact h.own
theorem P2.below_set {w wx : World} {a : Int} (h : P2 w wx a) (i : Nat) (v : Value) : Below w.heap.size w (wx.setCell ⟨w.heap.size + 1, i, none⟩ v) := h.below.setCell (by simp) _
theorem unqL_le : ∀ (l acc u v : List UInt8), unqL l acc = some (u, v) → v.length ≤ l.length
  | [], _, _, _, h => by simp [unqL] at h
  | [_], _, _, _, h => by simp [unqL] at h
  | b :: c :: r, acc, u, v, h => by
    rw [unqL] at h
    split at h
    · split at h
      · simp at h; obtain ⟨_, rfl⟩ := h; simp; omega
      · split at h
        · have := unqL_le r _ u v h; simp; omega
        · simp at h
    · have := unqL_le (c :: r) _ u v h; simp at this ⊢; omega
theorem wrap_i64m (x : Int) (h0 : 0 ≤ x) (h1 : x < 18446744073709551616) : IntKind.i64.wrap ((x + 9223372036854775808) % 18446744073709551616) = x - 9223372036854775808 := by
  simp [IntKind.wrap, IntKind.bits, IntKind.signed]; omega
theorem wrap_up (x : Int) (h0 : 0 ≤ x) (h1 : x < 18446744073709551616) : IntKind.i64.wrap (Go.bits .xor .u64 x 9223372036854775808) = dropI x := by
  rw [xor_top x h0 h1]; unfold dropI; exact wrap_i64m x h0 h1

set_option maxRecDepth 100000 in
set_option maxHeartbeats 4000000 in
theorem key_part (s : ByteArray) (w : World) (hs : s.size ≤ 1000) (h0 : 0 < s.size) :
    Calls Tryd.prog 37 #[.string s] w fun e w' => e = .returned (.tuple #[.agg (cells4 (partD s.data.toList).1.sort (partD s.data.toList).1.n (partD s.data.toList).1.u (partD s.data.toList).1.s), .int .i64 (partD s.data.toList).2]) ∧ Below w.heap.size w w' := by
  obtain ⟨t, ht⟩ : ∃ t, t = partD s.data.toList := ⟨_, rfl⟩
  rw [← ht]
  have hl : s.data.toList.length = s.size := by simp
  have hz := zero_part
  obtain ⟨c, hc⟩ : ∃ c, s[0] = c := ⟨_, rfl⟩
  have hc' : s.data.toList[0] = c := by rw [← hc]; rfl
  obtain ⟨r, hr⟩ : ∃ r, r = s.data.toList.drop 1 := ⟨_, rfl⟩
  have hcr : s.data.toList = c :: r := by
    have := List.drop_eq_getElem_cons (l := s.data.toList) (i := 0) (by omega)
    rw [hc', ← hr] at this
    exact this
  have hrl : s.size = r.length + 1 := by rw [← hl, hcr]; rfl
  rw [hcr, partD] at ht
  have hc256 : c.toNat < 256 := c.toNat_lt
  have hc0 : 0 ≤ ((c.toNat : Nat) : Int) := by omega
  have he1 : (s.extract 1 s.size).data.toList = r := by rw [hr]; exact Lib.extract_to_end s 1
  have hz1 : (s.extract 1 s.size).size = s.size - 1 := by rw [ByteArray.size_extract]; omega
  have HF0 := Lib.hid (P2.first w c.toNat)
  by_cases h1 : c = 116
  · rw [if_pos h1] at ht
    have hcz : ((c.toNat : Nat) : Int) = 116 := by rw [h1]; rfl
    obtain ⟨p1, q1⟩ := eq_bb hcz
    have QU := fun wx => key_quoted (s.extract 1 s.size) wx (by omega)
    rw [he1] at QU
    cases hq : unqL r [] with
    | none =>
      have e : unqR r = (⟨#[]⟩, -1) := by unfold unqR; rw [hq]
      rw [e] at QU
      rw [hq] at ht
      simp only at ht QU
      have HQ : Hid (∀ wx, P2 w wx c.toNat → Calls Tryd.prog 48 #[.string (s.extract 1 s.size)] wx fun e w' => e = .returned (.tuple #[.string ⟨#[]⟩, .int .i64 (-1)]) ∧ P2 w w' c.toNat) := Lib.hid fun wx T => (QU wx).mono fun _ _ ⟨h1, h2⟩ => ⟨h1, T.step h2⟩
      have HT : Hid (t = (⟨((c.toNat : Nat) : Int), 0, 0, ⟨#[]⟩⟩, -1)) := Lib.hid (by rw [ht, hcz])
      clear QU ht e hq he1 hz1 hcr hc' hr hl hcz h1 hrl
      go_enter Tryd.func37, Tryd.ntmps37
      go_wp2_with (first
        | (go_at_call 48; (with_reducible refine (HQ.out _ HF0.out).mono ?_); rintro e w1 ⟨rfl, T1⟩; obtain ⟨c20, c21, c22, c23⟩ := cells4_of T1.own2; have f23 : w1.frozen? ⟨w.heap.size + 1, 3, none⟩ = false := Lib.frozen_of_heap T1.own2 3)
        | (with_reducible refine wpList_load_row rfl 51 (.tmp 4) rfl (w.heap.size + 1) rfl 51 (cells4 c.toNat 0 0 ⟨#[]⟩) (0, 0) _ (heap_setCell_at T1.own2 3 _) Tryd.underlying51 rfl (info_cells4 _ _ _ _) ?_)
        | (with_reducible refine wpList_store_row rfl 51 (.tmp 2) (.tmp 24) rfl w.heap.size (cells4 c.toNat 0 0 ⟨#[]⟩) rfl rfl 51 (cells4 0 0 0 ByteArray.empty) (T1.own_set 3 _) (info_cells4 _ _ _ _) (size4 _ _ _ _ _ _ _ _) (one4 _ _ _ _) ?_))
      refine bodyPost_ret (results_row_tmp Tryd.results37 _ _ w.heap.size 51 (cells4 c.toNat 0 0 ⟨#[]⟩) (0, 0) _ rfl (setRow_heap _ _ _ _ _ _ (T1.own_set 3 _)) Tryd.underlying51 rfl (info_cells4 _ _ _ _)) rfl ?_
      exact ⟨by rw [HT.out]; rfl, below_setRow (T1.below_set 3 _) (Nat.le_refl _) _⟩
    | some q =>
      obtain ⟨u, v⟩ := q
      have hv : v.length ≤ r.length := unqL_le r [] u v hq
      have e : unqR r = (str u, (r.length : Int) - (v.length : Int)) := by unfold unqR; rw [hq]
      rw [e] at QU
      rw [hq] at ht
      simp only at ht QU
      obtain ⟨n, hn⟩ : ∃ n : Int, n = (r.length : Int) - (v.length : Int) := ⟨_, rfl⟩
      rw [← hn] at ht QU
      have hn0 : 0 ≤ n := by omega
      have hn1 : n ≤ 1000 := by omega
      have HQ : Hid (∀ wx, P2 w wx c.toNat → Calls Tryd.prog 48 #[.string (s.extract 1 s.size)] wx fun e w' => e = .returned (.tuple #[.string (str u), .int .i64 n]) ∧ P2 w w' c.toNat) := Lib.hid fun wx T => (QU wx).mono fun _ _ ⟨h1, h2⟩ => ⟨h1, T.step h2⟩
      have HT : Hid (t = (⟨((c.toNat : Nat) : Int), 0, 0, str u⟩, n + 1)) := Lib.hid (by rw [ht, hcz])
      obtain ⟨x, hx⟩ : ∃ x, x = str u := ⟨_, rfl⟩
      rw [← hx] at HQ HT
      clear QU ht e hq he1 hz1 hcr hc' hr hl hcz h1 hrl hn hv hx
      go_enter Tryd.func37, Tryd.ntmps37
      go_wp2_with (first
        | (go_at_call 48; (with_reducible refine (HQ.out _ HF0.out).mono ?_); rintro e w1 ⟨rfl, T1⟩; obtain ⟨c20, c21, c22, c23⟩ := cells4_of T1.own2; have f23 : w1.frozen? ⟨w.heap.size + 1, 3, none⟩ = false := Lib.frozen_of_heap T1.own2 3)
        | (with_reducible refine wpList_load_row rfl 51 (.tmp 4) rfl (w.heap.size + 1) rfl 51 (cells4 c.toNat 0 0 x) (0, 0) _ (heap_setCell_at T1.own2 3 _) Tryd.underlying51 rfl (info_cells4 _ _ _ _) ?_)
        | (with_reducible refine wpList_store_row rfl 51 (.tmp 2) (.tmp 25) rfl w.heap.size (cells4 c.toNat 0 0 x) rfl rfl 51 (cells4 0 0 0 ByteArray.empty) (T1.own_set 3 _) (info_cells4 _ _ _ _) (size4 _ _ _ _ _ _ _ _) (one4 _ _ _ _) ?_))
      refine bodyPost_ret (results_row_tmp Tryd.results37 _ _ w.heap.size 51 (cells4 c.toNat 0 0 x) (0, 0) _ rfl (setRow_heap _ _ _ _ _ _ (T1.own_set 3 _)) Tryd.underlying51 rfl (info_cells4 _ _ _ _)) rfl ?_
      exact ⟨by rw [HT.out]; rfl, below_setRow (T1.below_set 3 _) (Nat.le_refl _) _⟩
  · rw [if_neg h1] at ht
    have hcz : ¬ ((c.toNat : Nat) : Int) = 116 := fun h => h1 (UInt8.toNat_inj.mp (by
      have h2 : (116 : UInt8).toNat = 116 := rfl
      omega))
    obtain ⟨p1, q1⟩ := ne_bb hcz
    by_cases h2 : r.length < 8
    · rw [if_pos h2] at ht
      have hs9 : s.size < 9 := by omega
      have HT : Hid (t = (⟨((c.toNat : Nat) : Int), 0, 0, ByteArray.empty⟩, -1)) := Lib.hid ht
      clear ht he1 hz1 hcr hc' hr hl hcz h1 hrl h2
      go_enter Tryd.func37, Tryd.ntmps37
      go_wp2_with (first
        | (with_reducible refine wpList_load_row rfl 51 (.tmp 4) rfl (w.heap.size + 1) rfl 51 (cells4 c.toNat 0 0 ByteArray.empty) (0, 0) _ (HF0.out.own2) Tryd.underlying51 rfl (info_cells4 _ _ _ _) ?_)
        | (with_reducible refine wpList_store_row rfl 51 (.tmp 2) (.tmp 31) rfl w.heap.size (cells4 c.toNat 0 0 ByteArray.empty) rfl rfl 51 (cells4 0 0 0 ByteArray.empty) (HF0.out.own) (info_cells4 _ _ _ _) (size4 _ _ _ _ _ _ _ _) (one4 _ _ _ _) ?_))
      refine bodyPost_ret (results_row_tmp Tryd.results37 _ _ w.heap.size 51 (cells4 c.toNat 0 0 ByteArray.empty) (0, 0) _ rfl (setRow_heap _ _ _ _ _ _ (HF0.out.own)) Tryd.underlying51 rfl (info_cells4 _ _ _ _)) rfl ?_
      exact ⟨by rw [HT.out]; rfl, below_setRow (HF0.out.below) (Nat.le_refl _) _⟩
    · rw [if_neg h2] at ht
      have hs9 : ¬ s.size < 9 := by omega
      have hz9 : (s.extract 1 9).size = 8 := by rw [ByteArray.size_extract]; omega
      have he9 : (s.extract 1 9).data.toList = r.take 8 := by
        rw [ByteArray.data_extract, Array.toList_extract, hr, List.extract_eq_take_drop]
      have hlt : leN (r.take 8).reverse < 18446744073709551616 := by
        have h := leN_lt (r.take 8).reverse
        have e : (r.take 8).reverse.length = 8 := by rw [List.length_reverse, List.length_take]; omega
        rw [e] at h; exact h
      obtain ⟨m, hm⟩ : ∃ m : Int, m = ((leN (r.take 8).reverse : Nat) : Int) := ⟨_, rfl⟩
      have QU := fun wx => key_low (s.extract 1 9) wx hz9
      rw [he9, ← hm] at QU
      have hm0 : 0 ≤ m := by omega
      have hm1 : m < 18446744073709551616 := by omega
      have HQ : Hid (∀ wx, P2 w wx c.toNat → Calls Tryd.prog 49 #[.string (s.extract 1 9)] wx fun e w' => e = .returned (.int .u64 m) ∧ P2 w w' c.toNat) := Lib.hid fun wx T => (QU wx).mono fun _ _ ⟨h1, h2⟩ => ⟨h1, T.step h2⟩
      rw [← hm] at ht
      have hx1 := xor_top m hm0 hm1
      have hx2 := wrap_i64m m hm0 hm1
      have hnw := not_word m hm0 hm1
      have hy1 := xor_top (18446744073709551615 - m) (by omega) (by omega)
      have hy2 := wrap_i64m (18446744073709551615 - m) (by omega) (by omega)
      obtain ⟨k1, hk1⟩ : ∃ k, k = (m + 9223372036854775808) % 18446744073709551616 := ⟨_, rfl⟩
      obtain ⟨k2, hk2⟩ : ∃ k, k = (18446744073709551615 - m + 9223372036854775808) % 18446744073709551616 := ⟨_, rfl⟩
      obtain ⟨k3, hk3⟩ : ∃ k, k = 18446744073709551615 - m := ⟨_, rfl⟩
      rw [← hk1] at hx1 hx2
      rw [← hk2] at hy1 hy2
      rw [← hk3] at hy1 hnw
      have hd1 : dropI m = m - 9223372036854775808 := rfl
      have hd2 : dropI (18446744073709551615 - m) = 18446744073709551615 - m - 9223372036854775808 := rfl
      rw [← hd1] at hx2
      rw [← hd2] at hy2
      obtain ⟨z1, hz1'⟩ : ∃ z, z = dropI m := ⟨_, rfl⟩
      obtain ⟨z2, hz2'⟩ : ∃ z, z = dropI (18446744073709551615 - m) := ⟨_, rfl⟩
      rw [← hz1'] at hx2 ht
      rw [← hz2'] at hy2 ht
      clear hk1 hk2 hk3 hd1 hd2 hz1' hz2' QU hlt hz9 he9 he1 hz1 hcr hc' hr hl hcz hrl h2 hm
      by_cases h3 : c = 105
      · have hc3 : ((c.toNat : Nat) : Int) = 105 := by rw [h3]; rfl
        obtain ⟨p3, q3⟩ := eq_bb hc3
        rw [if_pos h3] at ht
        have HT : Hid (t = (⟨((c.toNat : Nat) : Int), z1, 0, ByteArray.empty⟩, 9)) := Lib.hid (by rw [ht, hc3])
        clear ht h1 h3 hc3 hnw hy1 hy2
        go_enter Tryd.func37, Tryd.ntmps37
        go_wp2_with (first
          | (go_at_call 49; (with_reducible refine (HQ.out _ HF0.out).mono ?_); rintro e w1 ⟨rfl, T1⟩; obtain ⟨c20, c21, c22, c23⟩ := cells4_of T1.own2; have f23 : w1.frozen? ⟨w.heap.size + 1, 1, none⟩ = false := Lib.frozen_of_heap T1.own2 1)
          | (with_reducible refine wpList_load_row rfl 51 (.tmp 4) rfl (w.heap.size + 1) rfl 51 (cells4 c.toNat z1 0 ByteArray.empty) (0, 0) _ (heap_setCell_at T1.own2 1 _) Tryd.underlying51 rfl (info_cells4 _ _ _ _) ?_)
          | (with_reducible refine wpList_store_row rfl 51 (.tmp 2) (.tmp 55) rfl w.heap.size (cells4 c.toNat z1 0 ByteArray.empty) rfl rfl 51 (cells4 0 0 0 ByteArray.empty) (T1.own_set 1 _) (info_cells4 _ _ _ _) (size4 _ _ _ _ _ _ _ _) (one4 _ _ _ _) ?_))
        refine bodyPost_ret (results_row_tmp Tryd.results37 _ _ w.heap.size 51 (cells4 c.toNat z1 0 ByteArray.empty) (0, 0) _ rfl (setRow_heap _ _ _ _ _ _ (T1.own_set 1 _)) Tryd.underlying51 rfl (info_cells4 _ _ _ _)) rfl ?_
        exact ⟨by rw [HT.out]; rfl, below_setRow (T1.below_set 1 _) (Nat.le_refl _) _⟩
      · have hc3 : ¬ ((c.toNat : Nat) : Int) = 105 := fun h => h3 (UInt8.toNat_inj.mp (by
          have h2 : (105 : UInt8).toNat = 105 := rfl
          omega))
        obtain ⟨p3, q3⟩ := ne_bb hc3
        rw [if_neg h3] at ht
        clear h3 hc3
        by_cases h4 : c = 100
        · have hc3 : ((c.toNat : Nat) : Int) = 100 := by rw [h4]; rfl
          obtain ⟨p4, q4⟩ := eq_bb hc3
          rw [if_pos h4] at ht
          have HT : Hid (t = (⟨((c.toNat : Nat) : Int), z2, 0, ByteArray.empty⟩, 9)) := Lib.hid (by rw [ht, hc3])
          clear ht h1 h4 hc3 hx1 hx2
          have hsg : Go.IntKind.u64.signed = false := rfl
          have hy3 : wrap64 k2 = z2 := by rw [← hy2]; exact (IntWalk.i64_left k2).symm
          go_enter Tryd.func37, Tryd.ntmps37
          go_wp2_with (first
            | (go_at_call 49; (with_reducible refine (HQ.out _ HF0.out).mono ?_); rintro e w1 ⟨rfl, T1⟩; obtain ⟨c20, c21, c22, c23⟩ := cells4_of T1.own2; have f23 : w1.frozen? ⟨w.heap.size + 1, 1, none⟩ = false := Lib.frozen_of_heap T1.own2 1)
            | (with_reducible refine wpList_load_row rfl 51 (.tmp 4) rfl (w.heap.size + 1) rfl 51 (cells4 c.toNat z2 0 ByteArray.empty) (0, 0) _ (heap_setCell_at T1.own2 1 _) Tryd.underlying51 rfl (info_cells4 _ _ _ _) ?_)
            | (with_reducible refine wpList_store_row rfl 51 (.tmp 2) (.tmp 55) rfl w.heap.size (cells4 c.toNat z2 0 ByteArray.empty) rfl rfl 51 (cells4 0 0 0 ByteArray.empty) (T1.own_set 1 _) (info_cells4 _ _ _ _) (size4 _ _ _ _ _ _ _ _) (one4 _ _ _ _) ?_))
          refine bodyPost_ret (results_row_tmp Tryd.results37 _ _ w.heap.size 51 (cells4 c.toNat z2 0 ByteArray.empty) (0, 0) _ rfl (setRow_heap _ _ _ _ _ _ (T1.own_set 1 _)) Tryd.underlying51 rfl (info_cells4 _ _ _ _)) rfl ?_
          exact ⟨by rw [HT.out]; rfl, below_setRow (T1.below_set 1 _) (Nat.le_refl _) _⟩
        · have hc3 : ¬ ((c.toNat : Nat) : Int) = 100 := fun h => h4 (UInt8.toNat_inj.mp (by
            have h2 : (100 : UInt8).toNat = 100 := rfl
            omega))
          obtain ⟨p4, q4⟩ := ne_bb hc3
          rw [if_neg h4] at ht
          clear h4 hc3
          by_cases h5 : c = 117
          · have hc3 : ((c.toNat : Nat) : Int) = 117 := by rw [h5]; rfl
            obtain ⟨p5, q5⟩ := eq_bb hc3
            rw [if_pos h5] at ht
            have HT : Hid (t = (⟨((c.toNat : Nat) : Int), 0, m, ByteArray.empty⟩, 9)) := Lib.hid (by rw [ht, hc3])
            clear ht h1 h5 hc3 hx1 hx2 hnw hy1 hy2
            go_enter Tryd.func37, Tryd.ntmps37
            go_wp2_with (first
              | (go_at_call 49; (with_reducible refine (HQ.out _ HF0.out).mono ?_); rintro e w1 ⟨rfl, T1⟩; obtain ⟨c20, c21, c22, c23⟩ := cells4_of T1.own2; have f23 : w1.frozen? ⟨w.heap.size + 1, 2, none⟩ = false := Lib.frozen_of_heap T1.own2 2)
              | (with_reducible refine wpList_load_row rfl 51 (.tmp 4) rfl (w.heap.size + 1) rfl 51 (cells4 c.toNat 0 m ByteArray.empty) (0, 0) _ (heap_setCell_at T1.own2 2 _) Tryd.underlying51 rfl (info_cells4 _ _ _ _) ?_)
              | (with_reducible refine wpList_store_row rfl 51 (.tmp 2) (.tmp 55) rfl w.heap.size (cells4 c.toNat 0 m ByteArray.empty) rfl rfl 51 (cells4 0 0 0 ByteArray.empty) (T1.own_set 2 _) (info_cells4 _ _ _ _) (size4 _ _ _ _ _ _ _ _) (one4 _ _ _ _) ?_))
            refine bodyPost_ret (results_row_tmp Tryd.results37 _ _ w.heap.size 51 (cells4 c.toNat 0 m ByteArray.empty) (0, 0) _ rfl (setRow_heap _ _ _ _ _ _ (T1.own_set 2 _)) Tryd.underlying51 rfl (info_cells4 _ _ _ _)) rfl ?_
            exact ⟨by rw [HT.out]; rfl, below_setRow (T1.below_set 2 _) (Nat.le_refl _) _⟩
          · have hc3 : ¬ ((c.toNat : Nat) : Int) = 117 := fun h => h5 (UInt8.toNat_inj.mp (by
              have h2 : (117 : UInt8).toNat = 117 := rfl
              omega))
            obtain ⟨p5, q5⟩ := ne_bb hc3
            rw [if_neg h5] at ht
            have HT : Hid (t = (⟨((c.toNat : Nat) : Int), 0, 0, ByteArray.empty⟩, -1)) := Lib.hid ht
            clear ht h1 h5 hc3 hx1 hx2 hnw hy1 hy2
            go_enter Tryd.func37, Tryd.ntmps37
            go_wp2_with (first
              | (go_at_call 49; (with_reducible refine (HQ.out _ HF0.out).mono ?_); rintro e w1 ⟨rfl, T1⟩; obtain ⟨c20, c21, c22, c23⟩ := cells4_of T1.own2; have f23 : w1.frozen? ⟨w.heap.size + 1, 1, none⟩ = false := Lib.frozen_of_heap T1.own2 1)
              | (with_reducible refine wpList_load_row rfl 51 (.tmp 4) rfl (w.heap.size + 1) rfl 51 (cells4 c.toNat 0 0 ByteArray.empty) (0, 0) _ (T1.own2) Tryd.underlying51 rfl (info_cells4 _ _ _ _) ?_)
              | (with_reducible refine wpList_store_row rfl 51 (.tmp 2) (.tmp 37) rfl w.heap.size (cells4 c.toNat 0 0 ByteArray.empty) rfl rfl 51 (cells4 0 0 0 ByteArray.empty) (T1.own) (info_cells4 _ _ _ _) (size4 _ _ _ _ _ _ _ _) (one4 _ _ _ _) ?_))
            refine bodyPost_ret (results_row_tmp Tryd.results37 _ _ w.heap.size 51 (cells4 c.toNat 0 0 ByteArray.empty) (0, 0) _ rfl (setRow_heap _ _ _ _ _ _ (T1.own)) Tryd.underlying51 rfl (info_cells4 _ _ _ _)) rfl ?_
            exact ⟨by rw [HT.out]; rfl, below_setRow (T1.below) (Nat.le_refl _) _⟩

end Go.Proofs.YtafdjgmdkbimoaaDoor
