/-
  The walk of OrderBack: what is written is read as it was; what is read would be written so.
-/
import Derived.Test.YtbhhfdkidpmfeaaOrdMoney
namespace Go.Proofs.Ytbhhfdkidpmfeaa
open Go.RowKit
set_option linter.unusedVariables false
set_option linter.unusedSimpArgs false

abbrev obO (R : Array Value) : Obj := .cells R 24 (0, 0)
abbrev obB (R : Array Value) : Obj := .cells R 32 (0, 0)
/-- the law's own two boxes -/
structure OW (w wx : World) (R Q : Obj) : Prop where
  below : Below w.heap.size w wx
  h0 : wx.heap[w.heap.size]? = some R
  h1 : wx.heap[w.heap.size + 1]? = some Q
theorem OW.moved {w wx w' : World} {R Q : Obj} (h : OW w wx R Q) (hB : Below wx.heap.size wx w') : OW w w' R Q :=
  ⟨below_at h.below hB, by rw [hB.block _ (heap_lt h.h0)]; exact h.h0, by rw [hB.block _ (heap_lt h.h1)]; exact h.h1⟩
theorem OW.drewN {w wx : World} {R Q : Obj} (h : OW w wx R Q) (n : Nat) : OW w (wx.drewN n) R Q := h.moved (((Drew.refl wx).step n).below)
theorem OW.drew {w wx : World} {R Q : Obj} (h : OW w wx R Q) : OW w wx.drew R Q := h.moved ((Drew.refl wx).drew.below)
theorem OW.alloc {w wx : World} {R Q : Obj} (h : OW w wx R Q) (o : Obj) : OW w (wx.alloc o) R Q := h.moved ((Below.refl _ _).alloc (Nat.le_refl _) _)

theorem bcell {W w1 : World} (hb : Below W.heap.size W w1) : (∀ b o, b < W.heap.size → w1.cell? ⟨b, o, none⟩ = W.cell? ⟨b, o, none⟩) ∧ (∀ b o, b < W.heap.size → w1.frozen? ⟨b, o, none⟩ = W.frozen? ⟨b, o, none⟩) :=
  ⟨fun b o h => hb.cell (p := ⟨b, o, none⟩) h, fun b o h => hb.frozen (p := ⟨b, o, none⟩) h⟩
theorem OW.setCell {w wx : World} {R Q : Obj} (h : OW w wx R Q) {A : Nat} (hA : w.heap.size + 1 < A) (i : Nat) (v : Value) : OW w (wx.setCell ⟨A, i, none⟩ v) R Q :=
  ⟨h.below.setCell (by simp; omega) _, by rw [heap_setCell_other _ _ _ _ (by simp; omega)]; exact h.h0, by rw [heap_setCell_other _ _ _ _ (by simp; omega)]; exact h.h1⟩
theorem below_blk {W w1 : World} (hb : Below W.heap.size W w1) : ∀ (A : Nat) (o : Obj), W.heap[A]? = some o → w1.heap[A]? = some o := fun A o h => by rw [hb.block _ (heap_lt h)]; exact h
theorem heap9 {wx : World} {A : Nat} {t : TypeId} {z1 z2 z3 z4 z5 z6 z7 z8 z9 : Value} (v1 v2 v3 v4 v5 v6 v7 v8 v9 : Value) (h : wx.heap[A]? = some (.cells #[z1, z2, z3, z4, z5, z6, z7, z8, z9] t (0, 0))) :
    (((((((((wx.setCell ⟨A, 0, none⟩ v1).setCell ⟨A, 1, none⟩ v2).setCell ⟨A, 2, none⟩ v3).setCell ⟨A, 3, none⟩ v4).setCell ⟨A, 4, none⟩ v5).setCell ⟨A, 5, none⟩ v6).setCell ⟨A, 6, none⟩ v7).setCell ⟨A, 7, none⟩ v8).setCell ⟨A, 8, none⟩ v9).heap[A]? = some (.cells #[v1, v2, v3, v4, v5, v6, v7, v8, v9] t (0, 0)) := by
  have h1 : (wx.setCell ⟨A, 0, none⟩ v1).heap[A]? = some (.cells #[v1, z2, z3, z4, z5, z6, z7, z8, z9] t (0, 0)) := by rw [heap_setCell_same _ _ 0 _ _ v1 h]; simp
  have h2 : ((wx.setCell ⟨A, 0, none⟩ v1).setCell ⟨A, 1, none⟩ v2).heap[A]? = some (.cells #[v1, v2, z3, z4, z5, z6, z7, z8, z9] t (0, 0)) := by rw [heap_setCell_same _ _ 1 _ _ v2 h1]; simp
  have h3 : (((wx.setCell ⟨A, 0, none⟩ v1).setCell ⟨A, 1, none⟩ v2).setCell ⟨A, 2, none⟩ v3).heap[A]? = some (.cells #[v1, v2, v3, z4, z5, z6, z7, z8, z9] t (0, 0)) := by rw [heap_setCell_same _ _ 2 _ _ v3 h2]; simp
  have h4 : ((((wx.setCell ⟨A, 0, none⟩ v1).setCell ⟨A, 1, none⟩ v2).setCell ⟨A, 2, none⟩ v3).setCell ⟨A, 3, none⟩ v4).heap[A]? = some (.cells #[v1, v2, v3, v4, z5, z6, z7, z8, z9] t (0, 0)) := by rw [heap_setCell_same _ _ 3 _ _ v4 h3]; simp
  have h5 : (((((wx.setCell ⟨A, 0, none⟩ v1).setCell ⟨A, 1, none⟩ v2).setCell ⟨A, 2, none⟩ v3).setCell ⟨A, 3, none⟩ v4).setCell ⟨A, 4, none⟩ v5).heap[A]? = some (.cells #[v1, v2, v3, v4, v5, z6, z7, z8, z9] t (0, 0)) := by rw [heap_setCell_same _ _ 4 _ _ v5 h4]; simp
  have h6 : ((((((wx.setCell ⟨A, 0, none⟩ v1).setCell ⟨A, 1, none⟩ v2).setCell ⟨A, 2, none⟩ v3).setCell ⟨A, 3, none⟩ v4).setCell ⟨A, 4, none⟩ v5).setCell ⟨A, 5, none⟩ v6).heap[A]? = some (.cells #[v1, v2, v3, v4, v5, v6, z7, z8, z9] t (0, 0)) := by rw [heap_setCell_same _ _ 5 _ _ v6 h5]; simp
  have h7 : (((((((wx.setCell ⟨A, 0, none⟩ v1).setCell ⟨A, 1, none⟩ v2).setCell ⟨A, 2, none⟩ v3).setCell ⟨A, 3, none⟩ v4).setCell ⟨A, 4, none⟩ v5).setCell ⟨A, 5, none⟩ v6).setCell ⟨A, 6, none⟩ v7).heap[A]? = some (.cells #[v1, v2, v3, v4, v5, v6, v7, z8, z9] t (0, 0)) := by rw [heap_setCell_same _ _ 6 _ _ v7 h6]; simp
  have h8 : ((((((((wx.setCell ⟨A, 0, none⟩ v1).setCell ⟨A, 1, none⟩ v2).setCell ⟨A, 2, none⟩ v3).setCell ⟨A, 3, none⟩ v4).setCell ⟨A, 4, none⟩ v5).setCell ⟨A, 5, none⟩ v6).setCell ⟨A, 6, none⟩ v7).setCell ⟨A, 7, none⟩ v8).heap[A]? = some (.cells #[v1, v2, v3, v4, v5, v6, v7, v8, z9] t (0, 0)) := by rw [heap_setCell_same _ _ 7 _ _ v8 h7]; simp
  have h9 : (((((((((wx.setCell ⟨A, 0, none⟩ v1).setCell ⟨A, 1, none⟩ v2).setCell ⟨A, 2, none⟩ v3).setCell ⟨A, 3, none⟩ v4).setCell ⟨A, 4, none⟩ v5).setCell ⟨A, 5, none⟩ v6).setCell ⟨A, 6, none⟩ v7).setCell ⟨A, 7, none⟩ v8).setCell ⟨A, 8, none⟩ v9).heap[A]? = some (.cells #[v1, v2, v3, v4, v5, v6, v7, v8, v9] t (0, 0)) := by rw [heap_setCell_same _ _ 8 _ _ v9 h8]; simp
  exact h9
theorem cells2_of {w : World} {B : Nat} {a b : Int} (h : w.heap[B]? = some (obB (row2 a b))) : w.cell? ⟨B, 0, none⟩ = some (.int .i64 a) ∧ w.cell? ⟨B, 1, none⟩ = some (.int .i64 b) := by
  refine ⟨?_, ?_⟩ <;> (rw [cell_of_row _ _ _ _ _ _ h]; rfl)
theorem heap9z {wx : World} {A : Nat} (v1 v2 v3 v4 v5 v6 v7 v8 v9 : Value) (h : wx.heap[A]? = some (.cells #[.int .u64 0, .int .u64 0, .int .i64 0, .int .i64 0, .int .i64 0, .int .i64 0, .int .u64 0, .int .u64 0, .int .i64 0] 24 (0, 0))) :
    (((((((((wx.setCell ⟨A, 0, none⟩ v1).setCell ⟨A, 1, none⟩ v2).setCell ⟨A, 2, none⟩ v3).setCell ⟨A, 3, none⟩ v4).setCell ⟨A, 4, none⟩ v5).setCell ⟨A, 5, none⟩ v6).setCell ⟨A, 6, none⟩ v7).setCell ⟨A, 7, none⟩ v8).setCell ⟨A, 8, none⟩ v9).heap[A]? = some (.cells #[v1, v2, v3, v4, v5, v6, v7, v8, v9] 24 (0, 0)) := heap9 v1 v2 v3 v4 v5 v6 v7 v8 v9 h
theorem bytes_size (o : OrderR) (g : o.good) : (str (bytesL o)).size ≤ 100 := by
  rw [str_size]; unfold bytesL
  simp only [List.length_append]
  have := g.account; have := g.price; have := g.size; have := g.left; have := g.rank; have := g.expiry
  have h1 := numL_len64 o.account.toNat (by omega)
  have h2 := numL_len64 (u64 o.side) (u64_lt _)
  have h3 := numL_len64 (zz o.price).toNat (by have := zz_bd o.price (by omega) (by omega); omega)
  have h4 := numL_len64 (zz o.size).toNat (by have := zz_bd o.size (by omega) (by omega); omega)
  have h5 := numL_len64 (zz o.left).toNat (by have := zz_bd o.left (by omega) (by omega); omega)
  have h6 := numL_len64 o.rank.toNat (by omega)
  have h7 := numL_len64 o.expiry.toNat (by omega)
  have h8 := numL_len64 (u64 o.state) (u64_lt _)
  omega
theorem money_size (b : BalanceR) (g : b.good) : (str (moneyL b)).size ≤ 20 := by
  rw [str_size]; unfold moneyL
  simp only [List.length_append]
  have := g.free; have := g.held
  have h3 := numL_len64 (zz b.free).toNat (by have := zz_bd b.free (by omega) (by omega); omega)
  have h4 := numL_len64 (zz b.held).toNat (by have := zz_bd b.held (by omega) (by omega); omega)
  omega
theorem parseS_good (id : Int) (s : ByteArray) (h : 0 ≤ id ∧ id < 18446744073709551616) : (parseS id s).1.good := by
  have z : noOrder.good := ⟨by decide, by decide, by decide, by decide, by decide, by decide, by decide, by decide, by decide⟩
  unfold parseS
  split
  · exact z
  split
  · exact z
  · exact parseO_good id s h
theorem parseM_good (s : ByteArray) : (parseM s).1.good := by
  have z : noBal.good := ⟨by decide, by decide⟩
  unfold parseM
  split
  · exact z
  split
  · exact z
  · exact parseB_good s

set_option maxRecDepth 100000 in
set_option maxHeartbeats 8000000 in
theorem OrderBack_walk (o : OrderR) (b : BalanceR) (s : ByteArray) (w : World) (g : o.good) (gb : b.good) (ws : s.size ≤ 140737488351232) :
    Calls Try.prog 4 #[.agg o.row.toArray, .agg b.row.toArray, .string s] w fun e w' => e = .returned (.bool true) ∧ Below w.heap.size w w' := by
  obtain ⟨c, hc⟩ : ∃ c, c = checkS o := ⟨_, rfl⟩
  obtain ⟨fc, hfc⟩ : ∃ c, c = fitsS b := ⟨_, rfl⟩
  obtain ⟨S1, hS1⟩ : ∃ S, S = str (bytesL o) := ⟨_, rfl⟩
  obtain ⟨S2, hS2⟩ : ∃ S, S = str (moneyL b) := ⟨_, rfl⟩
  obtain ⟨x1, hx1⟩ : ∃ x, x = (parseS o.id S1).1 := ⟨_, rfl⟩
  obtain ⟨e1, he1⟩ : ∃ x, x = (parseS o.id S1).2 := ⟨_, rfl⟩
  obtain ⟨m1, hm1⟩ : ∃ x, x = (parseM S2).1 := ⟨_, rfl⟩
  obtain ⟨f1, hf1⟩ : ∃ x, x = (parseM S2).2 := ⟨_, rfl⟩
  obtain ⟨x2, hx2⟩ : ∃ x, x = (parseS 7 s).1 := ⟨_, rfl⟩
  obtain ⟨e2, he2⟩ : ∃ x, x = (parseS 7 s).2 := ⟨_, rfl⟩
  obtain ⟨m2, hm2⟩ : ∃ x, x = (parseM s).1 := ⟨_, rfl⟩
  obtain ⟨f2, hf2⟩ : ∃ x, x = (parseM s).2 := ⟨_, rfl⟩
  have G := Lib.hid g
  have L1 : Hid (c = 0 → x1 = o ∧ e1 = 0) := Lib.hid fun h => by rw [hx1, he1, hS1, parse_bytes o g (by rw [← hc]; exact h)]; exact ⟨rfl, rfl⟩
  have L2 : Hid (fc = 0 → m1 = b ∧ f1 = 0) := Lib.hid fun h => by rw [hm1, hf1, hS2, parse_money b gb (by rw [← hfc]; exact h)]; exact ⟨rfl, rfl⟩
  have L3 : Hid (e2 = 0 → str (bytesL x2) = s ∧ checkS x2 = 0) := Lib.hid fun h => by rw [hx2]; exact bytes_parse 7 s (by omega) (by rw [← he2]; exact h)
  have L4 : Hid (f2 = 0 → str (moneyL m2) = s) := Lib.hid fun h => by rw [hm2]; exact money_parse s (by rw [← hf2]; exact h)
  have s1 : S1.size ≤ 100 := by rw [hS1]; exact bytes_size o g
  have s2 : S2.size ≤ 20 := by rw [hS2]; exact money_size b gb
  have gx2 : x2.good := by rw [hx2]; exact parseS_good 7 s (by omega)
  have gm2 : m2.good := by rw [hm2]; exact parseM_good s
  obtain ⟨id, ac, sd, pr, sz, lf, rk, ex, st⟩ := o
  obtain ⟨fr, hd⟩ := b
  simp only [OrderR.row, BalanceR.row, List.toArray] at *
  have AW : Hid (∀ wx, OW w wx (obO (row9 id ac sd pr sz lf rk ex st)) (obB (row2 fr hd)) → Calls Try.prog 5 #[] wx fun e w' => e = .returned (.bool true) ∧ OW w w' (obO (row9 id ac sd pr sz lf rk ex st)) (obB (row2 fr hd))) := Lib.hid fun wx T => (awake20 wx).mono fun _ _ ⟨h1, h2⟩ => ⟨h1, T.moved h2⟩
  have BY : Hid (∀ wx, OW w wx (obO (row9 id ac sd pr sz lf rk ex st)) (obB (row2 fr hd)) → Calls Try.prog 9 #[.agg (row9 id ac sd pr sz lf rk ex st)] wx fun e w' => e = .returned (.string S1) ∧ OW w w' (obO (row9 id ac sd pr sz lf rk ex st)) (obB (row2 fr hd)) ∧ Below wx.heap.size wx w') := Lib.hid fun wx T => by
    rw [hS1]; exact (order_bytes _ wx g).mono fun _ _ ⟨h1, h2⟩ => ⟨h1, T.moved h2, h2⟩
  have PA : Hid (∀ wx, OW w wx (obO (row9 id ac sd pr sz lf rk ex st)) (obB (row2 fr hd)) → Calls Try.prog 8 #[.int .u64 id, .string S1] wx fun e w' => e = .returned (.tuple #[x1.val, .int .i64 e1]) ∧ OW w w' (obO (row9 id ac sd pr sz lf rk ex st)) (obB (row2 fr hd)) ∧ Below wx.heap.size wx w') := Lib.hid fun wx T => by
    rw [hx1, he1]; exact (order_parse id S1 wx g.id (by omega)).mono fun _ _ ⟨h1, h2⟩ => ⟨h1, T.moved h2, h2⟩
  have CH : Hid (∀ wx A X, OW w wx (obO (row9 id ac sd pr sz lf rk ex st)) (obB (row2 fr hd)) → wx.heap[A]? = some X → Calls Try.prog 6 #[.agg (row9 id ac sd pr sz lf rk ex st)] wx fun e w' => e = .returned (.int .i64 c) ∧ OW w w' (obO (row9 id ac sd pr sz lf rk ex st)) (obB (row2 fr hd)) ∧ w'.heap[A]? = some X) := Lib.hid fun wx A X T hA => by
    rw [hc]; exact (order_check _ wx g).mono fun _ _ ⟨h1, h2⟩ => ⟨h1, T.moved h2, below_blk h2 _ _ hA⟩
  have MO : Hid (∀ wx, OW w wx (obO (row9 id ac sd pr sz lf rk ex st)) (obB (row2 fr hd)) → Calls Try.prog 11 #[.agg (row2 fr hd)] wx fun e w' => e = .returned (.string S2) ∧ OW w w' (obO (row9 id ac sd pr sz lf rk ex st)) (obB (row2 fr hd))) := Lib.hid fun wx T => by
    rw [hS2]; exact (order_money fr hd wx gb.free gb.held).mono fun _ _ ⟨h1, h2⟩ => ⟨h1, T.moved h2⟩
  have PM : Hid (∀ wx, OW w wx (obO (row9 id ac sd pr sz lf rk ex st)) (obB (row2 fr hd)) → Calls Try.prog 10 #[.string S2] wx fun e w' => e = .returned (.tuple #[m1.val, .int .i64 f1]) ∧ OW w w' (obO (row9 id ac sd pr sz lf rk ex st)) (obB (row2 fr hd))) := Lib.hid fun wx T => by
    rw [hm1, hf1]; exact (order_parse_money S2 wx (by omega)).mono fun _ _ ⟨h1, h2⟩ => ⟨h1, T.moved h2⟩
  have FI : Hid (∀ wx A X, OW w wx (obO (row9 id ac sd pr sz lf rk ex st)) (obB (row2 fr hd)) → wx.heap[A]? = some X → Calls Try.prog 12 #[.agg (row2 fr hd)] wx fun e w' => e = .returned (.int .i64 fc) ∧ OW w w' (obO (row9 id ac sd pr sz lf rk ex st)) (obB (row2 fr hd)) ∧ w'.heap[A]? = some X) := Lib.hid fun wx A X T hA => by
    rw [hfc]; exact (order_fits _ wx gb).mono fun _ _ ⟨h1, h2⟩ => ⟨h1, T.moved h2, below_blk h2 _ _ hA⟩
  have P7 : Hid (∀ wx, Below w.heap.size w wx → Calls Try.prog 8 #[.int .u64 7, .string s] wx fun e w' => e = .returned (.tuple #[x2.val, .int .i64 e2]) ∧ Below w.heap.size w w') := Lib.hid fun wx h => by
    rw [hx2, he2]; exact (order_parse 7 s wx (by omega) ws).mono fun _ _ ⟨h1, h2⟩ => ⟨h1, below_at h h2⟩
  have PS : Hid (∀ wx, Below w.heap.size w wx → Calls Try.prog 10 #[.string s] wx fun e w' => e = .returned (.tuple #[m2.val, .int .i64 f2]) ∧ Below w.heap.size w w' ∧ Below wx.heap.size wx w') := Lib.hid fun wx h => by
    rw [hm2, hf2]; exact (order_parse_money s wx ws).mono fun _ _ ⟨h1, h2⟩ => ⟨h1, below_at h h2, h2⟩
  clear hS1 hS2 hx1 he1 hm1 hf1 hx2 he2 hm2 hf2 hc hfc
  obtain ⟨b1, b2, b3, b4, b5, b6, b7, b8, b9⟩ := x2
  obtain ⟨d1, d2⟩ := m2
  simp only [OrderR.val] at P7
  simp only [BalanceR.val] at PS
  obtain ⟨n1, n2⟩ := m1
  simp only [BalanceR.val] at PM
  obtain ⟨a1, a2, a3, a4, a5, a6, a7, a8, a9⟩ := x1
  have W0 : OW w ((w.alloc (obO (row9 id ac sd pr sz lf rk ex st))).alloc (obB (row2 fr hd))) (obO (row9 id ac sd pr sz lf rk ex st)) (obB (row2 fr hd)) := ⟨by (repeat (first | exact Below.refl _ _ | assumption | apply below_drewN | (refine Below.alloc ?_ (by simp; try omega) _))), heap_alloc2_old _ _ _, heap_alloc2_new _ _ _⟩
  by_cases hlong : 500 < s.size
  · go_enter Try.func4, Try.ntmps4
    go_wp2_with (go_at_call 5; (with_reducible refine (AW.out _ W0).mono ?_); rintro e w1 ⟨rfl, T1⟩)
    go_ret
    exact ⟨rfl, T1.below⟩
  have HW0 := Lib.hid W0
  clear W0
  simp only [OrderR.val] at PA
  go_enter Try.func4, Try.ntmps4
  go_upto_region 5 with (go_at_call 5; (with_reducible refine (AW.out _ HW0.out).mono ?_); rintro e w1 ⟨rfl, T1⟩)
  go_cut [7, 8] (fun v7 v8 wc => ∃ A1, v7 = .pointer (some ⟨A1, 0, none⟩) ∧ v8 = .int .i64 e1 ∧ Hid (OW w wc (obO (row9 id ac sd pr sz lf rk ex st)) (obB (row2 fr hd)) ∧ wc.heap[A1]? = some (obO (row9 a1 a2 a3 a4 a5 a6 a7 a8 a9))))
  case first =>
    clear CH MO PM FI P7 PS L1 L2 L3 L4 gx2 gm2 G HW0
    have T1' := T1.drew
    obtain ⟨k0, k1, k2, k3, k4, k5, k6, k7, k8⟩ := cells9_of T1.h0
    have n1 := heap_lt T1.h0
    have n2 := Nat.ne_of_lt n1
    go_region_with (first | (go_at_call 9; (with_reducible refine (BY.out _ (by repeat (first | assumption | apply OW.drew | apply OW.alloc))).mono ?_); rintro e wb ⟨rfl, hSb, hB⟩; (try have hz : w1.heap.size < wb.heap.size := (by have := hB.size; simp at this; omega)); have m1 := heap_lt hSb.h0; have m2 := Nat.ne_of_lt m1; obtain ⟨hc, hf⟩ := bcell hB; have hP1 := below_blk hB; have HQ2 := Lib.hid (heap_lt hSb.h1); obtain ⟨j0, j1, j2, j3, j4, j5, j6, j7, j8⟩ := cells9_of hSb.h0) | (go_at_call 8; (with_reducible refine (PA.out _ (by repeat (first | assumption | apply OW.drew | apply OW.alloc))).mono ?_); rintro e wc ⟨rfl, hS, hB⟩; have l1 := heap_lt hS.h0; have l2 := Nat.ne_of_lt l1; obtain ⟨hc, hf⟩ := bcell hB; have hP2 := below_blk hB; obtain ⟨i0, i1, i2, i3, i4, i5, i6, i7, i8⟩ := cells9_of hS.h0))
    all_goals (go_wp2_with fail; go_meet)
    all_goals refine ⟨_, rfl, rfl, Lib.hid ⟨?_, ?_⟩⟩
    all_goals (first
      | (with_reducible exact hS.alloc _)
      | (with_reducible exact heap_alloc_new _ _)
      | ((with_reducible refine heap9z _ _ _ _ _ _ _ _ _ (hP2 _ _ ?_)); first | (with_reducible exact heap_alloc_new _ _) | (refine hP1 _ _ ?_; exact heap_alloc_new _ _))
      | ((with_reducible refine OW.setCell (OW.setCell (OW.setCell (OW.setCell (OW.setCell (OW.setCell (OW.setCell (OW.setCell (OW.setCell hS ?_ _ _) ?_ _ _) ?_ _ _) ?_ _ _) ?_ _ _) ?_ _ _) ?_ _ _) ?_ _ _) ?_ _ _) <;> first | (with_reducible exact heap_lt T1.h1) | exact HQ2.out))
  case rest =>
    obtain ⟨A1, rfl, rfl, H⟩ := hcut
    obtain ⟨T2, hA1⟩ := H.out
    have T2' := T2
    obtain ⟨k0, k1, k2, k3, k4, k5, k6, k7, k8⟩ := cells9_of T2.h0
    have HT2 := Lib.hid T2
    have HA1 := Lib.hid hA1
    clear T2 hA1 T2' H
    go_upto_region 6 with fail
    go_cut [39] (fun v39 wc => v39 = .bool false ∧ Hid (OW w wc (obO (row9 id ac sd pr sz lf rk ex st)) (obB (row2 fr hd))))
    case first =>
      by_cases h : c = 0
      · obtain ⟨c0, c1⟩ := eq_bb h
        obtain ⟨hx, rfl⟩ := L1.out h
        simp only [OrderR.mk.injEq] at hx
        obtain ⟨rfl, rfl, rfl, rfl, rfl, rfl, rfl, rfl, rfl⟩ := hx
        clear h
        go_wp2_with (go_at_call 6; (with_reducible refine (CH.out _ A1 _ HT2.out HA1.out).mono ?_); rintro e w2 ⟨rfl, hS2, hA2⟩; obtain ⟨j0, j1, j2, j3, j4, j5, j6, j7, j8⟩ := cells9_of hS2.h0; obtain ⟨i0, i1, i2, i3, i4, i5, i6, i7, i8⟩ := cells9_of hA2)
        go_meet
        exact ⟨rfl, Lib.hid hS2⟩
      · obtain ⟨c0, c1⟩ := ne_bb h
        clear h
        go_wp2_with (go_at_call 6; (with_reducible refine (CH.out _ A1 _ HT2.out HA1.out).mono ?_); rintro e w2 ⟨rfl, hS2, hA2⟩)
        go_meet
        exact ⟨rfl, Lib.hid hS2⟩
    case rest =>
      obtain ⟨rfl, H⟩ := hcut
      clear HT2 HA1 k0 k1 k2 k3 k4 k5 k6 k7 k8
      obtain ⟨q0, q1⟩ := cells2_of H.out.h1
      go_upto_region 9 with (first | (go_at_call 11; (with_reducible refine (MO.out _ H.out).mono ?_); rintro e w3 ⟨rfl, T3⟩) | (go_at_call 10; (with_reducible refine (PM.out _ T3).mono ?_); rintro e w4 ⟨rfl, T4⟩))
      have HT5 := Lib.hid (T4.alloc (.cells (row2 n1 n2) 32))
      have hM : (w4.alloc (.cells (row2 n1 n2) 32)).heap[w4.heap.size]? = some (obB (row2 n1 n2)) := heap_alloc_new _ _
      have HM := Lib.hid hM
      obtain ⟨r0, r1⟩ := cells2_of T4.h1
      have l1 := heap_lt T4.h1
      have l2 := Nat.ne_of_lt l1
      clear T3 hM
      go_cut [57] (fun v57 wc => v57 = .bool false ∧ Hid (Below w.heap.size w wc))
      case first =>
        by_cases h : fc = 0
        · obtain ⟨c0, c1⟩ := eq_bb h
          obtain ⟨hx, rfl⟩ := L2.out h
          simp only [BalanceR.mk.injEq] at hx
          obtain ⟨rfl, rfl⟩ := hx
          clear h
          go_wp2_with (go_at_call 12; (with_reducible refine (FI.out _ w4.heap.size _ HT5.out HM.out).mono ?_); rintro e w6 ⟨rfl, T6, hA6⟩; obtain ⟨j0, j1⟩ := cells2_of T6.h1; obtain ⟨i0, i1⟩ := cells2_of hA6)
          go_meet
          exact ⟨rfl, Lib.hid T6.below⟩
        · obtain ⟨c0, c1⟩ := ne_bb h
          clear h
          go_wp2_with (go_at_call 12; (with_reducible refine (FI.out _ w4.heap.size _ HT5.out HM.out).mono ?_); rintro e w6 ⟨rfl, T6, hA6⟩)
          go_meet
          exact ⟨rfl, Lib.hid T6.below⟩
      case rest =>
        obtain ⟨rfl, HB⟩ := hcut
        clear HT5 HM r0 r1 l1 l2 T4 H q0 q1 CH MO PM FI BY PA AW HW0 L1 L2 T1
        go_upto_region 13 with (first | (go_at_call 8; (with_reducible refine (P7.out _ HB.out).mono ?_); rintro e w5 ⟨rfl, hB5⟩) | (go_at_call 10; (with_reducible refine (PS.out _ (hB5.alloc hB5.size _)).mono ?_); rintro e w6 ⟨rfl, hB6, hC6⟩))
        obtain ⟨WW, hWW⟩ : ∃ WW, WW = w6.alloc (.cells (row2 d1 d2) 32) := ⟨_, rfl⟩
        have hXW : WW.heap[w5.heap.size]? = some (obO (row9 b1 b2 b3 b4 b5 b6 b7 b8 b9)) := by
          rw [hWW, Below.heap_alloc _ _ _ (by have := hC6.size; simp at this; omega)]
          exact below_blk hC6 _ _ (heap_alloc_new _ _)
        have hMW : WW.heap[w6.heap.size]? = some (obB (row2 d1 d2)) := by rw [hWW]; exact heap_alloc_new _ _
        have HBW : Hid (Below w.heap.size w WW) := Lib.hid (by rw [hWW]; exact hB6.alloc hB6.size _)
        have BX : Hid (e2 = 0 → ∀ wx, Below WW.heap.size WW wx → Calls Try.prog 9 #[.agg (row9 b1 b2 b3 b4 b5 b6 b7 b8 b9)] wx fun e w' => e = .returned (.string s) ∧ Below WW.heap.size WW w') := Lib.hid fun he wx h => by
          have h2 := order_bytes ⟨b1, b2, b3, b4, b5, b6, b7, b8, b9⟩ wx gx2
          rw [(L3.out he).1] at h2
          exact h2.mono fun _ _ ⟨h3, h4⟩ => ⟨h3, below_at h h4⟩
        have CX : Hid (e2 = 0 → ∀ wx, Below WW.heap.size WW wx → Calls Try.prog 6 #[.agg (row9 b1 b2 b3 b4 b5 b6 b7 b8 b9)] wx fun e w' => e = .returned (.int .i64 0) ∧ Below WW.heap.size WW w') := Lib.hid fun he wx h => by
          have h2 := order_check ⟨b1, b2, b3, b4, b5, b6, b7, b8, b9⟩ wx gx2
          rw [(L3.out he).2] at h2
          exact h2.mono fun _ _ ⟨h3, h4⟩ => ⟨h3, below_at h h4⟩
        have MX : Hid (f2 = 0 → ∀ wx, Below WW.heap.size WW wx → Calls Try.prog 11 #[.agg (row2 d1 d2)] wx fun e w' => e = .returned (.string s) ∧ Below WW.heap.size WW w') := Lib.hid fun he wx h => by
          have h2 := order_money d1 d2 wx gm2.free gm2.held
          have h5 := L4.out he
          unfold moneyL at h5
          simp only at h5
          rw [h5] at h2
          exact h2.mono fun _ _ ⟨h3, h4⟩ => ⟨h3, below_at h h4⟩
        have HXW := Lib.hid hXW
        have HMW := Lib.hid hMW
        obtain ⟨j0, j1, j2, j3, j4, j5, j6, j7, j8⟩ := cells9_of hXW
        obtain ⟨i0, i1⟩ := cells2_of hMW
        have W0 : Below WW.heap.size WW WW := Below.refl _ _
        rw [← hWW]
        clear hXW hMW hWW L3 L4 gx2 gm2 G hB6 hC6 hB5 HB P7 PS
        by_cases h1 : e2 = 0
        · obtain ⟨c0, c1⟩ := eq_bb h1
          have BX' := Lib.hid (BX.out h1)
          have CX' := Lib.hid (CX.out h1)
          clear h1 BX CX
          by_cases h2 : f2 = 0
          · obtain ⟨c2, c3⟩ := eq_bb h2
            have MX' := Lib.hid (MX.out h2)
            clear h2 MX
            go_wp2_with (first | (go_at_call 9; (with_reducible refine (BX'.out _ (by assumption)).mono ?_); rintro e w7 ⟨rfl, hB7⟩; obtain ⟨p0, p1, p2, p3, p4, p5, p6, p7, p8⟩ := cells9_of (below_blk hB7 _ _ HXW.out); obtain ⟨p9, p10⟩ := cells2_of (below_blk hB7 _ _ HMW.out)) | (go_at_call 6; (with_reducible refine (CX'.out _ hB7).mono ?_); rintro e w8 ⟨rfl, hB8⟩; obtain ⟨o9, o10⟩ := cells2_of (below_blk hB8 _ _ HMW.out)) | (go_at_call 11; (with_reducible refine (MX'.out _ (by assumption)).mono ?_); rintro e w9 ⟨rfl, hB9⟩))
            go_ret
            exact ⟨rfl, HBW.out.trans (hB9.mono HBW.out.size)⟩
          · obtain ⟨c2, c3⟩ := ne_bb h2
            clear h2 MX
            go_wp2_with (first | (go_at_call 9; (with_reducible refine (BX'.out _ (by assumption)).mono ?_); rintro e w7 ⟨rfl, hB7⟩; obtain ⟨p0, p1, p2, p3, p4, p5, p6, p7, p8⟩ := cells9_of (below_blk hB7 _ _ HXW.out); obtain ⟨p9, p10⟩ := cells2_of (below_blk hB7 _ _ HMW.out)) | (go_at_call 6; (with_reducible refine (CX'.out _ hB7).mono ?_); rintro e w8 ⟨rfl, hB8⟩; obtain ⟨o9, o10⟩ := cells2_of (below_blk hB8 _ _ HMW.out)))
            go_ret
            exact ⟨rfl, HBW.out.trans (hB8.mono HBW.out.size)⟩
        · obtain ⟨c0, c1⟩ := ne_bb h1
          clear h1 BX CX
          by_cases h2 : f2 = 0
          · obtain ⟨c2, c3⟩ := eq_bb h2
            have MX' := Lib.hid (MX.out h2)
            clear h2 MX
            go_wp2_with ((go_at_call 11; (with_reducible refine (MX'.out _ (by assumption)).mono ?_); rintro e w9 ⟨rfl, hB9⟩))
            go_ret
            exact ⟨rfl, HBW.out.trans (hB9.mono HBW.out.size)⟩
          · obtain ⟨c2, c3⟩ := ne_bb h2
            clear h2 MX
            go_wp2
            go_ret
            exact ⟨rfl, HBW.out⟩

end Go.Proofs.Ytbhhfdkidpmfeaa
