/-
  The document's walk: its loop.
-/
import Derived.Test.YtkllcidmahhkoaaWlkRef
namespace Go.Proofs.Ytkllcidmahhkoaa
open Go.RowKit
set_option linter.unusedVariables false
set_option linter.unusedSimpArgs false

def refOut (l : List TradeR) (w' : World) (v : Value) : Prop := ∃ A B ca cb, v = .agg (refP (afterZ l l.length).x (afterZ l l.length).y (hdZ (afterZ l l.length).hx (afterZ l l.length).hy) (cornersZ l) (.slice A l.length ca) (.slice B l.length cb)) ∧ (RowsAt w' A 1 intRow (xsZ l) ∧ TypedAt w' A 3) ∧ (RowsAt w' B 1 intRow (ysZ l) ∧ TypedAt w' B 3)
theorem refOut.moved {l : List TradeR} {w w' : World} {v : Value} (h : refOut l w v) (hB : Below w.heap.size w w') : refOut l w' v := by
  obtain ⟨A, B, ca, cb, e, ⟨h1, h2⟩, h3, h4⟩ := h
  exact ⟨A, B, ca, cb, e, ⟨h1.moved hB, h2.moved hB⟩, h3.moved hB, h4.moved hB⟩
theorem Two.set {w0 W : World} {e : TypeId} {v v' : Value} {k k' : Nat} {xs ys : List Value} {B i : Nat} {x : Value} {cs : Array Value} {t : TypeId} {fr : Nat × Nat} (h : Two w0 W e v k xs v' k' ys) (hB : W.heap[B]? = some (.cells cs t fr)) (ht : t ≠ e) (hb : w0.heap.size ≤ B) : Two w0 (W.setCell ⟨B, i, Option.none⟩ x) e v k xs v' k' ys :=
  ⟨own_set h.a hB ht, own_set h.b hB ht, h.ne, h.bel.setCell hb _⟩
theorem rows_setRow {ρ : Type} {w : World} {a : Option Addr} {m : Nat} {enc : ρ → List Value} {l : List ρ} {g : Nat} (h : RowsAt w a m enc l) (hk : ∀ b o, a = some ⟨b, o, none⟩ → b ≠ g) (cs : Array Value) : RowsAt (w.setRow g cs) a m enc l := by
  rcases h.out with e | ⟨b, o, e, hc⟩
  · exact ⟨.inl e⟩
  · refine ⟨.inr ⟨b, o, e, fun i r hi j v hv => ?_⟩⟩
    have h1 := hc i r hi j v hv
    unfold World.cell? at h1 ⊢
    simp only at h1 ⊢
    rw [setRow_other _ _ _ _ (hk b o e)]
    exact h1
structure RT (w wx : World) (n m : Nat) (x y hd co : Int) (v u v0 u0 : Value) (xs ys : List Value) : Prop where
  two : Two w wx 3 v n xs u m ys
  own : wx.heap[w.heap.size + 1]? = some (.cells (refP x y hd co v0 u0) 37 (0, 0))
  res : wx.heap[w.heap.size]? = some (.cells (refP 0 0 0 0 (.slice none 0 0) (.slice none 0 0)) 37 (0, 0))
section
variable {w wx w' : World} {n m : Nat} {x y hd co : Int} {v u v0 u0 : Value} {xs ys : List Value}
theorem RT.of {k bt : Nat} {a b c d : Int} (h : RW w wx k x y hd co v u bt a b c d xs ys) : RT w wx k k x y hd co v u v u xs ys := ⟨h.two, h.own, h.res⟩
theorem RT.alloc (h : RT w wx n m x y hd co v u v0 u0 xs ys) (o : Obj) : RT w (wx.alloc o) n m x y hd co v u v0 u0 xs ys :=
  ⟨h.two.alloc o, (Below.heap_alloc _ _ _ (heap_lt h.own)).trans h.own, (Below.heap_alloc _ _ _ (heap_lt h.res)).trans h.res⟩
theorem RT.grow (h : RT w wx n m x y hd co v u v0 u0 xs ys) {v' : Value} {n' : Nat} {xs' : List Value} (hT : Two w w' 3 v' n' xs' u m ys) (hO : ∀ (j : Nat) (cs : Array Value) (t : TypeId) (fr : Nat × Nat), wx.heap[j]? = some (Obj.cells cs t fr) → t ≠ 3 → w'.heap[j]? = some (Obj.cells cs t fr)) : RT w w' n' m x y hd co v' u v0 u0 xs' ys :=
  ⟨hT, hO _ _ _ _ h.own (by decide), hO _ _ _ _ h.res (by decide)⟩
theorem RT.grow2 (h : RT w wx n m x y hd co v u v0 u0 xs ys) {v' : Value} {n' : Nat} {xs' : List Value} (hT : Two w w' 3 v' n' xs' v n xs) (hO : ∀ (j : Nat) (cs : Array Value) (t : TypeId) (fr : Nat × Nat), wx.heap[j]? = some (Obj.cells cs t fr) → t ≠ 3 → w'.heap[j]? = some (Obj.cells cs t fr)) : RT w w' n n' x y hd co v v' v0 u0 xs xs' :=
  ⟨hT.swap, hO _ _ _ _ h.own (by decide), hO _ _ _ _ h.res (by decide)⟩
theorem RT.set4 (h : RT w wx n m x y hd co v u v0 u0 xs ys) (z : Value) : RT w (wx.setCell ⟨w.heap.size + 1, 4, none⟩ z) n m x y hd co v u z u0 xs ys :=
  ⟨h.two.set h.own (by decide) (by omega), heap_set4 h.own 4 z _ rfl, (heap_setCell_other _ _ _ _ (by simp)).trans h.res⟩
theorem RT.set5 (h : RT w wx n m x y hd co v u v0 u0 xs ys) (z : Value) : RT w (wx.setCell ⟨w.heap.size + 1, 5, none⟩ z) n m x y hd co v u v0 z xs ys :=
  ⟨h.two.set h.own (by decide) (by omega), heap_set4 h.own 5 z _ rfl, (heap_setCell_other _ _ _ _ (by simp)).trans h.res⟩
theorem RT.cells (h : RT w wx n m x y hd co v u v0 u0 xs ys) : wx.cell? ⟨w.heap.size + 1, 0, none⟩ = some (.int .i64 x) ∧ wx.cell? ⟨w.heap.size + 1, 1, none⟩ = some (.int .i64 y) ∧ wx.cell? ⟨w.heap.size + 1, 2, none⟩ = some (.int .i64 hd) ∧ wx.cell? ⟨w.heap.size + 1, 3, none⟩ = some (.int .i64 co) ∧ wx.cell? ⟨w.heap.size + 1, 4, none⟩ = some v0 ∧ wx.cell? ⟨w.heap.size + 1, 5, none⟩ = some u0 := by
  refine ⟨?_, ?_, ?_, ?_, ?_, ?_⟩ <;> (rw [cell_of_row _ _ _ _ _ _ h.own]; rfl)
end
/-- the loop's state -/
structure RS (w wr : World) (l : List TradeR) (k : Nat) (v u : Value) : Prop where
  two : Two w wr 3 v k (((xsZ l).take k).map fun n => .int .i64 n) u k (((ysZ l).take k).map fun n => .int .i64 n)
  own : wr.heap[w.heap.size + 1]? = some (.cells (refP (afterZ l k).x (afterZ l k).y (hdZ (afterZ l k).hx (afterZ l k).hy) (cornP l k) v u) 37 (0, 0))
  res : wr.heap[w.heap.size]? = some (.cells (refP 0 0 0 0 (.slice none 0 0) (.slice none 0 0)) 37 (0, 0))
theorem own_slice {w : World} {base : Nat} {e : TypeId} {v : Value} {n : Nat} {xs : List Value} (h : w.ownsRow base e 1 v n xs) : ∃ a c, v = .slice a n c := by
  obtain ⟨hl, ⟨h, rfl⟩ | ⟨g, cap, cur, hv, _⟩⟩ := h
  · exact ⟨_, _, h⟩
  · exact ⟨_, _, hv⟩
theorem xs_take (l : List TradeR) (k : Nat) (h : k < l.length) : ((xsZ l).take (k + 1)).map (fun n => Value.int .i64 n) = ((xsZ l).take k).map (fun n => .int .i64 n) ++ [.int .i64 (afterZ l (k + 1)).x] := by
  unfold xsZ; rw [← List.map_take, paths_take l k h]; simp
theorem ys_take (l : List TradeR) (k : Nat) (h : k < l.length) : ((ysZ l).take (k + 1)).map (fun n => Value.int .i64 n) = ((ysZ l).take k).map (fun n => .int .i64 n) ++ [.int .i64 (afterZ l (k + 1)).y] := by
  unfold ysZ; rw [← List.map_take, paths_take l k h]; simp

theorem RT.rs {w wx : World} {l : List TradeR} {k : Nat} {x y hd co : Int} {v u : Value} {xs ys : List Value} (h : RT w wx (k + 1) (k + 1) x y hd co v u v u (xs ++ [.int .i64 x]) (ys ++ [.int .i64 y]))
    (h1 : ((xsZ l).take (k + 1)).map (fun n => Value.int .i64 n) = xs ++ [.int .i64 x] ∧ ((ysZ l).take (k + 1)).map (fun n => Value.int .i64 n) = ys ++ [.int .i64 y])
    (h2 : x = (afterZ l (k + 1)).x ∧ y = (afterZ l (k + 1)).y ∧ hd = hdZ (afterZ l (k + 1)).hx (afterZ l (k + 1)).hy ∧ co = cornP l (k + 1)) : RS w wx l (k + 1) v u := by
  obtain ⟨a, b, c, d⟩ := h2
  refine ⟨by rw [h1.1, h1.2]; exact h.two, ?_, h.res⟩
  rw [← a, ← b, ← c, ← d]
  exact h.own

set_option maxRecDepth 100000 in
set_option maxHeartbeats 16000000 in
theorem ref34_of (l : List TradeR) (sa : Option Addr) (cap : Nat) (w : World) (hlen : l.length ≤ 900) (hg : ∀ r ∈ l, r.good) (hr : RowsAt w sa 4 TradeR.row l) :
    Calls Try.prog 10 #[.slice sa l.length cap] w fun e w' => (∃ v, e = .returned v ∧ refOut l w' v) ∧ Below w.heap.size w w' := by
  have HR := Lib.hid hr
  have HG := Lib.hid hg
  clear hr hg
  have h0 : RS w ((w.alloc (.cells (refP 0 0 0 0 (.slice none 0 0) (.slice none 0 0)) 37)).alloc (.cells (refP 0 0 0 0 (.slice none 0 0) (.slice none 0 0)) 37)) l 0 (.slice none 0 0) (.slice none 0 0) :=
    ⟨by
      have h := (Two.none (w0 := w) (e := 3)).moved (W' := (w.alloc (.cells (refP 0 0 0 0 (.slice none 0 0) (.slice none 0 0)) 37)).alloc (.cells (refP 0 0 0 0 (.slice none 0 0) (.slice none 0 0)) 37)) (by (repeat (first | exact Below.refl _ _ | assumption | apply below_drewN | (refine Below.setCell ?_ (by first | assumption | omega | (simp; try omega)) _) | (refine Below.alloc ?_ (by first | assumption | omega | (simp; try omega)) _))))
      simpa using h, by
      have h := heap_alloc2_new w (.cells (refP 0 0 0 0 (.slice none 0 0) (.slice none 0 0)) 37) (.cells (refP 0 0 0 0 (.slice none 0 0) (.slice none 0 0)) 37)
      simpa [afterZ, begunZ, hdZ, cornP, cornL] using h, heap_alloc2_old _ _ _⟩
  have HS0 := Lib.hid h0
  clear h0
  go_enter Try.func10, Try.ntmps10
  go_wp2
  generalize (w.alloc (.cells #[.int .i64 0, .int .i64 0, .int .i64 0, .int .i64 0, .slice none 0 0, .slice none 0 0] 37)).alloc (.cells #[.int .i64 0, .int .i64 0, .int .i64 0, .int .i64 0, .slice none 0 0, .slice none 0 0] 37) = w0 at HS0 ⊢
  go_loopw [9] (fun v9 wr => ∃ (k : Nat) (v u : Value), k ≤ l.length ∧ v9 = .int .i64 (k : Int) ∧ Hid (RS w wr l k v u)) (fun v _ => l.length - (intOf v).toNat)
  case atStart => exact ⟨0, _, _, Nat.zero_le _, rfl, HS0⟩
  case round =>
    obtain ⟨k, v, u, hk, rfl, HS⟩ := hrel
    clear HS0
    by_cases hlt : k < l.length
    · have hB := HS.out.two.bel
      have HRr := HR.out.moved hB
      obtain ⟨b, o, rfl, t0, t1, t2, t3⟩ := trade_cells HRr k hlt
      have hlast : 0 < k → w.cell? ⟨b, o + (k - 1) * 4 + 2, none⟩ = some (.int .i64 (lastZ l k)) := by
        intro h
        obtain ⟨b', o', e, _, _, h2, _⟩ := trade_cells HR.out (k - 1) (by omega)
        cases e
        rw [h2]
        obtain ⟨n, hn⟩ : ∃ n, k = n + 1 := ⟨k - 1, by omega⟩
        subst hn
        simp only [lastZ, Nat.add_sub_cancel]
        rw [List.getElem?_eq_getElem (by omega)]
        rfl
      have hbb : w.heap.size ≤ w.heap.size + 1 := by omega
      have hbt : b < w.heap.size := by
        obtain ⟨b', o', e, h2, _⟩ := trade_cells HR.out k hlt
        cases e; exact cell_lt h2
      have hfz := afterZ_fine l k hk
      have hgk := HG.out l[k] (List.getElem_mem hlt)
      have hzn := afterZ_n l k hk
      have hss := afterZ_succ l k hlt
      have hco := cornP_succ l k hlt
      have hcl := cornP_le l k hk
      have hdc := hd_cases hfz.h
      obtain ⟨z, hz⟩ : ∃ z, z = afterZ l k := ⟨_, rfl⟩
      obtain ⟨z', hz'⟩ : ∃ z, z = afterZ l (k + 1) := ⟨_, rfl⟩
      obtain ⟨L, hL⟩ : ∃ z, z = lastZ l k := ⟨_, rfl⟩
      obtain ⟨x0, hx0⟩ : ∃ x, x = l[k].maker := ⟨_, rfl⟩
      obtain ⟨x1, hx1⟩ : ∃ x, x = l[k].taker := ⟨_, rfl⟩
      obtain ⟨x2, hx2⟩ : ∃ x, x = l[k].price := ⟨_, rfl⟩
      obtain ⟨x3, hx3⟩ : ∃ x, x = l[k].size := ⟨_, rfl⟩
      have hx3b := hgk.size
      rw [← hx0] at t0; rw [← hx1] at t1; rw [← hx2] at t2 hss; rw [← hx3] at t3 hss hx3b
      rw [← hL] at hlast hss
      rw [← hz] at hfz hzn hss hco hdc
      rw [← hz'] at hss hco
      -- the turn, the heading, the corner
      obtain ⟨c1, hc1⟩ : ∃ c, c = decide (0 < k ∧ L < x2) := ⟨_, rfl⟩
      obtain ⟨c2, hc2⟩ : ∃ c, c = decide (0 < k ∧ x2 < L) := ⟨_, rfl⟩
      obtain ⟨hd, hhd⟩ : ∃ c, c = hdZ z.hx z.hy := ⟨_, rfl⟩
      obtain ⟨hd', hhd'⟩ : ∃ c, c = hdZ z'.hx z'.hy := ⟨_, rfl⟩
      obtain ⟨co, hcoe⟩ : ∃ c, c = cornP l k := ⟨_, rfl⟩
      rw [← hhd] at hdc
      rw [← hcoe] at hcl
      obtain ⟨co', hcoe'⟩ : ∃ c, c = cornP l (k + 1) := ⟨_, rfl⟩
      have hturn : (c1 = true ∧ c2 = false ∧ hd' = (hd + 1) % 4 ∧ co' = co + 1) ∨ (c1 = false ∧ c2 = true ∧ hd' = (hd + 3) % 4 ∧ co' = co + 1) ∨ (c1 = false ∧ c2 = false ∧ hd' = hd ∧ co' = co) := by
        have hn0 : z.n = 0 ↔ k = 0 := by omega
        by_cases h1 : 0 < k ∧ L < x2
        · obtain ⟨e1, e2⟩ := step_up (z := z) (last := L) (price := x2) (size := x3) (by omega) h1.2
          refine .inl ⟨by rw [hc1]; exact decide_eq_true h1, by rw [hc2]; exact decide_eq_false (by omega), ?_, ?_⟩
          · rw [hhd', hss, e1, e2, hd_up hfz.h, hhd]
          · rw [hcoe', hco, hss, e1, e2, if_neg (unit_ne hfz.h).1, hcoe]
        · by_cases h2 : 0 < k ∧ x2 < L
          · obtain ⟨e1, e2⟩ := step_dn (z := z) (last := L) (price := x2) (size := x3) (by omega) h2.2
            refine .inr (.inl ⟨by rw [hc1]; exact decide_eq_false h1, by rw [hc2]; exact decide_eq_true h2, ?_, ?_⟩)
            · rw [hhd', hss, e1, e2, hd_dn hfz.h, hhd]
            · rw [hcoe', hco, hss, e1, e2, if_neg (unit_ne hfz.h).2, hcoe]
          · obtain ⟨e1, e2⟩ := step_same (z := z) (last := L) (price := x2) (size := x3) (by omega)
            refine .inr (.inr ⟨by rw [hc1]; exact decide_eq_false h1, by rw [hc2]; exact decide_eq_false h2, ?_, ?_⟩)
            · rw [hhd', hss, e1, e2, hhd]
            · rw [hcoe', hco, hss, e1, e2, if_pos ⟨rfl, rfl⟩, hcoe]
      obtain ⟨s, hs⟩ : ∃ s, s = stepsZ x3 := ⟨_, rfl⟩
      have hsb := steps_le x3
      rw [← hs] at hsb
      obtain ⟨x, hx⟩ : ∃ c, c = z.x := ⟨_, rfl⟩
      obtain ⟨y, hy⟩ : ∃ c, c = z.y := ⟨_, rfl⟩
      have hgo : (hd' = 0 → z'.x = x + s ∧ z'.y = y) ∧ (hd' = 1 → z'.x = x ∧ z'.y = y + s) ∧ (hd' = 2 → z'.x = x - s ∧ z'.y = y) ∧ (hd' = 3 → z'.x = x ∧ z'.y = y - s) := by
        have hf' : unit4 z'.hx z'.hy := by rw [hz']; exact (afterZ_fine l (k + 1) (by omega)).h
        have e := step_xy z L x2 x3
        rw [← hss, ← hs, ← hx, ← hy] at e
        have h := hd_go hf' x y s
        rw [← hhd', ← e.1, ← e.2] at h
        exact h
      have hdc' : hd' = 0 ∨ hd' = 1 ∨ hd' = 2 ∨ hd' = 3 := by
        rcases hturn with ⟨_, _, h, _⟩ | ⟨_, _, h, _⟩ | ⟨_, _, h, _⟩ <;> omega
      have hxb : -1000000 ≤ x ∧ x ≤ 1000000 ∧ -1000000 ≤ y ∧ y ≤ 1000000 := by have := hfz.x; have := hfz.y; omega
      obtain ⟨X, hX⟩ : ∃ X, X = ((xsZ l).take k).map fun n => Value.int .i64 n := ⟨_, rfl⟩
      obtain ⟨Y, hY⟩ : ∃ X, X = ((ysZ l).take k).map fun n => Value.int .i64 n := ⟨_, rfl⟩
      have HW0 : Hid (RW w (wr.alloc (.cells #[.int .u64 x0, .int .u64 x1, .int .i64 x2, .int .i64 x3] 25)) k x y hd co v u wr.heap.size x0 x1 x2 x3 X Y) := Lib.hid (by
        have h := HS.out
        have hbw : Below wr.heap.size wr (wr.alloc (.cells #[.int .u64 x0, .int .u64 x1, .int .i64 x2, .int .i64 x3] 25)) := (Below.refl _ _).alloc (Nat.le_refl _) _
        have hown := h.own
        rw [← hz, ← hx, ← hy, ← hhd, ← hcoe] at hown
        have htwo := h.two
        rw [← hX, ← hY] at htwo
        exact ⟨htwo.moved hbw, (hbw.block _ (heap_lt hown)).trans hown, (hbw.block _ (heap_lt h.res)).trans h.res, heap_alloc_new _ _, heap_lt hown⟩)
      have HXY : Hid (((xsZ l).take (k + 1)).map (fun n => Value.int .i64 n) = X ++ [.int .i64 z'.x] ∧ ((ysZ l).take (k + 1)).map (fun n => Value.int .i64 n) = Y ++ [.int .i64 z'.y]) := Lib.hid (by
        rw [hX, hY, hz']; exact ⟨xs_take l k hlt, ys_take l k hlt⟩)
      have HFIN : Hid (z'.x = (afterZ l (k + 1)).x ∧ z'.y = (afterZ l (k + 1)).y ∧ hd' = hdZ (afterZ l (k + 1)).hx (afterZ l (k + 1)).hy ∧ co' = cornP l (k + 1)) := Lib.hid (by rw [← hz']; exact ⟨rfl, rfl, hhd', hcoe'⟩)
      have hLc : Hid (∀ wx, Below w.heap.size w wx → 0 < k → wx.cell? ⟨b, o + (k - 1) * 4 + 2, none⟩ = some (.int .i64 L)) := Lib.hid fun wx h h0 => (h.cell (p := ⟨b, o + (k - 1) * 4 + 2, none⟩) hbt).trans (hlast h0)
      have HTURN := Lib.hid hturn
      have HC1 := Lib.hid hc1
      have HC2 := Lib.hid hc2
      have HGO := Lib.hid hgo
      have HSS := Lib.hid hs
      have hclo : 0 ≤ co ∧ co ≤ 900 := by omega
      obtain ⟨zx, hzx⟩ : ∃ q, q = z'.x := ⟨_, rfl⟩
      obtain ⟨zy, hzy⟩ : ∃ q, q = z'.y := ⟨_, rfl⟩
      rw [← hzx] at HXY HFIN HGO
      rw [← hzy] at HXY HFIN HGO
      clear hturn hc1 hc2 hgo hs hlast hss hco hcl hfz hgk hzn hz hz' hL hx0 hx1 hx2 hx3 hhd hhd' hcoe hcoe' hx hy hX hY HRr HG hzx hzy
      go_upto_region 5 with fail
      clear t0 t1 t2 t3
      generalize wr.alloc (.cells #[.int .u64 x0, .int .u64 x1, .int .i64 x2, .int .i64 x3] 25) = w1 at HW0 ⊢
      obtain ⟨bt, hbte⟩ : ∃ q, q = wr.heap.size := ⟨_, rfl⟩
      rw [← hbte] at HW0 ⊢
      clear hbte
      go_cut [26] (fun v26 wc => v26 = .bool c1 ∧ Hid (RW w wc k x y hd co v u bt x0 x1 x2 x3 X Y))
      case first =>
        have HW := HW0.out
        obtain ⟨s2, s3⟩ := HW.tcells
        clear HS
        by_cases h0 : 0 < k
        · have hl1 := hLc.out _ HW0.out.two.bel h0
          have hix : ((k : Int) - 1).toNat = k - 1 := by omega
          have hce := HC1.out
          by_cases h1 : L < x2
          · obtain rfl : c1 = true := by rw [hce]; exact decide_eq_true ⟨h0, h1⟩
            clear hce HTURN HC1 HC2
            go_quiet (fail)
            go_wp2_with fail
            go_meet
            exact ⟨rfl, Lib.hid (HW0.out.moved (by (repeat (first | exact Below.refl _ _ | assumption | apply below_drewN | (refine Below.setCell ?_ (by first | assumption | omega | (simp; try omega)) _) | (refine Below.alloc ?_ (by first | assumption | omega | (simp; try omega)) _)))))⟩
          · obtain rfl : c1 = false := by rw [hce]; exact decide_eq_false (by omega)
            clear hce HTURN HC1 HC2
            go_quiet (fail)
            go_wp2_with fail
            go_meet
            exact ⟨rfl, Lib.hid (HW0.out.moved (by (repeat (first | exact Below.refl _ _ | assumption | apply below_drewN | (refine Below.setCell ?_ (by first | assumption | omega | (simp; try omega)) _) | (refine Below.alloc ?_ (by first | assumption | omega | (simp; try omega)) _)))))⟩
        · obtain rfl : k = 0 := by omega
          obtain rfl : c1 = false := by rw [HC1.out]; rfl
          clear HTURN HC1 HC2
          go_quiet (fail)
          go_wp2_with fail
          go_meet
          exact ⟨rfl, Lib.hid (HW0.out.moved (by (repeat (first | exact Below.refl _ _ | assumption | apply below_drewN | (refine Below.setCell ?_ (by first | assumption | omega | (simp; try omega)) _) | (refine Below.alloc ?_ (by first | assumption | omega | (simp; try omega)) _)))))⟩
      case rest =>
        obtain ⟨rfl, HW1⟩ := hcut
        clear HW0
        obtain ⟨hdA, hhdA⟩ : ∃ q, q = if c1 = true then hd' else hd := ⟨_, rfl⟩
        obtain ⟨coA, hcoA⟩ : ∃ q, q = if c1 = true then co' else co := ⟨_, rfl⟩
        have HA1 := Lib.hid hhdA
        have HA2 := Lib.hid hcoA
        clear hhdA hcoA
        have hdcA : hdA = 0 ∨ hdA = 1 ∨ hdA = 2 ∨ hdA = 3 := by rw [HA1.out]; split <;> assumption
        have hclA : 0 ≤ coA ∧ coA ≤ 901 := by rw [HA2.out]; have := HTURN.out; split <;> omega
        go_upto_if 26 with fail
        go_cut [26] (fun v26 wd => Hid (RW w wd k x y hdA coA v u bt x0 x1 x2 x3 X Y))
        case first =>
          clear HS hLc HR HXY HFIN HGO HSS
          cases c1
          · have e1 : hdA = hd ∧ coA = co := by exact ⟨by rw [HA1.out]; rfl, by rw [HA2.out]; rfl⟩
            have E := Lib.hid e1
            clear e1 HTURN HC1 HC2
            go_wp2_with fail
            go_meet
            rw [E.out.1, E.out.2]
            exact HW1
          · have e1 : hdA = (hd + 1) % 4 ∧ coA = co + 1 := by exact ⟨by rw [HA1.out]; have h2 := HTURN.out; simp at h2 ⊢; omega, by rw [HA2.out]; have h2 := HTURN.out; simp at h2 ⊢; omega⟩
            obtain ⟨e1, e2⟩ := e1
            obtain ⟨k0, k1, k2, k3, k4, k5⟩ := (HW1).out.cells
            have f2 := frozen_of_row _ _ 2 _ _ (HW1).out.own
            have f3 := frozen_of_row _ _ 3 _ _ (HW1).out.own
            have HE := Lib.hid e1
            have HE2 := Lib.hid e2
            clear e1 e2 HTURN HC1 HC2
            have HWs := HW1
            rcases hdc with rfl | rfl | rfl | rfl
            · have E3 : Hid (hdA = 1) := Lib.hid (by rw [HE.out]; rfl)
              go_wp2_with fail
              go_meet
              rw [E3.out, HE2.out]
              exact Lib.hid ((HWs.out.set 2 (.int .i64 1) x y 1 co rfl).set 3 (.int .i64 (co + 1)) x y 1 (co + 1) rfl)
            · have E3 : Hid (hdA = 2) := Lib.hid (by rw [HE.out]; rfl)
              go_wp2_with fail
              go_meet
              rw [E3.out, HE2.out]
              exact Lib.hid ((HWs.out.set 2 (.int .i64 2) x y 2 co rfl).set 3 (.int .i64 (co + 1)) x y 2 (co + 1) rfl)
            · have E3 : Hid (hdA = 3) := Lib.hid (by rw [HE.out]; rfl)
              go_wp2_with fail
              go_meet
              rw [E3.out, HE2.out]
              exact Lib.hid ((HWs.out.set 2 (.int .i64 3) x y 3 co rfl).set 3 (.int .i64 (co + 1)) x y 3 (co + 1) rfl)
            · have E3 : Hid (hdA = 0) := Lib.hid (by rw [HE.out]; rfl)
              go_wp2_with fail
              go_meet
              rw [E3.out, HE2.out]
              exact Lib.hid ((HWs.out.set 2 (.int .i64 0) x y 0 co rfl).set 3 (.int .i64 (co + 1)) x y 0 (co + 1) rfl)
        case rest =>
          have HW2 := hcut
          clear HW1
          go_upto_region 8 with fail
          go_cut [48] (fun v48 we => v48 = .bool c2 ∧ Hid (RW w we k x y hdA coA v u bt x0 x1 x2 x3 X Y))
          case first =>
            obtain ⟨s2, s3⟩ := HW2.out.tcells
            clear HS
            by_cases h0 : 0 < k
            · have hl1 := hLc.out _ HW2.out.two.bel h0
              have hix : ((k : Int) - 1).toNat = k - 1 := by omega
              have hce := HC2.out
              by_cases h1 : x2 < L
              · obtain rfl : c2 = true := by rw [hce]; exact decide_eq_true ⟨h0, h1⟩
                clear hce HTURN HC1 HC2
                go_quiet (fail)
                go_wp2_with fail
                go_meet
                exact ⟨rfl, Lib.hid (HW2.out.moved (by (repeat (first | exact Below.refl _ _ | assumption | apply below_drewN | (refine Below.setCell ?_ (by first | assumption | omega | (simp; try omega)) _) | (refine Below.alloc ?_ (by first | assumption | omega | (simp; try omega)) _)))))⟩
              · obtain rfl : c2 = false := by rw [hce]; exact decide_eq_false (by omega)
                clear hce HTURN HC1 HC2
                go_quiet (fail)
                go_wp2_with fail
                go_meet
                exact ⟨rfl, Lib.hid (HW2.out.moved (by (repeat (first | exact Below.refl _ _ | assumption | apply below_drewN | (refine Below.setCell ?_ (by first | assumption | omega | (simp; try omega)) _) | (refine Below.alloc ?_ (by first | assumption | omega | (simp; try omega)) _)))))⟩
            · obtain rfl : k = 0 := by omega
              obtain rfl : c2 = false := by rw [HC2.out]; rfl
              clear HTURN HC1 HC2
              go_quiet (fail)
              go_wp2_with fail
              go_meet
              exact ⟨rfl, Lib.hid (HW2.out.moved (by (repeat (first | exact Below.refl _ _ | assumption | apply below_drewN | (refine Below.setCell ?_ (by first | assumption | omega | (simp; try omega)) _) | (refine Below.alloc ?_ (by first | assumption | omega | (simp; try omega)) _)))))⟩
          case rest =>
            obtain ⟨rfl, HW3⟩ := hcut
            clear HW2
            go_upto_if 48 with fail
            go_cut [48] (fun v48 wf => Hid (RW w wf k x y hd' co' v u bt x0 x1 x2 x3 X Y))
            case first =>
              clear HS hLc HR HXY HFIN HGO HSS
              cases c2
              · have e1 : hd' = hdA ∧ co' = coA := by exact ⟨by have h1 := HA1.out; have h2 := HTURN.out; cases c1 <;> simp at h1 h2 <;> omega, by have h1 := HA2.out; have h2 := HTURN.out; cases c1 <;> simp at h1 h2 <;> omega⟩
                have E := Lib.hid e1
                clear e1 HTURN HC1 HC2
                go_wp2_with fail
                go_meet
                rw [E.out.1, E.out.2]
                exact HW3
              · have e1 : hd' = (hdA + 3) % 4 ∧ co' = coA + 1 := by exact ⟨by have h1 := HA1.out; have h2 := HTURN.out; cases c1 <;> simp at h1 h2 <;> omega, by have h1 := HA2.out; have h2 := HTURN.out; cases c1 <;> simp at h1 h2 <;> omega⟩
                obtain ⟨e1, e2⟩ := e1
                obtain ⟨k0, k1, k2, k3, k4, k5⟩ := (HW3).out.cells
                have f2 := frozen_of_row _ _ 2 _ _ (HW3).out.own
                have f3 := frozen_of_row _ _ 3 _ _ (HW3).out.own
                have HE := Lib.hid e1
                have HE2 := Lib.hid e2
                clear e1 e2 HTURN HC1 HC2
                have HWs := HW3
                rcases hdcA with rfl | rfl | rfl | rfl
                · have E3 : Hid (hd' = 3) := Lib.hid (by rw [HE.out]; rfl)
                  go_wp2_with fail
                  go_meet
                  rw [E3.out, HE2.out]
                  exact Lib.hid ((HWs.out.set 2 (.int .i64 3) x y 3 coA rfl).set 3 (.int .i64 (coA + 1)) x y 3 (coA + 1) rfl)
                · have E3 : Hid (hd' = 0) := Lib.hid (by rw [HE.out]; rfl)
                  go_wp2_with fail
                  go_meet
                  rw [E3.out, HE2.out]
                  exact Lib.hid ((HWs.out.set 2 (.int .i64 0) x y 0 coA rfl).set 3 (.int .i64 (coA + 1)) x y 0 (coA + 1) rfl)
                · have E3 : Hid (hd' = 1) := Lib.hid (by rw [HE.out]; rfl)
                  go_wp2_with fail
                  go_meet
                  rw [E3.out, HE2.out]
                  exact Lib.hid ((HWs.out.set 2 (.int .i64 1) x y 1 coA rfl).set 3 (.int .i64 (coA + 1)) x y 1 (coA + 1) rfl)
                · have E3 : Hid (hd' = 2) := Lib.hid (by rw [HE.out]; rfl)
                  go_wp2_with fail
                  go_meet
                  rw [E3.out, HE2.out]
                  exact Lib.hid ((HWs.out.set 2 (.int .i64 2) x y 2 coA rfl).set 3 (.int .i64 (coA + 1)) x y 2 (coA + 1) rfl)
            case rest =>
              have HW4 := hcut
              obtain ⟨wf, rfl⟩ : ∃ q, q = wc := ⟨_, rfl⟩
              clear HW3 HTURN HC1 HC2 HA1 HA2 hdcA hclA hdc hLc
              obtain ⟨s2, s3⟩ := HW4.out.tcells
              clear s2
              obtain ⟨n1, hn1⟩ : ∃ q, q = if x3 < 1000 then x3 else 1000 := ⟨_, rfl⟩
              have HN1 := Lib.hid hn1
              clear hn1
              go_upto_if 60 with fail
              go_cut [6] (fun v6 wg => v6 = .int .i64 n1 ∧ wf = wg)
              case first =>
                clear HS
                by_cases h1 : x3 < 1000
                · obtain rfl : n1 = x3 := by rw [HN1.out, if_pos h1]
                  go_wp2_with fail
                  go_meet
                  exact ⟨rfl, rfl⟩
                · obtain rfl : n1 = 1000 := by rw [HN1.out, if_neg h1]
                  go_wp2_with fail
                  go_meet
                  exact ⟨rfl, rfl⟩
              case rest =>
                obtain ⟨rfl, rfl⟩ := hcut
                go_upto_if 65 with fail
                go_cut [6] (fun v6 wg => v6 = .int .i64 s ∧ wf = wg)
                case first =>
                  clear HS
                  by_cases h1 : x3 < 0
                  · obtain rfl : s = 0 := by rw [HSS.out]; unfold stepsZ; omega
                    go_wp2_with fail
                    go_meet
                    exact ⟨rfl, rfl⟩
                  · obtain rfl : s = n1 := by rw [HSS.out, HN1.out]; unfold stepsZ; split <;> omega
                    go_wp2_with fail
                    go_meet
                    exact ⟨rfl, rfl⟩
                case rest =>
                  obtain ⟨rfl, rfl⟩ := hcut
                  clear HN1 HSS s3
                  obtain ⟨k0, k1, k2, k3, k4, k5⟩ := HW4.out.cells
                  have f0 := frozen_of_row _ _ 0 _ _ HW4.out.own
                  have f1 := frozen_of_row _ _ 1 _ _ HW4.out.own
                  have hgo := HGO.out
                  clear HGO
                  rcases hdc' with rfl | rfl | rfl | rfl
                  · obtain ⟨rfl, rfl⟩ := hgo.1 rfl
                    clear hgo
                    go_upto_region 24 with fail
                    have HW5 := Lib.hid (HW4.out.set 0 (.int .i64 (x + s)) (x + s) zy 0 co' rfl)
                    clear HW4 k0 k1 k2 k3 k4 k5 f0 f1
                    generalize wf.setCell ⟨w.heap.size + 1, 0, none⟩ (.int .i64 (x + s)) = w5 at HW5 ⊢
                    obtain ⟨av, cv, rfl⟩ := own_slice HW5.out.two.a
                    obtain ⟨au, cu, rfl⟩ := own_slice HW5.out.two.b
                    have R5 := Lib.hid (RT.of HW5.out)
                    clear HW5
                    obtain ⟨k0, k1, k2, k3, k4, k5⟩ := R5.out.cells
                    go_upto_region 25 with (at_builtin; refine wp_append_two rfl (.tmp 95) (.tmp 98) 35 rfl w 3 Try.underlying35 (.int .i64 0) 8 info_int35 rfl (by decide) _ (.slice av k cv) (.slice au k cu) k k X Y rfl (.int .i64 (x + s)) w5.heap.size rfl (R5.out.two.alloc _) (heap_alloc_new _ _) rfl (by omega) ?_; intro g1 p1 w6 hT6 hO6; have R6 := Lib.hid ((R5.out.alloc _).grow hT6 hO6); clear hT6 hO6; obtain ⟨m0, m1, m2, m3, m4, m5⟩ := R6.out.cells; have f4 := frozen_of_row _ _ 4 _ _ R6.out.own)
                    have R7 := Lib.hid (R6.out.set4 (.slice (some ⟨g1, 0, none⟩) (k + 1) p1))
                    clear R5 R6 k0 k1 k2 k3 k4 k5 m0 m1 m2 m3 m4 m5 f4
                    generalize w6.setCell ⟨w.heap.size + 1, 4, none⟩ (.slice (some ⟨g1, 0, none⟩) (k + 1) p1) = w7 at R7 ⊢
                    obtain ⟨k0, k1, k2, k3, k4, k5⟩ := R7.out.cells
                    go_wp2_with (at_builtin; refine wp_append_two rfl (.tmp 102) (.tmp 105) 35 rfl w 3 Try.underlying35 (.int .i64 0) 8 info_int35 rfl (by decide) _ (.slice au k cu) (.slice (some ⟨g1, 0, none⟩) (k + 1) p1) k (k + 1) Y (X ++ [.int .i64 (x + s)]) rfl (.int .i64 zy) w7.heap.size rfl (R7.out.two.swap.alloc _) (heap_alloc_new _ _) rfl (by omega) ?_; intro g2 p2 w8 hT8 hO8; have R8 := Lib.hid ((R7.out.alloc _).grow2 hT8 hO8); clear hT8 hO8; obtain ⟨m0, m1, m2, m3, m4, m5⟩ := R8.out.cells; have f5 := frozen_of_row _ _ 5 _ _ R8.out.own)
                    go_roundw
                    case rel => exact ⟨k + 1, _, _, by omega, by go_num, Lib.hid ((R8.out.set5 (.slice (some ⟨g2, 0, none⟩) (k + 1) p2)).rs HXY.out HFIN.out)⟩
                    case measure => simp [intOf]; omega
                  · obtain ⟨rfl, rfl⟩ := hgo.2.1 rfl
                    clear hgo
                    go_upto_region 24 with fail
                    have HW5 := Lib.hid (HW4.out.set 1 (.int .i64 (y + s)) zx (y + s) 1 co' rfl)
                    clear HW4 k0 k1 k2 k3 k4 k5 f0 f1
                    generalize wf.setCell ⟨w.heap.size + 1, 1, none⟩ (.int .i64 (y + s)) = w5 at HW5 ⊢
                    obtain ⟨av, cv, rfl⟩ := own_slice HW5.out.two.a
                    obtain ⟨au, cu, rfl⟩ := own_slice HW5.out.two.b
                    have R5 := Lib.hid (RT.of HW5.out)
                    clear HW5
                    obtain ⟨k0, k1, k2, k3, k4, k5⟩ := R5.out.cells
                    go_upto_region 25 with (at_builtin; refine wp_append_two rfl (.tmp 95) (.tmp 98) 35 rfl w 3 Try.underlying35 (.int .i64 0) 8 info_int35 rfl (by decide) _ (.slice av k cv) (.slice au k cu) k k X Y rfl (.int .i64 zx) w5.heap.size rfl (R5.out.two.alloc _) (heap_alloc_new _ _) rfl (by omega) ?_; intro g1 p1 w6 hT6 hO6; have R6 := Lib.hid ((R5.out.alloc _).grow hT6 hO6); clear hT6 hO6; obtain ⟨m0, m1, m2, m3, m4, m5⟩ := R6.out.cells; have f4 := frozen_of_row _ _ 4 _ _ R6.out.own)
                    have R7 := Lib.hid (R6.out.set4 (.slice (some ⟨g1, 0, none⟩) (k + 1) p1))
                    clear R5 R6 k0 k1 k2 k3 k4 k5 m0 m1 m2 m3 m4 m5 f4
                    generalize w6.setCell ⟨w.heap.size + 1, 4, none⟩ (.slice (some ⟨g1, 0, none⟩) (k + 1) p1) = w7 at R7 ⊢
                    obtain ⟨k0, k1, k2, k3, k4, k5⟩ := R7.out.cells
                    go_wp2_with (at_builtin; refine wp_append_two rfl (.tmp 102) (.tmp 105) 35 rfl w 3 Try.underlying35 (.int .i64 0) 8 info_int35 rfl (by decide) _ (.slice au k cu) (.slice (some ⟨g1, 0, none⟩) (k + 1) p1) k (k + 1) Y (X ++ [.int .i64 zx]) rfl (.int .i64 (y + s)) w7.heap.size rfl (R7.out.two.swap.alloc _) (heap_alloc_new _ _) rfl (by omega) ?_; intro g2 p2 w8 hT8 hO8; have R8 := Lib.hid ((R7.out.alloc _).grow2 hT8 hO8); clear hT8 hO8; obtain ⟨m0, m1, m2, m3, m4, m5⟩ := R8.out.cells; have f5 := frozen_of_row _ _ 5 _ _ R8.out.own)
                    go_roundw
                    case rel => exact ⟨k + 1, _, _, by omega, by go_num, Lib.hid ((R8.out.set5 (.slice (some ⟨g2, 0, none⟩) (k + 1) p2)).rs HXY.out HFIN.out)⟩
                    case measure => simp [intOf]; omega
                  · obtain ⟨rfl, rfl⟩ := hgo.2.2.1 rfl
                    clear hgo
                    go_upto_region 24 with fail
                    have HW5 := Lib.hid (HW4.out.set 0 (.int .i64 (x - s)) (x - s) zy 2 co' rfl)
                    clear HW4 k0 k1 k2 k3 k4 k5 f0 f1
                    generalize wf.setCell ⟨w.heap.size + 1, 0, none⟩ (.int .i64 (x - s)) = w5 at HW5 ⊢
                    obtain ⟨av, cv, rfl⟩ := own_slice HW5.out.two.a
                    obtain ⟨au, cu, rfl⟩ := own_slice HW5.out.two.b
                    have R5 := Lib.hid (RT.of HW5.out)
                    clear HW5
                    obtain ⟨k0, k1, k2, k3, k4, k5⟩ := R5.out.cells
                    go_upto_region 25 with (at_builtin; refine wp_append_two rfl (.tmp 95) (.tmp 98) 35 rfl w 3 Try.underlying35 (.int .i64 0) 8 info_int35 rfl (by decide) _ (.slice av k cv) (.slice au k cu) k k X Y rfl (.int .i64 (x - s)) w5.heap.size rfl (R5.out.two.alloc _) (heap_alloc_new _ _) rfl (by omega) ?_; intro g1 p1 w6 hT6 hO6; have R6 := Lib.hid ((R5.out.alloc _).grow hT6 hO6); clear hT6 hO6; obtain ⟨m0, m1, m2, m3, m4, m5⟩ := R6.out.cells; have f4 := frozen_of_row _ _ 4 _ _ R6.out.own)
                    have R7 := Lib.hid (R6.out.set4 (.slice (some ⟨g1, 0, none⟩) (k + 1) p1))
                    clear R5 R6 k0 k1 k2 k3 k4 k5 m0 m1 m2 m3 m4 m5 f4
                    generalize w6.setCell ⟨w.heap.size + 1, 4, none⟩ (.slice (some ⟨g1, 0, none⟩) (k + 1) p1) = w7 at R7 ⊢
                    obtain ⟨k0, k1, k2, k3, k4, k5⟩ := R7.out.cells
                    go_wp2_with (at_builtin; refine wp_append_two rfl (.tmp 102) (.tmp 105) 35 rfl w 3 Try.underlying35 (.int .i64 0) 8 info_int35 rfl (by decide) _ (.slice au k cu) (.slice (some ⟨g1, 0, none⟩) (k + 1) p1) k (k + 1) Y (X ++ [.int .i64 (x - s)]) rfl (.int .i64 zy) w7.heap.size rfl (R7.out.two.swap.alloc _) (heap_alloc_new _ _) rfl (by omega) ?_; intro g2 p2 w8 hT8 hO8; have R8 := Lib.hid ((R7.out.alloc _).grow2 hT8 hO8); clear hT8 hO8; obtain ⟨m0, m1, m2, m3, m4, m5⟩ := R8.out.cells; have f5 := frozen_of_row _ _ 5 _ _ R8.out.own)
                    go_roundw
                    case rel => exact ⟨k + 1, _, _, by omega, by go_num, Lib.hid ((R8.out.set5 (.slice (some ⟨g2, 0, none⟩) (k + 1) p2)).rs HXY.out HFIN.out)⟩
                    case measure => simp [intOf]; omega
                  · obtain ⟨rfl, rfl⟩ := hgo.2.2.2 rfl
                    clear hgo
                    go_upto_region 24 with fail
                    have HW5 := Lib.hid (HW4.out.set 1 (.int .i64 (y - s)) zx (y - s) 3 co' rfl)
                    clear HW4 k0 k1 k2 k3 k4 k5 f0 f1
                    generalize wf.setCell ⟨w.heap.size + 1, 1, none⟩ (.int .i64 (y - s)) = w5 at HW5 ⊢
                    obtain ⟨av, cv, rfl⟩ := own_slice HW5.out.two.a
                    obtain ⟨au, cu, rfl⟩ := own_slice HW5.out.two.b
                    have R5 := Lib.hid (RT.of HW5.out)
                    clear HW5
                    obtain ⟨k0, k1, k2, k3, k4, k5⟩ := R5.out.cells
                    go_upto_region 25 with (at_builtin; refine wp_append_two rfl (.tmp 95) (.tmp 98) 35 rfl w 3 Try.underlying35 (.int .i64 0) 8 info_int35 rfl (by decide) _ (.slice av k cv) (.slice au k cu) k k X Y rfl (.int .i64 zx) w5.heap.size rfl (R5.out.two.alloc _) (heap_alloc_new _ _) rfl (by omega) ?_; intro g1 p1 w6 hT6 hO6; have R6 := Lib.hid ((R5.out.alloc _).grow hT6 hO6); clear hT6 hO6; obtain ⟨m0, m1, m2, m3, m4, m5⟩ := R6.out.cells; have f4 := frozen_of_row _ _ 4 _ _ R6.out.own)
                    have R7 := Lib.hid (R6.out.set4 (.slice (some ⟨g1, 0, none⟩) (k + 1) p1))
                    clear R5 R6 k0 k1 k2 k3 k4 k5 m0 m1 m2 m3 m4 m5 f4
                    generalize w6.setCell ⟨w.heap.size + 1, 4, none⟩ (.slice (some ⟨g1, 0, none⟩) (k + 1) p1) = w7 at R7 ⊢
                    obtain ⟨k0, k1, k2, k3, k4, k5⟩ := R7.out.cells
                    go_wp2_with (at_builtin; refine wp_append_two rfl (.tmp 102) (.tmp 105) 35 rfl w 3 Try.underlying35 (.int .i64 0) 8 info_int35 rfl (by decide) _ (.slice au k cu) (.slice (some ⟨g1, 0, none⟩) (k + 1) p1) k (k + 1) Y (X ++ [.int .i64 zx]) rfl (.int .i64 (y - s)) w7.heap.size rfl (R7.out.two.swap.alloc _) (heap_alloc_new _ _) rfl (by omega) ?_; intro g2 p2 w8 hT8 hO8; have R8 := Lib.hid ((R7.out.alloc _).grow2 hT8 hO8); clear hT8 hO8; obtain ⟨m0, m1, m2, m3, m4, m5⟩ := R8.out.cells; have f5 := frozen_of_row _ _ 5 _ _ R8.out.own)
                    go_roundw
                    case rel => exact ⟨k + 1, _, _, by omega, by go_num, Lib.hid ((R8.out.set5 (.slice (some ⟨g2, 0, none⟩) (k + 1) p2)).rs HXY.out HFIN.out)⟩
                    case measure => simp [intOf]; omega
    · obtain rfl : k = l.length := by omega
      obtain ⟨av, cv, rfl⟩ := own_slice HS.out.two.a
      obtain ⟨au, cu, rfl⟩ := own_slice HS.out.two.b
      have hB := HS.out.two.bel
      have hO := HS.out.own
      have hRes := HS.out.res
      obtain ⟨a1, c1, e1, hr1, _, _⟩ := own_rows (enc := intRow) (f := fun n => Value.int .i64 n) (l := xsZ l) (by have h := HS.out.two.a; rw [List.take_of_length_le (by simp [xsZ, paths_len])] at h; simpa [xsZ, paths_len] using h) (fun _ => rfl)
      obtain ⟨a2, c2, e2, hr2, _, _⟩ := own_rows (enc := intRow) (f := fun n => Value.int .i64 n) (l := ysZ l) (by have h := HS.out.two.b; rw [List.take_of_length_le (by simp [ysZ, paths_len])] at h; simpa [ysZ, paths_len] using h) (fun _ => rfl)
      rw [show (xsZ l).length = l.length by simp [xsZ, paths_len]] at e1
      rw [show (ysZ l).length = l.length by simp [ysZ, paths_len]] at e2
      cases e1; cases e2
      have hcor : cornP l l.length = cornersZ l := by unfold cornP cornersZ; rw [List.take_of_length_le (by rw [paths_len]; exact Nat.le_refl _)]
      rw [hcor] at hO
      have HO := Lib.hid hO
      have HRES := Lib.hid hRes
      have hbk : ∀ b o, av = some ⟨b, o, none⟩ → b ≠ w.heap.size := fun b o e h => by
        subst e; have := HS.out.two.a
        obtain ⟨_, ⟨h1, _⟩ | ⟨g, cap, cur, h1, _, h2, _⟩⟩ := this
        · cases h1
        · cases h1; rw [h, HS.out.res] at h2; cases h2
      have hbk2 : ∀ b o, au = some ⟨b, o, none⟩ → b ≠ w.heap.size := fun b o e h => by
        subst e; have := HS.out.two.b
        obtain ⟨_, ⟨h1, _⟩ | ⟨g, cap, cur, h1, _, h2, _⟩⟩ := this
        · cases h1
        · cases h1; rw [h, HS.out.res] at h2; cases h2
      have HR1 := Lib.hid (And.intro hr1 (own_typed HS.out.two.a))
      have HR2 := Lib.hid (And.intro hr2 (own_typed HS.out.two.b))
      have HK := Lib.hid hbk
      have HK2 := Lib.hid hbk2
      clear hO hRes hr1 hr2 hcor HS HR HG hbk hbk2
      obtain ⟨x, hx⟩ : ∃ q, q = (afterZ l l.length).x := ⟨_, rfl⟩
      obtain ⟨y, hy⟩ : ∃ q, q = (afterZ l l.length).y := ⟨_, rfl⟩
      obtain ⟨hd, hh⟩ : ∃ q, q = hdZ (afterZ l l.length).hx (afterZ l l.length).hy := ⟨_, rfl⟩
      obtain ⟨co, hc⟩ : ∃ q, q = cornersZ l := ⟨_, rfl⟩
      rw [← hx, ← hy, ← hh, ← hc] at HO
      have HE := Lib.hid (show x = (afterZ l l.length).x ∧ y = (afterZ l l.length).y ∧ hd = hdZ (afterZ l l.length).hx (afterZ l l.length).hy ∧ co = cornersZ l from ⟨hx, hy, hh, hc⟩)
      clear hx hy hh hc
      go_wp2_with (first | (with_reducible refine wpList_load_row rfl 37 (.tmp 3) rfl (w.heap.size + 1) rfl 37 (refP x y hd co (.slice av l.length cv) (.slice au l.length cu)) (0, 0) _ HO.out Try.underlying37 rfl (p6_info _ _ _ _ _ _) ?_) | (with_reducible refine wpList_store_row rfl 37 (.tmp 2) (.tmp 109) rfl w.heap.size (refP x y hd co (.slice av l.length cv) (.slice au l.length cu)) rfl rfl 37 (refP 0 0 0 0 (.slice none 0 0) (.slice none 0 0)) HRES.out (p6_info _ _ _ _ _ _) (p6_size _ _ _ _ _ _ _ _ _ _ _ _) (p6_one _ _ _ _ _ _ _ _ _ _) ?_))
      refine bodyPost_ret (results_cell_row Try.results10 _ _ w.heap.size 37 (refP x y hd co (.slice av l.length cv) (.slice au l.length cu)) (0, 0) _ rfl (setRow_heap _ _ _ _ _ _ HRES.out) Try.underlying37 rfl (p6_info _ _ _ _ _ _)) rfl ?_
      refine ⟨⟨_, rfl, av, au, cv, cu, ?_, ⟨rows_setRow HR1.out.1 HK.out _, HR1.out.2.setRow HK.out _⟩, rows_setRow HR2.out.1 HK2.out _, HR2.out.2.setRow HK2.out _⟩, below_setRow hB _ _ (Nat.le_refl _)⟩
      obtain ⟨h1, h2, h3, h4⟩ := HE.out
      rw [← h1, ← h2, ← h3, ← h4]
end Go.Proofs.Ytkllcidmahhkoaa
