/-
  Where each trade of a walk ended (walk.Places): an iterator over an iterator, by contract.
-/
import Derived.Test.YtkllcidmahhkoaaWlkOf
import Derived.Test.YtkllcidmahhkoaaLoopLaw2
namespace Go.Proofs.Ytkllcidmahhkoaa
open Go.RowKit Go.Shelf
set_option linter.unusedVariables false
set_option linter.unusedSimpArgs false
attribute [local go_sem] Oper.semAt_some

theorem places_make (a : Option Addr) (L cap : Nat) (w : World) :
    Calls Try.prog 14 #[.slice a L cap] w fun e w' => e = .returned (.func (.func 22) #[] #[.pointer (some ⟨w.heap.size, 0, none⟩)]) ∧ w' = w.alloc (.cells #[.slice a L cap] 22) := by
  go_enter Try.func14, Try.ntmps14
  have hmf : ∀ (fn : Fn) (first cap : Array Value) (w : World), (Instr.makeFunc fn first cap).run Try.prog w = .ok (.func fn first cap) w := fun _ _ _ _ => rfl
  go_wp2
  go_ret
  exact ⟨rfl, rfl⟩

/-- a place: words, the whole numbers that they stand for -/
abbrev PlaceB := { x : (Nat × Nat) × (Int × Int) // CRep x.1.1 x.1.2 x.2.1 x.2.2 }
def placeB (x : PathB) : PlaceB := ⟨((x.1.1.ar, x.1.1.ai), (x.1.2.x, x.1.2.y)), x.2.1.at_⟩
def placesZ (l : List TradeR) : List (Int × Int) := (pathsZ l).map fun z => (z.x, z.y)
theorem placesB_map (ys : List PathB) : (ys.map placeB).map (·.1.2) = (ys.map (·.1.2)).map fun z => (z.x, z.y) := by simp [placeB]

set_option maxRecDepth 100000 in
set_option maxHeartbeats 4000000 in
theorem places1 (L Bl : Nat) (l : List TradeR) (sa : Option Addr) (cap : Nat) (q : Nat → Prop) (hlen : l.length ≤ 900) (hg : ∀ r ∈ l, r.good) (hqa : 0 < l.length → ∀ b o, sa = some ⟨b, o, none⟩ → ¬ q b)
    (J Jx : List PlaceB → World → Prop) (W : World) (hJ : ∀ s A B, J s A → Turns (fun k => W.heap.size ≤ k ∧ k < W.heap.size + 6) A B → J s B) (hJx : ∀ s A B, Jx s A → Turns (fun k => W.heap.size ≤ k ∧ k < W.heap.size + 6) A B → Jx s B) (hqW : ∀ k, q k → k < W.heap.size)
    (hY : ∀ pre x W1, J pre W1 → W.heap.size + 0 ≤ W1.heap.size → pre.length < l.length → YieldAt Fence.wide (5 - 1) Try.prog L #[.complex .f64 x.1.1.1 x.1.1.2] W1 fun e W' =>
      (e = .returned (.bool true) ∧ J (pre ++ [x]) W' ∧ KeepsS q W.heap.size W1 W') ∨ (e = .returned (.bool false) ∧ Jx (pre ++ [x]) W' ∧ KeepsS q W.heap.size W1 W'))
    (hBl : W.cell? ⟨Bl, 0, none⟩ = some (.slice sa l.length cap)) (hr : RowsAt W sa 4 TradeR.row l) (h0 : J [] W) :
    CallsIn Fence.wide 5 Try.prog 22 #[.func (.yield L) #[] #[], .pointer (some ⟨Bl, 0, none⟩)] W fun e W' => (∃ v, e = .returned v) ∧
      ((∃ ys : List PlaceB, ys.map (·.1.2) = placesZ l ∧ J ys W') ∨ (∃ pre : List PlaceB, pre.map (·.1.2) <+: placesZ l ∧ Jx pre W')) := by
  refine callsIn_of_wp_marks Try.func22 rfl trivial ?_ rfl
  simp only [Try.ntmps22, List.size_toArray, List.length_cons, List.length_nil, Nat.reduceAdd, Nat.reduceSub, Array.replicate_succ, Array.replicate_zero, List.push_toArray, List.append_toArray, List.nil_append, List.cons_append]
  have HR := Lib.hid hr
  have HY := Lib.hid hY
  clear hY hr
  have cBl : (W.alloc (.cells #[.func (.yield L) #[] #[]] 56)).cell? ⟨Bl, 0, none⟩ = some (.slice sa l.length cap) := (((Below.refl _ W).alloc (Nat.le_refl _) _).cell (p := ⟨Bl, 0, none⟩) (cell_lt hBl)).trans hBl
  gi_wp2_with (refine ⟨trivial, ?_⟩; gi_at_call 18; (with_reducible refine (callsIn_wide.2 (paths_make _ _ _ _)).mono ?_); rintro e w1 ⟨rfl, rfl⟩)
  have hbelow : Below W.heap.size W ((W.alloc (.cells #[.func (.yield L) #[] #[]] 56)).alloc (.cells #[.slice sa l.length cap] 22)) := by (repeat (first | exact Below.refl _ _ | assumption | apply below_drewN | (refine Below.setCell ?_ (by first | assumption | omega | (simp; try omega)) _) | (refine Below.alloc ?_ (by first | assumption | omega | (simp; try omega)) _)))
  have hbx : ((W.alloc (.cells #[.func (.yield L) #[] #[]] 56)).alloc (.cells #[.slice sa l.length cap] 22)).heap[W.heap.size]? = some (.cells #[.func (.yield L) #[] #[]] 56 (0, 0)) := heap_alloc2_old _ _ _
  have hbl2 : ((W.alloc (.cells #[.func (.yield L) #[] #[]] 56)).alloc (.cells #[.slice sa l.length cap] 22)).cell? ⟨W.heap.size + 1, 0, none⟩ = some (.slice sa l.length cap) := by
    rw [cell_of_row _ _ _ _ _ _ (heap_alloc2_new _ _ _)]; rfl
  have hsz : ((W.alloc (.cells #[.func (.yield L) #[] #[]] 56)).alloc (.cells #[.slice sa l.length cap] 22)).heap.size = W.heap.size + 2 := by simp
  generalize hW0 : (W.alloc (.cells #[.func (.yield L) #[] #[]] 56)).alloc (.cells #[.slice sa l.length cap] 22) = W0 at hbelow hbx hbl2 hsz ⊢
  clear hW0 cBl
  have hseq := (paths_stops 4 l sa cap (W.heap.size + 1) q hlen hg W0 (by omega) (fun k h => by have := hqW k h; omega) (fun h => by have := hqW _ h; omega) hqa hbl2 (HR.out.moved hbelow)).floor (Kq := KeepsS q) (fun b A B h => ⟨h.but, h.size⟩)
  refine range_lawF rfl (by decide) (gf := 25) (lb := #[.pointer (some ⟨W.heap.size + 1, 0, none⟩)]) rfl trivial (enters_of Try.func25 (by kernel_rfl) rfl) hseq (by rintro k rfl; omega) keepsS_t (fun V o o' h1 h2 => keepsS_b V _ o o' h1 h2 (by omega)) (Below.refl _ _) (fun _ => rfl)
    (fun pre V => J (pre.map placeB) V ∧ V.heap[W.heap.size]? = some (.cells #[.func (.yield L) #[] #[]] 56 (0, 0)) ∧ W.heap.size ≤ V.heap.size) (fun c pre V => c = .ret ∧ Jx (pre.map placeB) V)
    (fun s A B h t => ⟨hJ _ _ _ h.1 (t.mono (by rintro k rfl; omega)), t.same _ _ (by omega) h.2.1, Nat.le_trans h.2.2 t.size⟩)
    (fun c s A B h t => ⟨h.1, hJx _ _ _ h.2 (t.mono (by rintro k rfl; omega))⟩)
    (fun s A B h t => ⟨hJ _ _ _ h.1 (t.mono (by rintro k rfl; omega)), t.same _ _ (by omega) h.2.1, Nat.le_trans h.2.2 t.size⟩)
    (fun c s A B h t => ⟨h.1, hJx _ _ _ h.2 (t.mono (by rintro k rfl; omega))⟩)
    ⟨hJ _ _ _ h0 (Turns.of_below hbelow), hbx, by omega⟩ ?round ?done ?stop
  case round =>
    rintro L' pre x V hL' hfl ⟨hj, hb, hsV⟩ hlt hloop
    have HN : Hid ((V.alloc (.cells zeroP.arr 29)).heap[V.heap.size]? = some (.cells zeroP.arr 29 (0, 0))) := Lib.hid (heap_alloc_new _ _)
    gi_wp2_with (with_reducible refine wpIn_store_row rfl 29 (.tmp 3) (.tmp 6) rfl V.heap.size x.1.1.arr rfl rfl 29 zeroP.arr HN.out (p5_info _) (p5_size _ _) (p5_one _) ?_)
    have hbN : Below V.heap.size V ((V.alloc (.cells zeroP.arr 29)).setRow V.heap.size x.1.1.arr) := below_setRow ((Below.refl _ _).alloc (Nat.le_refl _) _) _ _ (Nat.le_refl _)
    refine ⟨keepsFrom_below hbN, KeepsS.of_below hbN, fun V2 hbusy => ?_⟩
    have hx2 := hbusy.keeps (setRow_heap _ _ _ _ _ _ HN.out) rfl
    have hb2 := hbusy.keeps ((hbN.block _ (heap_lt hb)).trans hb) rfl
    have ht2 : Turns (fun k => W.heap.size ≤ k ∧ k < W.heap.size + 6) V V2 := by
      refine (Turns.of_below hbN).trans ?_
      obtain ⟨o, o', h1, _, _, _, rfl⟩ := hbusy
      exact (Turns.putObj h1).mono (by rintro k rfl; omega)
    have hj2 := hJ _ _ _ hj ht2
    obtain ⟨fn, tmps, assign, body, hy, hR⟩ := HY.out _ (placeB x) V2 hj2 (by have := ht2.size; omega) (by simpa using hlt)
    simp only [placeB] at hy
    have c0 : V2.cell? ⟨W.heap.size, 0, none⟩ = some (.func (.yield L) #[] #[]) := by rw [cell_of_row _ _ _ _ _ _ hb2]; rfl
    obtain ⟨d0, -, -, -, -⟩ := heap_cells_p hx2
    gi_wp2
    refine (round_any hR).mono ?_
    clear hR hy
    have hqn : ∀ k, q k → k < W.heap.size + 2 := fun k h => by have := hqW k h; omega
    rintro e V3 (⟨rfl, hj3, hk3⟩ | ⟨rfl, hjx3, hk3⟩)
    · have hb3 := hk3.same _ _ (fun h => by have := hqW _ h; omega) hb2 (.inl rfl)
      gi_wp2
      exact ⟨hk3.from (by omega) hqn, hk3.up (by omega), by rw [List.map_append]; exact hj3, hb3, by have := hk3.size; have := ht2.size; omega⟩
    · gi_wp2
      exact ⟨hk3.from (by omega) hqn, hk3.up (by omega), rfl, by rw [List.map_append]; exact hjx3⟩
  case done =>
    rintro D ys V hD hys ⟨hj, hb, _⟩ hK
    subst hD
    rw [hsz] at hK
    gi_wp2
    refine ⟨by simp, .inl ⟨_, _, rfl, run_takeDeferred hK, _, results_none rfl _ _ _, ⟨_, rfl⟩, .inl ⟨ys.map placeB, ?_, hJ _ _ _ hj ((Turns.putObj hK).mono (by rintro k rfl; omega))⟩⟩⟩
    rw [placesB_map, hys]; rfl
  case stop =>
    rintro D c pre V hD hp ⟨rfl, hjx⟩ hK
    subst hD
    rw [hsz] at hK
    gi_wp2
    refine ⟨by simp, .inl ⟨_, _, rfl, run_takeDeferred hK, _, results_none rfl _ _ _, ⟨_, rfl⟩, .inr ⟨pre.map placeB, ?_, hJx _ _ _ hjx ((Turns.putObj hK).mono (by rintro k rfl; omega))⟩⟩⟩
    rw [placesB_map]
    obtain ⟨r, hr⟩ := hp
    exact ⟨r.map fun z => (z.x, z.y), by rw [← List.map_append, hr]; rfl⟩
theorem places_stops (l : List TradeR) (sa : Option Addr) (cap Bl : Nat) (q : Nat → Prop) (hlen : l.length ≤ 900) (hg : ∀ r ∈ l, r.good) (w : World) (hBl0 : Bl < w.heap.size) (hqw : ∀ k, q k → k < w.heap.size) (hqa : 0 < l.length → ∀ b o, sa = some ⟨b, o, none⟩ → ¬ q b)
    (hBl : w.cell? ⟨Bl, 0, none⟩ = some (.slice sa l.length cap)) (hr : RowsAt w sa 4 TradeR.row l) :
    SeqStopsF Fence.wide 5 Try.prog 22 #[.pointer (some ⟨Bl, 0, none⟩)] (fun x : PlaceB => #[Value.complex .f64 x.1.1.1 x.1.1.2]) (fun n k => n ≤ k ∧ k < n + 6) 0 (KeepsS q)
      (fun ys => ys.map (·.1.2) = placesZ l) (fun pre => pre.map (·.1.2) <+: placesZ l) l.length w := fun L J Jx W hW hJ hJx hY h0 =>
  places1 L Bl l sa cap q hlen hg hqa J Jx W hJ hJx (fun k h => by have := hqw _ h; have := hW.size; omega) hY ((hW.cell (p := ⟨Bl, 0, none⟩) hBl0).trans hBl) (hr.moved hW) h0
end Go.Proofs.Ytkllcidmahhkoaa
