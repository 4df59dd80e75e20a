/-
  walk.Of: behind all.
-/
import Derived.Test.YtkllcidmahhkoaaWlkPaths
import Derived.Test.YtkllcidmahhkoaaKept
namespace Go.Proofs.Ytkllcidmahhkoaa
open Go.RowKit Go.Shelf
set_option linter.unusedVariables false
set_option linter.unusedSimpArgs false
attribute [local go_sem] Oper.semAt_some

theorem paths_make (a : Option Addr) (L cap : Nat) (w : World) :
    Calls Try.prog 18 #[.slice a L cap] w fun e w' => e = .returned (.func (.func 25) #[] #[.pointer (some ⟨w.heap.size, 0, none⟩)]) ∧ w' = w.alloc (.cells #[.slice a L cap] 22) := by
  go_enter Try.func18, Try.ntmps18
  have hmf : ∀ (fn : Fn) (first cap : Array Value) (w : World), (Instr.makeFunc fn first cap).run Try.prog w = .ok (.func fn first cap) w := fun _ _ _ _ => rfl
  go_wp2
  go_ret
  exact ⟨rfl, rfl⟩

theorem paths_stops (N : Nat) (l : List TradeR) (sa : Option Addr) (cap Bl : Nat) (q : Nat → Prop) (hlen : l.length ≤ 900) (hg : ∀ r ∈ l, r.good) (w : World) (hBl0 : Bl < w.heap.size) (hqw : ∀ k, q k → k < w.heap.size) (hqB : ¬ q Bl) (hqa : 0 < l.length → ∀ b o, sa = some ⟨b, o, none⟩ → ¬ q b)
    (hBl : w.cell? ⟨Bl, 0, none⟩ = some (.slice sa l.length cap)) (hr : RowsAt w sa 4 TradeR.row l) :
    SeqStopsT Fence.wide N Try.prog 25 #[.pointer (some ⟨Bl, 0, none⟩)] (fun x : PathB => #[Value.agg x.1.1.arr]) (fun n k => k = n + 1) (KeepsBut q)
      (fun ys => ys.map (·.1.2) = pathsZ l) (fun pre => pre.map (·.1.2) <+: pathsZ l) l.length w := fun L J Jx W hW hJ hJx hY h0 =>
  paths1 N L Bl l sa cap q hlen hg hqB hqa J Jx W hJ (fun h => by have := hqw _ h; have := hW.size; omega) hY ((hW.cell (p := ⟨Bl, 0, none⟩) hBl0).trans hBl) (hr.moved hW) h0

/-- the last of some paths -/
def lastP (pre : List PathB) : PathZ := ((pre.map (·.1.2)).getLast?).getD begunZ
theorem lastP_snoc (pre : List PathB) (x : PathB) : lastP (pre ++ [x]) = x.1.2 := by simp [lastP]
theorem lastP_all (l : List TradeR) (ys : List PathB) (h : ys.map (·.1.2) = pathsZ l) : lastP ys = afterZ l l.length := by
  unfold lastP
  rw [h]
  unfold pathsZ
  cases hn : l.length with
  | zero => simp [afterZ]
  | succ n => simp [List.range_succ]

set_option maxRecDepth 100000 in
set_option maxHeartbeats 4000000 in
theorem walk_of (l : List TradeR) (sa : Option Addr) (cap : Nat) (w : World) (hlen : l.length ≤ 900) (hg : ∀ r ∈ l, r.good) (hr : RowsAt w sa 4 TradeR.row l) :
    Calls Try.prog 7 #[.slice sa l.length cap] w fun e w' => ∃ p, e = .returned (.agg p.arr) ∧ PRep p (afterZ l l.length) ∧ Below w.heap.size w w' := by
  have HR := Lib.hid hr
  clear hr
  refine (callsIn_wide (n := 5)).1 ?_
  refine callsIn_of_wp_marks Try.func7 rfl trivial ?_ rfl
  simp only [Try.ntmps7, List.size_toArray, List.length_cons, List.length_nil, Nat.reduceAdd, Nat.reduceSub, Array.replicate_succ, Array.replicate_zero, List.push_toArray, List.append_toArray, List.nil_append, List.cons_append]
  gi_wp2_with (first | (refine ⟨trivial, ?_⟩; gi_at_call 17; (with_reducible refine (callsIn_wide.2 (walk_begun _)).mono ?_); rintro e w1 ⟨rfl, hB1, hs1⟩; have HB1 := Lib.hid hB1; clear hs1; have H0 : Hid ((w1.alloc (.cells zeroP.arr 29)).heap[w1.heap.size]? = some (.cells zeroP.arr 29 (0, 0))) := Lib.hid (heap_alloc_new _ _)) | (with_reducible refine wpIn_store_row rfl 29 (.tmp 3) (.tmp 5) rfl w1.heap.size begunW.arr rfl rfl 29 zeroP.arr H0.out (p5_info _) (p5_size _ _) (p5_one _) ?_) | (refine ⟨trivial, ?_⟩; gi_at_call 18; refine (callsIn_wide.2 (paths_make _ _ _ _)).mono ?_; rintro e w' ⟨rfl, rfl⟩))
  have hB0 := HB1.out
  have hw1 : w.heap.size + 1 ≤ w1.heap.size := by have := hB0.size; simpa using this
  have hbelow : Below w.heap.size w (((w1.alloc (.cells zeroP.arr 29)).setRow w1.heap.size begunW.arr).alloc (.cells #[.slice sa l.length cap] 22)) := by
    have h1 : Below w.heap.size w w1 := ((Below.refl _ w).alloc (Nat.le_refl _) _).trans (hB0.mono (by simp))
    exact (below_setRow (h1.alloc h1.size _) _ _ h1.size).alloc (by simp; omega) _
  have hres : (((w1.alloc (.cells zeroP.arr 29)).setRow w1.heap.size begunW.arr).alloc (.cells #[.slice sa l.length cap] 22)).heap[w.heap.size]? = some (.cells zeroP.arr 29 (0, 0)) := by
    have h1 := (hB0.block w.heap.size (by simp)).trans (heap_alloc_new w (.cells zeroP.arr 29))
    exact (Below.heap_alloc _ _ _ (by simp; omega)).trans ((setRow_other _ _ _ _ (by omega)).trans ((Below.heap_alloc _ _ _ (by omega)).trans h1))
  have hbox : (((w1.alloc (.cells zeroP.arr 29)).setRow w1.heap.size begunW.arr).alloc (.cells #[.slice sa l.length cap] 22)).cell? ⟨w1.heap.size + 1, 0, none⟩ = some (.slice sa l.length cap) := by
    have := heap_new (w := (w1.alloc (.cells zeroP.arr 29)).setRow w1.heap.size begunW.arr) (x := .cells #[.slice sa l.length cap] 22) (B := w1.heap.size + 1) (by simp)
    unfold World.cell?; rw [this]; rfl
  have hpb : (((w1.alloc (.cells zeroP.arr 29)).setRow w1.heap.size begunW.arr).alloc (.cells #[.slice sa l.length cap] 22)).heap[w1.heap.size]? = some (.cells begunW.arr 29 (0, 0)) :=
    (Below.heap_alloc _ _ _ (by simp)).trans (setRow_heap _ _ _ _ _ _ H0.out)
  have hsz : (((w1.alloc (.cells zeroP.arr 29)).setRow w1.heap.size begunW.arr).alloc (.cells #[.slice sa l.length cap] 22)).heap.size = w1.heap.size + 2 := by simp
  generalize hW0 : (((w1.alloc (.cells zeroP.arr 29)).setRow w1.heap.size begunW.arr).alloc (.cells #[.slice sa l.length cap] 22)) = W0 at hbelow hres hbox hpb hsz ⊢
  clear hW0 H0 HB1 hB0 hB1
  have hqa : 0 < l.length → ∀ b o, sa = some ⟨b, o, none⟩ → ¬ b = w1.heap.size := by
    intro h b o e
    obtain ⟨b', o', e', g0, _⟩ := trade_cells HR.out 0 h
    rw [e] at e'; cases e'
    have : b < w.heap.size := cell_lt g0
    omega
  have hseq := paths_stops 4 l sa cap (w1.heap.size + 1) (fun k => k = w1.heap.size) hlen hg W0 (by omega) (by rintro k rfl; omega) (by omega) hqa hbox (HR.out.moved hbelow)
  have hOn : OnlyOn (fun k => k = w1.heap.size) (fun (pre : List PathB) W => ∃ p : PathW, W.heap[w1.heap.size]? = some (.cells p.arr 29 (0, 0)) ∧ PRep p (lastP pre)) := fun s A B ⟨p, h1, h2⟩ e => ⟨p, (e _ rfl).trans h1, h2⟩
  refine range_law rfl (by decide) (gf := 25) (lb := #[.pointer (some ⟨w1.heap.size + 1, 0, none⟩)]) rfl trivial (enters_of Try.func25 (by kernel_rfl) rfl) hseq (by rintro k rfl; omega) keepsBut_t keepsBut_b (Below.refl _ _) (fun _ => rfl)
    (fun pre W => ChgQ (fun k => k = w1.heap.size) W0 W ∧ ∃ p : PathW, W.heap[w1.heap.size]? = some (.cells p.arr 29 (0, 0)) ∧ PRep p (lastP pre)) (fun _ _ _ => False)
    (kept_own (by rintro k rfl; omega) hOn)
    (fun c s A B r h => h.elim)
    (kept_turns (by rintro k rfl; omega) hOn (by rintro k rfl; omega))
    (fun c s A B h => h.elim)
    ⟨ChgQ.refl _ _, begunW, hpb, begun_rep⟩ ?round ?done ?stop
  case stop => rintro D c pre W hD hp h; exact h.elim
  case round =>
    rintro L pre x W hL ⟨hC, p, hp, hPR⟩ hlt hloop
    have HN : Hid ((W.alloc (.cells zeroP.arr 29)).heap[W.heap.size]? = some (.cells zeroP.arr 29 (0, 0))) := Lib.hid (heap_alloc_new _ _)
    gi_wp2_with (with_reducible refine wpIn_store_row rfl 29 (.tmp 4) (.tmp 8) rfl W.heap.size x.1.1.arr rfl rfl 29 zeroP.arr HN.out (p5_info _) (p5_size _ _) (p5_one _) ?_)
    have hbN : Below W.heap.size W ((W.alloc (.cells zeroP.arr 29)).setRow W.heap.size x.1.1.arr) := below_setRow ((Below.refl _ _).alloc (Nat.le_refl _) _) _ _ (Nat.le_refl _)
    refine ⟨keepsFrom_below hbN, KeepsBut.of_below hbN, fun W2 hbusy => ?_⟩
    have HX2 : Hid (W2.heap[W.heap.size]? = some (.cells x.1.1.arr 29 (0, 0))) := Lib.hid (hbusy.keeps (setRow_heap _ _ _ _ _ _ HN.out) rfl)
    have HP2 : Hid (W2.heap[w1.heap.size]? = some (.cells p.arr 29 (0, 0))) := Lib.hid (hbusy.keeps ((hbN.block _ (heap_lt hp)).trans hp) rfl)
    have hC2 : ChgQ (fun k => k = w1.heap.size) W0 W2 := hbusy.chg hL (hC.trans (ChgQ.of_below hbN))
    gi_wp2_with (first | (with_reducible refine wpIn_load_row rfl 29 (.tmp 4) rfl W.heap.size rfl 29 x.1.1.arr (0, 0) _ HX2.out Try.underlying29 rfl (p5_info _) ?_) | (with_reducible refine wpIn_store_row rfl 29 (.tmp 3) (.tmp 9) rfl w1.heap.size x.1.1.arr rfl rfl 29 p.arr HP2.out (p5_info _) (p5_size _ _) (p5_one _) ?_))
    exact ⟨keepsFrom_setRow _ _ _ (by omega), keepsBut_setRow _ _ _ rfl, hC2.trans (ChgQ.setRow _ _ _ rfl), x.1.1, setRow_heap _ _ _ _ _ _ HP2.out, by rw [lastP_snoc]; exact x.2.1⟩
  case done =>
    rintro D ys W hD hys ⟨hC, p, hp, hPR⟩ hK
    rw [lastP_all l ys hys] at hPR
    have HP : Hid (W.heap[w1.heap.size]? = some (.cells p.arr 29 (0, 0))) := Lib.hid hp
    have HR0 : Hid (W.heap[w.heap.size]? = some (.cells zeroP.arr 29 (0, 0))) := Lib.hid (hC.heap (by omega) hres)
    gi_wp2_with (first | (with_reducible refine wpIn_load_row rfl 29 (.tmp 3) rfl w1.heap.size rfl 29 p.arr (0, 0) _ HP.out Try.underlying29 rfl (p5_info _) ?_) | (with_reducible refine wpIn_store_row rfl 29 (.tmp 2) (.tmp 10) rfl w.heap.size p.arr rfl rfl 29 zeroP.arr HR0.out (p5_info _) (p5_size _ _) (p5_one _) ?_))
    have hK2 : (W.setRow w.heap.size p.arr).heap[D]? = some (.deferred (some [])) := (setRow_other _ _ _ _ (by omega)).trans hK
    refine ⟨by simp, .inl ⟨_, _, rfl, run_takeDeferred hK2, ?_⟩⟩
    have hrow : ((W.setRow w.heap.size p.arr).putObj D (.deferred none)).heap[w.heap.size]? = some (.cells p.arr 29 (0, 0)) := (World.putObj_heap_other (by omega)).trans (setRow_heap _ _ _ _ _ _ HR0.out)
    refine ⟨_, results_cell_row Try.results7 _ _ w.heap.size 29 p.arr (0, 0) _ rfl hrow Try.underlying29 rfl (p5_info _), ⟨p, rfl, hPR, ?_⟩⟩
    have hB2 : Below w.heap.size w W := hbelow.trans (hC.below (by omega) (by rintro k rfl; omega))
    exact (below_setRow hB2 _ _ (Nat.le_refl _)).trans (belowK_b (w := w) (Nat.le_refl _) _ D _ _ (by omega) hK2 rfl rfl)
end Go.Proofs.Ytkllcidmahhkoaa
