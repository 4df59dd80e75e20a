/-
  The paths of trades: an iterator's contract.
-/
import Derived.RangeFuncBox
import Derived.RangeFuncLeaves
import Derived.RangeFuncCalls
import Derived.RangeFuncBound
import Derived.RangeFuncNested
import Derived.Shelf.Abstract
import Derived.WalkKit
import Derived.OwnWalkIn
import Derived.TacticsInMore
import Derived.LoopNIn
import Derived.LoopIn
import Derived.Maps.AppendAt
import Derived.Test.YtkllcidmahhkoaaWlkThen
import Derived.Test.YtkllcidmahhkoaaLoopLaw
namespace Go.Proofs.Ytkllcidmahhkoaa
open Go.RowKit Go.Shelf
set_option linter.unusedVariables false
set_option linter.unusedSimpArgs false
attribute [local go_sem] Oper.semAt_some

/-- a path: its words, and what they stand for -/
abbrev PathB := { x : PathW × PathZ // PRep x.1 x.2 ∧ x.2.fine 1000 }
/-- behind so many trades -/
def afterZ (l : List TradeR) : Nat → PathZ
  | 0 => begunZ
  | k + 1 => match l[k]? with
    | some t => stepZ (afterZ l k) (match k with | 0 => 0 | j + 1 => (l[j]?.map TradeR.price).getD 0) t.price t.size
    | none => afterZ l k
def lastZ (l : List TradeR) : Nat → Int
  | 0 => 0
  | j + 1 => (l[j]?.map TradeR.price).getD 0
theorem afterZ_succ (l : List TradeR) (k : Nat) (h : k < l.length) : afterZ l (k + 1) = stepZ (afterZ l k) (lastZ l k) l[k].price l[k].size := by
  simp only [afterZ, List.getElem?_eq_getElem h]
  cases k <;> rfl
theorem afterZ_fine (l : List TradeR) : ∀ k, k ≤ l.length → (afterZ l k).fine k
  | 0, _ => begun_fine
  | k + 1, h => by
    rw [afterZ_succ l k h]
    have := step_fine (afterZ_fine l k (by omega)) (lastZ l k) l[k].price l[k].size
    simpa using this
theorem afterZ_n (l : List TradeR) : ∀ k, k ≤ l.length → (afterZ l k).n = k
  | 0, _ => rfl
  | k + 1, h => by
    rw [afterZ_succ l k h]
    have := afterZ_n l k (by omega)
    simp only [stepZ]; omega
def pathsZ (l : List TradeR) : List PathZ := (List.range l.length).map fun k => afterZ l (k + 1)
theorem fine_mono {z : PathZ} {K L : Int} (h : z.fine K) (k : K ≤ L) : z.fine L := ⟨h.h, h.n0, by have := h.nK; omega, h.x, h.y, h.lx, h.ly, h.ux, h.uy⟩

theorem trade_cells {w : World} {a : Option Addr} {l : List TradeR} (h : RowsAt w a 4 TradeR.row l) (i : Nat) (hi : i < l.length) : ∃ b o, a = some ⟨b, o, none⟩ ∧
    w.cell? ⟨b, o + i * 4, none⟩ = some (.int .u64 l[i].maker) ∧ w.cell? ⟨b, o + i * 4 + 1, none⟩ = some (.int .u64 l[i].taker) ∧ w.cell? ⟨b, o + i * 4 + 2, none⟩ = some (.int .i64 l[i].price) ∧ w.cell? ⟨b, o + i * 4 + 3, none⟩ = some (.int .i64 l[i].size) := by
  obtain ⟨b, o, e, hc⟩ := h.at_ i hi
  exact ⟨b, o, e, hc 0 _ rfl, hc 1 _ rfl, hc 2 _ rfl, hc 3 _ rfl⟩
/-- what a loop's invariant abides: draws, and new blocks -/
theorem abides_below {β : Type} {B : Nat} {J : β → World → Prop} (h : AbidesFrom B J) {s : β} {W W' : World} (hs : J s W) (hb : Below W.heap.size W W') : J s W' :=
  h s W W' none hs ⟨hb.os, hb.tape, hb.output, hb.size, fun k hk _ => hb.block k hk⟩ (fun r e => by cases e)

set_option maxRecDepth 100000 in
set_option maxHeartbeats 4000000 in
theorem paths1 (N L Bl : Nat) (l : List TradeR) (sa : Option Addr) (cap : Nat) (q : Nat → Prop) (hlen : l.length ≤ 900) (hg : ∀ r ∈ l, r.good) (hqB : ¬ q Bl) (hqa : 0 < l.length → ∀ b o, sa = some ⟨b, o, none⟩ → ¬ q b)
    (J Jx : List PathB → World → Prop) (W : World) (hJ : ∀ s A B, J s A → Turns (fun k => k = W.heap.size + 1) A B → J s B) (hqW : ¬ q (W.heap.size + 1))
    (hY : ∀ pre x W, J pre W → pre.length < l.length → YieldAt Fence.wide (N - 1) Try.prog L #[.agg x.1.1.arr] W fun e W' =>
      (e = .returned (.bool true) ∧ J (pre ++ [x]) W' ∧ KeepsBut q W W') ∨ (e = .returned (.bool false) ∧ Jx (pre ++ [x]) W'))
    (hBl : W.cell? ⟨Bl, 0, none⟩ = some (.slice sa l.length cap)) (hr : RowsAt W sa 4 TradeR.row l) (h0 : J [] W) :
    CallsIn Fence.wide N Try.prog 25 #[.func (.yield L) #[] #[], .pointer (some ⟨Bl, 0, none⟩)] W fun e W' => (∃ v, e = .returned v) ∧
      ((∃ ys : List PathB, ys.map (·.1.2) = pathsZ l ∧ J ys W') ∨ (∃ pre : List PathB, pre.map (·.1.2) <+: pathsZ l ∧ Jx pre W')) := by
  refine callsIn_of_wp Try.func25 rfl trivial ?_ rfl
  simp only [Try.ntmps25, List.size_toArray, List.length_cons, List.length_nil, Nat.reduceAdd, Nat.reduceSub, Array.replicate_succ, Array.replicate_zero, List.push_toArray, List.append_toArray, List.nil_append, List.cons_append]
  have HR := Lib.hid hr
  have HY := Lib.hid hY
  clear hY hr
  gi_wp2_with (first | (refine ⟨trivial, fun h => (by simp [Fence.wide] at h), ?_⟩; gi_at_call 17; (with_reducible refine (callsIn_wide.2 (walk_begun _)).mono ?_); rintro e w1 ⟨rfl, hB1, hs1⟩; have HBX := Lib.hid hs1; clear hs1; have H0 : Hid ((w1.alloc (.cells zeroP.arr 29)).heap[w1.heap.size]? = some (.cells zeroP.arr 29 (0, 0))) := Lib.hid (heap_alloc_new _ _); have hB2 : Below W.heap.size W ((w1.alloc (.cells zeroP.arr 29)).setRow w1.heap.size begunW.arr) := below_setRow (hB1.alloc hB1.size _) _ _ hB1.size; have c2 := (hB2.cell (p := ⟨Bl, 0, none⟩) (cell_lt hBl)).trans hBl) | (with_reducible refine wpIn_store_row rfl 29 (.tmp 3) (.tmp 7) rfl w1.heap.size begunW.arr rfl rfl 29 zeroP.arr H0.out (p5_info _) (p5_size _ _) (p5_one _) ?_))
  have hx0 : ((w1.alloc (.cells zeroP.arr 29)).setRow w1.heap.size begunW.arr).heap[w1.heap.size]? = some (.cells begunW.arr 29 (0, 0)) := setRow_heap _ _ _ _ _ _ H0.out
  have HX0 := Lib.hid hx0
  clear hx0
  have hBx : W.heap.size ≤ w1.heap.size := hB1.size
  obtain ⟨Bx, hBxe⟩ : ∃ Bx, Bx = w1.heap.size := ⟨_, rfl⟩
  generalize (w1.alloc (.cells #[.complex .f64 0 0, .complex .f64 0 0, .int .i64 0, .complex .f64 0 0, .complex .f64 0 0] 29)).setRow w1.heap.size begunW.arr = w2 at HX0 hB2 c2 ⊢
  rw [← hBxe] at HX0 hBx HBX ⊢
  clear hBxe H0 hB1
  have hJ2 : J [] w2 := hJ _ _ _ h0 (Turns.of_below hB2)
  gi_loopw [4, 10] (fun v4 v10 wr => ∃ (k : Nat) (p : PathW) (pre : List PathB), k ≤ l.length ∧ v10 = .int .i64 (k : Int) ∧ v4 = .int .i64 (lastZ l k) ∧ Hid (PRep p (afterZ l k)) ∧ Hid (pre.map (·.1.2) = (pathsZ l).take k) ∧ Hid (J pre wr) ∧ Hid (wr.heap[Bx]? = some (.cells p.arr 29 (0, 0))) ∧ Hid (KeepsBut (fun i => q i ∨ i = Bx) w2 wr)) (fun _ v _ => l.length - (intOf v).toNat)
  case atStart => exact ⟨0, begunW, [], Nat.zero_le _, by simp, rfl, Lib.hid begun_rep, Lib.hid (by simp), Lib.hid hJ2, HX0, Lib.hid (keepsBut_r _)⟩
  case round =>
    obtain ⟨k, p, pre, hk, rfl, rfl, HPR, HPM, HJJ, HXB, HKB⟩ := hrel
    by_cases hlt : k < l.length
    · have HRW := HR.out.moved hB2
      have hqa2 : ∀ b o, sa = some ⟨b, o, none⟩ → ¬ (q b ∨ b = Bx) := by
        obtain ⟨b, o, e1, g0, _⟩ := trade_cells HR.out k hlt
        have hlb : b < W.heap.size := cell_lt g0
        rintro b' o' e2 (h | h)
        · exact hqa (by omega) b' o' e2 h
        · rw [e1] at e2; cases e2; have := HBX.out; omega
      obtain ⟨b, o, rfl, g0, g1, g2, g3⟩ := trade_cells (RowsAt.but HRW HKB.out hqa2) k hlt
      have hgk := hg l[k] (List.getElem_mem hlt)
      obtain ⟨p2, hp2, hcall⟩ := walk_then p (afterZ l k) HPR.out (fine_mono (afterZ_fine l k hk) (by omega)) (lastZ l k) l[k].maker l[k].taker l[k].price l[k].size hgk.size
      rw [← afterZ_succ l k hlt] at hp2
      have hf2 : (afterZ l (k + 1)).fine 1000 := fine_mono (afterZ_fine l (k + 1) hlt) (by omega)
      obtain ⟨xb, hxb⟩ : ∃ xb : PathB, xb = ⟨(p2, afterZ l (k + 1)), hp2, hf2⟩ := ⟨_, rfl⟩
      have hx1 : xb.1.1 = p2 := by rw [hxb]
      have hxz : xb.1.2 = afterZ l (k + 1) := by rw [hxb]
      have hpm : (pre ++ [xb]).map (·.1.2) = (pathsZ l).take (k + 1) := by
        rw [List.map_append, HPM.out, List.take_succ_eq_append_getElem (by simpa [pathsZ] using hlt)]
        simp [pathsZ, hxz]
      have hlp : pre.length < l.length := by
        have := congrArg List.length HPM.out
        simp [pathsZ] at this
        omega
      have hlast : lastZ l (k + 1) = l[k].price := by simp [lastZ, List.getElem?_eq_getElem hlt]
      have HYX := Lib.hid (fun wx hw => HY.out pre xb wx hw hlp)
      have HPM2 := Lib.hid hpm
      have HP2 := Lib.hid hp2
      have HX1 := Lib.hid hx1
      have HCALL := Lib.hid hcall
      have HLA := Lib.hid hlast
      have c3 := HKB.out.cell (a := ⟨Bl, 0, none⟩) (by rintro (h | h); exact hqB h; have h1 : Bl < W.heap.size := cell_lt hBl; have h2 := HBX.out; have h3 : Bl = Bx := h; omega) c2
      clear hpm hx1 hcall hlast hgk hxb
      obtain ⟨x0, hx0⟩ : ∃ x, x = l[k].maker := ⟨_, rfl⟩
      obtain ⟨x1, hx1⟩ : ∃ x, x = l[k].taker := ⟨_, rfl⟩
      obtain ⟨x2, hx2⟩ : ∃ x, x = l[k].price := ⟨_, rfl⟩
      obtain ⟨x3, hx3⟩ : ∃ x, x = l[k].size := ⟨_, rfl⟩
      rw [← hx0] at g0 HCALL; rw [← hx1] at g1 HCALL; rw [← hx2] at g2 HCALL HLA; rw [← hx3] at g3 HCALL
      clear hx0 hx1 hx2 hx3 hp2 hf2 hxz
      have HXA : Hid (∀ ob, (wr.alloc ob).heap[Bx]? = some (.cells p.arr 29 (0, 0))) := Lib.hid fun ob => (Below.heap_alloc _ _ _ (heap_lt HXB.out)).trans HXB.out
      gi_wp2_with (first | (with_reducible refine wpIn_load_row rfl 29 (.tmp 3) rfl Bx rfl 29 p.arr (0, 0) _ (HXA.out _) Try.underlying29 rfl (p5_info _) ?_) | (refine ⟨trivial, fun h => (by simp [Fence.wide] at h), ?_⟩; gi_at_call 8; (with_reducible refine (callsIn_wide.2 (HCALL.out _)).mono ?_); rintro e w4 ⟨rfl, hB4⟩; have HX4 := Lib.hid ((hB4.block _ (heap_lt (HXA.out _))).trans (HXA.out _)); have HX5 : Hid ((w4.setRow Bx p2.arr).heap[Bx]? = some (.cells p2.arr 29 (0, 0))) := Lib.hid (setRow_heap _ _ _ _ _ _ HX4.out); have c6 : (w4.setRow Bx p2.arr).cell? ⟨wr.heap.size, 2, none⟩ = some (.int .i64 x2) := (heap_cells_t ((setRow_other _ _ _ _ (Nat.ne_of_gt (heap_lt HXB.out))).trans ((hB4.block _ (by simp)).trans (heap_alloc_new wr (.cells #[.int .u64 x0, .int .u64 x1, .int .i64 x2, .int .i64 x3] 25))))).1; have hAB : Below wr.heap.size wr w4 := ((Below.refl _ wr).alloc (Nat.le_refl _) _).trans (hB4.mono (by simp)); have hTN : Turns (fun i => i = W.heap.size + 1) wr (w4.setRow Bx p2.arr) := (Turns.of_below hAB).trans (Turns.setRow _ _ _ (by exact HBX.out)); obtain ⟨fn, tmps, assign, body, hy, hR⟩ := HYX.out (w4.setRow Bx p2.arr) (hJ _ _ _ HJJ.out hTN); rw [HX1.out] at hy) | (with_reducible refine wpIn_store_row rfl 29 (.tmp 3) (.tmp 17) rfl Bx p2.arr rfl rfl 29 p.arr HX4.out (p5_info _) (p5_size _ _) (p5_one _) ?_) | (with_reducible refine wpIn_load_row rfl 29 (.tmp 3) rfl Bx rfl 29 p2.arr (0, 0) _ HX5.out Try.underlying29 rfl (p5_info _) ?_))
      have hqx : ¬ q Bx := by rw [HBX.out]; exact hqW
      have HX6 := Lib.hid (HX5.out)
      have KB2 : Hid (KeepsBut q wr wr) := Lib.hid (keepsBut_r _)
      refine ⟨fun h => (by simp [Fence.wide] at h), hR.mono ?_⟩
      clear hR hy
      rintro e W3 (⟨rfl, hJ3, hk3⟩ | ⟨rfl, hJx3⟩)
      · have HX7 := Lib.hid (hk3.heap hqx HX5.out)
        have c7 : Hid (W3.cell? ⟨Bl, 0, none⟩ = W3.cell? ⟨Bl, 0, none⟩) := Lib.hid rfl
        gi_wp2
        go_roundw
        case rel =>
          refine ⟨k + 1, p2, pre ++ [xb], by omega, by go_num, by rw [HLA.out], HP2, HPM2, Lib.hid hJ3, HX7, Lib.hid ?_⟩
          refine keepsBut_t (keepsBut_t HKB.out (KeepsBut.of_below hAB)) (keepsBut_t (B := w4.setRow Bx p2.arr) ?_ ?_)
          · intro i ob hi hk _
            exact (setRow_other _ _ _ _ (fun e => hi (.inr e))).trans hk
          · intro i ob hi hk hc
            exact hk3 i ob (fun h => hi (.inl h)) hk hc
        case measure => simp [intOf]; omega
      · gi_wp2
        refine bodyPost_ret (results_none rfl _ _ _) rfl ?_
        refine ⟨⟨_, rfl⟩, .inr ⟨pre ++ [xb], ?_, hJx3⟩⟩
        rw [HPM2.out]
        exact List.take_prefix _ _
    · obtain rfl : k = l.length := by omega
      have hys : pre.map (·.1.2) = pathsZ l := by
        have := HPM.out
        rwa [List.take_of_length_le (by simp [pathsZ])] at this
      have HYS := Lib.hid hys
      clear hys
      gi_wp2
      go_end0
      exact ⟨⟨_, rfl⟩, .inl ⟨pre, HYS.out, HJJ.out⟩⟩
end Go.Proofs.Ytkllcidmahhkoaa
