/-
  slices.Chunk over a slice of candles: an iterator's contract.
-/
import Derived.RangeFuncBox
import Derived.RangeFuncLeaves
import Derived.RangeFuncCalls
import Derived.RangeFuncBound
import Derived.RangeFuncNested
import Derived.Shelf.Abstract
import Derived.WalkKit
import Derived.OwnWalkIn
import Derived.TacticsInMore
import Derived.LoopNIn
import Derived.LoopIn
import Derived.Maps.AppendAt
import Derived.Test.YtfhbmeebkhefhaaCanJoin
import Derived.Test.YtfhbmeebkhefhaaRowIn
namespace Go.Proofs.Ytfhbmeebkhefhaa
open Go.RowKit Go.Shelf
set_option linter.unusedVariables false
set_option linter.unusedSimpArgs false
attribute [local go_sem] Oper.semAt_some

/-- what a loop's invariant abides: draws, and new blocks -/
theorem abides_below {β : Type} {B : Nat} {J : β → World → Prop} (h : AbidesFrom B J) {s : β} {W W' : World} (hs : J s W) (hb : Below W.heap.size W W') : J s W' :=
  h s W W' none hs ⟨hb.os, hb.tape, hb.output, hb.size, fun k hk _ => hb.block k hk⟩ (fun r e => by cases e)
theorem abides_drewN {β : Type} {B : Nat} {J : β → World → Prop} (h : AbidesFrom B J) {s : β} {W : World} (hs : J s W) (d : Nat) : J s (W.drewN d) :=
  abides_below h hs (below_drewN (Below.refl _ _) d)

/-- how many chunks -/
def nCh (L n : Nat) : Nat := (L + n - 1) / n
theorem nCh_lt {L n k : Nat} (hn : 1 ≤ n) : k < nCh L n ↔ k * n < L := by
  unfold nCh
  rw [← Nat.succ_le_iff, Nat.le_div_iff_mul_le (by omega), Nat.succ_mul]
  omega

theorem range_prefix {k N : Nat} (h : k ≤ N) : List.range k <+: List.range N := by
  obtain ⟨d, rfl⟩ : ∃ d, N = k + d := ⟨N - k, by omega⟩
  exact ⟨(List.range d).map (k + ·), by rw [← List.range_add]⟩

set_option maxRecDepth 100000 in
set_option maxHeartbeats 4000000 in
theorem chunk1 (N l Bs Bn b o L cap n : Nat) (sa : Option Addr) (hsa : 0 < L → sa = some ⟨b, o, none⟩) (hn1 : 1 ≤ n) (hn2 : n ≤ 9223372036854775807) (hL : L ≤ 1000) (hLc : L ≤ cap) (J Jx : List Nat → World → Prop) (B : Nat) (hJ : AbidesFrom B J)
    (hY : ∀ pre x W, J pre W → pre.length < nCh L n → YieldAt Fence.wide (N - 1) Try.prog l #[.slice (some ⟨b, o + x * n * 6, none⟩) (min n (L - x * n)) (min n (L - x * n))] W fun e W' =>
      (e = .returned (.bool true) ∧ J (pre ++ [x]) W' ∧ KeepsAt (fun i => i = Bs ∨ i = Bn) W W') ∨ (e = .returned (.bool false) ∧ Jx (pre ++ [x]) W'))
    (W : World) (hBs : W.cell? ⟨Bs, 0, none⟩ = some (.slice sa L cap)) (hBn : W.cell? ⟨Bn, 0, none⟩ = some (.int .i64 (n : Int))) (h0 : J [] W) :
    CallsIn Fence.wide N Try.prog 20 #[.func (.yield l) #[] #[], .pointer (some ⟨Bs, 0, none⟩), .pointer (some ⟨Bn, 0, none⟩)] W fun e W' => (∃ v, e = .returned v) ∧
      ((∃ ys, ys = List.range (nCh L n) ∧ J ys W') ∨ (∃ pre, pre <+: List.range (nCh L n) ∧ Jx pre W')) := by
  refine callsIn_of_wp Try.func20 rfl trivial ?_ rfl
  simp only [Try.ntmps20, List.size_toArray, List.length_cons, List.length_nil, Nat.reduceAdd, Nat.reduceSub, Array.replicate_succ, Array.replicate_zero, List.push_toArray, List.append_toArray, List.nil_append, List.cons_append]
  gi_wp2
  gi_loopw [4] (fun i wr => ∃ k : Nat, k ≤ nCh L n ∧ i = .int .i64 ((k * n : Nat) : Int) ∧ J (List.range k) wr ∧ KeepsAt (fun i => i = Bs ∨ i = Bn) W wr) (fun i _ => L - (intOf i).toNat)
  case atStart => exact ⟨0, Nat.zero_le _, by simp, h0, fun _ _ => rfl⟩
  case round =>
    obtain ⟨k, hk, rfl, hJs, hnx⟩ := hrel
    have c1 := (hnx.cell (a := ⟨Bs, 0, none⟩) (.inl rfl)).trans hBs
    have c2 := (hnx.cell (a := ⟨Bn, 0, none⟩) (.inr rfl)).trans hBn
    by_cases hlt : k < nCh L n
    · have hq := (nCh_lt (L := L) hn1).1 hlt
      rw [hsa (by omega)] at c1
      have hkn : k * n = 0 ∨ n ≤ k * n := by
        rcases Nat.eq_zero_or_pos k with h | h
        · exact .inl (by rw [h, Nat.zero_mul])
        · exact .inr (Nat.le_mul_of_pos_left n h)
      obtain ⟨q, hqe⟩ : ∃ q, q = k * n := ⟨_, rfl⟩
      have hmn := fun ts t w => run_min2 (P := Try.prog) ts t (n : Int) ((L - q : Nat) : Int) w
      have hm0 : min (n : Int) ((L - q : Nat) : Int) = ((min n (L - q) : Nat) : Int) := by omega
      rw [hm0] at hmn
      obtain ⟨m, hm⟩ : ∃ m, m = min n (L - q) := ⟨_, rfl⟩
      rw [← hm] at hmn
      have hmL : q + m ≤ L := by omega
      have hm1 : 1 ≤ m := by omega
      have hkq : ((k : Int) * (n : Int)) = (q : Int) := by rw [hqe, Int.natCast_mul]
      have hHY := Lib.hid (fun d => hY _ k (wr.drewN d) (abides_drewN hJ hJs d) (by rw [List.length_range]; exact hlt))
      rw [← hqe] at hq hkn ⊢
      have HQ := Lib.hid hqe
      have hqL : (q : Int) < (L : Int) := by omega
      have hqc : ¬ q = cap := by omega
      have hw1 : IntKind.i64.wrap ((L : Int) - (q : Int)) = (L : Int) - (q : Int) := IntWalk.i64_in _ (by omega)
      have hw2 : IntKind.i64.wrap ((q : Int) + (m : Int)) = ((q + m : Nat) : Int) := by rw [IntWalk.i64_in _ (by omega)]; omega
      have hJs2 := Lib.hid hJs
      have hHM := Lib.hid hm
      clear hm0 hqe hm hJs hY
      gi_wp2
      refine wpIn_wide.2 ?_
      go_quiet (fail)
      obtain ⟨fn, tmps, assign, body, hy, hR⟩ := hHY.out nq
      rw [← HQ.out, ← hHM.out] at hy
      gi_wp2
      refine ⟨fun h => (by simp [Fence.wide] at h), hR.mono ?_⟩
      have hq1 : IntKind.i64.wrap ((q : Int) + (n : Int)) = ((q + n : Nat) : Int) := by rw [IntWalk.i64_in _ (by omega)]; omega
      clear hR hy
      rintro e W3 (⟨rfl, hJ3, hk3⟩ | ⟨rfl, hJx3⟩)
      · have c3 := (hk3.cell (a := ⟨Bn, 0, none⟩) (.inr rfl)).trans c2
        gi_wp2
        go_roundw
        case rel => exact ⟨k + 1, by omega, by congr 1; rw [Nat.succ_mul, ← HQ.out]; omega, by rw [List.range_succ]; exact hJ3, keepsAt_t (hnx.drewN nq) hk3⟩
        case measure => simp [intOf]; omega
      · gi_wp2
        refine bodyPost_ret (results_none rfl _ _ _) rfl ?_
        refine ⟨⟨_, rfl⟩, .inr ⟨List.range (k + 1), ?_, by rw [List.range_succ]; exact hJx3⟩⟩
        exact range_prefix (by omega)
    · have hq : ¬ k * n < L := fun h => hlt ((nCh_lt (L := L) hn1).2 h)
      obtain ⟨q, hqe⟩ : ∃ q, q = k * n := ⟨_, rfl⟩
      rw [← hqe] at hq ⊢
      have hq2 : ¬ (q : Int) < (L : Int) := by omega
      have hkq : ((k : Int) * (n : Int)) = (q : Int) := by rw [hqe, Int.natCast_mul]
      obtain rfl : k = nCh L n := by omega
      clear hqe
      gi_wp2
      go_end0
      exact ⟨⟨_, rfl⟩, .inl hJs⟩
end Go.Proofs.Ytfhbmeebkhefhaa
