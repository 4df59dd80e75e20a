/-
  Each so many candles as one: candle.Fold.
-/
import Derived.Test.YtfhbmeebkhefhaaCanChunk
import Derived.Test.YtfhbmeebkhefhaaRowIn
namespace Go.Proofs.Ytfhbmeebkhefhaa
open Go.RowKit Go.Shelf
set_option linter.unusedVariables false
set_option linter.unusedSimpArgs false
attribute [local go_sem] Oper.semAt_some

def chunkOf (l : List CandleR) (n k : Nat) : List CandleR := (l.drop (k * n)).take n
theorem chunkOf_length (l : List CandleR) (n k : Nat) : (chunkOf l n k).length = min n (l.length - k * n) := by simp [chunkOf]
theorem chunkOf_mem {l : List CandleR} {n k : Nat} {x : CandleR} (h : x ∈ chunkOf l n k) : x ∈ l := List.mem_of_mem_drop (List.mem_of_mem_take h)
theorem chunkOf_rows {w : World} {b o : Nat} {l : List CandleR} (h : RowsAt w (some ⟨b, o, none⟩) 6 CandleR.row l) (n k : Nat) : RowsAt w (some ⟨b, o + k * n * 6, none⟩) 6 CandleR.row (chunkOf l n k) := by
  refine ⟨.inr ⟨b, o + k * n * 6, rfl, fun i r hi j v hv => ?_⟩⟩
  have hi2 : l[k * n + i]? = some r := by
    unfold chunkOf at hi
    rw [List.getElem?_take] at hi
    split at hi
    · rwa [List.getElem?_drop] at hi
    · cases hi
  rcases h.out with e | ⟨b', o', e, hc⟩
  · rw [e] at hi2; simp at hi2
  · cases e
    have := hc _ r hi2 j v hv
    rw [show o + k * n * 6 + (i * 6 + j) = o + ((k * n + i) * 6 + j) by rw [Nat.add_mul]; omega]
    exact this

theorem joinA_err (l : List CandleR) : ∀ c : CandleR, (joinA c l).2 = 0 ∨ (joinA c l).2 = 24 := by
  induction l with
  | nil => intro c; exact .inl rfl
  | cons d l ih =>
    intro c
    unfold joinA
    split
    · exact ih _
    · rename_i h
      refine .inr ?_
      unfold joinC at h ⊢
      split at h
      · exact absurd rfl h
      · split at h
        · exact absurd rfl h
        · split at h
          · exact absurd rfl h
          · rename_i h1 h2 h3
            rw [if_neg h1, if_neg h2, if_neg h3]
theorem joinL_err (l : List CandleR) : (joinL l).2 = 0 ∨ (joinL l).2 = 24 := joinA_err l _

/-- what Fold hands back -/
def FoldIs (l : List CandleR) (n : Nat) (res : List CandleR) (e : Int) : Prop :=
  ((∀ k, k < nCh l.length n → (joinL (chunkOf l n k)).2 = 0) ∧ e = 0 ∧ res = (List.range (nCh l.length n)).map fun k => (joinL (chunkOf l n k)).1) ∨
  ((∃ k, k < nCh l.length n ∧ (joinL (chunkOf l n k)).2 ≠ 0) ∧ e = 24 ∧ res = [])

theorem info_candle : (Try.prog.info? 42).map (fun i => (i.zero, i.size, i.bytes)) = some (some (.agg zeroC.arr), 6, 48) := by kernel_rfl

theorem chunk_make (a : Option Addr) (L cap n : Nat) (hn : 1 ≤ n) (w : World) :
    Calls Try.prog 16 #[.slice a L cap, .int .i64 (n : Int)] w fun e w' => e = .returned (.func (.func 20) #[] #[.pointer (some ⟨w.heap.size, 0, none⟩), .pointer (some ⟨w.heap.size + 1, 0, none⟩)]) ∧
      w' = (w.alloc (.cells #[.slice a L cap] 27)).alloc (.cells #[.int .i64 (n : Int)] 3) := by
  have hn2 : ¬ (n : Int) < 1 := by omega
  go_enter Try.func16, Try.ntmps16
  have hmf : ∀ (fn : Fn) (first cap : Array Value) (w : World), (Instr.makeFunc fn first cap).run Try.prog w = .ok (.func fn first cap) w := fun _ _ _ _ => rfl
  go_wp2
  go_ret
  exact ⟨rfl, rfl⟩

theorem chunk_stops (N : Nat) (sa : Option Addr) (L cap n Bs Bn b o : Nat) (hsa : 0 < L → sa = some ⟨b, o, none⟩) (hn1 : 1 ≤ n) (hn2 : n ≤ 9223372036854775807) (hL : L ≤ 1000) (hLc : L ≤ cap) (w : World) (hBs0 : Bs < w.heap.size) (hBn0 : Bn < w.heap.size)
    (hBs : w.cell? ⟨Bs, 0, none⟩ = some (.slice sa L cap)) (hBn : w.cell? ⟨Bn, 0, none⟩ = some (.int .i64 (n : Int))) :
    SeqStopsK Fence.wide N Try.prog 20 #[.pointer (some ⟨Bs, 0, none⟩), .pointer (some ⟨Bn, 0, none⟩)] (fun x : Nat => #[Value.slice (some ⟨b, o + x * n * 6, none⟩) (min n (L - x * n)) (min n (L - x * n))]) (KeepsAt (fun i => i = Bs ∨ i = Bn))
      (fun ys => ys = List.range (nCh L n)) (fun pre => pre <+: List.range (nCh L n)) (nCh L n) w := fun l J Jx W hW hJ hJx hY h0 =>
  chunk1 N l Bs Bn b o L cap n sa hsa hn1 hn2 hL hLc J Jx _ hJ hY W ((hW.cell (p := ⟨Bs, 0, none⟩) (by show Bs < w.heap.size; omega)).trans hBs) ((hW.cell (p := ⟨Bn, 0, none⟩) (by show Bn < w.heap.size; omega)).trans hBn) h0

theorem joinL_ok (l : List CandleR) (hl : ∀ x ∈ l, x.ok 1000) (hn : l.length ≤ 1000) : (joinL l).1.ok 1000000 := by
  have key : ∀ (l : List CandleR) (c : CandleR) (K : Int), 0 ≤ K → c.ok K → (∀ x ∈ l, x.ok 1000) → (joinA c l).1.ok (K + 1000 * l.length) := by
    intro l
    induction l with
    | nil => intro c K h0 hc _; simpa [joinA] using hc
    | cons d l ih =>
      intro c K h0 hc hl
      unfold joinA
      split
      · have h := ih (joinC c d).1 (K + 1000) (by omega) (joinC_ok hc (hl d List.mem_cons_self) h0 (by omega)) fun x hx => hl x (List.mem_cons_of_mem _ hx)
        refine ⟨h.size, h.t0, ?_⟩
        have := h.t1
        simp only [List.length_cons]
        omega
      · exact zero_ok _ (by omega)
  have h := key l zeroC 0 (by omega) (zero_ok 0 (by omega)) hl
  exact ⟨h.size, h.t0, by have := h.t1; unfold joinL; omega⟩

set_option maxRecDepth 100000 in
set_option maxHeartbeats 4000000 in
theorem candle_fold (l : List CandleR) (sa : Option Addr) (cap n : Nat) (w : World) (hr : RowsAt w sa 6 CandleR.row l) (hok : ∀ x ∈ l, x.ok 1000) (hlen : l.length ≤ 900) (hcap : l.length ≤ cap) (hn1 : 1 ≤ n) (hn2 : n ≤ 9223372036854775807) :
    Calls Try.prog 11 #[.slice sa l.length cap, .int .i64 (n : Int)] w fun e w' => ∃ A c res er, e = .returned (.tuple #[.slice A res.length c, .int .i64 er]) ∧ FoldIs l n res er ∧ RowsAt w' A 6 CandleR.row res ∧ Below w.heap.size w w' ∧ res.length ≤ c := by
  obtain ⟨b, o, hsa⟩ : ∃ b o, 0 < l.length → sa = some ⟨b, o, none⟩ := by
    rcases hr.out with e | ⟨b, o, e, _⟩
    · exact ⟨0, 0, fun h => by rw [e] at h; simp at h⟩
    · exact ⟨b, o, fun _ => e⟩
  have hn3 : ¬ (n : Int) < 1 := by omega
  have hW0 : Below w.heap.size w w := Below.refl _ _
  have HR := Lib.hid hr
  clear hr
  refine (callsIn_wide (n := 5)).1 ?_
  refine callsIn_of_wp_marks Try.func11 rfl trivial ?_ rfl
  simp only [Try.ntmps11, List.size_toArray, List.length_cons, List.length_nil, Nat.reduceAdd, Nat.reduceSub, Array.replicate_succ, Array.replicate_zero, List.push_toArray, List.append_toArray, List.nil_append, List.cons_append]
  gi_wp2_with (refine ⟨trivial, ?_⟩; gi_at_call 16; refine (callsIn_wide.2 (chunk_make _ _ _ n hn1 _)).mono ?_; rintro e w' ⟨rfl, rfl⟩)
  have hsz : (((((w.alloc (.cells #[Value.slice none 0 0] 27)).alloc (.cells #[Value.int .i64 0] 28)).alloc (.cells #[Value.slice none 0 0] 27)).alloc (.cells #[.slice sa l.length cap] 27)).alloc (.cells #[.int .i64 (n : Int)] 3)).heap.size = w.heap.size + 5 := by simp
  have hB0 : Below w.heap.size w (((((w.alloc (.cells #[Value.slice none 0 0] 27)).alloc (.cells #[Value.int .i64 0] 28)).alloc (.cells #[Value.slice none 0 0] 27)).alloc (.cells #[.slice sa l.length cap] 27)).alloc (.cells #[.int .i64 (n : Int)] 3)) := by (repeat (first | exact Below.refl _ _ | assumption | apply below_drewN | (refine Below.setCell ?_ (by first | assumption | omega | (simp; try omega)) _) | (refine Below.alloc ?_ (by first | assumption | omega | (simp; try omega)) _)))
  have b4 : Boxed (((((w.alloc (.cells #[Value.slice none 0 0] 27)).alloc (.cells #[Value.int .i64 0] 28)).alloc (.cells #[Value.slice none 0 0] 27)).alloc (.cells #[.slice sa l.length cap] 27)).alloc (.cells #[.int .i64 (n : Int)] 3)) w.heap.size 27 (.slice none 0 0) := ((((Boxed.new w _ _).alloc _).alloc _).alloc _).alloc _
  have b5 : Boxed (((((w.alloc (.cells #[Value.slice none 0 0] 27)).alloc (.cells #[Value.int .i64 0] 28)).alloc (.cells #[Value.slice none 0 0] 27)).alloc (.cells #[.slice sa l.length cap] 27)).alloc (.cells #[.int .i64 (n : Int)] 3)) (w.heap.size + 1) 28 (.int .i64 0) := by
    have := (((Boxed.new (w.alloc (.cells #[Value.slice none 0 0] 27)) 28 (.int .i64 0)).alloc (.cells #[Value.slice none 0 0] 27)).alloc (.cells #[.slice sa l.length cap] 27)).alloc (.cells #[.int .i64 (n : Int)] 3); rwa [World.size_alloc] at this
  have b6 : Boxed (((((w.alloc (.cells #[Value.slice none 0 0] 27)).alloc (.cells #[Value.int .i64 0] 28)).alloc (.cells #[Value.slice none 0 0] 27)).alloc (.cells #[.slice sa l.length cap] 27)).alloc (.cells #[.int .i64 (n : Int)] 3)) (w.heap.size + 1 + 1) 27 (.slice none 0 0) := by
    have := ((Boxed.new ((w.alloc (.cells #[Value.slice none 0 0] 27)).alloc (.cells #[Value.int .i64 0] 28)) 27 (.slice none 0 0)).alloc (.cells #[.slice sa l.length cap] 27)).alloc (.cells #[.int .i64 (n : Int)] 3); rwa [World.size_alloc, World.size_alloc] at this
  have b7 : Boxed (((((w.alloc (.cells #[Value.slice none 0 0] 27)).alloc (.cells #[Value.int .i64 0] 28)).alloc (.cells #[Value.slice none 0 0] 27)).alloc (.cells #[.slice sa l.length cap] 27)).alloc (.cells #[.int .i64 (n : Int)] 3)) (w.heap.size + 1 + 1 + 1) 27 (.slice sa l.length cap) := by
    have := (Boxed.new (((w.alloc (.cells #[Value.slice none 0 0] 27)).alloc (.cells #[Value.int .i64 0] 28)).alloc (.cells #[Value.slice none 0 0] 27)) 27 (.slice sa l.length cap)).alloc (.cells #[.int .i64 (n : Int)] 3); rwa [World.size_alloc, World.size_alloc, World.size_alloc] at this
  have b8 : Boxed (((((w.alloc (.cells #[Value.slice none 0 0] 27)).alloc (.cells #[Value.int .i64 0] 28)).alloc (.cells #[Value.slice none 0 0] 27)).alloc (.cells #[.slice sa l.length cap] 27)).alloc (.cells #[.int .i64 (n : Int)] 3)) (w.heap.size + 1 + 1 + 1 + 1) 3 (.int .i64 (n : Int)) := by
    have := Boxed.new ((((w.alloc (.cells #[Value.slice none 0 0] 27)).alloc (.cells #[Value.int .i64 0] 28)).alloc (.cells #[Value.slice none 0 0] 27)).alloc (.cells #[.slice sa l.length cap] 27)) 3 (.int .i64 (n : Int)); rwa [World.size_alloc, World.size_alloc, World.size_alloc, World.size_alloc] at this
  generalize hW0 : (((((w.alloc (.cells #[Value.slice none 0 0] 27)).alloc (.cells #[Value.int .i64 0] 28)).alloc (.cells #[Value.slice none 0 0] 27)).alloc (.cells #[.slice sa l.length cap] 27)).alloc (.cells #[.int .i64 (n : Int)] 3)) = W0 at hsz hB0 b4 b5 b6 b7 b8 ⊢
  refine wpIn_rangeFunc_ownG rfl (by decide) (gf := 20) (lb := #[.pointer (some ⟨w.heap.size + 1 + 1 + 1, 0, none⟩), .pointer (some ⟨w.heap.size + 1 + 1 + 1 + 1, 0, none⟩)]) rfl trivial (enters_of Try.func20 (by kernel_rfl) rfl)
    (chunk_stops 4 sa l.length cap n (w.heap.size + 1 + 1 + 1) (w.heap.size + 1 + 1 + 1 + 1) b o hsa hn1 hn2 (by omega) hcap W0 (by omega) (by omega) b7.cell b8.cell) keepsAt_t (keepsAt_b (by rintro k (rfl | rfl) <;> omega)) (Below.refl _ _) (fun _ => rfl)
    (fun pre W => Chg (w.heap.size + 1 + 1) W0 W ∧ (∃ v, Boxed W (w.heap.size + 1 + 1) 27 v ∧ W.ownsRow W0.heap.size 42 6 v pre.length ((pre.map fun k => (joinL (chunkOf l n k)).1).flatMap CandleR.row)) ∧ ∀ k ∈ pre, (joinL (chunkOf l n k)).2 = 0)
    (fun c pre W => (c = .ret ∧ ∃ k ∈ pre, (joinL (chunkOf l n k)).2 ≠ 0) ∧ Boxed W w.heap.size 27 (.slice none 0 0) ∧ Boxed W (w.heap.size + 1) 28 (.int .i64 24) ∧ Below w.heap.size w W)
    (ownFrom_collect (w.heap.size + 1 + 1) 27 42 6 W0 (fun pre : List Nat => pre.length) (fun pre : List Nat => (pre.map fun k => (joinL (chunkOf l n k)).1).flatMap CandleR.row) (fun pre : List Nat => ∀ k ∈ pre, (joinL (chunkOf l n k)).2 = 0))
    (fun c => (ownFrom_pure _ _).and ((ownFrom_boxed _ _ _ _).and ((ownFrom_boxed _ _ _ _).and (ownFrom_below (Nat.le_refl _) (by omega)))))
    ⟨Chg.refl _ _, ⟨_, b6, World.ownsRow_nil ..⟩, by simp⟩
    (fun x => { tmps := #[.slice sa l.length cap, .int .i64 (n : Int), undef, undef, .pointer (some ⟨w.heap.size, 0, none⟩), .pointer (some ⟨w.heap.size + 1, 0, none⟩), .pointer (some ⟨w.heap.size + 1 + 1, 0, none⟩), .slice (some ⟨b, o + x * n * 6, none⟩) (min n (l.length - x * n)) (min n (l.length - x * n)), undef, undef, .int .i64 (n : Int), .bool false, .slice sa l.length cap, .int .i64 (n : Int), .func (.func 20) #[] #[.pointer (some ⟨w.heap.size + 1 + 1 + 1, 0, none⟩), .pointer (some ⟨w.heap.size + 1 + 1 + 1 + 1, 0, none⟩)], .slice (some ⟨b, o + x * n * 6, none⟩) (min n (l.length - x * n)) (min n (l.length - x * n)), undef, undef, undef, undef, undef, undef, undef, undef, undef, undef, undef, undef, undef], defers := [] }) ?assign ?body ?done ?stop
  case assign =>
    intro L x W K hK
    gi_wp2
    exact hK
  case body =>
    rintro L pre k W ⟨hC, ⟨v, hv, hown⟩, hpre⟩ hlt
    have hL0 : 0 < l.length := by
      rcases Nat.eq_zero_or_pos l.length with h | h
      · exfalso; rw [h] at hlt; have : nCh 0 n = 0 := by unfold nCh; exact Nat.div_eq_of_lt (by omega)
        omega
      · exact h
    have hnle : nCh l.length n ≤ l.length := by
      refine Nat.le_of_not_lt fun h => ?_
      have h1 := (nCh_lt hn1).1 h
      have h2 := Nat.le_mul_of_pos_right l.length hn1
      omega
    have hrow : RowsAt W (some ⟨b, o + k * n * 6, none⟩) 6 CandleR.row (chunkOf l n k) := chunkOf_rows (by
      have h := HR.out.moved (hB0.trans (hC.below (by omega) (by omega)))
      rwa [hsa hL0] at h) n k
    have hJ : ∀ c, Calls Try.prog 17 #[.slice (some ⟨b, o + k * n * 6, none⟩) (min n (l.length - k * n) : Nat) c] W fun e w' => e = .returned (.tuple #[.agg (joinL (chunkOf l n k)).1.arr, .int .i64 (joinL (chunkOf l n k)).2]) ∧ Below W.heap.size W w' := by
      intro c
      rw [← chunkOf_length]
      exact candle_joinL _ _ c W hrow (fun x hx => hok x (chunkOf_mem hx)) (by rw [chunkOf_length]; omega)
    have herr := joinL_err (chunkOf l n k)
    have hT1 : ((pre ++ [k]).map fun k => (joinL (chunkOf l n k)).1) = (pre.map fun k => (joinL (chunkOf l n k)).1) ++ [(joinL (chunkOf l n k)).1] := by simp
    have hzz : (joinL (chunkOf l n k)).2 = 0 → ∀ q ∈ pre ++ [k], (joinL (chunkOf l n q)).2 = 0 := by
      intro h q hq
      rcases List.mem_append.1 hq with h1 | h1
      · exact hpre q h1
      · obtain rfl := List.mem_singleton.1 h1; exact h
    have hzx : (joinL (chunkOf l n k)).2 ≠ 0 → ∃ q ∈ pre ++ [k], (joinL (chunkOf l n q)).2 ≠ 0 := fun h => ⟨k, by simp, h⟩
    obtain ⟨z, hz⟩ : ∃ z, z = (joinL (chunkOf l n k)).1 := ⟨_, rfl⟩
    obtain ⟨e, he⟩ : ∃ e, e = (joinL (chunkOf l n k)).2 := ⟨_, rfl⟩
    rw [← hz, ← he] at hJ
    rw [← he] at herr hzz hzx
    rw [← hz] at hT1
    have HE := Lib.hid (show ((pre ++ [k]).map fun k => (joinL (chunkOf l n k)).1).flatMap CandleR.row = (pre.map fun k => (joinL (chunkOf l n k)).1).flatMap CandleR.row ++ z.arr.toList by rw [hT1, List.flatMap_append]; simp [CandleR.row])
    have HJ := Lib.hid hJ
    have HZ := Lib.hid hzz
    have HX := Lib.hid hzx
    obtain ⟨mm, hmm⟩ : ∃ mm, mm = min n (l.length - k * n) := ⟨_, rfl⟩
    obtain ⟨oo, hoo⟩ : ∃ oo, oo = o + k * n * 6 := ⟨_, rfl⟩
    rw [← hmm, ← hoo] at HJ ⊢
    clear hJ hT1 hzz hzx hz he hrow hmm hoo
    have h4 : Boxed W w.heap.size 27 (.slice none 0 0) := hC.heap (by omega) b4
    have h5 : Boxed W (w.heap.size + 1) 28 (.int .i64 0) := hC.heap (by omega) b5
    rcases herr with rfl | rfl
    · gi_wp2_with (first | (refine ⟨trivial, ?_⟩; gi_at_call 17; (with_reducible refine (CallsIn.inRound L (callsIn_wide.2 (HJ.out _))).mono ?_); rintro e w1 ⟨rfl, hB1⟩; have hc1 := (box_later hv hB1).cell; have hl1 := (box_later hv hB1).lt; have hn1' := Nat.ne_of_lt hl1; have hs1 := hB1.size) | (gi_at_builtin; (refine wpIn_append_row rfl _ _ 27 rfl W0.heap.size 42 Try.underlying27 (.agg zeroC.arr) 6 48 info_candle rfl (by decide) (by decide) _ v pre.length _ rfl (own_moved hown (by (repeat (first | exact Below.refl _ _ | assumption | apply below_drewN | (refine Below.setCell ?_ (by first | assumption | omega | (simp; try omega)) _) | (refine Below.alloc ?_ (by first | assumption | omega | (simp; try omega)) _))))) z.arr (w1.heap.size + 1) (by first | exact heap_alloc2_new _ _ _ | exact heap_new (by simp)) rfl (by simp [Value.oneCell']) rfl (by omega) (by have := hC.size; simp; omega) ?_); intro g cap2 w2 hown2 hgrow; obtain ⟨hv1, hv2, hr2, hk2, hc2⟩ := boxed_push (box_later hv (by (repeat (first | exact Below.refl _ _ | assumption | apply below_drewN | (refine Below.setCell ?_ (by first | assumption | omega | (simp; try omega)) _) | (refine Below.alloc ?_ (by first | assumption | omega | (simp; try omega)) _))))) (by decide) (own_moved hown (by (repeat (first | exact Below.refl _ _ | assumption | apply below_drewN | (refine Below.setCell ?_ (by first | assumption | omega | (simp; try omega)) _) | (refine Below.alloc ?_ (by first | assumption | omega | (simp; try omega)) _))))) (by have := hC.size; simp; omega) (by omega) hown2 hgrow; have hvc := hv1.cell; have hvf := hv1.frozen))
      have hBw : Below W.heap.size W ((w1.alloc (.cells z.arr 42)).alloc (.cells z.arr 42)) := by (repeat (first | exact Below.refl _ _ | assumption | apply below_drewN | (refine Below.setCell ?_ (by first | assumption | omega | (simp; try omega)) _) | (refine Below.alloc ?_ (by first | assumption | omega | (simp; try omega)) _)))
      have hcF := hc2 W0 rfl (hC.trans (Chg.ofBelow hBw))
      rw [← hsz]
      refine ⟨((keeps_below hBw).trans hk2).from _, keepsAt_chg hC hcF (by rintro q (rfl | rfl) <;> omega), hcF, ⟨_, hv2, ?_⟩, HZ.out (by first | trivial | rfl)⟩
      rw [HE.out, List.length_append]
      exact hr2
    · gi_wp2_with (first | (refine ⟨trivial, ?_⟩; gi_at_call 17; (with_reducible refine (CallsIn.inRound L (callsIn_wide.2 (HJ.out _))).mono ?_); rintro e w1 ⟨rfl, hB1⟩; have hc4 := (box_later h4 hB1).cell; have hf4 := (box_later h4 hB1).frozen; have hc5 := (box_later h5 hB1).cell; have hf5 := (box_later h5 hB1).frozen; have hl4 := (box_later h4 hB1).lt; have hn4 := Nat.ne_of_lt hl4; have hl5 := (box_later h5 hB1).lt; have hn5 := Nat.ne_of_lt hl5))
      have hB2 : Below w.heap.size w W := hB0.trans (hC.below (by omega) (by omega))
      have hBw : Below w.heap.size w w1 := hB2.trans (hB1.mono hB2.size)
      refine ⟨((((keeps_below hB1).trans (KeepsOthers.setCell _ _ _)).trans (KeepsOthers.setCell _ _ _)).trans (KeepsOthers.alloc _ _)).from _, ⟨rfl, HX.out (by first | trivial | decide)⟩, ?_, ?_, ?_⟩
      · exact ((((box_later h4 hB1).set _).other (by omega) _).alloc _)
      · exact ((((box_later h5 hB1).other (by omega) _).set _).alloc _)
      · have hs1 := hBw.size
        (repeat (first | exact Below.refl _ _ | assumption | apply below_drewN | (refine Below.setCell ?_ (by first | assumption | omega | (simp; try omega)) _) | (refine Below.alloc ?_ (by first | assumption | omega | (simp; try omega)) _)))
  case done =>
    rintro D ys W hD rfl ⟨hC, ⟨v, hv, hown⟩, hpre⟩ hK
    have h4 : Boxed W w.heap.size 27 (.slice none 0 0) := hC.heap (by omega) b4
    have h5 : Boxed W (w.heap.size + 1) 28 (.int .i64 0) := hC.heap (by omega) b5
    have hc4 := h4.cell
    have hf4 := h4.frozen
    have hc5 := h5.cell
    have hf5 := h5.frozen
    have hc6 := hv.cell
    obtain ⟨A, cc, rfl, hrA, hcc, _⟩ := own_rowsN (enc := CandleR.row) (m := 6) (l := (List.range (nCh l.length n)).map fun k => (joinL (chunkOf l n k)).1) (by have h := hown; rwa [show (List.range (nCh l.length n)).length = ((List.range (nCh l.length n)).map fun k => (joinL (chunkOf l n k)).1).length by simp] at h) (fun r => rfl)
    gi_wp2
    have hK2 : ((W.setCell ⟨w.heap.size, 0, none⟩ (.slice A (nCh l.length n) cc)).setCell ⟨w.heap.size + 1, 0, none⟩ (.int .i64 0)).heap[D]? = some (.deferred (some [])) := by
      rw [Below.heap_setCell _ _ _ _ (by show D ≠ w.heap.size + 1; omega), Below.heap_setCell _ _ _ _ (by show D ≠ w.heap.size; omega)]; exact hK
    have hB2 : Below w.heap.size w ((W.setCell ⟨w.heap.size, 0, none⟩ (.slice A (nCh l.length n) cc)).setCell ⟨w.heap.size + 1, 0, none⟩ (.int .i64 0)) := by
      have := hB0.trans (hC.below (by omega) (by omega))
      (repeat (first | exact Below.refl _ _ | assumption | apply below_drewN | (refine Below.setCell ?_ (by first | assumption | omega | (simp; try omega)) _) | (refine Below.alloc ?_ (by first | assumption | omega | (simp; try omega)) _)))
    refine ⟨by simp, .inl ⟨_, _, rfl, run_takeDeferred hK2, ?_⟩⟩
    have hput := grownBy_putObj' ((W.setCell ⟨w.heap.size, 0, none⟩ (.slice A (nCh l.length n) cc)).setCell ⟨w.heap.size + 1, 0, none⟩ (.int .i64 0)) D (.deferred none)
    refine ⟨_, results_boxes (P := Try.prog) Try.results11 _ _ w.heap.size (w.heap.size + 1) _ _ rfl rfl (((h4.set _).other (by omega) _).kept hput (by intro e; cases e; omega)) (((h5.other (by omega) _).set _).kept hput (by intro e; cases e; omega)) (fun w => by simp [isAgg, go_sem, Try.underlying27]) (fun w => by simp [isAgg, go_sem, Try.underlying28]), ?_⟩
    refine ⟨A, cc, (List.range (nCh l.length n)).map fun k => (joinL (chunkOf l n k)).1, 0, by simp, .inl ⟨fun k hk => hpre k (by simpa using hk), rfl, rfl⟩, ?_, ?_, by simpa using hcc⟩
    · have ho1 := hown.kept (grownBy_setCell' W w.heap.size (.slice A (nCh l.length n) cc)) (.inr (h4.not_row (by decide) hown).symm)
      have h51 : Boxed (W.setCell ⟨w.heap.size, 0, none⟩ (.slice A (nCh l.length n) cc)) (w.heap.size + 1) 28 (.int .i64 0) := h5.other (by omega) _
      have ho2 := ho1.kept (grownBy_setCell' _ (w.heap.size + 1) (.int .i64 0)) (.inr (h51.not_row (by decide) ho1).symm)
      have ho3 := ownsRow_putObj ho2 (.deferred none) hK2 rfl
      obtain ⟨A2, c2, e2, hrA2, _⟩ := own_rowsN (enc := CandleR.row) (m := 6) (l := (List.range (nCh l.length n)).map fun k => (joinL (chunkOf l n k)).1) (by have h := ho3; rwa [show (List.range (nCh l.length n)).length = ((List.range (nCh l.length n)).map fun k => (joinL (chunkOf l n k)).1).length by simp] at h) (fun r => rfl)
      cases e2
      exact hrA2
    · exact hB2.trans (belowK_b (w := w) (Nat.le_refl _) _ D _ _ (by omega) hK2 rfl rfl)
  case stop =>
    rintro D c pre W hD hp ⟨⟨rfl, hex⟩, h4, h5, hB⟩ hK
    gi_wp2
    refine ⟨by simp, .inl ⟨_, _, rfl, run_takeDeferred hK, ?_⟩⟩
    have hput := grownBy_putObj' W D (.deferred none)
    refine ⟨_, results_boxes (P := Try.prog) Try.results11 _ _ w.heap.size (w.heap.size + 1) _ _ rfl rfl (h4.kept hput (by intro e; cases e; omega)) (h5.kept hput (by intro e; cases e; omega)) (fun w => by simp [isAgg, go_sem, Try.underlying27]) (fun w => by simp [isAgg, go_sem, Try.underlying28]), ?_⟩
    obtain ⟨k, hk, hne⟩ := hex
    have hkk : k < nCh l.length n := by have := hp.subset hk; simpa using this
    exact ⟨none, 0, [], 24, rfl, .inr ⟨⟨k, hkk, hne⟩, rfl, rfl⟩, ⟨.inl rfl⟩, hB.trans (belowK_b (w := w) (Nat.le_refl _) _ D _ _ (by omega) hK rfl rfl), Nat.le_refl _⟩

/-- none of nothing -/
theorem candle_fold_bad (a : Value) (n : Int) (w : World) (hn : n < 1) :
    Calls Try.prog 11 #[a, .int .i64 n] w fun e w' => e = .returned (.tuple #[.slice none 0 0, .int .i64 2]) ∧ Below w.heap.size w w' := by
  refine (callsIn_wide (n := 5)).1 ?_
  refine callsIn_of_wp_marks Try.func11 rfl trivial ?_ rfl
  simp only [Try.ntmps11, List.size_toArray, List.length_cons, List.length_nil, Nat.reduceAdd, Nat.reduceSub, Array.replicate_succ, Array.replicate_zero, List.push_toArray, List.append_toArray, List.nil_append, List.cons_append]
  gi_wp2
  refine ⟨_, results_boxes (P := Try.prog) Try.results11 _ _ w.heap.size (w.heap.size + 1) _ _ rfl rfl ((Boxed.new w _ _).alloc _) (by have := Boxed.new (w.alloc (.cells #[Value.slice none 0 0] 27)) 28 (.int .i64 2); rwa [World.size_alloc] at this) (fun w => by simp [isAgg, go_sem, Try.underlying27]) (fun w => by simp [isAgg, go_sem, Try.underlying28]), rfl, by (repeat (first | exact Below.refl _ _ | assumption | apply below_drewN | (refine Below.setCell ?_ (by first | assumption | omega | (simp; try omega)) _) | (refine Below.alloc ?_ (by first | assumption | omega | (simp; try omega)) _)))⟩
end Go.Proofs.Ytfhbmeebkhefhaa
