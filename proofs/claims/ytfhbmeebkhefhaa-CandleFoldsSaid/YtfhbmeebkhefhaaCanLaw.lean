/-
  The plain law of folding: one behind another is both. How far a candle went.
-/
import Derived.Test.YtfhbmeebkhefhaaLawCandleMakes
namespace Go.Proofs.Ytfhbmeebkhefhaa
open Go.RowKit
set_option linter.unusedVariables false
set_option linter.unusedSimpArgs false

/-- all of a row, sizes as they come -/
def G : List CandleR → CandleR
  | [] => zeroC
  | d :: l => l.foldl glue d
theorem glue_assoc (a b c : CandleR) : glue (glue a b) c = glue a (glue b c) := by
  simp only [glue, CandleR.mk.injEq]
  refine ⟨trivial, ?_, ?_, trivial, ?_, ?_⟩ <;> omega
theorem foldl_glue (a b : CandleR) (l : List CandleR) : l.foldl glue (glue a b) = glue a (l.foldl glue b) := by
  induction l generalizing b with
  | nil => rfl
  | cons d l ih => simp only [List.foldl_cons]; rw [glue_assoc, ih]
theorem G_append (a b : List CandleR) (ha : a ≠ []) (hb : b ≠ []) : G (a ++ b) = glue (G a) (G b) := by
  obtain ⟨x, a, rfl⟩ := List.exists_cons_of_ne_nil ha
  obtain ⟨y, b, rfl⟩ := List.exists_cons_of_ne_nil hb
  simp only [G, List.cons_append, List.foldl_append, List.foldl_cons]
  rw [foldl_glue]
theorem G_flatten : ∀ ls : List (List CandleR), ls ≠ [] → (∀ l ∈ ls, l ≠ []) → G (ls.map G) = G ls.flatten := by
  intro ls
  induction ls with
  | nil => intro h _; exact absurd rfl h
  | cons l ls ih =>
    intro _ hl
    by_cases hls : ls = []
    · subst hls; simp [G]
    · have h2 : ls.flatten ≠ [] := by
        obtain ⟨y, m, rfl⟩ := List.exists_cons_of_ne_nil hls
        intro h
        exact hl y (by simp) (by simp at h; exact h.1)
      have h3 : ls.map G ≠ [] := by simpa using hls
      have h4 := ih hls (fun l hl' => hl l (List.mem_cons_of_mem _ hl'))
      rw [List.flatten_cons, G_append _ _ (hl l List.mem_cons_self) h2, ← h4]
      have h5 := G_append [G l] (ls.map G) (by simp) h3
      simpa [G] using h5

theorem joinA_G (l : List CandleR) : ∀ c : CandleR, 0 < c.trades → (∀ x ∈ l, 0 < x.trades) → (joinA c l).2 = 0 → (joinA c l).1 = l.foldl glue c := by
  induction l with
  | nil => intro c _ _ _; rfl
  | cons d l ih =>
    intro c hc hl h
    have hd := hl d List.mem_cons_self
    have h1 : ¬ c.trades = 0 := by omega
    have h2 : ¬ d.trades = 0 := by omega
    unfold joinA at h ⊢
    split at h
    · rename_i h0
      rw [if_pos h0]
      have e : (joinC c d).1 = glue c d := by
        unfold joinC at h0 ⊢
        rw [if_neg h1, if_neg h2] at h0 ⊢
        split at h0
        · rename_i h4; rw [if_pos h4]
        · cases h0
      rw [e] at h ⊢
      exact ih _ (by simp only [glue]; omega) (fun x hx => hl x (List.mem_cons_of_mem _ hx)) h
    · rename_i h0
      exact absurd h h0
theorem joinL_G (l : List CandleR) (hl : ∀ x ∈ l, 0 < x.trades) (h : (joinL l).2 = 0) : (joinL l).1 = G l := by
  cases l with
  | nil => rfl
  | cons d l => exact joinA_G l d (hl d List.mem_cons_self) (fun x hx => hl x (List.mem_cons_of_mem _ hx)) h
theorem G_trades (l : List CandleR) (hl : ∀ x ∈ l, 0 < x.trades) (hne : l ≠ []) : 0 < (G l).trades := by
  obtain ⟨d, l, rfl⟩ := List.exists_cons_of_ne_nil hne
  have hd := hl d List.mem_cons_self
  have hl2 : ∀ x ∈ l, 0 < x.trades := fun x hx => hl x (List.mem_cons_of_mem _ hx)
  clear hne hl
  show 0 < (l.foldl glue d).trades
  induction l generalizing d with
  | nil => exact hd
  | cons e l ih => exact ih (glue d e) (by have := hl2 e List.mem_cons_self; simp only [glue]; omega) (fun x hx => hl2 x (List.mem_cons_of_mem _ hx))

/-- a candle as trades make them -/
structure CandleR.fine (c : CandleR) : Prop where
  f : in64 c.first = true
  l : in64 c.last = true
  lf : c.low ≤ c.first
  lh : c.low ≤ c.high
  hl : c.last ≤ c.high
theorem glue_fine {c d : CandleR} (hc : c.fine) (hd : d.fine) : (glue c d).fine :=
  ⟨hc.f, hd.l, by have := hc.lf; simp only [glue]; omega, by have := hc.lh; simp only [glue]; omega, by have := hd.hl; simp only [glue]; omega⟩
theorem G_fine (l : List CandleR) (hl : ∀ x ∈ l, x.fine) (hne : l ≠ []) : (G l).fine := by
  obtain ⟨d, l, rfl⟩ := List.exists_cons_of_ne_nil hne
  have hd := hl d List.mem_cons_self
  have hl2 : ∀ x ∈ l, x.fine := fun x hx => hl x (List.mem_cons_of_mem _ hx)
  clear hne hl
  show (l.foldl glue d).fine
  induction l generalizing d with
  | nil => exact hd
  | cons e l ih => exact ih (glue d e) (glue_fine hd (hl2 e List.mem_cons_self)) (fun x hx => hl2 x (List.mem_cons_of_mem _ hx))

theorem chunk_ne {L : List CandleR} {n k : Nat} (hn : 1 ≤ n) (hk : k < nCh L.length n) : chunkOf L n k ≠ [] := by
  intro h
  have h1 := (nCh_lt hn).1 hk
  have := congrArg List.length h
  rw [chunkOf_length] at this
  simp only [List.length_nil] at this
  omega
theorem chunks_flat (L : List CandleR) (n : Nat) (a len : Nat) : ((List.range' a len).map (chunkOf L n)).flatten = (L.drop (a * n)).take (len * n) := by
  induction len generalizing a with
  | zero => simp
  | succ len ih =>
    rw [List.range'_succ, List.map_cons, List.flatten_cons, ih, Nat.succ_mul a n, Nat.succ_mul len n]
    unfold chunkOf
    rw [← List.drop_drop, Nat.add_comm (len * n) n, List.take_add]
theorem nCh_comp (L n m : Nat) (hn : 1 ≤ n) (hm : 1 ≤ m) : nCh (nCh L n) m = nCh L (n * m) := by
  have hnm : 1 ≤ n * m := Nat.mul_pos hn hm
  have key : ∀ k, k < nCh (nCh L n) m ↔ k < nCh L (n * m) := fun k => by
    rw [nCh_lt hm, nCh_lt hn, nCh_lt hnm, Nat.mul_assoc, Nat.mul_comm m n]
  rcases Nat.lt_trichotomy (nCh (nCh L n) m) (nCh L (n * m)) with h | h | h
  · exact absurd ((key _).2 h) (Nat.lt_irrefl _)
  · exact h
  · exact absurd ((key _).1 h) (Nat.lt_irrefl _)

theorem fold_G {L : List CandleR} {n : Nat} {x : List CandleR} (hL : ∀ c ∈ L, 0 < c.trades) (h : FoldIs L n x 0) : x = (List.range (nCh L.length n)).map fun k => G (chunkOf L n k) := by
  rcases h with ⟨h1, _, rfl⟩ | ⟨_, h, _⟩
  · apply List.map_congr_left
    intro k hk
    exact joinL_G _ (fun c hc => hL c (chunkOf_mem hc)) (h1 k (by simpa using hk))
  · cases h
theorem fold_pos {L : List CandleR} {n : Nat} {x : List CandleR} (hn : 1 ≤ n) (hL : ∀ c ∈ L, 0 < c.trades) (h : FoldIs L n x 0) : ∀ c ∈ x, 0 < c.trades := by
  rw [fold_G hL h]
  intro c hc
  simp only [List.mem_map, List.mem_range] at hc
  obtain ⟨k, hk, rfl⟩ := hc
  exact G_trades _ (fun c hc => hL c (chunkOf_mem hc)) (chunk_ne hn hk)
theorem fold_fine {L : List CandleR} {n : Nat} {x : List CandleR} (hn : 1 ≤ n) (hL : ∀ c ∈ L, 0 < c.trades) (hf : ∀ c ∈ L, c.fine) (h : FoldIs L n x 0) : ∀ c ∈ x, c.fine := by
  rw [fold_G hL h]
  intro c hc
  simp only [List.mem_map, List.mem_range] at hc
  obtain ⟨k, hk, rfl⟩ := hc
  exact G_fine _ (fun c hc => hf c (chunkOf_mem hc)) (chunk_ne hn hk)
/-- one behind another is both -/
theorem fold_fold {L x y z : List CandleR} {n m : Nat} (hn : 1 ≤ n) (hm : 1 ≤ m) (hL : ∀ c ∈ L, 0 < c.trades) (hx : FoldIs L n x 0) (hy : FoldIs x m y 0) (hz : FoldIs L (n * m) z 0) : y = z := by
  have ey := fold_G (fold_pos hn hL hx) hy
  have ex := fold_G hL hx
  have ez := fold_G hL hz
  have hlx : x.length = nCh L.length n := by rw [ex]; simp
  rw [ey, ez, hlx, nCh_comp _ _ _ hn hm]
  apply List.map_congr_left
  intro j hj
  have hj2 : j < nCh L.length (n * m) := by simpa using hj
  have hjm : j * m < nCh L.length n := by rw [← nCh_comp _ _ _ hn hm] at hj2; exact (nCh_lt hm).1 hj2
  have e1 : chunkOf x m j = ((List.range' (j * m) (min m (nCh L.length n - j * m))).map (chunkOf L n)).map G := by
    unfold chunkOf
    rw [ex, ← List.map_drop, ← List.map_take, List.map_map]
    congr 1
    apply List.ext_getElem
    · simp
    · intro i h1 h2
      simp
  rw [e1, G_flatten, chunks_flat]
  · congr 1
    unfold chunkOf
    rw [Nat.mul_assoc, Nat.mul_comm m n]
    rcases Nat.lt_or_ge (nCh L.length n - j * m) m with h | h
    · rw [Nat.min_eq_right (by omega)]
      have hN : L.length ≤ nCh L.length n * n := Nat.le_of_not_lt fun h => absurd ((nCh_lt hn).2 h) (Nat.lt_irrefl _)
      have e2 : j * (n * m) = j * m * n := by rw [Nat.mul_comm n m, ← Nat.mul_assoc]
      have e3 : (nCh L.length n - j * m) * n = nCh L.length n * n - j * m * n := Nat.sub_mul _ _ _
      have e4 : nCh L.length n * n ≤ (j * m + m) * n := Nat.mul_le_mul_right n (by omega)
      rw [Nat.add_mul] at e4
      rw [List.take_of_length_le, List.take_of_length_le]
      · rw [List.length_drop, e2, Nat.mul_comm n m]; omega
      · rw [List.length_drop, e2]; omega
    · rw [Nat.min_eq_left h, Nat.mul_comm m n]
  · intro h
    have := congrArg List.length h
    simp at this
    omega
  · intro l hl
    simp only [List.mem_map, List.mem_range'_1] at hl
    obtain ⟨k, hk, rfl⟩ := hl
    exact chunk_ne hn (by omega)
theorem ones_pos (l : List (Int × Int)) : ∀ c ∈ onesOf l, 0 < c.trades := by
  intro c hc
  simp only [onesOf, List.mem_map] at hc
  obtain ⟨r, _, rfl⟩ := hc
  show (0 : Int) < 1; decide
theorem ones_fine (l : List (Int × Int)) (h : ∀ r ∈ l, in64 r.1 = true) : ∀ c ∈ onesOf l, c.fine := by
  intro c hc
  simp only [onesOf, List.mem_map] at hc
  obtain ⟨r, h1, rfl⟩ := hc
  exact ⟨h r h1, h r h1, Int.le_refl _, Int.le_refl _, Int.le_refl _⟩

/-- how far -/
def bodyOf (c : CandleR) : Int := if in64 (c.last - c.first) = true then c.last - c.first else if c.last < c.first then -9223372036854775808 else 9223372036854775807

set_option maxRecDepth 100000 in
set_option maxHeartbeats 2000000 in
theorem body35 (c : CandleR) (w : World) (hf : in64 c.first = true) (hl : in64 c.last = true) :
    Calls Try.prog 13 #[.agg c.arr] w fun e w' => e = .returned (.int .i64 (bodyOf c)) ∧ Below w.heap.size w w' := by
  have SU : Hid (∀ wx, Calls Try.prog 18 #[.int .i64 c.last, .int .i64 c.first] wx fun e w' => e = .returned (.tuple #[.int .i64 (fits64 (c.last - c.first)), .int .i64 (over64 (c.last - c.first))]) ∧ Drew wx w') := Lib.hid fun wx => amount_sub c.last c.first wx hl hf
  obtain ⟨c0, c1, c2, c3, c4, c5⟩ := c
  simp only at hf hl SU
  have HB : bodyOf ⟨c0, c1, c2, c3, c4, c5⟩ = if in64 (c3 - c0) = true then c3 - c0 else if c3 < c0 then -9223372036854775808 else 9223372036854775807 := rfl
  rw [HB]
  clear HB hf hl
  by_cases hz : in64 (c3 - c0) = true
  · rw [if_pos hz]
    rw [show fits64 (c3 - c0) = c3 - c0 by simp [fits64, hz], show over64 (c3 - c0) = 0 by simp [over64, hz]] at SU
    clear hz
    go_enter Try.func13, Try.ntmps13
    go_wp2_with (go_at_call 18; (with_reducible refine (SU.out _).mono ?_); rintro e w1 ⟨rfl, ⟨n1, rfl⟩⟩)
    go_ret
    exact ⟨rfl, by (repeat (first | exact Below.refl _ _ | assumption | apply below_drewN | (refine Below.setCell ?_ (by first | assumption | omega | (simp; try omega)) _) | (refine Below.alloc ?_ (by first | assumption | omega | (simp; try omega)) _)))⟩
  · rw [if_neg hz]
    have hz2 : in64 (c3 - c0) = false := by simpa using hz
    rw [show fits64 (c3 - c0) = 0 by simp [fits64, hz2], show over64 (c3 - c0) = 24 by simp [over64, hz2]] at SU
    clear hz hz2
    by_cases hlt : c3 < c0
    · rw [if_pos hlt]
      go_enter Try.func13, Try.ntmps13
      go_wp2_with (go_at_call 18; (with_reducible refine (SU.out _).mono ?_); rintro e w1 ⟨rfl, ⟨n1, rfl⟩⟩)
      go_ret
      exact ⟨rfl, by (repeat (first | exact Below.refl _ _ | assumption | apply below_drewN | (refine Below.setCell ?_ (by first | assumption | omega | (simp; try omega)) _) | (refine Below.alloc ?_ (by first | assumption | omega | (simp; try omega)) _)))⟩
    · rw [if_neg hlt]
      go_enter Try.func13, Try.ntmps13
      go_wp2_with (go_at_call 18; (with_reducible refine (SU.out _).mono ?_); rintro e w1 ⟨rfl, ⟨n1, rfl⟩⟩)
      go_ret
      exact ⟨rfl, by (repeat (first | exact Below.refl _ _ | assumption | apply below_drewN | (refine Below.setCell ?_ (by first | assumption | omega | (simp; try omega)) _) | (refine Below.alloc ?_ (by first | assumption | omega | (simp; try omega)) _)))⟩
end Go.Proofs.Ytfhbmeebkhefhaa
