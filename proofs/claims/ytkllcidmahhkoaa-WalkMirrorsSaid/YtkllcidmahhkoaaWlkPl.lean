/-
  The plain law of WalkMirrors: mirrored walks, walks of sizes that are none, one more trade.
-/
import Derived.Test.YtkllcidmahhkoaaWlkCor
namespace Go.Proofs.Ytkllcidmahhkoaa
set_option linter.unusedVariables false
set_option linter.unusedSimpArgs false

def mirT (t : TradeR) : TradeR := ⟨0, 0, -t.price, t.size⟩
def stillT (t : TradeR) : TradeR := ⟨0, 0, t.price, min t.size 0⟩
theorem lastZ_map (f : TradeR → TradeR) (g : Int → Int) (h0 : g 0 = 0) (hf : ∀ t, (f t).price = g t.price) (l : List TradeR) (k : Nat) : lastZ (l.map f) k = g (lastZ l k) := by
  cases k with
  | zero => exact h0.symm
  | succ j =>
    simp only [lastZ, List.getElem?_map]
    cases l[j]? with
    | none => exact h0.symm
    | some t => exact hf t
theorem turn_mir (n a b : Int) : (turnZ n (-a) (-b)).1 = (turnZ n a b).1 ∧ (turnZ n (-a) (-b)).2 = -(turnZ n a b).2 := by
  unfold turnZ
  by_cases h : n = 0 ∨ b = a
  · rw [if_pos h, if_pos (by omega)]; exact ⟨rfl, rfl⟩
  · rw [if_neg h, if_neg (by omega)]
    by_cases h2 : a < b
    · rw [if_pos h2, if_neg (by omega)]; exact ⟨rfl, rfl⟩
    · rw [if_neg h2, if_pos (by omega)]; exact ⟨rfl, rfl⟩
structure Mir (a b : PathZ) : Prop where
  x : b.x = a.x
  y : b.y = -a.y
  hx : b.hx = a.hx
  hy : b.hy = -a.hy
  n : b.n = a.n
theorem mir_step {a b : PathZ} (h : Mir a b) (last price size : Int) : Mir (stepZ a last price size) (stepZ b (-last) (-price) size) := by
  obtain ⟨h1, h2, h3, h4, h5⟩ := h
  have ht := turn_mir a.n last price
  have e1 : (headZ b (turnZ b.n (-last) (-price))).1 = (headZ a (turnZ a.n last price)).1 := by
    simp only [headZ, h3, h4, h5, ht.1, ht.2, Int.neg_mul, Int.mul_neg, Int.neg_neg]
  have e2 : (headZ b (turnZ b.n (-last) (-price))).2 = -(headZ a (turnZ a.n last price)).2 := by
    simp only [headZ, h3, h4, h5, ht.1, ht.2, Int.neg_mul, Int.mul_neg, Int.neg_neg]; omega
  refine ⟨?_, ?_, e1, e2, ?_⟩
  · simp only [stepZ, e1, h1]
  · simp only [stepZ, e2, h2, Int.neg_mul]; omega
  · simp only [stepZ, h5]
theorem mir_after (l : List TradeR) : ∀ k, k ≤ l.length → Mir (afterZ l k) (afterZ (l.map mirT) k)
  | 0, _ => ⟨rfl, rfl, rfl, rfl, rfl⟩
  | k + 1, h => by
    have ih := mir_after l k (by omega)
    rw [afterZ_succ l k h, afterZ_succ (l.map mirT) k (by simp; omega), lastZ_map mirT (fun x => -x) rfl (fun _ => rfl)]
    simp only [List.getElem_map]
    exact mir_step ih _ _ _
theorem still_after (l : List TradeR) : ∀ k, k ≤ l.length → (afterZ (l.map stillT) k).x = 0 ∧ (afterZ (l.map stillT) k).y = 0 ∧ (afterZ (l.map stillT) k).hx = (afterZ l k).hx ∧ (afterZ (l.map stillT) k).hy = (afterZ l k).hy ∧ (afterZ (l.map stillT) k).n = (afterZ l k).n
  | 0, _ => ⟨rfl, rfl, rfl, rfl, rfl⟩
  | k + 1, h => by
    obtain ⟨h1, h2, h3, h4, h5⟩ := still_after l k (by omega)
    rw [afterZ_succ l k h, afterZ_succ (l.map stillT) k (by simp; omega), lastZ_map stillT (fun x => x) rfl (fun _ => rfl)]
    simp only [List.getElem_map]
    have hs : stepsZ (min l[k].size 0) = 0 := by unfold stepsZ; omega
    have e0 : (stillT l[k]).size = min l[k].size 0 := rfl
    have e00 : (stillT l[k]).price = l[k].price := rfl
    rw [e0, e00]
    simp only [stepZ, headZ, h1, h2, h3, h4, h5, hs, Int.mul_zero, Int.add_zero]
    exact ⟨trivial, trivial, trivial, trivial, trivial⟩
theorem lastZ_app (l : List TradeR) (t : TradeR) : ∀ k, k ≤ l.length → lastZ (l ++ [t]) k = lastZ l k
  | 0, _ => rfl
  | j + 1, h => by simp only [lastZ]; rw [List.getElem?_append_left (by omega)]
theorem after_app (l : List TradeR) (t : TradeR) : ∀ k, k ≤ l.length → afterZ (l ++ [t]) k = afterZ l k
  | 0, _ => rfl
  | k + 1, h => by
    rw [afterZ_succ l k h, afterZ_succ (l ++ [t]) k (by simp; omega), after_app l t k (by omega), lastZ_app l t k (by omega)]
    rw [List.getElem_append_left (by omega)]
theorem after_more (l : List TradeR) (t : TradeR) : afterZ (l ++ [t]) (l ++ [t]).length = stepZ (afterZ l l.length) (lastZ l l.length) t.price t.size := by
  have e : (l ++ [t]).length = l.length + 1 := by simp
  rw [e, afterZ_succ (l ++ [t]) l.length (by simp), after_app l t _ (Nat.le_refl _), lastZ_app l t _ (Nat.le_refl _)]
  simp
/-- mirrored, the corners are as many -/
theorem corn_mir : ∀ (l m : List PathZ) (s : Int × (Int × Int)), l.length = m.length → (∀ (i : Nat) (h : i < l.length) (h' : i < m.length), m[i].hx = l[i].hx ∧ m[i].hy = -l[i].hy) → (m.foldl cornS (s.1, (s.2.1, -s.2.2))).1 = (l.foldl cornS s).1
  | [], [], _, _, _ => rfl
  | [], _ :: _, _, h, _ => by simp at h
  | _ :: _, [], _, h, _ => by simp at h
  | a :: l, b :: m, s, h, hh => by
    have h0 := hh 0 (by simp) (by simp)
    simp only [List.getElem_cons_zero] at h0
    have e : cornS (s.1, (s.2.1, -s.2.2)) b = ((cornS s a).1, ((cornS s a).2.1, -(cornS s a).2.2)) := by
      simp only [cornS, h0.1, h0.2]
      by_cases hc : a.hx = s.2.1 ∧ a.hy = s.2.2
      · rw [if_pos hc, if_pos (by omega)]
      · rw [if_neg hc, if_neg (by omega)]
    simp only [List.foldl_cons, e]
    exact corn_mir l m (cornS s a) (by simpa using h) fun i h1 h2 => by
      have := hh (i + 1) (by simpa using h1) (by simpa using h2)
      simpa using this
theorem corners_mir (l : List TradeR) : cornersZ (l.map mirT) = cornersZ l := by
  have := corn_mir (pathsZ l) (pathsZ (l.map mirT)) (0, (1, 0)) (by simp [pathsZ]) (by
    intro i h1 h2
    have hi : i < l.length := by simpa [pathsZ] using h1
    have hm := mir_after l (i + 1) hi
    simp only [pathsZ, List.getElem_map, List.getElem_range]
    exact ⟨hm.hx, hm.hy⟩)
  exact this
theorem mirT_good {t : TradeR} (h : t.good) (h2 : t.price ≠ -9223372036854775808) : (mirT t).good := ⟨by simp [mirT], by simp [mirT], by have := h.price; simp only [mirT]; omega, h.size⟩
theorem stillT_good {t : TradeR} (h : t.good) : (stillT t).good := ⟨by simp [stillT], by simp [stillT], h.price, by have := h.size; simp only [stillT]; omega⟩
end Go.Proofs.Ytkllcidmahhkoaa
