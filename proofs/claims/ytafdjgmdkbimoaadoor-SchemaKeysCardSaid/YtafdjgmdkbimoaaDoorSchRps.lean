/-
  The document's things of keys: bourseref21.Parse by contract.
-/
import Derived.Test.YtafdjgmdkbimoaaDoorSchRef
namespace Go.Proofs.YtafdjgmdkbimoaaDoor
open Go.RowKit
set_option linter.unusedVariables false
set_option linter.unusedSimpArgs false

theorem enc_size (p : PartR) (h : Fine p) : p.s.size ≤ (encP p).length := by
  rcases neat_cases h.1 h.2 with ⟨n, hp, _, _⟩ | ⟨n, hp, _, _⟩ | ⟨u, hp, _, _⟩ | ⟨s, hp, he⟩
  · rw [hp]; exact Nat.zero_le _
  · rw [hp]; exact Nat.zero_le _
  · rw [hp]; exact Nat.zero_le _
  · rw [he, hp]
    simp only [List.length_cons, List.length_append, List.length_nil]
    have : s.data.toList.length ≤ (escL s.data.toList).length := by
      generalize s.data.toList = t
      induction t with
      | nil => simp
      | cons b t ih =>
        by_cases hb : b = 0
        · subst hb; rw [escL_zero]; simp; omega
        · rw [escL_cons b t hb]; simp; omega
    have hs : s.size = s.data.toList.length := by simp
    omega
theorem enc_sizes : ∀ (l : List PartR), (∀ p ∈ l, Fine p) → ∀ p ∈ l, p.s.size ≤ (encL l).length
  | [], _, p, h => by simp at h
  | q :: l, hf, p, h => by
    rw [encL_cons, List.length_append]
    rcases List.mem_cons.1 h with rfl | h
    · have := enc_size p (hf p (by simp)); omega
    · have := enc_sizes l (fun x hx => hf x (List.mem_cons_of_mem _ hx)) p h; omega
theorem parts_small (k : List UInt8) (h : (partsR k).2 = 0) : ∀ p ∈ (partsR k).1, Fine p ∧ p.s.size ≤ 200 := by
  obtain ⟨h1, h2, h3⟩ := partsR_canon k h
  intro p hp
  refine ⟨h1 p hp, ?_⟩
  have := enc_sizes _ h1 p hp
  rw [← h2] at this
  omega
/-- what pre21 tells is in its bounds -/
theorem pre21_fine {l : List PartR} {t : ThingR} {n : Int} (hl : ∀ p ∈ l, Fine p ∧ p.s.size ≤ 200) (h : pre21 l = some (t, n)) : t.kind = 0 ∧ (-9223372036854775808 ≤ n ∧ n ≤ 9223372036854775807) ∧ ((-9223372036854775808 ≤ n ∧ n ≤ 9223372036854775807) → (∀ p ∈ rowR (kindT t n), p.good) ∧ ∀ p ∈ rowR (kindT t n), p.s.size ≤ 300) := by
  have key : ∀ (s : ByteArray) (ac id pr rk tm : Int) (nm : ByteArray), s.size ≤ 200 → nm.size ≤ 200 → (0 ≤ ac ∧ ac < 18446744073709551616) → (0 ≤ id ∧ id < 18446744073709551616) → (-9223372036854775808 ≤ pr ∧ pr ≤ 9223372036854775807) → (0 ≤ rk ∧ rk < 18446744073709551616) → (0 ≤ tm ∧ tm < 18446744073709551616) → ((-9223372036854775808 ≤ n ∧ n ≤ 9223372036854775807) → (∀ p ∈ rowR (kindT ⟨s, ac, id, 0, pr, rk, tm, nm⟩ n), p.good) ∧ ∀ p ∈ rowR (kindT ⟨s, ac, id, 0, pr, rk, tm, nm⟩ n), p.s.size ≤ 300) := by
    intro s ac id pr rk tm nm h1 h2 h3 h4 h5 h6 h7 hn
    refine ⟨fun p hp => (rowR_fine _ (Nat.le_trans h1 (by decide)) (Nat.le_trans h2 (by decide)) h3 h4 hn h5 h6 h7 p hp).1.good, fun p hp => ?_⟩
    unfold rowR kindT at hp
    rcases List.mem_cons.1 hp with rfl | hp
    · exact Nat.le_trans h1 (by decide)
    simp only at hp
    repeat' split at hp
    all_goals simp only [placeL, List.mem_cons, List.mem_nil_iff, or_false] at hp
    all_goals first
      | (rcases hp with rfl | rfl | rfl | rfl <;> exact Nat.zero_le _)
      | (rcases hp with rfl | rfl <;> exact Nat.zero_le _)
      | (subst hp; first | exact Nat.zero_le _ | exact Nat.le_trans h2 (by decide))
  have e0 : (ByteArray.empty).size ≤ 200 := Nat.zero_le _
  unfold pre21 at h
  split at h
  · rename_i p x r
    have hp := hl p (by simp)
    have hx := hl x (by simp)
    obtain ⟨bx1, bx2, bx3⟩ := fine_bd hx.1
    split at h
    · cases h
    split at h
    · split at h
      · rename_i y
        have hy := hl y (by simp)
        obtain ⟨by1, by2, by3⟩ := fine_bd hy.1
        cases h
        exact ⟨rfl, by1, key _ _ _ _ _ _ _ hp.2 e0 bx2 z_le z_le' z_le z_le⟩
      · cases h
        exact ⟨rfl, z_le', key _ _ _ _ _ _ _ hp.2 e0 z_le z_le z_le' z_le z_le⟩
    split at h
    · cases h
      exact ⟨rfl, z_le', key _ _ _ _ _ _ _ hp.2 e0 z_le bx2 z_le' z_le z_le⟩
    split at h
    · split at h
      · rename_i y z v
        have hy := hl y (by simp)
        have hz := hl z (by simp)
        have hv := hl v (by simp)
        obtain ⟨by1, by2, by3⟩ := fine_bd hy.1
        obtain ⟨bz1, bz2, bz3⟩ := fine_bd hz.1
        obtain ⟨bv1, bv2, bv3⟩ := fine_bd hv.1
        cases h
        exact ⟨rfl, bx1, key _ _ _ _ _ _ _ hp.2 e0 z_le bv2 by1 bz2 z_le⟩
      · cases h
        exact ⟨rfl, z_le', key _ _ _ _ _ _ _ hp.2 e0 z_le z_le z_le' z_le z_le⟩
    split at h
    · split at h
      · rename_i y
        have hy := hl y (by simp)
        obtain ⟨by1, by2, by3⟩ := fine_bd hy.1
        cases h
        exact ⟨rfl, z_le', key _ _ _ _ _ _ _ hp.2 e0 z_le by2 z_le' z_le bx2⟩
      · cases h
        exact ⟨rfl, z_le', key _ _ _ _ _ _ _ hp.2 e0 z_le z_le z_le' z_le z_le⟩
    split at h
    · cases h
      exact ⟨rfl, z_le', key _ _ _ _ _ _ _ hp.2 hx.2 z_le z_le z_le' z_le z_le⟩
    · cases h
  · cases h
end Go.Proofs.YtafdjgmdkbimoaaDoor
