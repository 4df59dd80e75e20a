/-
  A key's tower, its value, its height; how many keys, how many bytes: by contract.
-/
import Derived.Test.YtacgpflheokkaaaSkpAhead
namespace Go.Proofs.Ytacgpflheokkaaa
open Go.RowKit
set_option linter.unusedVariables false
set_option linter.unusedSimpArgs false

def findO (T : List TowM) (q : List Nat) (key : ByteArray) : Option Nat := q.find? fun i => decide (keyAt T i = key)
def findI (T : List TowM) (q : List Nat) (key : ByteArray) : Int := match findO T q key with | some i => (i : Int) | none => -1
/-- what stands below a key, and what does not -/
theorem split_at {T : List TowM} {q : List Nat} (h : q.Pairwise (fun i j => bLt (keyAt T i) (keyAt T j) = true)) (key : ByteArray) : ∃ lo hi, q = lo ++ hi ∧ (∀ i ∈ lo, bLt (keyAt T i) key = true) ∧ (∀ i ∈ hi, bLt (keyAt T i) key = false) := by
  induction q with
  | nil => exact ⟨[], [], rfl, by simp, by simp⟩
  | cons x q ih =>
    obtain ⟨h1, h2⟩ := List.pairwise_cons.1 h
    cases hx : bLt (keyAt T x) key with
    | false =>
      refine ⟨[], x :: q, rfl, by simp, fun i hi => ?_⟩
      rcases List.mem_cons.1 hi with rfl | hi
      · exact hx
      · cases hb : bLt (keyAt T i) key with
        | false => rfl
        | true => have := bLt_trans (h1 i hi) hb; rw [hx] at this; cases this
    | true =>
      obtain ⟨lo, hi, e, a, b⟩ := ih h2
      refine ⟨x :: lo, hi, by rw [e]; rfl, fun i hi' => ?_, b⟩
      rcases List.mem_cons.1 hi' with rfl | hi'
      · exact hx
      · exact a i hi'
theorem ahead0 {T : List TowM} {q : List Nat} (hL : Lay T q) {lo hi : List Nat} {key : ByteArray} (e : q = lo ++ hi) (h1 : ∀ i ∈ lo, bLt (keyAt T i) key = true) (h2 : ∀ i ∈ hi, bLt (keyAt T i) key = false) (j : Nat) (hj : j < hAt T (endOf lo)) : aheadI T q key j = endOf lo :=
  ahead_down hL e hj h1 fun i hf => h2 i (List.mem_of_find?_eq_some hf)
theorem hEnd {T : List TowM} {q : List Nat} (hL : Lay T q) {lo hi : List Nat} (e : q = lo ++ hi) : 0 < hAt T (endOf lo) := by
  rcases List.eq_nil_or_concat lo with rfl | ⟨p, x, rfl⟩
  · show 0 < hAt T 0; rw [hL.h0]; decide
  · rw [List.concat_eq_append] at e ⊢
    rw [endOf_snoc]
    exact (hL.hs x (by rw [e]; simp)).1
def headI : List Nat → Int
  | x :: _ => (x : Int)
  | [] => -1
def headF (T : List TowM) (key : ByteArray) : List Nat → Option Nat
  | x :: _ => if keyAt T x = key then some x else none
  | [] => none
theorem nxt0 {T : List TowM} {q : List Nat} (hL : Lay T q) {lo hi : List Nat} (e : q = lo ++ hi) : nxt T hi 0 = headI hi := by
  cases hi with
  | nil => rfl
  | cons x hi =>
    have := (hL.hs x (by rw [e]; simp)).1
    unfold nxt
    rw [List.find?_cons_of_pos (by simp; omega)]
    rfl
theorem find_split {T : List TowM} {q : List Nat} (hL : Lay T q) {lo hi : List Nat} {key : ByteArray} (e : q = lo ++ hi) (h1 : ∀ i ∈ lo, bLt (keyAt T i) key = true) (h2 : ∀ i ∈ hi, bLt (keyAt T i) key = false) :
    findO T q key = headF T key hi := by
  unfold findO
  rw [e, List.find?_append]
  have hlo : lo.find? (fun i => decide (keyAt T i = key)) = none := by
    rw [List.find?_eq_none]
    intro i hi' hc
    have := bLt_ne (h1 i hi')
    simp at hc
    exact this hc
  rw [hlo, Option.none_or]
  cases hi with
  | nil => rfl
  | cons x hi =>
    by_cases hx : keyAt T x = key
    · rw [headF, if_pos hx]; rw [List.find?_cons_of_pos (by simpa using hx)]
    · rw [headF, if_neg hx]
      rw [List.find?_cons_of_neg (by simpa using hx), List.find?_eq_none]
      intro i hi' hc
      simp at hc
      have hs := hL.sorted
      rw [e] at hs
      have h3 := (List.pairwise_cons.1 (List.pairwise_append.1 hs).2.1).1 i hi'
      rw [hc] at h3
      rw [h2 x (by simp)] at h3
      cases h3
theorem find_lt {T : List TowM} {q : List Nat} (hL : Lay T q) {key : ByteArray} {x : Nat} (h : findO T q key = some x) : x ∈ q ∧ x < T.length ∧ keyAt T x = key := by
  have h1 := List.mem_of_find?_eq_some h
  have h2 := List.find?_some h
  exact ⟨h1, (hL.mem x h1).2, by simpa using h2⟩

theorem str_bb {x y : ByteArray} (h : x = y) : (x.toList == y.toList) = true := by subst h; simp
theorem str_nb {x y : ByteArray} (h : ¬ x = y) : (x.toList == y.toList) = false := by
  simp only [beq_eq_false_iff_ne, ne_eq]; exact fun e => h (ba_inj e)

set_option maxRecDepth 100000 in
set_option maxHeartbeats 8000000 in
theorem skip_find (b : Nat) (sa : Option Addr) (cap : Nat) (T : List TowM) (bt st : Int) (q : List Nat) (key : ByteArray) (w : World) (hM : SkM w b sa cap T bt st) (hL : Lay T q) :
    Calls Try.prog 26 #[.pointer (some ⟨b, 0, none⟩), .agg (intsO (outL T q key 0)), .string key] w fun e w' => e = .returned (.int .i64 (findI T q key)) ∧ Below w.heap.size w w' := by
  obtain ⟨lo, hi, e, h1, h2⟩ := split_at hL.sorted key
  have ha := ahead0 hL e h1 h2 0 (hEnd hL e)
  have hn := nxt0 hL e
  have hf := find_split hL e h1 h2
  obtain ⟨O, hO⟩ : ∃ O, O = intsO (outL T q key 0) := ⟨_, rfl⟩
  have z0 : (w.alloc (.cells O 61)).cell? ⟨w.heap.size, 0, none⟩ = some (.int .i64 ((endOf lo : Nat) : Int)) := by
    rw [cell_of_row _ _ _ _ _ _ (heap_alloc_new _ _), hO, intsO_get, ← ha]; rfl
  have hM1 := hM.moved (w' := w.alloc (.cells O 61)) ((Below.refl _ _).alloc (Nat.le_refl _) _)
  obtain ⟨B, o, nb, ht, rfl, hati, hmi, c2, c3, hBb, hnb⟩ := hM1.next_facts hL e (hEnd hL e)
  obtain ⟨d0, d1, d2⟩ := hM1.cells
  rw [← hO]
  have hlen := hM.len
  have hEL := endOf_lt hL e
  rw [hn] at c3
  obtain ⟨i0, hi0⟩ : ∃ i, i = endOf lo := ⟨_, rfl⟩
  rw [← hi0] at z0 hati c2 hEL
  unfold findI
  rw [hf]
  cases hi with
  | nil =>
    simp only [headI, headF] at c3 ⊢
    clear hf hn ha hi0 hO h1 h2 e hL hM hM1
    go_enter Try.func26, Try.ntmps26
    go_upto_region 1 with fail
    go_quiet (fail)
    go_wp2
    go_ret
    exact ⟨rfl, by (repeat (first | exact Below.refl _ _ | assumption | apply below_drewN | (refine Below.setCell ?_ (by first | assumption | omega | (simp; try omega)) _) | (refine Below.alloc ?_ (by first | assumption | omega | (simp; try omega)) _)))⟩
  | cons x hi =>
    have hxT : x < T.length := (hL.mem x (by rw [e]; simp)).2
    have hxi : (x : Int) < (T.length : Int) := by omega
    have x0 := hM1.key_facts rfl hxT
    obtain ⟨kx, hkx⟩ : ∃ k, k = keyAt T x := ⟨_, rfl⟩
    simp only [headI, headF] at c3 ⊢
    rw [← hkx] at x0 ⊢
    by_cases hk : kx = key
    · have s1 := str_bb hk
      rw [if_pos hk]
      simp only
      clear hf hn ha hi0 hO h1 h2 e hL hM hM1 hk hkx
      go_enter Try.func26, Try.ntmps26
      go_upto_region 1 with fail
      go_quiet (fail)
      go_wp2
      go_ret
      exact ⟨rfl, by (repeat (first | exact Below.refl _ _ | assumption | apply below_drewN | (refine Below.setCell ?_ (by first | assumption | omega | (simp; try omega)) _) | (refine Below.alloc ?_ (by first | assumption | omega | (simp; try omega)) _)))⟩
    · have s1 := str_nb hk
      rw [if_neg hk]
      simp only
      clear hf hn ha hi0 hO h1 h2 e hL hM hM1 hk hkx
      go_enter Try.func26, Try.ntmps26
      go_upto_region 1 with fail
      go_quiet (fail)
      go_wp2
      go_ret
      exact ⟨rfl, by (repeat (first | exact Below.refl _ _ | assumption | apply below_drewN | (refine Below.setCell ?_ (by first | assumption | omega | (simp; try omega)) _) | (refine Below.alloc ?_ (by first | assumption | omega | (simp; try omega)) _)))⟩
end Go.Proofs.Ytacgpflheokkaaa
