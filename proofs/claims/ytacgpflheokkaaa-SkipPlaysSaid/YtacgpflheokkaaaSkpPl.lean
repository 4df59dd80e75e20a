/-
  A skip list's towers, and the order in which they stand: the plain law.
-/
import Derived.Test.YtacgpflheokkaaaBase
namespace Go.Proofs.Ytacgpflheokkaaa
open Go.RowKit
set_option linter.unusedVariables false
set_option linter.unusedSimpArgs false

/-- one text is below another one -/
def bLt (a b : ByteArray) : Bool := Op.bytesLess a.toList b.toList
theorem sk_irrefl : ∀ l : List UInt8, Op.bytesLess l l = false
  | [] => rfl
  | a :: l => by rw [Op.bytesLess, sk_irrefl l]; simp
theorem sk_trans : ∀ a b c : List UInt8, Op.bytesLess a b = true → Op.bytesLess b c = true → Op.bytesLess a c = true
  | _, [], _, h, _ => by cases ‹List UInt8› <;> simp [Op.bytesLess] at h
  | _, _ :: _, [], _, h => by simp [Op.bytesLess] at h
  | [], _ :: _, _ :: _, _, _ => rfl
  | a :: x, b :: y, c :: z, h, k => by
    rw [Op.bytesLess] at h k ⊢
    simp only [Bool.or_eq_true, Bool.and_eq_true, decide_eq_true_eq, beq_iff_eq] at h k ⊢
    rcases h with h | ⟨rfl, h⟩
    · rcases k with k | ⟨rfl, k⟩
      · exact .inl (UInt8.lt_trans h k)
      · exact .inl h
    · rcases k with k | ⟨rfl, k⟩
      · exact .inl k
      · exact .inr ⟨rfl, sk_trans x y z h k⟩
theorem sk_total : ∀ a b : List UInt8, Op.bytesLess a b = true ∨ a = b ∨ Op.bytesLess b a = true
  | [], [] => .inr (.inl rfl)
  | [], _ :: _ => .inl rfl
  | _ :: _, [] => .inr (.inr rfl)
  | a :: x, b :: y => by
    rw [Op.bytesLess, Op.bytesLess]
    simp only [Bool.or_eq_true, Bool.and_eq_true, decide_eq_true_eq, beq_iff_eq]
    rcases Nat.lt_trichotomy a.toNat b.toNat with h | h | h
    · exact .inl (.inl h)
    · have e : a = b := UInt8.toNat_inj.mp h
      subst e
      rcases sk_total x y with h | h | h
      · exact .inl (.inr ⟨rfl, h⟩)
      · exact .inr (.inl (by rw [h]))
      · exact .inr (.inr (.inr ⟨rfl, h⟩))
    · exact .inr (.inr (.inl h))
theorem bLt_irrefl (a : ByteArray) : bLt a a = false := sk_irrefl _
theorem bLt_trans {a b c : ByteArray} (h : bLt a b = true) (k : bLt b c = true) : bLt a c = true := sk_trans _ _ _ h k
theorem ba_inj {a b : ByteArray} (h : a.toList = b.toList) : a = b := by
  rw [ByteArray.toList_eq, ByteArray.toList_eq] at h
  exact ByteArray.ext (Array.toList_inj.mp h)
theorem bLt_total (a b : ByteArray) : bLt a b = true ∨ a = b ∨ bLt b a = true := by
  rcases sk_total a.toList b.toList with h | h | h
  · exact .inl h
  · exact .inr (.inl (ba_inj h))
  · exact .inr (.inr h)
theorem bLt_asymm {a b : ByteArray} (h : bLt a b = true) : bLt b a = false := by
  cases hb : bLt b a with
  | false => rfl
  | true => have := bLt_trans h hb; rw [bLt_irrefl] at this; cases this
theorem bLt_ne {a b : ByteArray} (h : bLt a b = true) : a ≠ b := fun e => by subst e; rw [bLt_irrefl] at h; cases h

/-- a tower: its key, its value, the block of its next ones, and these -/
structure TowM where
  key : ByteArray
  value : ByteArray
  nb : Nat
  nx : List Int
def TowM.row (r : TowM) : List Value := [.string r.key, .string r.value, .slice (some ⟨r.nb, 0, none⟩) r.nx.length r.nx.length]
def keyAt (T : List TowM) (i : Nat) : ByteArray := ((T[i]?).map (·.key)).getD ByteArray.empty
def hAt (T : List TowM) (i : Nat) : Nat := ((T[i]?).map (·.nx.length)).getD 0
def nxAt (T : List TowM) (i j : Nat) : Int := ((T[i]?).map fun r => r.nx.getD j 0).getD 0
/-- the first tower of a row that is on a level; -1: none -/
def nxt (T : List TowM) (suf : List Nat) (j : Nat) : Int := match suf.find? (fun i => decide (j < hAt T i)) with | some i => (i : Int) | none => -1
def endOf (pre : List Nat) : Nat := pre.getLast?.getD 0
/-- q: the towers in their order -/
structure Lay (T : List TowM) (q : List Nat) : Prop where
  len : q.length + 1 = T.length
  mem : ∀ i ∈ q, 1 ≤ i ∧ i < T.length
  nodup : q.Nodup
  sorted : q.Pairwise (fun i j => bLt (keyAt T i) (keyAt T j) = true)
  h0 : hAt T 0 = 12
  hs : ∀ i ∈ q, 1 ≤ hAt T i ∧ hAt T i ≤ 12
  nx : ∀ pre suf, q = pre ++ suf → ∀ j, j < hAt T (endOf pre) → nxAt T (endOf pre) j = nxt T suf j
def aheadI (T : List TowM) (q : List Nat) (key : ByteArray) (j : Nat) : Nat := endOf (q.filter fun i => bLt (keyAt T i) key && decide (j < hAt T i))
theorem endOf_snoc (pre : List Nat) (x : Nat) : endOf (pre ++ [x]) = x := by simp [endOf]
theorem endOf_lt {T : List TowM} {q : List Nat} (h : Lay T q) {pre suf : List Nat} (e : q = pre ++ suf) : endOf pre < T.length := by
  rcases List.eq_nil_or_concat pre with rfl | ⟨p, x, rfl⟩
  · simp [endOf]; have := h.len; omega
  · rw [List.concat_eq_append] at e ⊢
    rw [endOf_snoc]
    exact (h.mem x (by rw [e]; simp)).2
/-- down: what a level hands on -/
theorem ahead_down {T : List TowM} {q : List Nat} (h : Lay T q) {pre suf : List Nat} (e : q = pre ++ suf) {key : ByteArray} {j : Nat} (hj : j < hAt T (endOf pre)) (hlt : ∀ i ∈ pre, bLt (keyAt T i) key = true)
    (hn : ∀ i, suf.find? (fun i => decide (j < hAt T i)) = some i → bLt (keyAt T i) key = false) : aheadI T q key j = endOf pre := by
  have hs : suf.filter (fun i => bLt (keyAt T i) key && decide (j < hAt T i)) = [] := by
    rw [List.filter_eq_nil_iff]
    intro i hi hc
    simp only [Bool.and_eq_true, decide_eq_true_eq] at hc
    cases hf : suf.find? (fun i => decide (j < hAt T i)) with
    | none => exact absurd hc.2 (by have := List.find?_eq_none.1 hf i hi; simpa using this)
    | some x =>
      have hx := hn x hf
      obtain ⟨hp, as_, bs, ea, hns⟩ := List.find?_eq_some_iff_append.1 hf
      have hsx : suf.Pairwise (fun i j => bLt (keyAt T i) (keyAt T j) = true) := by
        have := h.sorted; rw [e] at this; exact (List.pairwise_append.1 this).2.1
      rw [ea] at hsx hi
      rcases List.mem_append.1 hi with hi | hi
      · have := hns i hi; simp at this; omega
      · rcases List.mem_cons.1 hi with rfl | hi
        · rw [hx] at hc; cases hc.1
        · have h1 := (List.pairwise_cons.1 (List.pairwise_append.1 hsx).2.1).1 i hi
          have := bLt_trans h1 hc.1
          rw [hx] at this; cases this
  unfold aheadI
  rw [e, List.filter_append, hs, List.append_nil]
  rcases List.eq_nil_or_concat pre with rfl | ⟨p, x, rfl⟩
  · rfl
  · try rw [List.concat_eq_append] at hj hlt ⊢
    rw [endOf_snoc] at hj ⊢
    rw [List.filter_append]
    have hx := hlt x (by simp)
    have : [x].filter (fun i => bLt (keyAt T i) key && decide (j < hAt T i)) = [x] := by simp [hx, hj]
    rw [this, endOf_snoc]
/-- on: the next tower of a level is below the key -/
theorem ahead_on {T : List TowM} {q : List Nat} (h : Lay T q) {pre suf : List Nat} (e : q = pre ++ suf) {key : ByteArray} {j x : Nat} (hlt : ∀ i ∈ pre, bLt (keyAt T i) key = true)
    (hf : suf.find? (fun i => decide (j < hAt T i)) = some x) (hx : bLt (keyAt T x) key = true) : ∃ pre' suf', q = pre' ++ suf' ∧ endOf pre' = x ∧ (∀ i ∈ pre', bLt (keyAt T i) key = true) ∧ j < hAt T x ∧ suf'.length < suf.length ∧ pre.length < pre'.length ∧ x < T.length := by
  obtain ⟨hp, as_, bs, ea, hns⟩ := List.find?_eq_some_iff_append.1 hf
  have hsx : suf.Pairwise (fun i j => bLt (keyAt T i) (keyAt T j) = true) := by
    have := h.sorted; rw [e] at this; exact (List.pairwise_append.1 this).2.1
  refine ⟨pre ++ as_ ++ [x], bs, by rw [e, ea]; simp, endOf_snoc _ _, ?_, by simpa using hp, by rw [ea]; simp <;> omega, by simp <;> omega, (h.mem x (by rw [e, ea]; simp)).2⟩
  intro i hi
  rw [ea] at hsx
  rcases List.mem_append.1 hi with hi | hi
  · rcases List.mem_append.1 hi with hi | hi
    · exact hlt i hi
    · exact bLt_trans ((List.pairwise_append.1 hsx).2.2 i hi x (by simp)) hx
  · simp at hi; subst hi; exact hx
/-- where a tower stands -/
def posOf (q : List Nat) (x : Nat) : Nat := if x = 0 then 0 else q.idxOf x + 1
theorem pos_end {T : List TowM} {q : List Nat} (h : Lay T q) {pre suf : List Nat} (e : q = pre ++ suf) : posOf q (endOf pre) = pre.length := by
  rcases List.eq_nil_or_concat pre with rfl | ⟨p, x, rfl⟩
  · simp [endOf, posOf]
  · rw [List.concat_eq_append] at e ⊢
    rw [endOf_snoc]
    have hx := (h.mem x (by rw [e]; simp)).1
    unfold posOf
    rw [if_neg (by omega)]
    have hn : x ∉ p := fun hh => by
      have := h.nodup
      rw [e, List.append_assoc] at this
      exact (List.nodup_append.1 this).2.2 x hh x (by simp) rfl
    rw [e, List.append_assoc, List.idxOf_append, if_neg hn]
    simp
theorem nxt_some {T : List TowM} {suf : List Nat} {j x : Nat} (h : suf.find? (fun i => decide (j < hAt T i)) = some x) : nxt T suf j = (x : Int) := by unfold nxt; rw [h]
theorem nxt_none {T : List TowM} {suf : List Nat} {j : Nat} (h : suf.find? (fun i => decide (j < hAt T i)) = none) : nxt T suf j = -1 := by unfold nxt; rw [h]
/-- what is behind all levels from m on -/
def outL (T : List TowM) (q : List Nat) (key : ByteArray) (m : Nat) : List Int := (List.range 12).map fun l => if m ≤ l then ((aheadI T q key l : Nat) : Int) else 0
theorem outL_set (T : List TowM) (q : List Nat) (key : ByteArray) (m : Nat) (hm : m < 12) : (outL T q key (m + 1)).set m ((aheadI T q key m : Nat) : Int) = outL T q key m := by
  apply List.ext_getElem
  · simp [outL]
  · intro i h1 h2
    have hi : i < 12 := by simpa [outL] using h2
    rw [List.getElem_set]
    simp only [outL, List.getElem_map, List.getElem_range]
    by_cases e : m = i
    · subst e; simp
    · rw [if_neg e]
      by_cases hl : m ≤ i
      · rw [if_pos hl, if_pos (by omega)]
      · rw [if_neg hl, if_neg (by omega)]
end Go.Proofs.Ytacgpflheokkaaa
