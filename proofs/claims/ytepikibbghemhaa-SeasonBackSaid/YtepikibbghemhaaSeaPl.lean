/-
  Waves of four: plain mathematics.
-/
import Derived.Test.YtepikibbghemhaaSeaTurn
import Derived.Test.YtepikibbghemhaaKit
namespace Go.Proofs.Ytepikibbghemhaa
open Go.RowKit
set_option linter.unusedVariables false
set_option linter.unusedSimpArgs false

/-- one number of a row -/
def intRow (n : Int) : List Value := [.int .i64 n]
def I64 (n : Int) : Prop := -9223372036854775808 ≤ n ∧ n ≤ 9223372036854775807
theorem intRow_of (v : Value) (h : (Sc.int .i64).ok v) : ∃ n, intRow n = [v] ∧ I64 n := by
  obtain ⟨n, rfl, hw⟩ := h
  simp only [Lit.wf, Bool.and_eq_true, decide_eq_true_eq] at hw
  exact ⟨n, rfl, hw⟩
theorem ints_at {w : World} {a : Option Addr} {l : List Int} (h : RowsAt w a 1 intRow l) (i : Nat) (hi : i < l.length) : ∃ b o, a = some ⟨b, o, none⟩ ∧ w.cell? ⟨b, o + i, none⟩ = some (.int .i64 l[i]) := h.one (f := fun n => .int .i64 n) (fun _ => rfl) i hi

/-- all numbers together, without their signs -/
def total (l : List Int) : Nat := (l.map Int.natAbs).sum
def room : Nat := 1125899906842624
def smallB (l : List Int) : Bool := decide (total l ≤ room)
theorem total_snoc (l : List Int) (n : Int) : total (l ++ [n]) = total l + n.natAbs := by simp [total]
theorem total_take_succ (l : List Int) (k : Nat) (h : k < l.length) : total (l.take (k + 1)) = total (l.take k) + (l[k]).natAbs := by
  rw [List.take_succ_eq_append_getElem h, total_snoc]
theorem total_take_le (l : List Int) (k : Nat) : total (l.take k) ≤ total l := by
  have : total l = total (l.take k) + total (l.drop k) := by
    unfold total; rw [← List.sum_append, ← List.map_append, List.take_append_drop]
  omega
theorem mem_le (l : List Int) (n : Int) (h : n ∈ l) : n.natAbs ≤ total l := by
  induction l with
  | nil => simp at h
  | cons a l ih =>
    simp only [total, List.map_cons, List.sum_cons] at *
    rcases List.mem_cons.1 h with rfl | h
    · omega
    · have := ih h; omega

/-- the sums by places, as four -/
structure S4 where
  a : Int
  b : Int
  c : Int
  d : Int
def S4.put (s : S4) (i : Nat) (n : Int) : S4 :=
  match i with
  | 0 => { s with a := s.a + n }
  | 1 => { s with b := s.b + n }
  | 2 => { s with c := s.c + n }
  | _ => { s with d := s.d + n }
def S4.at (s : S4) (i : Nat) : Int := match i with | 0 => s.a | 1 => s.b | 2 => s.c | _ => s.d
def S4.size (s : S4) : Nat := s.a.natAbs + s.b.natAbs + s.c.natAbs + s.d.natAbs
/-- of the first k -/
def sumsN (l : List Int) : Nat → S4
  | 0 => ⟨0, 0, 0, 0⟩
  | k + 1 => (sumsN l k).put (k % 4) (l[k]?.getD 0)
def S4.re (s : S4) (m : Nat) : Int := match m with | 0 => s.a + s.b + s.c + s.d | 2 => s.a - s.b + s.c - s.d | _ => s.a - s.c
def S4.im (s : S4) (m : Nat) : Int := match m with | 1 => s.d - s.b | 3 => s.b - s.d | _ => 0

theorem put_size (s : S4) (i : Nat) (n : Int) : (s.put i n).size ≤ s.size + n.natAbs := by
  unfold S4.put S4.size
  split <;> simp only [] <;> omega
theorem sumsN_size (l : List Int) : ∀ k, k ≤ l.length → (sumsN l k).size ≤ total (l.take k)
  | 0, _ => by simp [sumsN, S4.size, total]
  | k + 1, h => by
    have := sumsN_size l k (by omega)
    have h2 := put_size (sumsN l k) (k % 4) (l[k]?.getD 0)
    rw [total_take_succ l k (by omega)]
    rw [List.getElem?_eq_getElem (by omega), Option.getD_some] at h2
    show ((sumsN l k).put (k % 4) (l[k]?.getD 0)).size ≤ _
    rw [List.getElem?_eq_getElem (by omega), Option.getD_some]
    omega
theorem re_le (s : S4) (m : Nat) : (s.re m).natAbs ≤ s.size := by unfold S4.re S4.size; split <;> omega
theorem im_le (s : S4) (m : Nat) : (s.im m).natAbs ≤ s.size := by unfold S4.im S4.size; split <;> omega
theorem at_le (s : S4) (m : Nat) : (s.at m).natAbs ≤ s.size := by unfold S4.at S4.size; split <;> omega

/-- the turn that place i and wave m have -/
def tj (m i : Nat) : Nat := (4 - m * i % 4) % 4
theorem tj_lt (m i : Nat) : tj m i < 4 := Nat.mod_lt _ (by decide)
theorem tj_of (m i : Nat) : (-(m : Int) * (i : Int)) % 4 = (tj m i : Nat) := by
  unfold tj
  have : -(m : Int) * (i : Int) = -((m * i : Nat) : Int) := by rw [Int.neg_mul, ← Int.natCast_mul]
  rw [this]; omega
theorem re_put (s : S4) (m i : Nat) (n : Int) (hm : m < 4) (hi : i < 4) : (s.put i n).re m = s.re m + n * tA (tj m i) := by
  match m, hm, i, hi with
  | 0, _, 0, _ | 0, _, 1, _ | 0, _, 2, _ | 0, _, 3, _ | 1, _, 0, _ | 1, _, 1, _ | 1, _, 2, _ | 1, _, 3, _ | 2, _, 0, _ | 2, _, 1, _ | 2, _, 2, _ | 2, _, 3, _ | 3, _, 0, _ | 3, _, 1, _ | 3, _, 2, _ | 3, _, 3, _ =>
    simp [S4.put, S4.re, tj, tA]; try omega
theorem im_put (s : S4) (m i : Nat) (n : Int) (hm : m < 4) (hi : i < 4) : (s.put i n).im m = s.im m + n * tB (tj m i) := by
  match m, hm, i, hi with
  | 0, _, 0, _ | 0, _, 1, _ | 0, _, 2, _ | 0, _, 3, _ | 1, _, 0, _ | 1, _, 1, _ | 1, _, 2, _ | 1, _, 3, _ | 2, _, 0, _ | 2, _, 1, _ | 2, _, 2, _ | 2, _, 3, _ | 3, _, 0, _ | 3, _, 1, _ | 3, _, 2, _ | 3, _, 3, _ =>
    simp [S4.put, S4.im, tj, tB]; try omega
theorem tA_le (j : Nat) : tA j = 0 ∨ tA j = 1 ∨ tA j = -1 := by unfold tA; split <;> simp
theorem tB_le (j : Nat) : tB j = 0 ∨ tB j = 1 ∨ tB j = -1 := by unfold tB; split <;> simp

end Go.Proofs.Ytepikibbghemhaa
