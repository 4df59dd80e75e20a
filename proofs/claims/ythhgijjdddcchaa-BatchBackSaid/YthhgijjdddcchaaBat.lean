/-
  A change's fault, a batch's fault, by contract.
-/
import Derived.Test.YthhgijjdddcchaaRecs
import Derived.Test.YthhgijjdddcchaaResRow
import Derived.Test.YthhgijjdddcchaaRdText
namespace Go.Proofs.Ythhgijjdddcchaa
open Go.RowKit
set_option linter.unusedVariables false
set_option linter.unusedSimpArgs false

theorem emp_bb {s : ByteArray} (h : s.size = 0) : (s.toList == []) = true ∧ (s.toList != []) = false := by
  have e : s = ByteArray.empty := by
    apply ByteArray.ext
    apply Array.eq_empty_of_size_eq_zero
    exact h
  subst e
  rw [show ByteArray.empty.toList = [] from by rw [ByteArray.toList_eq]; rfl]
  exact ⟨rfl, rfl⟩
theorem nemp_bb {s : ByteArray} (h : ¬ s.size = 0) : (s.toList == []) = false ∧ (s.toList != []) = true := by
  have h2 := sne_bb (x := s) (y := ByteArray.empty) (fun e => h (by rw [e]; rfl))
  rw [show ByteArray.empty.toList = [] from by rw [ByteArray.toList_eq]; rfl] at h2
  exact h2

def badC (c : ChangeR) : Int :=
  if ¬ c.kind = 1 ∧ ¬ c.kind = 2 then 11
  else if c.key.size = 0 ∨ 200 < c.key.size then 19
  else if 4096 < c.value.size ∨ (c.kind = 2 ∧ ¬ c.value.size = 0) then 5
  else 0
/-- the first one that is -/
def badL : List ChangeR → Int
  | [] => 0
  | c :: l => if badC c = 0 then badL l else badC c
def checkB (seq : Int) (l : List ChangeR) : Int :=
  if 2000 < l.length then 6
  else if ¬ badL l = 0 then badL l
  else if 72057594037927935 < seq ∨ (0 < l.length ∧ 72057594037927935 < seq + (l.length : Int) - 1) then 8
  else 0

set_option maxHeartbeats 2000000 in
theorem batch_wrong (c : ChangeR) (w : World) : Calls Try.prog 24 #[c.val] w fun e w' => e = .returned (.int .i64 (badC c)) ∧ Below w.heap.size w w' := by
  obtain ⟨t, ht⟩ : ∃ t, t = badC c := ⟨_, rfl⟩
  rw [← ht]
  unfold badC at ht
  obtain ⟨k, s, v⟩ := c
  simp only [ChangeR.val] at *
  have HT := Lib.hid ht
  clear ht
  by_cases h1 : k = 1
  · subst h1
    by_cases h2 : s.size = 0
    · have E : Hid (t = 19) := Lib.hid (by rw [HT.out, if_neg (by simp), if_pos (.inl h2)])
      obtain ⟨y0, y1⟩ := emp_bb h2
      clear HT h2
      go_enter Try.func24, Try.ntmps24
      go_wp2
      go_ret
      exact ⟨by rw [E.out]; rfl, by (repeat (first | exact Below.refl _ _ | assumption | apply below_drewN | (refine Below.alloc ?_ (by first | assumption | omega | (simp; try omega)) _)))⟩
    obtain ⟨y0, y1⟩ := nemp_bb h2
    by_cases h3 : 200 < s.size
    · have E : Hid (t = 19) := Lib.hid (by rw [HT.out, if_neg (by simp), if_pos (.inr h3)])
      clear HT h2
      go_enter Try.func24, Try.ntmps24
      go_wp2
      go_ret
      exact ⟨by rw [E.out]; rfl, by (repeat (first | exact Below.refl _ _ | assumption | apply below_drewN | (refine Below.alloc ?_ (by first | assumption | omega | (simp; try omega)) _)))⟩
    by_cases h4 : 4096 < v.size
    · have E : Hid (t = 5) := Lib.hid (by rw [HT.out, if_neg (by simp), if_neg (by omega), if_pos (.inl h4)])
      clear HT h2
      go_enter Try.func24, Try.ntmps24
      go_wp2
      go_ret
      exact ⟨by rw [E.out]; rfl, by (repeat (first | exact Below.refl _ _ | assumption | apply below_drewN | (refine Below.alloc ?_ (by first | assumption | omega | (simp; try omega)) _)))⟩
    have E : Hid (t = 0) := Lib.hid (by rw [HT.out, if_neg (by simp), if_neg (by omega), if_neg (by simp; omega)])
    clear HT h2
    go_enter Try.func24, Try.ntmps24
    go_wp2
    go_ret
    exact ⟨by rw [E.out]; rfl, by (repeat (first | exact Below.refl _ _ | assumption | apply below_drewN | (refine Below.alloc ?_ (by first | assumption | omega | (simp; try omega)) _)))⟩
  · by_cases h1b : k = 2
    · subst h1b
      clear h1
      by_cases h2 : s.size = 0
      · have E : Hid (t = 19) := Lib.hid (by rw [HT.out, if_neg (by simp), if_pos (.inl h2)])
        obtain ⟨y0, y1⟩ := emp_bb h2
        clear HT h2
        go_enter Try.func24, Try.ntmps24
        go_wp2
        go_ret
        exact ⟨by rw [E.out]; rfl, by (repeat (first | exact Below.refl _ _ | assumption | apply below_drewN | (refine Below.alloc ?_ (by first | assumption | omega | (simp; try omega)) _)))⟩
      obtain ⟨y0, y1⟩ := nemp_bb h2
      by_cases h3 : 200 < s.size
      · have E : Hid (t = 19) := Lib.hid (by rw [HT.out, if_neg (by simp), if_pos (.inr h3)])
        clear HT h2
        go_enter Try.func24, Try.ntmps24
        go_wp2
        go_ret
        exact ⟨by rw [E.out]; rfl, by (repeat (first | exact Below.refl _ _ | assumption | apply below_drewN | (refine Below.alloc ?_ (by first | assumption | omega | (simp; try omega)) _)))⟩
      by_cases h4 : 4096 < v.size
      · have E : Hid (t = 5) := Lib.hid (by rw [HT.out, if_neg (by simp), if_neg (by omega), if_pos (.inl h4)])
        clear HT h2
        go_enter Try.func24, Try.ntmps24
        go_wp2
        go_ret
        exact ⟨by rw [E.out]; rfl, by (repeat (first | exact Below.refl _ _ | assumption | apply below_drewN | (refine Below.alloc ?_ (by first | assumption | omega | (simp; try omega)) _)))⟩
      by_cases h5 : v.size = 0
      · have E : Hid (t = 0) := Lib.hid (by rw [HT.out, if_neg (by simp), if_neg (by omega), if_neg (by simp [h5])])
        obtain ⟨z0, z1⟩ := emp_bb h5
        clear HT h2 h5
        go_enter Try.func24, Try.ntmps24
        go_wp2
        go_ret
        exact ⟨by rw [E.out]; rfl, by (repeat (first | exact Below.refl _ _ | assumption | apply below_drewN | (refine Below.alloc ?_ (by first | assumption | omega | (simp; try omega)) _)))⟩
      · have E : Hid (t = 5) := Lib.hid (by rw [HT.out, if_neg (by simp), if_neg (by omega), if_pos (.inr ⟨rfl, h5⟩)])
        obtain ⟨z0, z1⟩ := nemp_bb h5
        clear HT h2 h5
        go_enter Try.func24, Try.ntmps24
        go_wp2
        go_ret
        exact ⟨by rw [E.out]; rfl, by (repeat (first | exact Below.refl _ _ | assumption | apply below_drewN | (refine Below.alloc ?_ (by first | assumption | omega | (simp; try omega)) _)))⟩
    · have E : Hid (t = 11) := Lib.hid (by rw [HT.out, if_pos ⟨h1, h1b⟩])
      obtain ⟨x0, x1⟩ := ne_bb h1
      obtain ⟨x2, x3⟩ := ne_bb h1b
      clear HT h1 h1b
      go_enter Try.func24, Try.ntmps24
      go_wp2
      go_ret
      exact ⟨by rw [E.out]; rfl, by (repeat (first | exact Below.refl _ _ | assumption | apply below_drewN | (refine Below.alloc ?_ (by first | assumption | omega | (simp; try omega)) _)))⟩

theorem ChangeR.len3 (r : ChangeR) : r.row.length = 3 := rfl
abbrev cells3 (k : Int) (s v : ByteArray) : Array Value := #[.int .i64 k, .string s, .string v]
theorem change_cells {w : World} {a : Option Addr} {l : List ChangeR} (h : RowsAt w a 3 ChangeR.row l) (i : Nat) (hi : i < l.length) : ∃ b o, a = some ⟨b, o, none⟩ ∧
    w.cell? ⟨b, o + i * 3, none⟩ = some (.int .i64 l[i].kind) ∧ w.cell? ⟨b, o + i * 3 + 1, none⟩ = some (.string l[i].key) ∧ w.cell? ⟨b, o + i * 3 + 2, none⟩ = some (.string l[i].value) := by
  obtain ⟨b, o, e, hc⟩ := h.at_ i hi
  exact ⟨b, o, e, hc 0 _ rfl, hc 1 _ rfl, hc 2 _ rfl⟩
theorem badL_drop (l : List ChangeR) (k : Nat) (hk : k < l.length) : badL (l.drop k) = if badC l[k] = 0 then badL (l.drop (k + 1)) else badC l[k] := by
  rw [List.drop_eq_getElem_cons hk, badL]
theorem badC_cases (c : ChangeR) : badC c = 0 ∨ badC c = 11 ∨ badC c = 19 ∨ badC c = 5 := by
  unfold badC
  repeat' split
  all_goals simp
theorem badL_cases : ∀ l : List ChangeR, badL l = 0 ∨ badL l = 11 ∨ badL l = 19 ∨ badL l = 5
  | [] => .inl rfl
  | c :: l => by rw [badL]; split; exact badL_cases l; exact badC_cases c
theorem badL_le {l : List ChangeR} (h : badL l = 0) : ∀ c ∈ l, badC c = 0 := by
  induction l with
  | nil => intro c hc; cases hc
  | cons d l ih =>
    rw [badL] at h
    by_cases hd : badC d = 0
    · rw [if_pos hd] at h
      intro c hc
      rcases List.mem_cons.1 hc with rfl | hc
      · exact hd
      · exact ih h c hc
    · rw [if_neg hd] at h; exact absurd h hd
end Go.Proofs.Ythhgijjdddcchaa
