/-
  schema.fits, shape, small by contract.
-/
import Derived.Test.YtafdjgmdkbimoaaDoorSchMk
import Derived.Laws.RangeString
namespace Go.Proofs.YtafdjgmdkbimoaaDoor
open Go.RowKit
set_option linter.unusedVariables false
set_option linter.unusedSimpArgs false

theorem lit_bb {s : ByteArray} {l : List UInt8} (h : s = ⟨l.toArray⟩) : (s.toList == l) = true ∧ (s.toList != l) = false := by
  subst h; simp [ByteArray.toList_eq]
theorem nlit_bb {s : ByteArray} {l : List UInt8} (h : ¬ s = ⟨l.toArray⟩) : (s.toList == l) = false ∧ (s.toList != l) = true := by
  have h2 : ¬ s.toList = l := fun e => h (by
    apply ByteArray.ext
    apply Array.toList_inj.1
    rw [ByteArray.toList_eq] at e
    simpa using e)
  simp [h2]

set_option maxHeartbeats 1000000 in
theorem schema_small (n : Int) (w : World) : Calls Tryd.prog 25 #[.int .i64 n] w fun e w' => e = .returned (.bool (decide (-2147483648 ≤ n) && decide (n ≤ 2147483647))) ∧ Drew w w' := by
  by_cases h1 : -2147483648 ≤ n <;> by_cases h2 : n ≤ 2147483647 <;>
  · go_enter Tryd.func25, Tryd.ntmps25
    go_wp2
    go_ret
    exact ⟨by simp [h1, h2], by repeat (first | exact Drew.refl _ | apply Drew.step)⟩

/-- the shape of a sort's parts -/
def shapeL (s : ByteArray) : List UInt8 :=
  if s = ⟨#[97]⟩ then [117, 105] else if s = ⟨#[111]⟩ then [117] else if s = ⟨#[98]⟩ then [105, 112, 117, 117] else if s = ⟨#[101]⟩ then [117, 117] else if s = ⟨#[110]⟩ then [116] else []

set_option maxHeartbeats 2000000 in
theorem schema_shape (s : ByteArray) (w : World) : Calls Tryd.prog 23 #[.string s] w fun e w' => e = .returned (.string (str (shapeL s))) ∧ Drew w w' := by
  obtain ⟨t, ht⟩ : ∃ t, t = str (shapeL s) := ⟨_, rfl⟩
  rw [← ht]
  unfold shapeL at ht
  by_cases h1 : s = ⟨#[97]⟩
  · rw [if_pos h1] at ht
    obtain ⟨a1, b1⟩ := lit_bb (l := [97]) h1
    have HT := Lib.hid ht
    clear ht h1
    go_enter Tryd.func23, Tryd.ntmps23
    go_wp2
    go_ret
    exact ⟨by rw [HT.out]; rfl, by repeat (first | exact Drew.refl _ | apply Drew.step)⟩
  rw [if_neg h1] at ht
  obtain ⟨a1, b1⟩ := nlit_bb (l := [97]) h1
  clear h1
  by_cases h1 : s = ⟨#[111]⟩
  · rw [if_pos h1] at ht
    obtain ⟨a2, b2⟩ := lit_bb (l := [111]) h1
    have HT := Lib.hid ht
    clear ht h1
    go_enter Tryd.func23, Tryd.ntmps23
    go_wp2
    go_ret
    exact ⟨by rw [HT.out]; rfl, by repeat (first | exact Drew.refl _ | apply Drew.step)⟩
  rw [if_neg h1] at ht
  obtain ⟨a2, b2⟩ := nlit_bb (l := [111]) h1
  clear h1
  by_cases h1 : s = ⟨#[98]⟩
  · rw [if_pos h1] at ht
    obtain ⟨a3, b3⟩ := lit_bb (l := [98]) h1
    have HT := Lib.hid ht
    clear ht h1
    go_enter Tryd.func23, Tryd.ntmps23
    go_wp2
    go_ret
    exact ⟨by rw [HT.out]; rfl, by repeat (first | exact Drew.refl _ | apply Drew.step)⟩
  rw [if_neg h1] at ht
  obtain ⟨a3, b3⟩ := nlit_bb (l := [98]) h1
  clear h1
  by_cases h1 : s = ⟨#[101]⟩
  · rw [if_pos h1] at ht
    obtain ⟨a4, b4⟩ := lit_bb (l := [101]) h1
    have HT := Lib.hid ht
    clear ht h1
    go_enter Tryd.func23, Tryd.ntmps23
    go_wp2
    go_ret
    exact ⟨by rw [HT.out]; rfl, by repeat (first | exact Drew.refl _ | apply Drew.step)⟩
  rw [if_neg h1] at ht
  obtain ⟨a4, b4⟩ := nlit_bb (l := [101]) h1
  clear h1
  by_cases h1 : s = ⟨#[110]⟩
  · rw [if_pos h1] at ht
    obtain ⟨a5, b5⟩ := lit_bb (l := [110]) h1
    have HT := Lib.hid ht
    clear ht h1
    go_enter Tryd.func23, Tryd.ntmps23
    go_wp2
    go_ret
    exact ⟨by rw [HT.out]; rfl, by repeat (first | exact Drew.refl _ | apply Drew.step)⟩
  rw [if_neg h1] at ht
  obtain ⟨a5, b5⟩ := nlit_bb (l := [110]) h1
  have HT := Lib.hid ht
  clear ht h1
  go_enter Tryd.func23, Tryd.ntmps23
  go_wp2
  go_ret
  exact ⟨by rw [HT.out]; rfl, by repeat (first | exact Drew.refl _ | apply Drew.step)⟩

/-- does a part's sort fit a shape's letter? -/
def fit1 (s : Int) (c : UInt8) : Bool := decide (s = ((c.toNat : Nat) : Int)) || (decide (c = 112) && (decide (s = 105) || decide (s = 100)))
def fitsL : List PartR → List UInt8 → Bool
  | [], [] => true
  | p :: l, c :: sh => fit1 p.sort c && fitsL l sh
  | _, _ => false
theorem fitsL_len : ∀ (l : List PartR) (sh : List UInt8), l.length ≠ sh.length → fitsL l sh = false
  | [], [], h => absurd rfl h
  | [], _ :: _, _ => rfl
  | _ :: _, [], _ => rfl
  | p :: l, c :: sh, h => by rw [fitsL, fitsL_len l sh (by simpa using h), Bool.and_false]
theorem fitsL_drop (l : List PartR) (sh : List UInt8) (j : Nat) (h1 : j < l.length) (h2 : j < sh.length) : fitsL (l.drop j) (sh.drop j) = (fit1 l[j].sort sh[j] && fitsL (l.drop (j + 1)) (sh.drop (j + 1))) := by
  rw [List.drop_eq_getElem_cons h1, List.drop_eq_getElem_cons h2]; rfl

theorem below_iter {B : Nat} {w v : World} (h : Below B w v) (hs : B ≤ v.heap.size) (s : ByteArray) (p : Nat) : Below B w (v.iter s p) := h.alloc hs _

set_option maxRecDepth 100000 in
set_option maxHeartbeats 4000000 in
theorem schema_fits (l : List PartR) (sh : ByteArray) (A : Option Addr) (c : Nat) (w : World) (hr : RowsAt w A 4 PartR.row l) (hl : l.length ≤ 1000) (hg : ∀ p ∈ l, 0 ≤ p.sort ∧ p.sort < 256) (hsh : sh.size ≤ 1000) (ha : ∀ i (h : i < sh.size), sh[i].toNat < 128) :
    Calls Tryd.prog 22 #[.slice A l.length c, .string sh] w fun e w' => e = .returned (.bool (!sh.data.toList.isEmpty && fitsL l sh.data.toList)) ∧ Below w.heap.size w w' := by
  have HR := Lib.hid hr
  have HG := Lib.hid hg
  have HA := Lib.hid ha
  have hshl : sh.data.toList.length = sh.size := by simp
  obtain ⟨t, ht⟩ : ∃ t, t = (!sh.data.toList.isEmpty && fitsL l sh.data.toList) := ⟨_, rfl⟩
  rw [← ht]
  by_cases h0 : sh = ⟨#[]⟩
  · have HT : Hid (t = false) := Lib.hid (by rw [ht, h0]; rfl)
    obtain ⟨x1, x2⟩ := lit_bb (l := []) h0
    clear ht hshl h0 hr hg ha
    go_enter Tryd.func22, Tryd.ntmps22
    go_wp2
    go_ret
    exact ⟨by rw [HT.out]; rfl, Below.refl _ _⟩
  · obtain ⟨x1, x2⟩ := nlit_bb (l := []) h0
    have hne : sh.data.toList.isEmpty = false := by
      rw [List.isEmpty_eq_false_iff]
      intro h
      apply h0
      apply ByteArray.ext
      exact Array.toList_inj.1 h
    rw [hne] at ht
    simp only [Bool.not_false, Bool.true_and] at ht
    have HT := Lib.hid ht
    have HSL := Lib.hid hshl
    clear ht h0 hne hr hg ha hshl
    by_cases hlen : l.length = sh.size
    · have i1 : ((l.length : Nat) : Int) = ((sh.size : Nat) : Int) := by omega
      obtain ⟨z1, z2⟩ := eq_bb i1
      have HLN := Lib.hid hlen
      clear i1 hlen
      go_enter Tryd.func22, Tryd.ntmps22
      go_wp2
      go_loopw [5] (fun v5 wr => ∃ j : Nat, j ≤ sh.size ∧ wr = w.iter sh j ∧ Hid (t = fitsL (l.drop j) (sh.data.toList.drop j))) (fun _ wr => match wr.heap[w.heap.size]? with | some (.stringIter _ p) => sh.size - p | _ => 0)
      case atStart => exact ⟨0, Nat.zero_le _, rfl, Lib.hid HT.out⟩
      case round =>
        obtain ⟨j, hj, rfl, HM⟩ := hrel
        have hB : Below w.heap.size w (w.iter sh j) := below_iter (Below.refl _ _) (Nat.le_refl _) _ _
        by_cases hlt : j < sh.size
        · have hlt' : j < l.length := by have := HLN.out; omega
          have hasc := HA.out j hlt
          have hnx := run_next_ascii (P := Tryd.prog) w sh j 0 hlt hasc
          have hB1 : Below w.heap.size w (w.iter sh (j + 1)) := below_iter (Below.refl _ _) (Nat.le_refl _) _ _
          obtain ⟨b, o, rfl, k0, k1, k2, k3⟩ := row4_at (HR.out.moved hB1) j hlt'
          have hgp := HG.out _ (List.getElem_mem hlt')
          have hlt2 : j < sh.data.toList.length := by rw [HSL.out]; exact hlt
          have HM2 : Hid (t = (fit1 l[j].sort sh.data.toList[j] && fitsL (l.drop (j + 1)) (sh.data.toList.drop (j + 1)))) := Lib.hid (by rw [HM.out]; exact fitsL_drop l _ j hlt' hlt2)
          obtain ⟨x, hx⟩ : ∃ x, sh[j] = x := ⟨_, rfl⟩
          have hx' : sh.data.toList[j] = x := by rw [← hx]; rfl
          rw [hx'] at HM2
          rw [hx] at hnx hasc
          obtain ⟨p, hp⟩ : ∃ p, p = l[j] := ⟨_, rfl⟩
          rw [← hp] at k0 k1 k2 k3 HM2 hgp
          obtain ⟨a, n, u, s⟩ := p
          simp only at k0 k1 k2 k3 hgp HM2
          obtain ⟨g0, g1⟩ := hgp
          have e1 : (j : Int) < (l.length : Int) := by omega
          have hms : ∀ p, (w.iter sh p).heap[w.heap.size]? = some (.stringIter sh p) := fun p => World.iter_heap w sh p
          have hx0 : 0 ≤ ((x.toNat : Nat) : Int) := by omega
          have hx1 : ((x.toNat : Nat) : Int) < 128 := by omega
          clear hp hx' hasc HM hx
          have HMS : Hid (∀ p, (match (w.iter sh p).heap[w.heap.size]? with | some (.stringIter _ p) => sh.size - p | _ => 0) = sh.size - p) := Lib.hid fun p => by rw [hms]
          clear hms
          by_cases e : a = ((x.toNat : Nat) : Int)
          · have HF : Hid (t = fitsL (l.drop (j + 1)) (sh.data.toList.drop (j + 1))) := Lib.hid (by rw [HM2.out]; simp [fit1, e])
            obtain ⟨z3, z4⟩ := eq_bb e
            clear e HM2
            go_wp2
            go_roundw
            case rel => exact ⟨j + 1, by omega, rfl, HF⟩
            case measure => rw [HMS.out, HMS.out]; omega
          · obtain ⟨z3, z4⟩ := ne_bb e
            by_cases e2 : x = 112 ∧ (a = 105 ∨ a = 100)
            · have HF : Hid (t = fitsL (l.drop (j + 1)) (sh.data.toList.drop (j + 1))) := Lib.hid (by rw [HM2.out]; obtain ⟨q1, q2⟩ := e2; rcases q2 with q2 | q2 <;> simp [fit1, q1, q2])
              obtain ⟨q1, q2⟩ := e2
              obtain ⟨y1, y2⟩ := eq_bb (show ((x.toNat : Nat) : Int) = 112 by rw [q1]; rfl)
              clear e HM2 q1
              rcases q2 with q2 | q2
              · obtain ⟨y3, y4⟩ := eq_bb q2
                clear q2
                go_wp2
                go_roundw
                case rel => exact ⟨j + 1, by omega, rfl, HF⟩
                case measure => rw [HMS.out, HMS.out]; omega
              · obtain ⟨y3, y4⟩ := eq_bb q2
                obtain ⟨y5, y6⟩ := ne_bb (show ¬ a = 105 by omega)
                clear q2
                go_wp2
                go_roundw
                case rel => exact ⟨j + 1, by omega, rfl, HF⟩
                case measure => rw [HMS.out, HMS.out]; omega
            · have HF : Hid (t = false) := Lib.hid (by
                have h3 : fit1 a x = false := by
                  unfold fit1
                  simp only [Bool.or_eq_false_iff, decide_eq_false_iff_not, Bool.and_eq_false_iff]
                  refine ⟨e, ?_⟩
                  by_cases q1 : x = 112
                  · right
                    exact ⟨fun h => e2 ⟨q1, .inl h⟩, fun h => e2 ⟨q1, .inr h⟩⟩
                  · left; exact q1
                rw [HM2.out, h3]; rfl)
              have hcase : ¬ ((x.toNat : Nat) : Int) = 112 ∨ (((x.toNat : Nat) : Int) = 112 ∧ ¬ a = 105 ∧ ¬ a = 100) := by
                by_cases q1 : x = 112
                · right
                  exact ⟨by rw [q1]; rfl, fun h => e2 ⟨q1, .inl h⟩, fun h => e2 ⟨q1, .inr h⟩⟩
                · left
                  exact fun h => q1 (UInt8.toNat_inj.mp (by
                    have h2 : (112 : UInt8).toNat = 112 := rfl
                    omega))
              clear e e2 HM2
              rcases hcase with q1 | ⟨q1, q2, q3⟩
              · obtain ⟨y1, y2⟩ := ne_bb q1
                clear q1
                go_wp2
                go_ret
                exact ⟨by rw [HF.out]; rfl, below_iter (Below.refl _ _) (Nat.le_refl _) _ _⟩
              · obtain ⟨y1, y2⟩ := eq_bb q1
                obtain ⟨y3, y4⟩ := ne_bb q2
                obtain ⟨y5, y6⟩ := ne_bb q3
                clear q1 q2 q3
                go_wp2
                go_ret
                exact ⟨by rw [HF.out]; rfl, below_iter (Below.refl _ _) (Nat.le_refl _) _ _⟩
        · have hnx := run_next_end (P := Tryd.prog) w sh j 0 hlt
          have HF : Hid (t = true) := Lib.hid (by
            have h1 := HLN.out
            have h2 := HSL.out
            rw [HM.out, List.drop_of_length_le (by omega), List.drop_of_length_le (by omega)]; rfl)
          clear HM
          go_wp2
          go_ret
          exact ⟨by rw [HF.out]; rfl, hB⟩
    · have HF : Hid (t = false) := Lib.hid (by rw [HT.out]; exact fitsL_len _ _ (by rw [HSL.out]; exact hlen))
      have i1 : ¬ ((l.length : Nat) : Int) = ((sh.size : Nat) : Int) := by omega
      obtain ⟨z1, z2⟩ := ne_bb i1
      clear i1 hlen
      go_enter Tryd.func22, Tryd.ntmps22
      go_wp2
      go_ret
      exact ⟨by rw [HF.out]; rfl, Below.refl _ _⟩

end Go.Proofs.YtafdjgmdkbimoaaDoor
