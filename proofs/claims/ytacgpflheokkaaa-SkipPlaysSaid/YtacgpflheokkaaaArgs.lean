/-
  Arguments that are structs of numbers, texts and bools, by value, and slices of them: opened once for all laws.
-/
import Derived.Test.YtacgpflheokkaaaBase
import Derived.Deep.Fields
import Derived.Lib.SmallJoins
namespace Go.Proofs.Ytacgpflheokkaaa
open Go.ChangeShapes Go.WideShapes Go.Deep Go.RowKit
set_option linter.unusedVariables false

/-- what a cell holds -/
inductive Sc where
  | int (k : IntKind)
  | str
  | bool
def Sc.ok : Sc → Value → Prop
  | .int k, v => ∃ n, v = .int k n ∧ (Lit.int k n).wf = true
  | .str, v => ∃ s : ByteArray, v = .string s ∧ s.size ≤ maxLen
  | .bool, v => ∃ b, v = .bool b
def Sc.of (P : Program) : Sc → TypeId → Prop
  | .int k, t => P.underlying t = some (.int k)
  | .str, t => P.underlying t = some .string
  | .bool, t => P.underlying t = some .bool
def OkAll : List Sc → List Value → Prop
  | [], [] => True
  | k :: ks, v :: vs => k.ok v ∧ OkAll ks vs
  | _, _ => False
def OfAll (P : Program) : List Sc → List Field → Prop
  | [], [] => True
  | k :: ks, f :: fs => k.of P f.type ∧ OfAll P ks fs
  | _, _ => False

section
variable {H : Type} {enc : TypeId × Value → H} {P : Program} {w : World} {base : Nat} {spare : Nat → Bool} {held : Bool}

theorem Sc.opened {s : Sc} {t : TypeId} {fuel : Nat} {v : Value} {x : DataW H × List MemPlace} (hs : s.of P t) (h : DataW.trod enc P w base spare held fuel t [v] = some x) : s.ok v := by
  cases s with
  | int k => obtain ⟨n, e, _, hw⟩ := DataW.trod_int hs h; simp at e; exact ⟨n, e, hw⟩
  | str => obtain ⟨s, e, _, hw⟩ := DataW.trod_string hs h; simp at e; exact ⟨s, e, hw⟩
  | bool => obtain ⟨b, e, _⟩ := DataW.trod_bool hs h; simp at e; exact ⟨b, e⟩

theorem okAll_of : ∀ (ks : List Sc) (fs : List Field) (vs : List Value), OfAll P ks fs → vs.length = fs.length →
    (∀ (i : Nat) (f : Field) (v : Value), fs[i]? = some f → vs[i]? = some v → ∃ n x, DataW.trod enc P w base spare held n f.type [v] = some x) → OkAll ks vs
  | [], [], vs, _, hl, _ => by
    have : vs = [] := List.length_eq_zero_iff.mp (by simpa using hl)
    subst this; trivial
  | [], _ :: _, _, h, _, _ => h.elim
  | _ :: _, [], _, h, _, _ => h.elim
  | k :: ks, f :: fs, [], _, hl, _ => by simp at hl
  | k :: ks, f :: fs, v :: vs, ho, hl, h => by
    refine ⟨?_, okAll_of ks fs vs ho.2 (by simpa using hl) (fun i g u hg hu => h (i + 1) g u (by simpa using hg) (by simpa using hu))⟩
    obtain ⟨n, x, hx⟩ := h 0 f v rfl rfl
    exact Sc.opened ho.1 hx

theorem okAll_struct {t : TypeId} {fs : Array Field} {ks : List Sc} {fuel : Nat} {cs : List Value} {x : DataW H × List MemPlace} (hs : P.underlying t = some (.struct fs)) (hone : oneCellFields P fs = true) (hC : P.cellsOf t = fs.size) (ho : OfAll P ks fs.toList)
    (h : DataW.trod enc P w base spare held fuel t cs = some x) : OkAll ks cs := by
  obtain ⟨xs, n, _, rfl, hl, hlen, hf⟩ := DataW.trod_struct hs h
  refine okAll_of (enc := enc) (w := w) (base := base) (spare := spare) (held := held) ks fs.toList cs ho (by rw [hl, hC]; simp) fun i f v hi hv => ?_
  have hi' : fs[i]? = some f := by simpa using hi
  have hlt : i < fs.size := (Array.getElem?_eq_some_iff.1 hi').1
  obtain ⟨ho', hc1⟩ := hone_of hone i f hi'
  have g := hf i f hi'
  rw [ho', hc1, take1_drop cs i undef (by omega), List.getElem?_eq_getElem (by omega)] at g
  have hg : cs.getD i undef = v := by rw [List.getD_eq_getElem?_getD, hv]; rfl
  rw [hg] at g
  exact ⟨n, _, g⟩

/-- A STRUCT BY VALUE. -/
theorem open_struct {r : Reach} {b0 : Nat} {t : TypeId} {fs : Array Field} {ks : List Sc} {v : Value} {d : DataW H} {p : List MemPlace} (hs : P.underlying t = some (.struct fs)) (hone : oneCellFields P fs = true) (hC : P.cellsOf t = fs.size) (ho : OfAll P ks fs.toList)
    (hv : Value.okWide P w r b0 t v) (h : DataW.Trod enc P w base spare held t v d p) : ∃ cs : Array Value, v = .agg cs ∧ OkAll ks cs.toList := by
  obtain ⟨cs, rfl, hsz⟩ := okWide_struct hs hv
  obtain ⟨fuel, hf⟩ := h
  exact ⟨cs, rfl, okAll_struct hs hone hC ho (by simpa [Value.cells] using hf)⟩

theorem cell_lt {w : World} {a : Addr} {v : Value} (h : w.cell? a = some v) : a.block < w.heap.size := by
  rcases Nat.lt_or_ge a.block w.heap.size with h' | h'
  · exact h'
  · unfold World.cell? at h; simp [Array.getElem?_eq_none h'] at h
theorem cell_stays {w w' : World} {a : Addr} {v : Value} (hB : Below w.heap.size w w') (h : w.cell? a = some v) : w'.cell? a = some v := by
  rw [hB.cell (cell_lt h)]; exact h
/-- A slice whose elements are rows of cells: element i's are told by 'enc'. -/
structure RowsAt {ρ : Type} (w : World) (a : Option Addr) (m : Nat) (enc : ρ → List Value) (l : List ρ) : Prop where
  out : l = [] ∨ ∃ b o, a = some ⟨b, o, none⟩ ∧ ∀ (i : Nat) (r : ρ), l[i]? = some r → ∀ (j : Nat) (v : Value), (enc r)[j]? = some v → w.cell? ⟨b, o + (i * m + j), none⟩ = some v
theorem RowsAt.at_ {ρ : Type} {w : World} {a : Option Addr} {m : Nat} {enc : ρ → List Value} {l : List ρ} (h : RowsAt w a m enc l) (i : Nat) (hi : i < l.length) :
    ∃ b o, a = some ⟨b, o, none⟩ ∧ ∀ (j : Nat) (v : Value), (enc l[i])[j]? = some v → w.cell? ⟨b, o + (i * m + j), none⟩ = some v := by
  rcases h.out with rfl | ⟨b, o, e, hc⟩
  · exact absurd hi (Nat.not_lt_zero _)
  · exact ⟨b, o, e, hc i l[i] (List.getElem?_eq_getElem hi)⟩
theorem RowsAt.moved {ρ : Type} {w w' : World} {a : Option Addr} {m : Nat} {enc : ρ → List Value} {l : List ρ} (h : RowsAt w a m enc l) (hB : Below w.heap.size w w') : RowsAt w' a m enc l := by
  rcases h.out with e | ⟨b, o, e, hc⟩
  · exact ⟨.inl e⟩
  · exact ⟨.inr ⟨b, o, e, fun i r hi j v hv => cell_stays hB (hc i r hi j v hv)⟩⟩

/-- A SLICE OF STRUCTS, or of one-cell elements: its rows. -/
theorem rows_of {ρ : Type} [Inhabited ρ] {t e : TypeId} {fs : Array Field} {ks : List Sc} {a : Option Addr} {len cap : Nat} {d : DataW H} {p : List MemPlace} (rows : ρ → List Value) (good : ρ → Prop)
    (hr : ∀ vs, OkAll ks vs → ∃ r, rows r = vs ∧ good r)
    (ht : P.underlying t = some (.slice e)) (hs : P.underlying e = some (.struct fs)) (hone : oneCellFields P fs = true) (hC : P.cellsOf e = fs.size) (hp : 0 < fs.size) (ho : OfAll P ks fs.toList)
    (h : DataW.Trod enc P w base spare held t (.slice a len cap) d p) :
    ∃ l : List ρ, len = l.length ∧ RowsAt w a fs.size rows l ∧ (∀ r ∈ l, good r) ∧ len ≤ cap ∧ cap ≤ maxLen := by
  obtain ⟨fuel, hf⟩ := h
  simp only [Value.cells] at hf
  rcases open_slice ht hf with ⟨hcs, _⟩ | ⟨x, len', cap', m, n, D, Pl, hcs, hb, hl, hm, hmm, _, hx⟩
  · simp at hcs
    obtain ⟨rfl, rfl, rfl⟩ := hcs
    exact ⟨[], rfl, ⟨.inl rfl⟩, fun r hr => (by simp at hr), Nat.le_refl _, by decide⟩
  · simp at hcs
    obtain ⟨rfl, rfl, rfl⟩ := hcs
    have hle : len ≤ m := by rw [hmm]; split <;> omega
    obtain ⟨f, hf2⟩ := choose_lt (α := ρ) (n := len) (p := fun i r => good r ∧ ∀ (j : Nat) (v : Value), (rows r)[j]? = some v → w.cell? ((x.add (i * fs.size)).add j) = some v) (fun i hi => by
      obtain ⟨cs', h1, h2⟩ := hx i (by omega)
      obtain ⟨r, e1, e2⟩ := hr cs' (okAll_struct hs hone hC ho h2)
      refine ⟨r, e2, fun j v hv => ?_⟩
      obtain ⟨_, h3, h4⟩ := World.cells?_some h1
      rw [hC] at h4 h3
      rw [e1] at hv
      have hj : j < fs.size := by rw [← h3]; exact (List.getElem?_eq_some_iff.1 hv).1
      rw [h4 j hj, hv])
    obtain ⟨b, o, spot⟩ := x
    have hadd : ∀ i j, ((⟨b, o, none⟩ : Addr).add (i * fs.size)).add j = ⟨b, o + (i * fs.size + j), none⟩ := fun i j => by rw [add_plain, add_plain, Nat.add_assoc]
    refine ⟨(List.range len).map f, by simp, ⟨?_⟩, fun r hr => ?_, hl, hm⟩
    · rcases Nat.eq_zero_or_pos len with h0 | h0
      · exact .inl (by subst h0; rfl)
      · have hspot : spot = none := by
          obtain ⟨cs', h1, h2⟩ := hx 0 (by omega)
          obtain ⟨_, h3, h4⟩ := World.cells?_some h1
          rw [hC] at h3 h4
          have h5 := h4 0 hp
          rw [List.getElem?_eq_getElem (by omega)] at h5
          simpa [Addr.add] using World.cell?_spot h5
        subst hspot
        refine .inr ⟨b, o, rfl, fun i r hi j v hv => ?_⟩
        have hi' : i < len := by
          have := (List.getElem?_eq_some_iff.1 hi).1
          simpa using this
        simp [hi'] at hi
        subst hi
        have := (hf2 i hi').2 j v hv
        rw [hadd] at this
        exact this
    · simp at hr
      obtain ⟨i, hi, rfl⟩ := hr
      exact (hf2 i hi).1
/-- A SLICE OF ONE-CELL ELEMENTS. -/
theorem rows1_of {ρ : Type} [Inhabited ρ] {t e : TypeId} {k : Sc} {a : Option Addr} {len cap : Nat} {d : DataW H} {p : List MemPlace} (rows : ρ → List Value) (good : ρ → Prop)
    (hr : ∀ v, k.ok v → ∃ r, rows r = [v] ∧ good r)
    (ht : P.underlying t = some (.slice e)) (hC : P.cellsOf e = 1) (ho : k.of P e)
    (h : DataW.Trod enc P w base spare held t (.slice a len cap) d p) :
    ∃ l : List ρ, len = l.length ∧ RowsAt w a 1 rows l ∧ (∀ r ∈ l, good r) ∧ len ≤ cap ∧ cap ≤ maxLen := by
  obtain ⟨fuel, hf⟩ := h
  simp only [Value.cells] at hf
  rcases open_slice1 ht hC hf with ⟨hcs, _⟩ | ⟨x, len', cap', m, n, V, D, Pl, hcs, hb, hl, hm, hmm, _, hx⟩
  · simp at hcs
    obtain ⟨rfl, rfl, rfl⟩ := hcs
    exact ⟨[], rfl, ⟨.inl rfl⟩, fun r hr => (by simp at hr), Nat.le_refl _, by decide⟩
  · simp at hcs
    obtain ⟨rfl, rfl, rfl⟩ := hcs
    have hle : len ≤ m := by rw [hmm]; split <;> omega
    obtain ⟨f, hf2⟩ := choose_lt (α := ρ) (n := len) (p := fun i r => good r ∧ rows r = [V i] ∧ w.cell? (x.add i) = some (V i)) (fun i hi => by
      obtain ⟨h1, h2⟩ := hx i (by omega)
      obtain ⟨r, e1, e2⟩ := hr (V i) (Sc.opened ho h2)
      exact ⟨r, e2, e1, h1⟩)
    obtain ⟨b, o, spot⟩ := x
    refine ⟨(List.range len).map f, by simp, ⟨?_⟩, fun r hr => ?_, hl, hm⟩
    · rcases Nat.eq_zero_or_pos len with h0 | h0
      · exact .inl (by subst h0; rfl)
      · have hspot : spot = none := by
          have h5 := (hx 0 (by omega)).1
          simpa [Addr.add] using World.cell?_spot h5
        subst hspot
        refine .inr ⟨b, o, rfl, fun i r hi j v hv => ?_⟩
        have hi' : i < len := by
          have := (List.getElem?_eq_some_iff.1 hi).1
          simpa using this
        simp [hi'] at hi
        subst hi
        obtain ⟨_, h2, h3⟩ := hf2 i hi'
        rw [h2] at hv
        have hj : j = 0 := by
          rcases Nat.eq_zero_or_pos j with h | h
          · exact h
          · rw [List.getElem?_eq_none (show [V i].length ≤ j from h)] at hv; cases hv
        subst hj
        simp at hv
        rw [Nat.mul_one, Nat.add_zero, ← add_plain, h3, hv]
    · simp at hr
      obtain ⟨i, hi, rfl⟩ := hr
      exact (hf2 i hi).1
end
end Go.Proofs.Ytacgpflheokkaaa
