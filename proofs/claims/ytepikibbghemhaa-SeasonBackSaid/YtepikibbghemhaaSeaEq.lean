/-
  Arrays of four complex numbers, and of four whole numbers, held against each other.
-/
import Derived.Test.YtepikibbghemhaaSeaOf
import Derived.ChangeKeysEq
namespace Go.Proofs.Ytepikibbghemhaa
open Go.RowKit
set_option linter.unusedVariables false
set_option linter.unusedSimpArgs false

def eqc (p q : Nat × Nat) : Bool := (FloatKind.f64.format.order p.1 q.1 == some .eq) && (FloatKind.f64.format.order p.2 q.2 == some .eq)
def eq4 (f g : Nat → Nat × Nat) : Bool := eqc (f 0) (g 0) && (eqc (f 1) (g 1) && (eqc (f 2) (g 2) && eqc (f 3) (g 3)))
theorem info_c128 : (Try.prog.info? 24).map (·.size) = some 1 := by kernel_rfl
theorem run_isAgg_c (w : World) : (isAgg 24).run Try.prog w = .ok false w := by kernel_rfl
theorem run_part_c {xs : Array Value} {off : Nat} {v : Value} (hx : xs[off]? = some v) (w : World) : (part 24 xs off).run Try.prog w = .ok v w := by
  simp [part, Sem.run_bind, run_isAgg_c, hx]
theorem run_eqIn_c (d : Nat) (p q : Nat × Nat) (w : World) : (Op.equalIn (d + 1) 24 (.complex .f64 p.1 p.2) (.complex .f64 q.1 q.2)).run Try.prog w = .ok (eqc p q) w := by
  simp [Op.equalIn, Sem.run_bind, run_underlying Try.underlying24, Op.floatEq, eqc]
theorem cells_c : Try.prog.cellsOf 24 = 1 := by kernel_rfl
theorem run_equal_wave (f g : Nat → Nat × Nat) (w : World) : (Op.equal 26 (.agg (row4 f)) (.agg (row4 g))).run Try.prog w = .ok (eq4 f g) w := by
  obtain ⟨i, hi⟩ : ∃ i, Try.prog.info? 24 = some i := by
    have h := info_c128
    cases hx : Try.prog.info? 24 with
    | none => rw [hx] at h; cases h
    | some i => exact ⟨i, rfl⟩
  have hr : List.range 4 = [0, 1, 2, 3] := by decide
  obtain ⟨D, hh⟩ : ∃ D, Op.maxDepth = D + 1 + 1 := ⟨9998, rfl⟩
  rw [Op.equal, hh, run_equalIn_array w _ _ _ Try.underlying26 hi, cells_c, hr]
  have p := fun (f : Nat → Nat × Nat) m hm => run_part_c (row4_at f m hm)
  obtain ⟨a, ha⟩ : ∃ a, a = eqc (f 0) (g 0) := ⟨_, rfl⟩
  obtain ⟨b, hb⟩ : ∃ b, b = eqc (f 1) (g 1) := ⟨_, rfl⟩
  obtain ⟨c, hc⟩ : ∃ c, c = eqc (f 2) (g 2) := ⟨_, rfl⟩
  obtain ⟨d, hd⟩ : ∃ d, d = eqc (f 3) (g 3) := ⟨_, rfl⟩
  simp only [eq4, ← ha, ← hb, ← hc, ← hd]
  cases a <;> cases b <;> cases c <;> cases d <;>
    simp [Op.eqItems, Sem.run_bind, p f 0 (by decide), p g 0 (by decide), p f 1 (by decide), p g 1 (by decide), p f 2 (by decide), p g 2 (by decide), p f 3 (by decide), p g 3 (by decide), run_eqIn_c, ← ha, ← hb, ← hc, ← hd]
theorem run_eql_wave (f g : Nat → Nat × Nat) (w : World) : (binOp .eql 26 (.agg (row4 f)) (.agg (row4 g))).run Try.prog w = .ok (.bool (eq4 f g)) w := by
  simp [binOp, Sem.run_bind, run_equal_wave]
theorem run_neq_wave (f g : Nat → Nat × Nat) (w : World) : (binOp .neq 26 (.agg (row4 f)) (.agg (row4 g))).run Try.prog w = .ok (.bool (!eq4 f g)) w := by
  simp [binOp, Sem.run_bind, run_equal_wave]

theorem eqc_of {p q : Nat × Nat} {a b c d : Int} (h : CRep p.1 p.2 a b) (k : CRep q.1 q.2 c d) : eqc p q = decide (a = c ∧ b = d) := crep_eq h k
/-- waves that stand for the same sums are the same -/
theorem eq4_of {f g : Nat → Nat × Nat} {s t : S4} (h : Waves f s) (k : Waves g t) (e : ∀ m, m < 4 → s.re m = t.re m ∧ s.im m = t.im m) : eq4 f g = true := by
  unfold eq4
  rw [eqc_of (h 0 (by decide)) (k 0 (by decide)), eqc_of (h 1 (by decide)) (k 1 (by decide)), eqc_of (h 2 (by decide)) (k 2 (by decide)), eqc_of (h 3 (by decide)) (k 3 (by decide))]
  simp [(e 0 (by decide)).1, (e 1 (by decide)).1, (e 2 (by decide)).1, (e 3 (by decide)).1, (e 0 (by decide)).2, (e 1 (by decide)).2, (e 2 (by decide)).2, (e 3 (by decide)).2]
theorem eq4_same {f g : Nat → Nat × Nat} {s : S4} (h : Waves f s) (k : Waves g s) : eq4 f g = true := eq4_of h k fun _ _ => ⟨rfl, rfl⟩
theorem eq4_zero : eq4 c00 c00 = true := eq4_same waves_zero waves_zero

end Go.Proofs.Ytepikibbghemhaa
