/-
  What an iterator wants kept: all cells but the caller's own boxes.
-/
import Derived.Test.YtacgpflheokkaaaRowIn
import Derived.Laws.Tables
namespace Go.Proofs.Ytacgpflheokkaaa
open Go.RowKit Go.Shelf
set_option linter.unusedVariables false
set_option linter.unusedSimpArgs false

def KeepsBut (q : Nat → Prop) (A B : World) : Prop := ∀ (k : Nat) (o : Obj), ¬ q k → A.heap[k]? = some o → o.isCells = true → B.heap[k]? = some o
theorem keepsBut_t {q : Nat → Prop} {A B C : World} (h : KeepsBut q A B) (k : KeepsBut q B C) : KeepsBut q A C := fun i o hq hi ho => k i o hq (h i o hq hi ho) ho
theorem keepsBut_r {q : Nat → Prop} (A : World) : KeepsBut q A A := fun _ _ _ h _ => h
theorem keepsBut_b {q : Nat → Prop} (W : World) (l : Nat) (o o' : Obj) (h : W.heap[l]? = some o) (ho : o.isCells = false) : KeepsBut q W (W.putObj l o') := fun k ob hq hk hc => by
  by_cases e : k = l
  · subst e; rw [h] at hk; cases hk; rw [ho] at hc; cases hc
  · rw [World.putObj_heap_other e]; exact hk
theorem KeepsBut.heap {q : Nat → Prop} {A B : World} (h : KeepsBut q A B) {k : Nat} (hq : ¬ q k) {cs : Array Value} {t : TypeId} {fr : Nat × Nat} (hk : A.heap[k]? = some (.cells cs t fr)) : B.heap[k]? = some (.cells cs t fr) := h k _ hq hk rfl
theorem KeepsBut.cell {q : Nat → Prop} {A B : World} (h : KeepsBut q A B) {a : Addr} {v : Value} (hq : ¬ q a.block) (hc : A.cell? a = some v) : B.cell? a = some v := by
  unfold World.cell? at hc ⊢
  cases hb : A.heap[a.block]? with
  | none => rw [hb] at hc; simp at hc
  | some o =>
    cases o with
    | cells cs t fr => rw [hb] at hc; rw [h.heap hq hb]; exact hc
    | _ => rw [hb] at hc; simp at hc
theorem KeepsBut.of_chg {q : Nat → Prop} {b : Nat} {A B : World} (h : Chg b A B) (hq : q b) : KeepsBut q A B := fun k o hk ho _ => by
  rw [h.block k (Array.getElem?_eq_some_iff.1 ho).1 (fun e => hk (e ▸ hq))]; exact ho
theorem KeepsBut.of_below {q : Nat → Prop} {A B : World} (h : Below A.heap.size A B) : KeepsBut q A B := fun k o hk ho _ => by
  rw [h.block k (Array.getElem?_eq_some_iff.1 ho).1]; exact ho
theorem RowsAt.but {ρ : Type} {q : Nat → Prop} {A B : World} {a : Option Addr} {m : Nat} {enc : ρ → List Value} {l : List ρ} (h : RowsAt A a m enc l) (k : KeepsBut q A B) (hq : ∀ b o, a = some ⟨b, o, none⟩ → ¬ q b) : RowsAt B a m enc l := by
  rcases h.out with e | ⟨b, o, e, hc⟩
  · exact ⟨.inl e⟩
  · exact ⟨.inr ⟨b, o, e, fun i r hi j v hv => k.cell (hq b o e) (hc i r hi j v hv)⟩⟩

/-- a struct's store, within a fence -/
theorem wpIn_store_row {F : Fence} {n : Nat} {P : Program} {ops : Array Oper} {rest : List Oper} {o : Oper} {a : Act} {w : World} {Q : Exit → Act → World → Prop} (hgd : o.guard = none) (ty : TypeId) (x y : Operand) (ho : o.op = .store ty x y)
    (g : Nat) (cells : Array Value) (hx : a.eval x = .pointer (some ⟨g, 0, none⟩)) (hy : a.eval y = .agg cells)
    (t : TypeId) (old : Array Value) (hg : w.heap[g]? = some (.cells old t (0, 0))) (hi : (P.info? ty).map (·.size) = some cells.size)
    (hold : old.size = cells.size) (h1 : cells.all (·.oneCell') = true)
    (h : wpListIn F n P ops Q rest (a.put o.dst undef) (w.setRow g cells)) : wpListIn F n P ops Q (o :: rest) a w := by
  refine wpListIn_plain hgd fun K hK' => ?_
  unfold Oper.wpIn
  refine ⟨?_, ?_⟩
  · simp [Oper.about, ho]
  · rw [Oper.semAt_plain F _ _ (by rw [ho]; intro c hc'; cases hc')]
    unfold execOp
    simp only [ho, hx, hy, Instr.storeAt, Instr.sureAddr, Sem.run_bind, Sem.run_pure, Result.andThen_ok, run_storeVar_row w g t ty old cells hg hi hold h1]
    exact hK' _ _ h
/-- a struct's load, within a fence -/
theorem wpIn_load_row {F : Fence} {n : Nat} {P : Program} {ops : Array Oper} {rest : List Oper} {o : Oper} {a : Act} {w : World} {Q : Exit → Act → World → Prop} (hgd : o.guard = none) (ty : TypeId) (x : Operand) (ho : o.op = .load ty x)
    (g : Nat) (hx : a.eval x = .pointer (some ⟨g, 0, none⟩)) (t : TypeId) (cs : Array Value) (fr : Nat × Nat) (d : TypeDesc) (hg : w.heap[g]? = some (.cells cs t fr))
    (hu : P.underlying ty = some d) (hd : (match d with | .struct _ | .array _ _ => true | _ => false) = true) (hi : (P.info? ty).map (·.size) = some cs.size)
    (h : wpListIn F n P ops Q rest (a.put o.dst (.agg cs)) w) : wpListIn F n P ops Q (o :: rest) a w := by
  refine wpListIn_plain hgd fun K hK' => ?_
  unfold Oper.wpIn
  refine ⟨?_, ?_⟩
  · simp [Oper.about, ho]
  · rw [Oper.semAt_plain F _ _ (by rw [ho]; intro c hc'; cases hc')]
    unfold execOp
    simp only [ho, hx, Instr.loadAt, Instr.sureAddr, Sem.run_bind, Sem.run_pure, Result.andThen_ok, run_loadVar_row w g t ty cs fr d hg hu hd hi]
    exact hK' _ _ h
end Go.Proofs.Ytacgpflheokkaaa
