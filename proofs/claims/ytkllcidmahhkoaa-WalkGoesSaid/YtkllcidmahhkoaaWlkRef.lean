/-
  The document's walk (bourseref34.Of), by contract.
-/
import Derived.Test.YtkllcidmahhkoaaWlkBox
import Derived.Test.YtkllcidmahhkoaaWlkCor
import Derived.Test.YtkllcidmahhkoaaTwoRows
import Derived.Test.YtkllcidmahhkoaaResRow
namespace Go.Proofs.Ytkllcidmahhkoaa
open Go.RowKit
set_option linter.unusedVariables false
set_option linter.unusedSimpArgs false

/-- a heading's number -/
def hdZ (a b : Int) : Int := if a = 1 then 0 else if b = 1 then 1 else if a = -1 then 2 else 3
def xsZ (l : List TradeR) : List Int := (pathsZ l).map (·.x)
def ysZ (l : List TradeR) : List Int := (pathsZ l).map (·.y)
def cornP (l : List TradeR) (k : Nat) : Int := (cornL ((pathsZ l).take k)).1
theorem paths_len (l : List TradeR) : (pathsZ l).length = l.length := by simp [pathsZ]
theorem paths_take (l : List TradeR) (k : Nat) (h : k < l.length) : (pathsZ l).take (k + 1) = (pathsZ l).take k ++ [afterZ l (k + 1)] := by
  rw [List.take_succ_eq_append_getElem (by rw [paths_len]; exact h)]
  simp [pathsZ]
theorem corn_state (l : List TradeR) : ∀ k, k ≤ l.length → (cornL ((pathsZ l).take k)).2 = ((afterZ l k).hx, (afterZ l k).hy)
  | 0, _ => by simp [cornL, afterZ, begunZ]
  | k + 1, h => by rw [paths_take l k h, cornL_snoc]; rfl
theorem cornP_succ (l : List TradeR) (k : Nat) (h : k < l.length) : cornP l (k + 1) = if (afterZ l (k + 1)).hx = (afterZ l k).hx ∧ (afterZ l (k + 1)).hy = (afterZ l k).hy then cornP l k else cornP l k + 1 := by
  have hs := corn_state l k (by omega)
  unfold cornP
  rw [paths_take l k h, cornL_snoc]
  simp only [cornS, hs]
theorem cornP_le (l : List TradeR) : ∀ k, k ≤ l.length → 0 ≤ cornP l k ∧ cornP l k ≤ k
  | 0, _ => by simp [cornP, cornL]
  | k + 1, h => by
    have := cornP_le l k (by omega)
    rw [cornP_succ l k h]
    split <;> omega
theorem step_same {z : PathZ} {last price size : Int} (h : z.n = 0 ∨ price = last) : (stepZ z last price size).hx = z.hx ∧ (stepZ z last price size).hy = z.hy := by
  simp only [stepZ, headZ, turnZ]; rw [if_pos h]; constructor <;> simp <;> omega
theorem step_up {z : PathZ} {last price size : Int} (h : ¬ z.n = 0) (h2 : last < price) : (stepZ z last price size).hx = -z.hy ∧ (stepZ z last price size).hy = z.hx := by
  simp only [stepZ, headZ, turnZ]; rw [if_neg (by omega), if_pos h2]; constructor <;> simp
theorem step_dn {z : PathZ} {last price size : Int} (h : ¬ z.n = 0) (h2 : price < last) : (stepZ z last price size).hx = z.hy ∧ (stepZ z last price size).hy = -z.hx := by
  simp only [stepZ, headZ, turnZ]; rw [if_neg (by omega), if_neg (by omega)]; constructor <;> simp
theorem step_xy (z : PathZ) (last price size : Int) : (stepZ z last price size).x = z.x + (stepZ z last price size).hx * stepsZ size ∧ (stepZ z last price size).y = z.y + (stepZ z last price size).hy * stepsZ size := ⟨rfl, rfl⟩

/-- the block of a row has this type -/
def TypedAt (w : World) (a : Option Addr) (e : TypeId) : Prop := ∀ b o, a = some ⟨b, o, none⟩ → ∃ cs fr, w.heap[b]? = some (.cells cs e fr)
theorem own_typed {w : World} {base : Nat} {e : TypeId} {m : Nat} {a : Option Addr} {c n : Nat} {xs : List Value} (h : w.ownsRow base e m (.slice a n c) n xs) : TypedAt w a e := fun b o e' => by
  obtain ⟨_, ⟨h1, _⟩ | ⟨g, cap, cur, h1, _, h2, _⟩⟩ := h
  · cases h1; cases e'
  · cases h1; cases e'; exact ⟨_, _, h2⟩
theorem TypedAt.moved {w w' : World} {a : Option Addr} {e : TypeId} (h : TypedAt w a e) (hB : Below w.heap.size w w') : TypedAt w' a e := fun b o e' => by
  obtain ⟨cs, fr, h1⟩ := h b o e'
  exact ⟨cs, fr, (hB.block _ (heap_lt h1)).trans h1⟩
theorem TypedAt.ne {w : World} {a : Option Addr} {e : TypeId} (h : TypedAt w a e) {g : Nat} {cs : Array Value} {t : TypeId} {fr : Nat × Nat} (hg : w.heap[g]? = some (.cells cs t fr)) (ht : t ≠ e) : ∀ b o, a = some ⟨b, o, none⟩ → b ≠ g := fun b o e' h' => by
  obtain ⟨cs', fr', h1⟩ := h b o e'
  subst h'; rw [hg] at h1; cases h1; exact ht rfl
theorem TypedAt.setRow {w : World} {a : Option Addr} {e : TypeId} (h : TypedAt w a e) {g : Nat} (hn : ∀ b o, a = some ⟨b, o, none⟩ → b ≠ g) (cs : Array Value) : TypedAt (w.setRow g cs) a e := fun b o e' => by
  obtain ⟨cs', fr', h1⟩ := h b o e'
  exact ⟨cs', fr', (setRow_other _ _ _ _ (hn b o e')).trans h1⟩
abbrev refP (x y hd co : Int) (v u : Value) : Array Value := #[.int .i64 x, .int .i64 y, .int .i64 hd, .int .i64 co, v, u]
theorem p6_info (x y hd co : Int) (v u : Value) : (Try.prog.info? 37).map (·.size) = some (refP x y hd co v u).size := show (Try.prog.info? 37).map (·.size) = some 6 by kernel_rfl
theorem p6_size (x y hd co : Int) (v u : Value) (x' y' hd' co' : Int) (v' u' : Value) : (refP x y hd co v u).size = (refP x' y' hd' co' v' u').size := rfl
theorem p6_one (x y hd co : Int) (a b : Option Addr) (m n c d : Nat) : (refP x y hd co (.slice a m c) (.slice b n d)).all (·.oneCell') = true := by simp [Value.oneCell']
theorem info_int35 : (Try.prog.info? 3).map (fun i => (i.zero, i.size, i.bytes)) = some (some (.int .i64 0), 1, 8) := by kernel_rfl

theorem own_set {w : World} {base : Nat} {e : TypeId} {v : Value} {n : Nat} {xs : List Value} {B i : Nat} {x : Value} {cs : Array Value} {t : TypeId} {fr : Nat × Nat} (h : w.ownsRow base e 1 v n xs) (hB : w.heap[B]? = some (.cells cs t fr)) (ht : t ≠ e) : (w.setCell ⟨B, i, none⟩ x).ownsRow base e 1 v n xs := by
  obtain ⟨hl, h | ⟨g, cap, cur, hv, hb, hc, hr⟩⟩ := h
  · exact ⟨hl, .inl h⟩
  · refine ⟨hl, .inr ⟨g, cap, cur, hv, hb, ?_, hr⟩⟩
    rw [heap_setCell_other _ _ _ _ (by intro e'; have e'' : B = g := e'.symm; subst e''; rw [hB] at hc; cases hc; exact ht rfl)]
    exact hc
structure RW (w wx : World) (k : Nat) (x y hd co : Int) (v u : Value) (bt : Nat) (a b c d : Int) (xs ys : List Value) : Prop where
  two : Two w wx 3 v k xs u k ys
  own : wx.heap[w.heap.size + 1]? = some (.cells (refP x y hd co v u) 37 (0, 0))
  res : wx.heap[w.heap.size]? = some (.cells (refP 0 0 0 0 (.slice none 0 0) (.slice none 0 0)) 37 (0, 0))
  tr : wx.heap[bt]? = some (.cells #[.int .u64 a, .int .u64 b, .int .i64 c, .int .i64 d] 25 (0, 0))
  bt2 : w.heap.size + 1 < bt
section
variable {w wx w' : World} {k : Nat} {x y hd co : Int} {v u : Value} {bt : Nat} {a b c d : Int} {xs ys : List Value}
theorem RW.moved (h : RW w wx k x y hd co v u bt a b c d xs ys) (hB : Below wx.heap.size wx w') : RW w w' k x y hd co v u bt a b c d xs ys :=
  ⟨h.two.moved hB, (hB.block _ (heap_lt h.own)).trans h.own, (hB.block _ (heap_lt h.res)).trans h.res, (hB.block _ (heap_lt h.tr)).trans h.tr, h.bt2⟩
theorem RW.drew (h : RW w wx k x y hd co v u bt a b c d xs ys) (hB : Drew wx w') : RW w w' k x y hd co v u bt a b c d xs ys := h.moved hB.below
theorem RW.set (h : RW w wx k x y hd co v u bt a b c d xs ys) (i : Nat) (z : Value) (x' y' hd' co' : Int) (e : (refP x y hd co v u).setIfInBounds i z = refP x' y' hd' co' v u) : RW w (wx.setCell ⟨w.heap.size + 1, i, none⟩ z) k x' y' hd' co' v u bt a b c d xs ys :=
  ⟨⟨own_set h.two.a h.own (by decide), own_set h.two.b h.own (by decide), h.two.ne, h.two.bel.setCell (by simp) _⟩, heap_set4 h.own i z _ e,
   (heap_setCell_other _ _ _ _ (by simp)).trans h.res, (heap_setCell_other _ _ _ _ (by have := h.bt2; simp; omega)).trans h.tr, h.bt2⟩
theorem RW.cells (h : RW w wx k x y hd co v u bt a b c d xs ys) : wx.cell? ⟨w.heap.size + 1, 0, none⟩ = some (.int .i64 x) ∧ wx.cell? ⟨w.heap.size + 1, 1, none⟩ = some (.int .i64 y) ∧ wx.cell? ⟨w.heap.size + 1, 2, none⟩ = some (.int .i64 hd) ∧ wx.cell? ⟨w.heap.size + 1, 3, none⟩ = some (.int .i64 co) ∧ wx.cell? ⟨w.heap.size + 1, 4, none⟩ = some v ∧ wx.cell? ⟨w.heap.size + 1, 5, none⟩ = some u := by
  refine ⟨?_, ?_, ?_, ?_, ?_, ?_⟩ <;> (rw [cell_of_row _ _ _ _ _ _ h.own]; rfl)
theorem RW.tcells (h : RW w wx k x y hd co v u bt a b c d xs ys) : wx.cell? ⟨bt, 2, none⟩ = some (.int .i64 c) ∧ wx.cell? ⟨bt, 3, none⟩ = some (.int .i64 d) := by
  refine ⟨?_, ?_⟩ <;> (rw [cell_of_row _ _ _ _ _ _ h.tr]; rfl)
end
theorem wp_append_two {P : Program} {ops : Array Oper} {rest : List Oper} {o : Oper} {a : Act} {Q : Exit → Act → World → Prop} (hgd : o.guard = none) (s x : Operand) (t : TypeId)
    (ho : o.op = .call { callee := .builtin .append, args := #[s, x], argTypes := #[t, t] })
    (w0 : World) (e : TypeId) (ht : P.underlying t = some (.slice e)) (z : Value) (bytes : Nat) (hi : (P.info? e).map (fun i => (i.zero, i.size, i.bytes)) = some (some z, 1, bytes)) (hz1 : z.cells.size = 1) (hby : bytes ≤ 640)
    (w : World) (v v' : Value) (n n' : Nat) (xs ys : List Value) (hs : a.eval s = v) (u : Value) (B : Nat) (hx : a.eval x = .slice (some ⟨B, 0, Option.none⟩) 1 1) (hown : Two w0 w e v n xs v' n' ys)
    (hB : w.heap[B]? = some (.cells #[u] e (0, 0))) (hu : u.oneCell' = true) (hlen : n + 1 ≤ 1000000000)
    (h : ∀ g cap w', Two w0 w' e (.slice (some ⟨g, 0, Option.none⟩) (n + 1) cap) (n + 1) (xs ++ [u]) v' n' ys → (∀ (j : Nat) (cs : Array Value) (t : TypeId) (fr : Nat × Nat), w.heap[j]? = some (Obj.cells cs t fr) → t ≠ e → w'.heap[j]? = some (Obj.cells cs t fr)) → wpList P ops Q rest (a.put o.dst (.slice (some ⟨g, 0, Option.none⟩) (n + 1) cap)) w') :
    wpList P ops Q (o :: rest) a w := by
  refine wpList_plain hgd fun K hK => ?_
  have h2 := step_append_two (P := P) (ops := ops) (E := True) (K := K) (Q := Q) hgd s x t ho w0 e ht z bytes hi hz1 hby w v v' n n' xs ys hs u B hx hown hB hu hlen (fun g cap w' g1 _ g3 => hK _ _ (h g cap w' g1 g3))
  rwa [if_pos (by simp [Region.wanted, hgd])] at h2

theorem hd_up {a b : Int} (h : unit4 a b) : hdZ (-b) a = (hdZ a b + 1) % 4 := by rcases h with ⟨rfl, rfl⟩ | ⟨rfl, rfl⟩ | ⟨rfl, rfl⟩ | ⟨rfl, rfl⟩ <;> rfl
theorem hd_dn {a b : Int} (h : unit4 a b) : hdZ b (-a) = (hdZ a b + 3) % 4 := by rcases h with ⟨rfl, rfl⟩ | ⟨rfl, rfl⟩ | ⟨rfl, rfl⟩ | ⟨rfl, rfl⟩ <;> rfl
theorem hd_cases {a b : Int} (h : unit4 a b) : hdZ a b = 0 ∨ hdZ a b = 1 ∨ hdZ a b = 2 ∨ hdZ a b = 3 := by rcases h with ⟨rfl, rfl⟩ | ⟨rfl, rfl⟩ | ⟨rfl, rfl⟩ | ⟨rfl, rfl⟩ <;> simp [hdZ]
theorem unit_ne {a b : Int} (h : unit4 a b) : ¬ (-b = a ∧ a = b) ∧ ¬ (b = a ∧ -a = b) := by rcases h with ⟨rfl, rfl⟩ | ⟨rfl, rfl⟩ | ⟨rfl, rfl⟩ | ⟨rfl, rfl⟩ <;> simp
theorem hd_go {a b : Int} (h : unit4 a b) (x y s : Int) : (hdZ a b = 0 → x + a * s = x + s ∧ y + b * s = y) ∧ (hdZ a b = 1 → x + a * s = x ∧ y + b * s = y + s) ∧ (hdZ a b = 2 → x + a * s = x - s ∧ y + b * s = y) ∧ (hdZ a b = 3 → x + a * s = x ∧ y + b * s = y - s) := by
  rcases h with ⟨rfl, rfl⟩ | ⟨rfl, rfl⟩ | ⟨rfl, rfl⟩ | ⟨rfl, rfl⟩ <;> simp [hdZ] <;> omega
end Go.Proofs.Ytkllcidmahhkoaa
