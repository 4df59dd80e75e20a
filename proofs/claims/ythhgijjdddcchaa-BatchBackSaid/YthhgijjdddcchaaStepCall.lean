/-
  An operation of a drawn region (go_region_law) walked as a list of one operation.
-/
import Derived.Test.YthhgijjdddcchaaRegPar
import Derived.Deep.RegionLaw
namespace Go.Proofs.Ythhgijjdddcchaa
open Go.RowKit
theorem step_of_list {P : Program} {ops : Array Oper} {o : Oper} {a : Act} {w : World} {K : Act → World → Prop} {Q : Exit → Act → World → Prop} {E : Prop} (hg : o.guard = none) (h : wpList P ops (OnlyN K) [o] a w) :
    if Region.wanted o (yielded ops a.tmps) = true then Oper.wp P o a w K Q else E := by
  have hw : Region.wanted o (yielded ops a.tmps) = true := by simp [Region.wanted, hg]
  rw [if_pos hw]
  unfold wpList at h
  rw [if_pos hw] at h
  rcases h with h | ⟨hh, a', w', h⟩
  · unfold Oper.wp at *
    generalize (execOp a.eval o).run P w = r at *
    cases r with
    | ok n w' =>
      cases n <;> simp only [Oper.upon] at h ⊢ <;>
        first
          | exact h
          | exact Calls.mono h (fun e w'' he => by
              cases e with
              | returned v => exact he
              | panicked c => exact False.elim he
              | outgrown => obtain ⟨_, _, he⟩ := he; exact False.elim he)
          | exact Rows.mono h (fun _ _ he => he)
    | halt x w' => cases x <;> simp only [Oper.upon] at h ⊢ <;> exact False.elim h
  · exact False.elim h
end Go.Proofs.Ythhgijjdddcchaa
