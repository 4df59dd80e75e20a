/-
  No cell of these rows narrows 'for every input' (looked for: loops, veiled, ifaces, maps, wideKeys, modest, calm, conditions, laid).
  DERIVED. THE GIVEN ROWS OF THIS SEAT. 4 by the template 'for every input the law returns true; each argument reads behind the call as it read before'; 0 by the template 'total and deterministic' (their statements: YtacgpflheokkaaaTotals.lean).
  GIVEN WITH THE SEED: the statements are not yours to turn. If you find one false, say at which input.
  Laid BY PROGRAM, IN A SANDBOX (cutbox-rows.mjs): the forced cells as the released guide's own fill.sh prints them over the translation 9aed5716aa50c536… (all of the seat's roots in one cut). By AI agents, Wed Nov 11 2026. No macro, syntax, notation, axiom, sorry.
-/
import Derived.Test.YtacgpflheokkaaaChecked
import GoSem.Claim
import GoSem.ClaimJoined
import GoSem.ClaimMapViews
import Derived.JoinedTies
import Derived.KernelRfl
namespace Go.Proofs.Ytacgpflheokkaaa
/- THE CELL 'sum', in the pinned program and in every row, IS THE sha256 OF THE DUMP (.gsa) THAT YtacgpflheokkaaaProg.lean LOADS. Nothing in Lean hashes anything: it is a label: what it is worth is what the hold of that sum in a sandbox is worth. -/
noncomputable def Try.pinned : Pinned := { name := "ytacgpflheokkaaa", sum := "9aed5716aa50c536050c5b8b684afc2546b5ed3e0083d2d26aced788715638b3", checked := Try.checked }
namespace Rows
def none {H : Type} : Left H := { results := [], args := [] }

/-- 'bourselaw07.SkipMany': WHATEVER THE INPUT: true; the input reads as it did. -/
def skipManySpec : ChangeSpec := { name := "skipMany", fn := fun _ => fun
  | [d1, d2] => { results := [.lit (.bool true)], args := [d1, d2] }
  | _ => none }
def skipManyRow : OpenClaim := { program := "ytacgpflheokkaaa", sum := "9aed5716aa50c536050c5b8b684afc2546b5ed3e0083d2d26aced788715638b3", func := "bourse/bourselaw07.SkipMany", spec := "skipMany", unfollowed := true, recurses := true, apart := false }
def SkipManySaid : Prop := skipManyRow.holds Try.pinned (OpenSpec.ofChange skipManySpec)

/-- ITS FALSE NEIGHBOUR: 'it returns false'. Refute it at one input. -/
def skipManyWrong : ChangeSpec := { name := "skipMany", fn := fun _ => fun
  | [d1, d2] => { results := [.lit (.bool false)], args := [d1, d2] }
  | _ => none }
def SkipManyWrongFalsely : Prop := skipManyRow.holds Try.pinned (OpenSpec.ofChange skipManyWrong)

/-- 'bourselaw07.SkipTowers': WHATEVER THE INPUT: true; the input reads as it did. -/
def skipTowersSpec : ChangeSpec := { name := "skipTowers", fn := fun _ => fun
  | [d1, d2, d3] => { results := [.lit (.bool true)], args := [d1, d2, d3] }
  | _ => none }
def skipTowersRow : OpenClaim := { program := "ytacgpflheokkaaa", sum := "9aed5716aa50c536050c5b8b684afc2546b5ed3e0083d2d26aced788715638b3", func := "bourse/bourselaw07.SkipTowers", spec := "skipTowers", unfollowed := true, recurses := true, apart := false }
def SkipTowersSaid : Prop := skipTowersRow.holds Try.pinned (OpenSpec.ofChange skipTowersSpec)

/-- ITS FALSE NEIGHBOUR: 'it returns false'. Refute it at one input. -/
def skipTowersWrong : ChangeSpec := { name := "skipTowers", fn := fun _ => fun
  | [d1, d2, d3] => { results := [.lit (.bool false)], args := [d1, d2, d3] }
  | _ => none }
def SkipTowersWrongFalsely : Prop := skipTowersRow.holds Try.pinned (OpenSpec.ofChange skipTowersWrong)

/-- 'bourselaw07.SkipPlays': WHATEVER THE INPUT: true; the input reads as it did. -/
def skipPlaysSpec : ChangeSpec := { name := "skipPlays", fn := fun _ => fun
  | [d1, d2, d3] => { results := [.lit (.bool true)], args := [d1, d2, d3] }
  | _ => none }
def skipPlaysRow : OpenClaim := { program := "ytacgpflheokkaaa", sum := "9aed5716aa50c536050c5b8b684afc2546b5ed3e0083d2d26aced788715638b3", func := "bourse/bourselaw07.SkipPlays", spec := "skipPlays", unfollowed := true, recurses := true, apart := false }
def SkipPlaysSaid : Prop := skipPlaysRow.holds Try.pinned (OpenSpec.ofChange skipPlaysSpec)

/-- ITS FALSE NEIGHBOUR: 'it returns false'. Refute it at one input. -/
def skipPlaysWrong : ChangeSpec := { name := "skipPlays", fn := fun _ => fun
  | [d1, d2, d3] => { results := [.lit (.bool false)], args := [d1, d2, d3] }
  | _ => none }
def SkipPlaysWrongFalsely : Prop := skipPlaysRow.holds Try.pinned (OpenSpec.ofChange skipPlaysWrong)

/-- 'bourselaw07.SkipNil': WHATEVER THE INPUT: true; the input reads as it did. -/
def skipNilSpec : ChangeSpec := { name := "skipNil", fn := fun _ => fun
  | [] => { results := [.lit (.bool true)], args := [] }
  | _ => none }
def skipNilRow : OpenClaim := { program := "ytacgpflheokkaaa", sum := "9aed5716aa50c536050c5b8b684afc2546b5ed3e0083d2d26aced788715638b3", func := "bourse/bourselaw07.SkipNil", spec := "skipNil", unfollowed := true, recurses := true, apart := false }
def SkipNilSaid : Prop := skipNilRow.holds Try.pinned (OpenSpec.ofChange skipNilSpec)

/-- ITS FALSE NEIGHBOUR: 'it returns false'. Refute it at one input. -/
def skipNilWrong : ChangeSpec := { name := "skipNil", fn := fun _ => fun
  | [] => { results := [.lit (.bool false)], args := [] }
  | _ => none }
def SkipNilWrongFalsely : Prop := skipNilRow.holds Try.pinned (OpenSpec.ofChange skipNilWrong)

/- THE SECOND FORM. 'bulk': how many values and letters a reading holds, each counted each time it is reached (what is shared counts as often as it is met; a slice's spare places count too). A statement '..UptoSaid' is the law's where the arguments, and the package variables that the reading takes, are together of bulk at most 1048576: NARROWER than '..Said'. Prove '..Said' where nothing that the law and all that it calls make is longer than what came in: it says more and counts as full. Else prove '..UptoSaid'. A law counts once. -/
mutual
def uptoBulk {H : Type} : DataW H → Nat
  | .lit (.string bytes) => bytes.length + 1
  | .lit _ => 1
  | .nil => 1
  | .ptr d => uptoBulk d + 1
  | .slice elems spare => uptoBulkAll elems + uptoBulkAll spare + 1
  | .agg parts => uptoBulkAll parts + 1
  | .iface _ d => uptoBulk d + 1
  | .map entries => uptoBulkEntries entries + 1
  | .held _ => 1
def uptoBulkAll {H : Type} : List (DataW H) → Nat
  | [] => 0
  | d :: r => uptoBulk d + uptoBulkAll r
def uptoBulkEntries {H : Type} : List (Lit × DataW H) → Nat
  | [] => 0
  | x :: r => uptoBulkEntry x + uptoBulkEntries r
def uptoBulkEntry {H : Type} : Lit × DataW H → Nat
  | (.string bytes, d) => bytes.length + uptoBulk d + 1
  | (_, d) => uptoBulk d + 1
 end
def uptoSmall : (H : Type) → List (DataW H) → Bool := fun _ ds => decide (uptoBulkAll ds ≤ 1048576)
def OpenSpec.upto (s : _root_.Go.ChangeSpec) : _root_.Go.OpenSpec := { _root_.Go.OpenSpec.ofChange s with cond := some uptoSmall }

/-- 'bourselaw07.SkipMany', WHERE WHAT IT READS IS OF BULK AT MOST 1048576: true; the input reads as it did. -/
def skipManyUptoRow : OpenClaim := { program := "ytacgpflheokkaaa", sum := "9aed5716aa50c536050c5b8b684afc2546b5ed3e0083d2d26aced788715638b3", func := "bourse/bourselaw07.SkipMany", spec := "skipMany", unfollowed := true, recurses := true, apart := false, narrowed := true }
def SkipManyUptoSaid : Prop := skipManyUptoRow.holds Try.pinned (OpenSpec.upto skipManySpec)

/-- 'bourselaw07.SkipTowers', WHERE WHAT IT READS IS OF BULK AT MOST 1048576: true; the input reads as it did. -/
def skipTowersUptoRow : OpenClaim := { program := "ytacgpflheokkaaa", sum := "9aed5716aa50c536050c5b8b684afc2546b5ed3e0083d2d26aced788715638b3", func := "bourse/bourselaw07.SkipTowers", spec := "skipTowers", unfollowed := true, recurses := true, apart := false, narrowed := true }
def SkipTowersUptoSaid : Prop := skipTowersUptoRow.holds Try.pinned (OpenSpec.upto skipTowersSpec)

/-- 'bourselaw07.SkipPlays', WHERE WHAT IT READS IS OF BULK AT MOST 1048576: true; the input reads as it did. -/
def skipPlaysUptoRow : OpenClaim := { program := "ytacgpflheokkaaa", sum := "9aed5716aa50c536050c5b8b684afc2546b5ed3e0083d2d26aced788715638b3", func := "bourse/bourselaw07.SkipPlays", spec := "skipPlays", unfollowed := true, recurses := true, apart := false, narrowed := true }
def SkipPlaysUptoSaid : Prop := skipPlaysUptoRow.holds Try.pinned (OpenSpec.upto skipPlaysSpec)

/-- 'bourselaw07.SkipNil', WHERE WHAT IT READS IS OF BULK AT MOST 1048576: true; the input reads as it did. -/
def skipNilUptoRow : OpenClaim := { program := "ytacgpflheokkaaa", sum := "9aed5716aa50c536050c5b8b684afc2546b5ed3e0083d2d26aced788715638b3", func := "bourse/bourselaw07.SkipNil", spec := "skipNil", unfollowed := true, recurses := true, apart := false, narrowed := true }
def SkipNilUptoSaid : Prop := skipNilUptoRow.holds Try.pinned (OpenSpec.upto skipNilSpec)

end Rows
end Go.Proofs.Ytacgpflheokkaaa
