/-
  DERIVED. GIVEN WITH THE SEED: THE CARDS: each row of YtlbdemcpjpfbfaaDoorRows.lean that lists a variable, with what it lists TIED to the program's text (the seventh form; the later family's looks); each row that meets fmt, with fmt's text TOLD by the authors' own Lean function (tested against real Go, not proved from fmt's source: count such statements apart). THE CARD IS WHAT COUNTS. Prove the row's statement (the work); the ties are given (YtlbdemcpjpfbfaaDoorTie.lean); close each card by the builder's one call (the guide's Derived/Test/ToyasCard.lean, 'card_holds'). Laid BY PROGRAM, IN A SANDBOX (cutbox-door.mjs). By AI agents, Wed Nov 11 2026. No macro, syntax, notation, axiom, sorry.
-/
import Derived.Test.YtlbdemcpjpfbfaaDoorRows
import GoSem.ClaimSeven
namespace Go.Proofs.YtlbdemcpjpfbfaaDoor
namespace Rows

/-- THE TIED CARD OF 'bourselaw04.KeyNumbers'. -/
def keyNumbersCard : Claim7 := { stood := { row := keyNumbersRow, standIns := [], harness := (true, "95cd38c2f52b8feb8e5d767eb32777053433efd8da31d0a26040fa8ba25475d8"), looks := false }, kinds := [], alts := [], laidByText := true, laidKinds := [.data, .pinned], laidTests := true, laidLooks := .later }
def KeyNumbersCardSaid : Prop := Claim7.holds Tryd.pinned (.plain (OpenSpec.ofChange keyNumbersSpec)) keyNumbersCard

/-- THE TIED CARD OF 'bourselaw04.KeyAfter'. -/
def keyAfterCard : Claim7 := { stood := { row := keyAfterRow, standIns := [], harness := (true, "95cd38c2f52b8feb8e5d767eb32777053433efd8da31d0a26040fa8ba25475d8"), looks := false }, kinds := [], alts := [], laidByText := true, laidKinds := [.data, .pinned], laidTests := true, laidLooks := .later }
def KeyAfterCardSaid : Prop := Claim7.holds Tryd.pinned (.plain (OpenSpec.ofChange keyAfterSpec)) keyAfterCard

/-- THE TIED CARD OF 'bourselaw04.KeyKeeps'. -/
def keyKeepsCard : Claim7 := { stood := { row := keyKeepsRow, standIns := [], harness := (true, "95cd38c2f52b8feb8e5d767eb32777053433efd8da31d0a26040fa8ba25475d8"), looks := false }, kinds := [], alts := [], laidByText := true, laidKinds := [.data, .pinned], laidTests := true, laidLooks := .later }
def KeyKeepsCardSaid : Prop := Claim7.holds Tryd.pinned (.plain (OpenSpec.ofChange keyKeepsSpec)) keyKeepsCard

/-- THE TIED CARD OF 'bourselaw04.KeyMakes'. -/
def keyMakesCard : Claim7 := { stood := { row := keyMakesRow, standIns := [], harness := (true, "95cd38c2f52b8feb8e5d767eb32777053433efd8da31d0a26040fa8ba25475d8"), looks := false }, kinds := [], alts := [], laidByText := true, laidKinds := [.data, .pinned], laidTests := true, laidLooks := .later }
def KeyMakesCardSaid : Prop := Claim7.holds Tryd.pinned (.plain (OpenSpec.ofChange keyMakesSpec)) keyMakesCard

/-- THE SECOND FORM's CARD OF 'bourselaw04.KeyNumbers'. -/
def keyNumbersUptoCard : Claim7 := { stood := { row := keyNumbersUptoRow, standIns := [], harness := (true, "95cd38c2f52b8feb8e5d767eb32777053433efd8da31d0a26040fa8ba25475d8"), looks := false }, kinds := [], alts := [], laidByText := true, laidKinds := [.data, .pinned], laidTests := true, laidLooks := .later }
def KeyNumbersUptoCardSaid : Prop := Claim7.holds Tryd.pinned (.plain (OpenSpec.upto keyNumbersSpec)) keyNumbersUptoCard

/-- THE SECOND FORM's CARD OF 'bourselaw04.KeyAfter'. -/
def keyAfterUptoCard : Claim7 := { stood := { row := keyAfterUptoRow, standIns := [], harness := (true, "95cd38c2f52b8feb8e5d767eb32777053433efd8da31d0a26040fa8ba25475d8"), looks := false }, kinds := [], alts := [], laidByText := true, laidKinds := [.data, .pinned], laidTests := true, laidLooks := .later }
def KeyAfterUptoCardSaid : Prop := Claim7.holds Tryd.pinned (.plain (OpenSpec.upto keyAfterSpec)) keyAfterUptoCard

/-- THE SECOND FORM's CARD OF 'bourselaw04.KeyKeeps'. -/
def keyKeepsUptoCard : Claim7 := { stood := { row := keyKeepsUptoRow, standIns := [], harness := (true, "95cd38c2f52b8feb8e5d767eb32777053433efd8da31d0a26040fa8ba25475d8"), looks := false }, kinds := [], alts := [], laidByText := true, laidKinds := [.data, .pinned], laidTests := true, laidLooks := .later }
def KeyKeepsUptoCardSaid : Prop := Claim7.holds Tryd.pinned (.plain (OpenSpec.upto keyKeepsSpec)) keyKeepsUptoCard

/-- THE SECOND FORM's CARD OF 'bourselaw04.KeyMakes'. -/
def keyMakesUptoCard : Claim7 := { stood := { row := keyMakesUptoRow, standIns := [], harness := (true, "95cd38c2f52b8feb8e5d767eb32777053433efd8da31d0a26040fa8ba25475d8"), looks := false }, kinds := [], alts := [], laidByText := true, laidKinds := [.data, .pinned], laidTests := true, laidLooks := .later }
def KeyMakesUptoCardSaid : Prop := Claim7.holds Tryd.pinned (.plain (OpenSpec.upto keyMakesSpec)) keyMakesUptoCard
end Rows
end Go.Proofs.YtlbdemcpjpfbfaaDoor
