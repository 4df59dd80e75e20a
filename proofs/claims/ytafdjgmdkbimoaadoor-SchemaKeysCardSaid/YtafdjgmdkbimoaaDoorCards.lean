/-
  DERIVED. GIVEN WITH THE SEED: THE CARDS: each row of YtafdjgmdkbimoaaDoorRows.lean that lists a variable, with what it lists TIED to the program's text (the seventh form; the later family's looks); each row that meets fmt, with fmt's text TOLD by the authors' own Lean function (tested against real Go, not proved from fmt's source: count such statements apart). THE CARD IS WHAT COUNTS. Prove the row's statement (the work); the ties are given (YtafdjgmdkbimoaaDoorTie.lean); close each card by the builder's one call (the guide's Derived/Test/ToyasCard.lean, 'card_holds'). Laid BY PROGRAM, IN A SANDBOX (cutbox-door.mjs). By AI agents, Wed Nov 11 2026. No macro, syntax, notation, axiom, sorry.
-/
import Derived.Test.YtafdjgmdkbimoaaDoorRows
import GoSem.ClaimSeven
namespace Go.Proofs.YtafdjgmdkbimoaaDoor
namespace Rows

/-- THE TIED CARD OF 'bourselaw21.SchemaOrders'. -/
def schemaOrdersCard : Claim7 := { stood := { row := schemaOrdersRow, standIns := [], harness := (true, "1de2ad01434552e6993b1aa913f681d13a3cff4e3fb4f735b8dd7ffa7475346a"), looks := false }, kinds := [], alts := [], laidByText := true, laidKinds := [.data, .pinned], laidTests := true, laidLooks := .later }
def SchemaOrdersCardSaid : Prop := Claim7.holds Tryd.pinned (.plain (OpenSpec.ofChange schemaOrdersSpec)) schemaOrdersCard

/-- THE TIED CARD OF 'bourselaw21.SchemaKeys'. -/
def schemaKeysCard : Claim7 := { stood := { row := schemaKeysRow, standIns := [], harness := (true, "1de2ad01434552e6993b1aa913f681d13a3cff4e3fb4f735b8dd7ffa7475346a"), looks := false }, kinds := [], alts := [], laidByText := true, laidKinds := [.data, .pinned], laidTests := true, laidLooks := .later }
def SchemaKeysCardSaid : Prop := Claim7.holds Tryd.pinned (.plain (OpenSpec.ofChange schemaKeysSpec)) schemaKeysCard

/-- THE TIED CARD OF 'bourselaw21.SchemaBounds'. -/
def schemaBoundsCard : Claim7 := { stood := { row := schemaBoundsRow, standIns := [], harness := (true, "1de2ad01434552e6993b1aa913f681d13a3cff4e3fb4f735b8dd7ffa7475346a"), looks := false }, kinds := [], alts := [], laidByText := true, laidKinds := [.data, .pinned], laidTests := true, laidLooks := .later }
def SchemaBoundsCardSaid : Prop := Claim7.holds Tryd.pinned (.plain (OpenSpec.ofChange schemaBoundsSpec)) schemaBoundsCard

/-- THE SECOND FORM's CARD OF 'bourselaw21.SchemaOrders'. -/
def schemaOrdersUptoCard : Claim7 := { stood := { row := schemaOrdersUptoRow, standIns := [], harness := (true, "1de2ad01434552e6993b1aa913f681d13a3cff4e3fb4f735b8dd7ffa7475346a"), looks := false }, kinds := [], alts := [], laidByText := true, laidKinds := [.data, .pinned], laidTests := true, laidLooks := .later }
def SchemaOrdersUptoCardSaid : Prop := Claim7.holds Tryd.pinned (.plain (OpenSpec.upto schemaOrdersSpec)) schemaOrdersUptoCard

/-- THE SECOND FORM's CARD OF 'bourselaw21.SchemaKeys'. -/
def schemaKeysUptoCard : Claim7 := { stood := { row := schemaKeysUptoRow, standIns := [], harness := (true, "1de2ad01434552e6993b1aa913f681d13a3cff4e3fb4f735b8dd7ffa7475346a"), looks := false }, kinds := [], alts := [], laidByText := true, laidKinds := [.data, .pinned], laidTests := true, laidLooks := .later }
def SchemaKeysUptoCardSaid : Prop := Claim7.holds Tryd.pinned (.plain (OpenSpec.upto schemaKeysSpec)) schemaKeysUptoCard

/-- THE SECOND FORM's CARD OF 'bourselaw21.SchemaBounds'. -/
def schemaBoundsUptoCard : Claim7 := { stood := { row := schemaBoundsUptoRow, standIns := [], harness := (true, "1de2ad01434552e6993b1aa913f681d13a3cff4e3fb4f735b8dd7ffa7475346a"), looks := false }, kinds := [], alts := [], laidByText := true, laidKinds := [.data, .pinned], laidTests := true, laidLooks := .later }
def SchemaBoundsUptoCardSaid : Prop := Claim7.holds Tryd.pinned (.plain (OpenSpec.upto schemaBoundsSpec)) schemaBoundsUptoCard
end Rows
end Go.Proofs.YtafdjgmdkbimoaaDoor
