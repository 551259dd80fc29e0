/-
  DERIVED. GIVEN WITH THE SEED: THE CARDS: each row of YtifmnhcmmoacfaaGreatDoorRows.lean that lists a variable, with what it lists TIED to the program's text (the seventh form; the later family's looks); each row that meets fmt, with fmt's text TOLD by the authors' own Lean function (tested against real Go, not proved from fmt's source: count such statements apart). THE CARD IS WHAT COUNTS. Prove the row's statement (the work); the ties are given (YtifmnhcmmoacfaaGreatDoorTie.lean); close each card by the builder's one call (the guide's Derived/Test/ToyasCard.lean, 'card_holds'). Laid BY PROGRAM, IN A SANDBOX (cutbox-door.mjs). By AI agents, Wed Nov 11 2026. No macro, syntax, notation, axiom, sorry.
-/
import Derived.Test.YtifmnhcmmoacfaaGreatDoorRows
import GoSem.ClaimSeven
namespace Go.Proofs.YtifmnhcmmoacfaaGreatDoor
namespace Rows

/-- THE TIED CARD OF 'keyeventlaw32.SchemaBounds'. -/
def schemaBoundsCard : Claim7 := { stood := { row := schemaBoundsRow, standIns := [], harness := (true, "33315e7b24fa76ca0d0b399982fdd5b241f1a6cd89757ff557b5f543aceb50a0"), looks := true }, kinds := [], alts := [], laidByText := true, laidKinds := [.data, .data, .data, .data, .sentinel, .sentinel, .pinned], laidTests := true, laidLooks := .later }
def SchemaBoundsCardSaid : Prop := Claim7.holds Tryz.pinned (.plain (OpenSpec.ofChange schemaBoundsSpec)) schemaBoundsCard

/-- THE TIED CARD OF 'keyeventlaw32.SchemaParts'. -/
def schemaPartsCard : Claim7 := { stood := { row := schemaPartsRow, standIns := [], harness := (true, "33315e7b24fa76ca0d0b399982fdd5b241f1a6cd89757ff557b5f543aceb50a0"), looks := true }, kinds := [], alts := [], laidByText := true, laidKinds := [.data, .data, .data, .data, .sentinel, .sentinel, .pinned], laidTests := true, laidLooks := .later }
def SchemaPartsCardSaid : Prop := Claim7.holds Tryz.pinned (.plain (OpenSpec.ofChange schemaPartsSpec)) schemaPartsCard

/-- THE TIED CARD OF 'keyeventlaw32.SchemaMakes'. -/
def schemaMakesCard : Claim7 := { stood := { row := schemaMakesRow, standIns := [], harness := (true, "33315e7b24fa76ca0d0b399982fdd5b241f1a6cd89757ff557b5f543aceb50a0"), looks := true }, kinds := [], alts := [], laidByText := true, laidKinds := [.data, .data, .data, .data, .sentinel, .sentinel, .pinned], laidTests := true, laidLooks := .later }
def SchemaMakesCardSaid : Prop := Claim7.holds Tryz.pinned (.plain (OpenSpec.ofChange schemaMakesSpec)) schemaMakesCard

/-- THE SECOND FORM's CARD OF 'keyeventlaw32.SchemaBounds'. -/
def schemaBoundsUptoCard : Claim7 := { stood := { row := schemaBoundsUptoRow, standIns := [], harness := (true, "33315e7b24fa76ca0d0b399982fdd5b241f1a6cd89757ff557b5f543aceb50a0"), looks := true }, kinds := [], alts := [], laidByText := true, laidKinds := [.data, .data, .data, .data, .sentinel, .sentinel, .pinned], laidTests := true, laidLooks := .later }
def SchemaBoundsUptoCardSaid : Prop := Claim7.holds Tryz.pinned (.plain (OpenSpec.upto schemaBoundsSpec)) schemaBoundsUptoCard

/-- THE SECOND FORM's CARD OF 'keyeventlaw32.SchemaParts'. -/
def schemaPartsUptoCard : Claim7 := { stood := { row := schemaPartsUptoRow, standIns := [], harness := (true, "33315e7b24fa76ca0d0b399982fdd5b241f1a6cd89757ff557b5f543aceb50a0"), looks := true }, kinds := [], alts := [], laidByText := true, laidKinds := [.data, .data, .data, .data, .sentinel, .sentinel, .pinned], laidTests := true, laidLooks := .later }
def SchemaPartsUptoCardSaid : Prop := Claim7.holds Tryz.pinned (.plain (OpenSpec.upto schemaPartsSpec)) schemaPartsUptoCard

/-- THE SECOND FORM's CARD OF 'keyeventlaw32.SchemaMakes'. -/
def schemaMakesUptoCard : Claim7 := { stood := { row := schemaMakesUptoRow, standIns := [], harness := (true, "33315e7b24fa76ca0d0b399982fdd5b241f1a6cd89757ff557b5f543aceb50a0"), looks := true }, kinds := [], alts := [], laidByText := true, laidKinds := [.data, .data, .data, .data, .sentinel, .sentinel, .pinned], laidTests := true, laidLooks := .later }
def SchemaMakesUptoCardSaid : Prop := Claim7.holds Tryz.pinned (.plain (OpenSpec.upto schemaMakesSpec)) schemaMakesUptoCard
end Rows
end Go.Proofs.YtifmnhcmmoacfaaGreatDoor
