/-
  DERIVED. GIVEN WITH THE SEED: THE CARDS: each row of YtchpeafokjmmeaaGreatDoorRows.lean that lists a variable, with what it lists TIED to the program's text (the seventh form; the later family's looks); each row that meets fmt, with fmt's text TOLD by the authors' own Lean function (tested against real Go, not proved from fmt's source: count such statements apart). THE CARD IS WHAT COUNTS. Prove the row's statement (the work); the ties are given (YtchpeafokjmmeaaGreatDoorTie.lean); close each card by the builder's one call (the guide's Derived/Test/ToyasCard.lean, 'card_holds'). Laid BY PROGRAM, IN A SANDBOX (cutbox-door.mjs). By AI agents, Wed Nov 11 2026. No macro, syntax, notation, axiom, sorry.
-/
import Derived.Test.YtchpeafokjmmeaaGreatDoorRows
import GoSem.ClaimSeven
namespace Go.Proofs.YtchpeafokjmmeaaGreatDoor
namespace Rows

/-- THE TIED CARD OF 'keyeventlaw33.CredentialGets'. -/
def credentialGetsCard : Claim7 := { stood := { row := credentialGetsRow, standIns := [], harness := (true, "e2e01af6ac6576619067aa8a9f581822247e4083724b38d5388a9437cb4ca0de"), looks := true }, kinds := [], alts := [], laidByText := true, laidKinds := [.data, .data, .data, .data, .sentinel, .sentinel, .pinned], laidTests := true, laidLooks := .later }
def CredentialGetsCardSaid : Prop := Claim7.holds Tryz.pinned (.plain (OpenSpec.ofChange credentialGetsSpec)) credentialGetsCard

/-- THE TIED CARD OF 'keyeventlaw35.EdgesHold'. -/
def edgesHoldCard : Claim7 := { stood := { row := edgesHoldRow, standIns := [], harness := (true, "e2e01af6ac6576619067aa8a9f581822247e4083724b38d5388a9437cb4ca0de"), looks := true }, kinds := [], alts := [], laidByText := true, laidKinds := [.data, .data, .data, .data, .sentinel, .sentinel, .pinned], laidTests := true, laidLooks := .later }
def EdgesHoldCardSaid : Prop := Claim7.holds Tryz.pinned (.plain (OpenSpec.ofChange edgesHoldSpec)) edgesHoldCard

/-- THE SECOND FORM's CARD OF 'keyeventlaw33.CredentialGets'. -/
def credentialGetsUptoCard : Claim7 := { stood := { row := credentialGetsUptoRow, standIns := [], harness := (true, "e2e01af6ac6576619067aa8a9f581822247e4083724b38d5388a9437cb4ca0de"), looks := true }, kinds := [], alts := [], laidByText := true, laidKinds := [.data, .data, .data, .data, .sentinel, .sentinel, .pinned], laidTests := true, laidLooks := .later }
def CredentialGetsUptoCardSaid : Prop := Claim7.holds Tryz.pinned (.plain (OpenSpec.upto credentialGetsSpec)) credentialGetsUptoCard

/-- THE SECOND FORM's CARD OF 'keyeventlaw35.EdgesHold'. -/
def edgesHoldUptoCard : Claim7 := { stood := { row := edgesHoldUptoRow, standIns := [], harness := (true, "e2e01af6ac6576619067aa8a9f581822247e4083724b38d5388a9437cb4ca0de"), looks := true }, kinds := [], alts := [], laidByText := true, laidKinds := [.data, .data, .data, .data, .sentinel, .sentinel, .pinned], laidTests := true, laidLooks := .later }
def EdgesHoldUptoCardSaid : Prop := Claim7.holds Tryz.pinned (.plain (OpenSpec.upto edgesHoldSpec)) edgesHoldUptoCard
end Rows
end Go.Proofs.YtchpeafokjmmeaaGreatDoor
