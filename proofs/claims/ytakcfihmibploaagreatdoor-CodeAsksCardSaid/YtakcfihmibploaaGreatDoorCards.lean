/-
  DERIVED. GIVEN WITH THE SEED: THE CARDS: each row of YtakcfihmibploaaGreatDoorRows.lean that lists a variable, with what it lists TIED to the program's text (the seventh form; the later family's looks); each row that meets fmt, with fmt's text TOLD by the authors' own Lean function (tested against real Go, not proved from fmt's source: count such statements apart). THE CARD IS WHAT COUNTS. Prove the row's statement (the work); the ties are given (YtakcfihmibploaaGreatDoorTie.lean); close each card by the builder's one call (the guide's Derived/Test/ToyasCard.lean, 'card_holds'). Laid BY PROGRAM, IN A SANDBOX (cutbox-door.mjs). By AI agents, Wed Nov 11 2026. No macro, syntax, notation, axiom, sorry.
-/
import Derived.Test.YtakcfihmibploaaGreatDoorRows
import GoSem.ClaimSeven
namespace Go.Proofs.YtakcfihmibploaaGreatDoor
namespace Rows

/-- THE TIED CARD OF 'bezellaw13.CodeAsks'. -/
def codeAsksCard : Claim7 := { stood := { row := codeAsksRow, standIns := [], harness := (true, "44165ec488b82a65474168547bd02b2ce5ea517d520f377c5c56141f4bc14f00"), looks := true }, kinds := [], alts := [], laidByText := true, laidKinds := [.data, .data, .data, .data, .sentinel, .sentinel, .pinned], laidTests := true, laidLooks := .later }
def CodeAsksCardSaid : Prop := Claim7.holds Tryz.pinned (.plain (OpenSpec.ofChange codeAsksSpec)) codeAsksCard

/-- THE TIED CARD OF 'bezellaw13.CodeBack'. -/
def codeBackCard : Claim7 := { stood := { row := codeBackRow, standIns := [], harness := (true, "44165ec488b82a65474168547bd02b2ce5ea517d520f377c5c56141f4bc14f00"), looks := true }, kinds := [], alts := [], laidByText := true, laidKinds := [.data, .data, .data, .data, .sentinel, .sentinel, .pinned], laidTests := true, laidLooks := .later }
def CodeBackCardSaid : Prop := Claim7.holds Tryz.pinned (.plain (OpenSpec.ofChange codeBackSpec)) codeBackCard

/-- THE SECOND FORM's CARD OF 'bezellaw13.CodeAsks'. -/
def codeAsksUptoCard : Claim7 := { stood := { row := codeAsksUptoRow, standIns := [], harness := (true, "44165ec488b82a65474168547bd02b2ce5ea517d520f377c5c56141f4bc14f00"), looks := true }, kinds := [], alts := [], laidByText := true, laidKinds := [.data, .data, .data, .data, .sentinel, .sentinel, .pinned], laidTests := true, laidLooks := .later }
def CodeAsksUptoCardSaid : Prop := Claim7.holds Tryz.pinned (.plain (OpenSpec.upto codeAsksSpec)) codeAsksUptoCard

/-- THE SECOND FORM's CARD OF 'bezellaw13.CodeBack'. -/
def codeBackUptoCard : Claim7 := { stood := { row := codeBackUptoRow, standIns := [], harness := (true, "44165ec488b82a65474168547bd02b2ce5ea517d520f377c5c56141f4bc14f00"), looks := true }, kinds := [], alts := [], laidByText := true, laidKinds := [.data, .data, .data, .data, .sentinel, .sentinel, .pinned], laidTests := true, laidLooks := .later }
def CodeBackUptoCardSaid : Prop := Claim7.holds Tryz.pinned (.plain (OpenSpec.upto codeBackSpec)) codeBackUptoCard
end Rows
end Go.Proofs.YtakcfihmibploaaGreatDoor
