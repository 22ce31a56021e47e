/-
  DERIVED. GIVEN WITH THE SEED: THE CARDS: each row of YtpldpnbnhfcklaaGreatDoorRows.lean that lists a variable, with what it lists TIED to the program's text (the seventh form; the later family's looks); each row that meets fmt, with fmt's text TOLD by the authors' own Lean function (tested against real Go, not proved from fmt's source: count such statements apart). THE CARD IS WHAT COUNTS. Prove the row's statement (the work); the ties are given (YtpldpnbnhfcklaaGreatDoorTie.lean); close each card by the builder's one call (the guide's Derived/Test/ToyasCard.lean, 'card_holds'). Laid BY PROGRAM, IN A SANDBOX (cutbox-door.mjs). By AI agents, Wed Nov 11 2026. No macro, syntax, notation, axiom, sorry.
-/
import Derived.Test.YtpldpnbnhfcklaaGreatDoorRows
import GoSem.ClaimSeven
namespace Go.Proofs.YtpldpnbnhfcklaaGreatDoor
namespace Rows

/-- THE TIED CARD OF 'bezellaw17.ModuleOrders'. -/
def moduleOrdersCard : Claim7 := { stood := { row := moduleOrdersRow, standIns := [], harness := (true, "0f440132f7a3234c2e2d2d282815b38d9e53d8e1ce059e63a4cff99b79df8fa3"), looks := true }, kinds := [], alts := [], laidByText := true, laidKinds := [.data, .pinned], laidTests := true, laidLooks := .later }
def ModuleOrdersCardSaid : Prop := Claim7.holds Tryz.pinned (.plain (OpenSpec.ofChange moduleOrdersSpec)) moduleOrdersCard

/-- THE TIED CARD OF 'bezellaw17.ModuleBehind'. -/
def moduleBehindCard : Claim7 := { stood := { row := moduleBehindRow, standIns := [], harness := (true, "0f440132f7a3234c2e2d2d282815b38d9e53d8e1ce059e63a4cff99b79df8fa3"), looks := true }, kinds := [], alts := [], laidByText := true, laidKinds := [.data, .pinned], laidTests := true, laidLooks := .later }
def ModuleBehindCardSaid : Prop := Claim7.holds Tryz.pinned (.plain (OpenSpec.ofChange moduleBehindSpec)) moduleBehindCard

/-- THE TIED CARD OF 'bezellaw17.ModuleSafe'. -/
def moduleSafeCard : Claim7 := { stood := { row := moduleSafeRow, standIns := [], harness := (true, "0f440132f7a3234c2e2d2d282815b38d9e53d8e1ce059e63a4cff99b79df8fa3"), looks := true }, kinds := [], alts := [], laidByText := true, laidKinds := [.data, .pinned], laidTests := true, laidLooks := .later }
def ModuleSafeCardSaid : Prop := Claim7.holds Tryz.pinned (.plain (OpenSpec.ofChange moduleSafeSpec)) moduleSafeCard

/-- THE TIED CARD OF 'bezellaw17.ModuleKeeps'. -/
def moduleKeepsCard : Claim7 := { stood := { row := moduleKeepsRow, standIns := [], harness := (true, "0f440132f7a3234c2e2d2d282815b38d9e53d8e1ce059e63a4cff99b79df8fa3"), looks := true }, kinds := [], alts := [], laidByText := true, laidKinds := [.data, .pinned], laidTests := true, laidLooks := .later }
def ModuleKeepsCardSaid : Prop := Claim7.holds Tryz.pinned (.plain (OpenSpec.ofChange moduleKeepsSpec)) moduleKeepsCard

/-- THE SECOND FORM's CARD OF 'bezellaw17.ModuleOrders'. -/
def moduleOrdersUptoCard : Claim7 := { stood := { row := moduleOrdersUptoRow, standIns := [], harness := (true, "0f440132f7a3234c2e2d2d282815b38d9e53d8e1ce059e63a4cff99b79df8fa3"), looks := true }, kinds := [], alts := [], laidByText := true, laidKinds := [.data, .pinned], laidTests := true, laidLooks := .later }
def ModuleOrdersUptoCardSaid : Prop := Claim7.holds Tryz.pinned (.plain (OpenSpec.upto moduleOrdersSpec)) moduleOrdersUptoCard

/-- THE SECOND FORM's CARD OF 'bezellaw17.ModuleBehind'. -/
def moduleBehindUptoCard : Claim7 := { stood := { row := moduleBehindUptoRow, standIns := [], harness := (true, "0f440132f7a3234c2e2d2d282815b38d9e53d8e1ce059e63a4cff99b79df8fa3"), looks := true }, kinds := [], alts := [], laidByText := true, laidKinds := [.data, .pinned], laidTests := true, laidLooks := .later }
def ModuleBehindUptoCardSaid : Prop := Claim7.holds Tryz.pinned (.plain (OpenSpec.upto moduleBehindSpec)) moduleBehindUptoCard

/-- THE SECOND FORM's CARD OF 'bezellaw17.ModuleSafe'. -/
def moduleSafeUptoCard : Claim7 := { stood := { row := moduleSafeUptoRow, standIns := [], harness := (true, "0f440132f7a3234c2e2d2d282815b38d9e53d8e1ce059e63a4cff99b79df8fa3"), looks := true }, kinds := [], alts := [], laidByText := true, laidKinds := [.data, .pinned], laidTests := true, laidLooks := .later }
def ModuleSafeUptoCardSaid : Prop := Claim7.holds Tryz.pinned (.plain (OpenSpec.upto moduleSafeSpec)) moduleSafeUptoCard

/-- THE SECOND FORM's CARD OF 'bezellaw17.ModuleKeeps'. -/
def moduleKeepsUptoCard : Claim7 := { stood := { row := moduleKeepsUptoRow, standIns := [], harness := (true, "0f440132f7a3234c2e2d2d282815b38d9e53d8e1ce059e63a4cff99b79df8fa3"), looks := true }, kinds := [], alts := [], laidByText := true, laidKinds := [.data, .pinned], laidTests := true, laidLooks := .later }
def ModuleKeepsUptoCardSaid : Prop := Claim7.holds Tryz.pinned (.plain (OpenSpec.upto moduleKeepsSpec)) moduleKeepsUptoCard
end Rows
end Go.Proofs.YtpldpnbnhfcklaaGreatDoor
