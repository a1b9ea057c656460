/-
  DERIVED. GIVEN WITH THE SEED: THE CARDS: each row of YtelepclajhpnfaaGreatDoorRows.lean that lists a variable, with what it lists TIED to the program's text (the seventh form; the later family's looks); each row that meets fmt, with fmt's text TOLD by the authors' own Lean function (tested against real Go, not proved from fmt's source: count such statements apart). THE CARD IS WHAT COUNTS. Prove the row's statement (the work); the ties are given (YtelepclajhpnfaaGreatDoorTie.lean); close each card by the builder's one call (the guide's Derived/Test/ToyasCard.lean, 'card_holds'). Laid BY PROGRAM, IN A SANDBOX (cutbox-door.mjs). By AI agents, Wed Nov 11 2026. No macro, syntax, notation, axiom, sorry.
-/
import Derived.Test.YtelepclajhpnfaaGreatDoorRows
import GoSem.ClaimSeven
namespace Go.Proofs.YtelepclajhpnfaaGreatDoor
namespace Rows

/-- THE TIED CARD OF 'baseboardlaw19.InventoryDiscovers'. -/
def inventoryDiscoversCard : Claim7 := { stood := { row := inventoryDiscoversRow, standIns := [], harness := (true, "ae11a4e2de5d90517349da2fd24d8f119998af0865fbbeafb6b599b0242a8ae5"), looks := false }, kinds := [], alts := [], laidByText := true, laidKinds := [.data, .data, .pinned], laidTests := true, laidLooks := .later }
def InventoryDiscoversCardSaid : Prop := Claim7.holds Tryz.pinned (.plain (OpenSpec.ofChange inventoryDiscoversSpec)) inventoryDiscoversCard

/-- THE SECOND FORM's CARD OF 'baseboardlaw19.InventoryDiscovers'. -/
def inventoryDiscoversUptoCard : Claim7 := { stood := { row := inventoryDiscoversUptoRow, standIns := [], harness := (true, "ae11a4e2de5d90517349da2fd24d8f119998af0865fbbeafb6b599b0242a8ae5"), looks := false }, kinds := [], alts := [], laidByText := true, laidKinds := [.data, .data, .pinned], laidTests := true, laidLooks := .later }
def InventoryDiscoversUptoCardSaid : Prop := Claim7.holds Tryz.pinned (.plain (OpenSpec.upto inventoryDiscoversSpec)) inventoryDiscoversUptoCard
end Rows
end Go.Proofs.YtelepclajhpnfaaGreatDoor
