/-
  DERIVED. GIVEN WITH THE SEED: THE CARDS: each row of YtccooahdinmfmaaGreatDoorRows.lean that lists a variable, with what it lists TIED to the program's text (the seventh form; the later family's looks); each row that meets fmt, with fmt's text TOLD by the authors' own Lean function (tested against real Go, not proved from fmt's source: count such statements apart). THE CARD IS WHAT COUNTS. Prove the row's statement (the work); the ties are given (YtccooahdinmfmaaGreatDoorTie.lean); close each card by the builder's one call (the guide's Derived/Test/ToyasCard.lean, 'card_holds'). Laid BY PROGRAM, IN A SANDBOX (cutbox-door.mjs). By AI agents, Wed Nov 11 2026. No macro, syntax, notation, axiom, sorry.
-/
import Derived.Test.YtccooahdinmfmaaGreatDoorRows
import GoSem.ClaimSeven
namespace Go.Proofs.YtccooahdinmfmaaGreatDoor
namespace Rows

/-- THE TIED CARD OF 'baseboardtop.TopSwapped'. -/
def topSwappedCard : Claim7 := { stood := { row := topSwappedRow, standIns := [], harness := (true, "38bf0f8b48302b2b681033ffd89db9d6b52ce6a95cd4524748a774ead99abc6f"), looks := true }, kinds := [], alts := [], laidByText := true, laidKinds := [.data, .widerDeep, .data, .pinned], laidTests := true, laidLooks := .later }
def TopSwappedCardSaid : Prop := Claim7.holds Tryz.pinned (.plain (OpenSpec.ofChange topSwappedSpec)) topSwappedCard

/-- THE SECOND FORM's CARD OF 'baseboardtop.TopSwapped'. -/
def topSwappedUptoCard : Claim7 := { stood := { row := topSwappedUptoRow, standIns := [], harness := (true, "38bf0f8b48302b2b681033ffd89db9d6b52ce6a95cd4524748a774ead99abc6f"), looks := true }, kinds := [], alts := [], laidByText := true, laidKinds := [.data, .widerDeep, .data, .pinned], laidTests := true, laidLooks := .later }
def TopSwappedUptoCardSaid : Prop := Claim7.holds Tryz.pinned (.plain (OpenSpec.upto topSwappedSpec)) topSwappedUptoCard
end Rows
end Go.Proofs.YtccooahdinmfmaaGreatDoor
