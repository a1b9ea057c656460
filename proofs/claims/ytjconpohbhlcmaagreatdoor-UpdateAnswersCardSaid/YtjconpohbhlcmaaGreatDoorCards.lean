/-
  DERIVED. GIVEN WITH THE SEED: THE CARDS: each row of YtjconpohbhlcmaaGreatDoorRows.lean that lists a variable, with what it lists TIED to the program's text (the seventh form; the later family's looks); each row that meets fmt, with fmt's text TOLD by the authors' own Lean function (tested against real Go, not proved from fmt's source: count such statements apart). THE CARD IS WHAT COUNTS. Prove the row's statement (the work); the ties are given (YtjconpohbhlcmaaGreatDoorTie.lean); close each card by the builder's one call (the guide's Derived/Test/ToyasCard.lean, 'card_holds'). Laid BY PROGRAM, IN A SANDBOX (cutbox-door.mjs). By AI agents, Wed Nov 11 2026. No macro, syntax, notation, axiom, sorry.
-/
import Derived.Test.YtjconpohbhlcmaaGreatDoorRows
import GoSem.ClaimSeven
namespace Go.Proofs.YtjconpohbhlcmaaGreatDoor
namespace Rows

/-- THE TIED CARD OF 'baseboardlaw32.UpdateAnswers'. -/
def updateAnswersCard : Claim7 := { stood := { row := updateAnswersRow, standIns := [], harness := (true, "9d4adfa8862a8fc7d7e85978165d5eb3ee693b56ce892b8f3276143635c8c298"), looks := true }, kinds := [], alts := [], laidByText := true, laidKinds := [.funcs], laidTests := true, laidLooks := .later }
def UpdateAnswersCardSaid : Prop := Claim7.holds Tryz.pinned (.plain (OpenSpec.ofChange updateAnswersSpec)) updateAnswersCard

/-- THE SECOND FORM's CARD OF 'baseboardlaw32.UpdateAnswers'. -/
def updateAnswersUptoCard : Claim7 := { stood := { row := updateAnswersUptoRow, standIns := [], harness := (true, "9d4adfa8862a8fc7d7e85978165d5eb3ee693b56ce892b8f3276143635c8c298"), looks := true }, kinds := [], alts := [], laidByText := true, laidKinds := [.funcs], laidTests := true, laidLooks := .later }
def UpdateAnswersUptoCardSaid : Prop := Claim7.holds Tryz.pinned (.plain (OpenSpec.upto updateAnswersSpec)) updateAnswersUptoCard
end Rows
end Go.Proofs.YtjconpohbhlcmaaGreatDoor
