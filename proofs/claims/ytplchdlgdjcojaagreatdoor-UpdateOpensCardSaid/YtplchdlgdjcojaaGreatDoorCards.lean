/-
  DERIVED. GIVEN WITH THE SEED: THE CARDS: each row of YtplchdlgdjcojaaGreatDoorRows.lean that lists a variable, with what it lists TIED to the program's text (the seventh form; the later family's looks); each row that meets fmt, with fmt's text TOLD by the authors' own Lean function (tested against real Go, not proved from fmt's source: count such statements apart). THE CARD IS WHAT COUNTS. Prove the row's statement (the work); the ties are given (YtplchdlgdjcojaaGreatDoorTie.lean); close each card by the builder's one call (the guide's Derived/Test/ToyasCard.lean, 'card_holds'). Laid BY PROGRAM, IN A SANDBOX (cutbox-door.mjs). By AI agents, Wed Nov 11 2026. No macro, syntax, notation, axiom, sorry.
-/
import Derived.Test.YtplchdlgdjcojaaGreatDoorRows
import GoSem.ClaimSeven
namespace Go.Proofs.YtplchdlgdjcojaaGreatDoor
namespace Rows

/-- THE TIED CARD OF 'baseboardlaw32.UpdateEnds'. -/
def updateEndsCard : Claim7 := { stood := { row := updateEndsRow, standIns := [], harness := (true, "cfe594e962d36ea5776570d19fd160328c90e4cdf266319e1a892b949101c819"), looks := true }, kinds := [], alts := [], laidByText := true, laidKinds := [.funcs], laidTests := true, laidLooks := .later }
def UpdateEndsCardSaid : Prop := Claim7.holds Tryz.pinned (.plain (OpenSpec.ofChange updateEndsSpec)) updateEndsCard

/-- THE TIED CARD OF 'baseboardlaw32.UpdateWhole'. -/
def updateWholeCard : Claim7 := { stood := { row := updateWholeRow, standIns := [], harness := (true, "cfe594e962d36ea5776570d19fd160328c90e4cdf266319e1a892b949101c819"), looks := true }, kinds := [], alts := [], laidByText := true, laidKinds := [.funcs], laidTests := true, laidLooks := .later }
def UpdateWholeCardSaid : Prop := Claim7.holds Tryz.pinned (.plain (OpenSpec.ofChange updateWholeSpec)) updateWholeCard

/-- THE TIED CARD OF 'baseboardlaw32.UpdateOrders'. -/
def updateOrdersCard : Claim7 := { stood := { row := updateOrdersRow, standIns := [], harness := (true, "cfe594e962d36ea5776570d19fd160328c90e4cdf266319e1a892b949101c819"), looks := true }, kinds := [], alts := [], laidByText := true, laidKinds := [.funcs], laidTests := true, laidLooks := .later }
def UpdateOrdersCardSaid : Prop := Claim7.holds Tryz.pinned (.plain (OpenSpec.ofChange updateOrdersSpec)) updateOrdersCard

/-- THE TIED CARD OF 'baseboardlaw32.UpdateOpens'. -/
def updateOpensCard : Claim7 := { stood := { row := updateOpensRow, standIns := [], harness := (true, "cfe594e962d36ea5776570d19fd160328c90e4cdf266319e1a892b949101c819"), looks := true }, kinds := [], alts := [], laidByText := true, laidKinds := [.funcs], laidTests := true, laidLooks := .later }
def UpdateOpensCardSaid : Prop := Claim7.holds Tryz.pinned (.plain (OpenSpec.ofChange updateOpensSpec)) updateOpensCard

/-- THE TIED CARD OF 'baseboardlaw32.UpdateReopens'. -/
def updateReopensCard : Claim7 := { stood := { row := updateReopensRow, standIns := [], harness := (true, "cfe594e962d36ea5776570d19fd160328c90e4cdf266319e1a892b949101c819"), looks := true }, kinds := [], alts := [], laidByText := true, laidKinds := [.funcs], laidTests := true, laidLooks := .later }
def UpdateReopensCardSaid : Prop := Claim7.holds Tryz.pinned (.plain (OpenSpec.ofChange updateReopensSpec)) updateReopensCard

/-- THE TIED CARD OF 'baseboardlaw32.UpdateRefuses'. -/
def updateRefusesCard : Claim7 := { stood := { row := updateRefusesRow, standIns := [], harness := (true, "cfe594e962d36ea5776570d19fd160328c90e4cdf266319e1a892b949101c819"), looks := true }, kinds := [], alts := [], laidByText := true, laidKinds := [.funcs], laidTests := true, laidLooks := .later }
def UpdateRefusesCardSaid : Prop := Claim7.holds Tryz.pinned (.plain (OpenSpec.ofChange updateRefusesSpec)) updateRefusesCard

/-- THE TIED CARD OF 'baseboardlaw32.UpdateAnswers'. -/
def updateAnswersCard : Claim7 := { stood := { row := updateAnswersRow, standIns := [], harness := (true, "cfe594e962d36ea5776570d19fd160328c90e4cdf266319e1a892b949101c819"), looks := true }, kinds := [], alts := [], laidByText := true, laidKinds := [.funcs], laidTests := true, laidLooks := .later }
def UpdateAnswersCardSaid : Prop := Claim7.holds Tryz.pinned (.plain (OpenSpec.ofChange updateAnswersSpec)) updateAnswersCard

/-- THE SECOND FORM's CARD OF 'baseboardlaw32.UpdateEnds'. -/
def updateEndsUptoCard : Claim7 := { stood := { row := updateEndsUptoRow, standIns := [], harness := (true, "cfe594e962d36ea5776570d19fd160328c90e4cdf266319e1a892b949101c819"), looks := true }, kinds := [], alts := [], laidByText := true, laidKinds := [.funcs], laidTests := true, laidLooks := .later }
def UpdateEndsUptoCardSaid : Prop := Claim7.holds Tryz.pinned (.plain (OpenSpec.upto updateEndsSpec)) updateEndsUptoCard

/-- THE SECOND FORM's CARD OF 'baseboardlaw32.UpdateWhole'. -/
def updateWholeUptoCard : Claim7 := { stood := { row := updateWholeUptoRow, standIns := [], harness := (true, "cfe594e962d36ea5776570d19fd160328c90e4cdf266319e1a892b949101c819"), looks := true }, kinds := [], alts := [], laidByText := true, laidKinds := [.funcs], laidTests := true, laidLooks := .later }
def UpdateWholeUptoCardSaid : Prop := Claim7.holds Tryz.pinned (.plain (OpenSpec.upto updateWholeSpec)) updateWholeUptoCard

/-- THE SECOND FORM's CARD OF 'baseboardlaw32.UpdateOrders'. -/
def updateOrdersUptoCard : Claim7 := { stood := { row := updateOrdersUptoRow, standIns := [], harness := (true, "cfe594e962d36ea5776570d19fd160328c90e4cdf266319e1a892b949101c819"), looks := true }, kinds := [], alts := [], laidByText := true, laidKinds := [.funcs], laidTests := true, laidLooks := .later }
def UpdateOrdersUptoCardSaid : Prop := Claim7.holds Tryz.pinned (.plain (OpenSpec.upto updateOrdersSpec)) updateOrdersUptoCard

/-- THE SECOND FORM's CARD OF 'baseboardlaw32.UpdateOpens'. -/
def updateOpensUptoCard : Claim7 := { stood := { row := updateOpensUptoRow, standIns := [], harness := (true, "cfe594e962d36ea5776570d19fd160328c90e4cdf266319e1a892b949101c819"), looks := true }, kinds := [], alts := [], laidByText := true, laidKinds := [.funcs], laidTests := true, laidLooks := .later }
def UpdateOpensUptoCardSaid : Prop := Claim7.holds Tryz.pinned (.plain (OpenSpec.upto updateOpensSpec)) updateOpensUptoCard

/-- THE SECOND FORM's CARD OF 'baseboardlaw32.UpdateReopens'. -/
def updateReopensUptoCard : Claim7 := { stood := { row := updateReopensUptoRow, standIns := [], harness := (true, "cfe594e962d36ea5776570d19fd160328c90e4cdf266319e1a892b949101c819"), looks := true }, kinds := [], alts := [], laidByText := true, laidKinds := [.funcs], laidTests := true, laidLooks := .later }
def UpdateReopensUptoCardSaid : Prop := Claim7.holds Tryz.pinned (.plain (OpenSpec.upto updateReopensSpec)) updateReopensUptoCard

/-- THE SECOND FORM's CARD OF 'baseboardlaw32.UpdateRefuses'. -/
def updateRefusesUptoCard : Claim7 := { stood := { row := updateRefusesUptoRow, standIns := [], harness := (true, "cfe594e962d36ea5776570d19fd160328c90e4cdf266319e1a892b949101c819"), looks := true }, kinds := [], alts := [], laidByText := true, laidKinds := [.funcs], laidTests := true, laidLooks := .later }
def UpdateRefusesUptoCardSaid : Prop := Claim7.holds Tryz.pinned (.plain (OpenSpec.upto updateRefusesSpec)) updateRefusesUptoCard

/-- THE SECOND FORM's CARD OF 'baseboardlaw32.UpdateAnswers'. -/
def updateAnswersUptoCard : Claim7 := { stood := { row := updateAnswersUptoRow, standIns := [], harness := (true, "cfe594e962d36ea5776570d19fd160328c90e4cdf266319e1a892b949101c819"), looks := true }, kinds := [], alts := [], laidByText := true, laidKinds := [.funcs], laidTests := true, laidLooks := .later }
def UpdateAnswersUptoCardSaid : Prop := Claim7.holds Tryz.pinned (.plain (OpenSpec.upto updateAnswersSpec)) updateAnswersUptoCard
end Rows
end Go.Proofs.YtplchdlgdjcojaaGreatDoor
