/-
  DERIVED. GIVEN WITH THE SEED: THE CARDS: each row of YtcekbbbjagfacaaDoorRows.lean that lists a variable, with what it lists TIED to the program's text (the seventh form; the later family's looks); each row that meets fmt, with fmt's text TOLD by the authors' own Lean function (tested against real Go, not proved from fmt's source: count such statements apart). THE CARD IS WHAT COUNTS. Prove the row's statement (the work); the ties are given (YtcekbbbjagfacaaDoorTie.lean); close each card by the builder's one call (the guide's Derived/Test/ToyasCard.lean, 'card_holds'). Laid BY PROGRAM, IN A SANDBOX (cutbox-door.mjs). By AI agents, Wed Nov 11 2026. No macro, syntax, notation, axiom, sorry.
-/
import Derived.Test.YtcekbbbjagfacaaDoorRows
import GoSem.ClaimSeven
namespace Go.Proofs.YtcekbbbjagfacaaDoor
namespace Rows

/-- THE TIED CARD OF 'baseboardlaw17.UnitinfoBytes'. -/
def unitinfoBytesCard : Claim7 := { stood := { row := unitinfoBytesRow, standIns := [], harness := (true, "e45c347853bb264dd93c58dd0116879f1ba6f4cd5a9eac094bb979e79ec5d121"), looks := false }, kinds := [], alts := [], laidByText := true, laidKinds := [.data, .data, .pinned], laidTests := true, laidLooks := .later }
def UnitinfoBytesCardSaid : Prop := Claim7.holds Tryd.pinned (.plain (OpenSpec.ofChange unitinfoBytesSpec)) unitinfoBytesCard

/-- THE TIED CARD OF 'baseboardlaw17.UnitinfoSerials'. -/
def unitinfoSerialsCard : Claim7 := { stood := { row := unitinfoSerialsRow, standIns := [], harness := (true, "e45c347853bb264dd93c58dd0116879f1ba6f4cd5a9eac094bb979e79ec5d121"), looks := false }, kinds := [], alts := [], laidByText := true, laidKinds := [.data, .data, .pinned], laidTests := true, laidLooks := .later }
def UnitinfoSerialsCardSaid : Prop := Claim7.holds Tryd.pinned (.plain (OpenSpec.ofChange unitinfoSerialsSpec)) unitinfoSerialsCard

/-- THE TIED CARD OF 'baseboardlaw17.UnitinfoDecodes'. -/
def unitinfoDecodesCard : Claim7 := { stood := { row := unitinfoDecodesRow, standIns := [], harness := (true, "e45c347853bb264dd93c58dd0116879f1ba6f4cd5a9eac094bb979e79ec5d121"), looks := false }, kinds := [], alts := [], laidByText := true, laidKinds := [.data, .data, .pinned], laidTests := true, laidLooks := .later }
def UnitinfoDecodesCardSaid : Prop := Claim7.holds Tryd.pinned (.plain (OpenSpec.ofChange unitinfoDecodesSpec)) unitinfoDecodesCard

/-- THE TIED CARD OF 'baseboardlaw17.UnitinfoReturns'. -/
def unitinfoReturnsCard : Claim7 := { stood := { row := unitinfoReturnsRow, standIns := [], harness := (true, "e45c347853bb264dd93c58dd0116879f1ba6f4cd5a9eac094bb979e79ec5d121"), looks := false }, kinds := [], alts := [], laidByText := true, laidKinds := [.data, .data, .pinned], laidTests := true, laidLooks := .later }
def UnitinfoReturnsCardSaid : Prop := Claim7.holds Tryd.pinned (.plain (OpenSpec.ofChange unitinfoReturnsSpec)) unitinfoReturnsCard

/-- THE TIED CARD OF 'baseboardlaw17.UnitinfoAgain'. -/
def unitinfoAgainCard : Claim7 := { stood := { row := unitinfoAgainRow, standIns := [], harness := (true, "e45c347853bb264dd93c58dd0116879f1ba6f4cd5a9eac094bb979e79ec5d121"), looks := false }, kinds := [], alts := [], laidByText := true, laidKinds := [.data, .data, .pinned], laidTests := true, laidLooks := .later }
def UnitinfoAgainCardSaid : Prop := Claim7.holds Tryd.pinned (.plain (OpenSpec.ofChange unitinfoAgainSpec)) unitinfoAgainCard

/-- THE SECOND FORM's CARD OF 'baseboardlaw17.UnitinfoBytes'. -/
def unitinfoBytesUptoCard : Claim7 := { stood := { row := unitinfoBytesUptoRow, standIns := [], harness := (true, "e45c347853bb264dd93c58dd0116879f1ba6f4cd5a9eac094bb979e79ec5d121"), looks := false }, kinds := [], alts := [], laidByText := true, laidKinds := [.data, .data, .pinned], laidTests := true, laidLooks := .later }
def UnitinfoBytesUptoCardSaid : Prop := Claim7.holds Tryd.pinned (.plain (OpenSpec.upto unitinfoBytesSpec)) unitinfoBytesUptoCard

/-- THE SECOND FORM's CARD OF 'baseboardlaw17.UnitinfoSerials'. -/
def unitinfoSerialsUptoCard : Claim7 := { stood := { row := unitinfoSerialsUptoRow, standIns := [], harness := (true, "e45c347853bb264dd93c58dd0116879f1ba6f4cd5a9eac094bb979e79ec5d121"), looks := false }, kinds := [], alts := [], laidByText := true, laidKinds := [.data, .data, .pinned], laidTests := true, laidLooks := .later }
def UnitinfoSerialsUptoCardSaid : Prop := Claim7.holds Tryd.pinned (.plain (OpenSpec.upto unitinfoSerialsSpec)) unitinfoSerialsUptoCard

/-- THE SECOND FORM's CARD OF 'baseboardlaw17.UnitinfoDecodes'. -/
def unitinfoDecodesUptoCard : Claim7 := { stood := { row := unitinfoDecodesUptoRow, standIns := [], harness := (true, "e45c347853bb264dd93c58dd0116879f1ba6f4cd5a9eac094bb979e79ec5d121"), looks := false }, kinds := [], alts := [], laidByText := true, laidKinds := [.data, .data, .pinned], laidTests := true, laidLooks := .later }
def UnitinfoDecodesUptoCardSaid : Prop := Claim7.holds Tryd.pinned (.plain (OpenSpec.upto unitinfoDecodesSpec)) unitinfoDecodesUptoCard

/-- THE SECOND FORM's CARD OF 'baseboardlaw17.UnitinfoReturns'. -/
def unitinfoReturnsUptoCard : Claim7 := { stood := { row := unitinfoReturnsUptoRow, standIns := [], harness := (true, "e45c347853bb264dd93c58dd0116879f1ba6f4cd5a9eac094bb979e79ec5d121"), looks := false }, kinds := [], alts := [], laidByText := true, laidKinds := [.data, .data, .pinned], laidTests := true, laidLooks := .later }
def UnitinfoReturnsUptoCardSaid : Prop := Claim7.holds Tryd.pinned (.plain (OpenSpec.upto unitinfoReturnsSpec)) unitinfoReturnsUptoCard

/-- THE SECOND FORM's CARD OF 'baseboardlaw17.UnitinfoAgain'. -/
def unitinfoAgainUptoCard : Claim7 := { stood := { row := unitinfoAgainUptoRow, standIns := [], harness := (true, "e45c347853bb264dd93c58dd0116879f1ba6f4cd5a9eac094bb979e79ec5d121"), looks := false }, kinds := [], alts := [], laidByText := true, laidKinds := [.data, .data, .pinned], laidTests := true, laidLooks := .later }
def UnitinfoAgainUptoCardSaid : Prop := Claim7.holds Tryd.pinned (.plain (OpenSpec.upto unitinfoAgainSpec)) unitinfoAgainUptoCard
end Rows
end Go.Proofs.YtcekbbbjagfacaaDoor
