/-
  DERIVED. GIVEN WITH THE SEED: THE CARDS: each row of YtfddmgagikeieaaDoorRows.lean that lists a variable, with what it lists TIED to the program's text (the seventh form; the later family's looks); each row that meets fmt, with fmt's text TOLD by the authors' own Lean function (tested against real Go, not proved from fmt's source: count such statements apart). THE CARD IS WHAT COUNTS. Prove the row's statement (the work); the ties are given (YtfddmgagikeieaaDoorTie.lean); close each card by the builder's one call (the guide's Derived/Test/ToyasCard.lean, 'card_holds'). Laid BY PROGRAM, IN A SANDBOX (cutbox-door.mjs). By AI agents, Wed Nov 11 2026. No macro, syntax, notation, axiom, sorry.
-/
import Derived.Test.YtfddmgagikeieaaDoorRows
import GoSem.ClaimSeven
namespace Go.Proofs.YtfddmgagikeieaaDoor
namespace Rows

/-- THE TIED CARD OF 'baseboardlaw02.FieldsEncode'. -/
def fieldsEncodeCard : Claim7 := { stood := { row := fieldsEncodeRow, standIns := [], harness := (true, "43e14fe960aa2bcda908c90f366025ad66318cf6fe8dba92a2a9b2a9d1a24495"), looks := false }, kinds := [], alts := [], laidByText := true, laidKinds := [.data, .pinned], laidTests := true, laidLooks := .later }
def FieldsEncodeCardSaid : Prop := Claim7.holds Tryd.pinned (.plain (OpenSpec.ofChange fieldsEncodeSpec)) fieldsEncodeCard

/-- THE TIED CARD OF 'baseboardlaw02.FieldsBest'. -/
def fieldsBestCard : Claim7 := { stood := { row := fieldsBestRow, standIns := [], harness := (true, "43e14fe960aa2bcda908c90f366025ad66318cf6fe8dba92a2a9b2a9d1a24495"), looks := false }, kinds := [], alts := [], laidByText := true, laidKinds := [.data, .pinned], laidTests := true, laidLooks := .later }
def FieldsBestCardSaid : Prop := Claim7.holds Tryd.pinned (.plain (OpenSpec.ofChange fieldsBestSpec)) fieldsBestCard

/-- THE TIED CARD OF 'baseboardlaw02.FieldsShortest'. -/
def fieldsShortestCard : Claim7 := { stood := { row := fieldsShortestRow, standIns := [], harness := (true, "43e14fe960aa2bcda908c90f366025ad66318cf6fe8dba92a2a9b2a9d1a24495"), looks := false }, kinds := [], alts := [], laidByText := true, laidKinds := [.data, .pinned], laidTests := true, laidLooks := .later }
def FieldsShortestCardSaid : Prop := Claim7.holds Tryd.pinned (.plain (OpenSpec.ofChange fieldsShortestSpec)) fieldsShortestCard

/-- THE TIED CARD OF 'baseboardlaw02.FieldsKinds'. -/
def fieldsKindsCard : Claim7 := { stood := { row := fieldsKindsRow, standIns := [], harness := (true, "43e14fe960aa2bcda908c90f366025ad66318cf6fe8dba92a2a9b2a9d1a24495"), looks := false }, kinds := [], alts := [], laidByText := true, laidKinds := [.data, .pinned], laidTests := true, laidLooks := .later }
def FieldsKindsCardSaid : Prop := Claim7.holds Tryd.pinned (.plain (OpenSpec.ofChange fieldsKindsSpec)) fieldsKindsCard

/-- THE TIED CARD OF 'baseboardlaw02.FieldsDecode'. -/
def fieldsDecodeCard : Claim7 := { stood := { row := fieldsDecodeRow, standIns := [], harness := (true, "43e14fe960aa2bcda908c90f366025ad66318cf6fe8dba92a2a9b2a9d1a24495"), looks := false }, kinds := [], alts := [], laidByText := true, laidKinds := [.data, .pinned], laidTests := true, laidLooks := .later }
def FieldsDecodeCardSaid : Prop := Claim7.holds Tryd.pinned (.plain (OpenSpec.ofChange fieldsDecodeSpec)) fieldsDecodeCard

/-- THE TIED CARD OF 'baseboardlaw02.FieldsReturns'. -/
def fieldsReturnsCard : Claim7 := { stood := { row := fieldsReturnsRow, standIns := [], harness := (true, "43e14fe960aa2bcda908c90f366025ad66318cf6fe8dba92a2a9b2a9d1a24495"), looks := false }, kinds := [], alts := [], laidByText := true, laidKinds := [.data, .pinned], laidTests := true, laidLooks := .later }
def FieldsReturnsCardSaid : Prop := Claim7.holds Tryd.pinned (.plain (OpenSpec.ofChange fieldsReturnsSpec)) fieldsReturnsCard

/-- THE TIED CARD OF 'baseboardlaw02.FieldsBytes'. -/
def fieldsBytesCard : Claim7 := { stood := { row := fieldsBytesRow, standIns := [], harness := (true, "43e14fe960aa2bcda908c90f366025ad66318cf6fe8dba92a2a9b2a9d1a24495"), looks := false }, kinds := [], alts := [], laidByText := true, laidKinds := [.data, .pinned], laidTests := true, laidLooks := .later }
def FieldsBytesCardSaid : Prop := Claim7.holds Tryd.pinned (.plain (OpenSpec.ofChange fieldsBytesSpec)) fieldsBytesCard

/-- THE TIED CARD OF 'baseboardlaw02.FieldsLists'. -/
def fieldsListsCard : Claim7 := { stood := { row := fieldsListsRow, standIns := [], harness := (true, "43e14fe960aa2bcda908c90f366025ad66318cf6fe8dba92a2a9b2a9d1a24495"), looks := false }, kinds := [], alts := [], laidByText := true, laidKinds := [.data, .pinned], laidTests := true, laidLooks := .later }
def FieldsListsCardSaid : Prop := Claim7.holds Tryd.pinned (.plain (OpenSpec.ofChange fieldsListsSpec)) fieldsListsCard

/-- THE TIED CARD OF 'baseboardlaw02.FieldsListReturns'. -/
def fieldsListReturnsCard : Claim7 := { stood := { row := fieldsListReturnsRow, standIns := [], harness := (true, "43e14fe960aa2bcda908c90f366025ad66318cf6fe8dba92a2a9b2a9d1a24495"), looks := false }, kinds := [], alts := [], laidByText := true, laidKinds := [.data, .pinned], laidTests := true, laidLooks := .later }
def FieldsListReturnsCardSaid : Prop := Claim7.holds Tryd.pinned (.plain (OpenSpec.ofChange fieldsListReturnsSpec)) fieldsListReturnsCard

/-- THE TIED CARD OF 'baseboardlaw02.FieldsMany'. -/
def fieldsManyCard : Claim7 := { stood := { row := fieldsManyRow, standIns := [], harness := (true, "43e14fe960aa2bcda908c90f366025ad66318cf6fe8dba92a2a9b2a9d1a24495"), looks := false }, kinds := [], alts := [], laidByText := true, laidKinds := [.data, .pinned], laidTests := true, laidLooks := .later }
def FieldsManyCardSaid : Prop := Claim7.holds Tryd.pinned (.plain (OpenSpec.ofChange fieldsManySpec)) fieldsManyCard

/-- THE SECOND FORM's CARD OF 'baseboardlaw02.FieldsEncode'. -/
def fieldsEncodeUptoCard : Claim7 := { stood := { row := fieldsEncodeUptoRow, standIns := [], harness := (true, "43e14fe960aa2bcda908c90f366025ad66318cf6fe8dba92a2a9b2a9d1a24495"), looks := false }, kinds := [], alts := [], laidByText := true, laidKinds := [.data, .pinned], laidTests := true, laidLooks := .later }
def FieldsEncodeUptoCardSaid : Prop := Claim7.holds Tryd.pinned (.plain (OpenSpec.upto fieldsEncodeSpec)) fieldsEncodeUptoCard

/-- THE SECOND FORM's CARD OF 'baseboardlaw02.FieldsBest'. -/
def fieldsBestUptoCard : Claim7 := { stood := { row := fieldsBestUptoRow, standIns := [], harness := (true, "43e14fe960aa2bcda908c90f366025ad66318cf6fe8dba92a2a9b2a9d1a24495"), looks := false }, kinds := [], alts := [], laidByText := true, laidKinds := [.data, .pinned], laidTests := true, laidLooks := .later }
def FieldsBestUptoCardSaid : Prop := Claim7.holds Tryd.pinned (.plain (OpenSpec.upto fieldsBestSpec)) fieldsBestUptoCard

/-- THE SECOND FORM's CARD OF 'baseboardlaw02.FieldsShortest'. -/
def fieldsShortestUptoCard : Claim7 := { stood := { row := fieldsShortestUptoRow, standIns := [], harness := (true, "43e14fe960aa2bcda908c90f366025ad66318cf6fe8dba92a2a9b2a9d1a24495"), looks := false }, kinds := [], alts := [], laidByText := true, laidKinds := [.data, .pinned], laidTests := true, laidLooks := .later }
def FieldsShortestUptoCardSaid : Prop := Claim7.holds Tryd.pinned (.plain (OpenSpec.upto fieldsShortestSpec)) fieldsShortestUptoCard

/-- THE SECOND FORM's CARD OF 'baseboardlaw02.FieldsKinds'. -/
def fieldsKindsUptoCard : Claim7 := { stood := { row := fieldsKindsUptoRow, standIns := [], harness := (true, "43e14fe960aa2bcda908c90f366025ad66318cf6fe8dba92a2a9b2a9d1a24495"), looks := false }, kinds := [], alts := [], laidByText := true, laidKinds := [.data, .pinned], laidTests := true, laidLooks := .later }
def FieldsKindsUptoCardSaid : Prop := Claim7.holds Tryd.pinned (.plain (OpenSpec.upto fieldsKindsSpec)) fieldsKindsUptoCard

/-- THE SECOND FORM's CARD OF 'baseboardlaw02.FieldsDecode'. -/
def fieldsDecodeUptoCard : Claim7 := { stood := { row := fieldsDecodeUptoRow, standIns := [], harness := (true, "43e14fe960aa2bcda908c90f366025ad66318cf6fe8dba92a2a9b2a9d1a24495"), looks := false }, kinds := [], alts := [], laidByText := true, laidKinds := [.data, .pinned], laidTests := true, laidLooks := .later }
def FieldsDecodeUptoCardSaid : Prop := Claim7.holds Tryd.pinned (.plain (OpenSpec.upto fieldsDecodeSpec)) fieldsDecodeUptoCard

/-- THE SECOND FORM's CARD OF 'baseboardlaw02.FieldsReturns'. -/
def fieldsReturnsUptoCard : Claim7 := { stood := { row := fieldsReturnsUptoRow, standIns := [], harness := (true, "43e14fe960aa2bcda908c90f366025ad66318cf6fe8dba92a2a9b2a9d1a24495"), looks := false }, kinds := [], alts := [], laidByText := true, laidKinds := [.data, .pinned], laidTests := true, laidLooks := .later }
def FieldsReturnsUptoCardSaid : Prop := Claim7.holds Tryd.pinned (.plain (OpenSpec.upto fieldsReturnsSpec)) fieldsReturnsUptoCard

/-- THE SECOND FORM's CARD OF 'baseboardlaw02.FieldsBytes'. -/
def fieldsBytesUptoCard : Claim7 := { stood := { row := fieldsBytesUptoRow, standIns := [], harness := (true, "43e14fe960aa2bcda908c90f366025ad66318cf6fe8dba92a2a9b2a9d1a24495"), looks := false }, kinds := [], alts := [], laidByText := true, laidKinds := [.data, .pinned], laidTests := true, laidLooks := .later }
def FieldsBytesUptoCardSaid : Prop := Claim7.holds Tryd.pinned (.plain (OpenSpec.upto fieldsBytesSpec)) fieldsBytesUptoCard

/-- THE SECOND FORM's CARD OF 'baseboardlaw02.FieldsLists'. -/
def fieldsListsUptoCard : Claim7 := { stood := { row := fieldsListsUptoRow, standIns := [], harness := (true, "43e14fe960aa2bcda908c90f366025ad66318cf6fe8dba92a2a9b2a9d1a24495"), looks := false }, kinds := [], alts := [], laidByText := true, laidKinds := [.data, .pinned], laidTests := true, laidLooks := .later }
def FieldsListsUptoCardSaid : Prop := Claim7.holds Tryd.pinned (.plain (OpenSpec.upto fieldsListsSpec)) fieldsListsUptoCard

/-- THE SECOND FORM's CARD OF 'baseboardlaw02.FieldsListReturns'. -/
def fieldsListReturnsUptoCard : Claim7 := { stood := { row := fieldsListReturnsUptoRow, standIns := [], harness := (true, "43e14fe960aa2bcda908c90f366025ad66318cf6fe8dba92a2a9b2a9d1a24495"), looks := false }, kinds := [], alts := [], laidByText := true, laidKinds := [.data, .pinned], laidTests := true, laidLooks := .later }
def FieldsListReturnsUptoCardSaid : Prop := Claim7.holds Tryd.pinned (.plain (OpenSpec.upto fieldsListReturnsSpec)) fieldsListReturnsUptoCard

/-- THE SECOND FORM's CARD OF 'baseboardlaw02.FieldsMany'. -/
def fieldsManyUptoCard : Claim7 := { stood := { row := fieldsManyUptoRow, standIns := [], harness := (true, "43e14fe960aa2bcda908c90f366025ad66318cf6fe8dba92a2a9b2a9d1a24495"), looks := false }, kinds := [], alts := [], laidByText := true, laidKinds := [.data, .pinned], laidTests := true, laidLooks := .later }
def FieldsManyUptoCardSaid : Prop := Claim7.holds Tryd.pinned (.plain (OpenSpec.upto fieldsManySpec)) fieldsManyUptoCard
end Rows
end Go.Proofs.YtfddmgagikeieaaDoor
