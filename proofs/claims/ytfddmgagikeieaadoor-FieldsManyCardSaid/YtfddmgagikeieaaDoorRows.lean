/-
  NARROWER THAN 'FOR EVERY INPUT', by the rows' own cells (each row's printed sentence says how): FieldsEncode: laid · FieldsBest: laid · FieldsShortest: laid · FieldsKinds: laid · FieldsDecode: laid · FieldsReturns: laid · FieldsBytes: laid · FieldsLists: laid · FieldsListReturns: laid · FieldsMany: laid.
  DERIVED. THE GIVEN ROWS OF THIS SEAT. 10 by the template 'for every input the law returns true; each argument reads behind the call as it read before'; 0 by the template 'total and deterministic' (their statements: YtfddmgagikeieaaDoorTotals.lean).
  GIVEN WITH THE SEED: the statements are not yours to turn. If you find one false, say at which input.
  Laid BY PROGRAM, IN A SANDBOX (cutbox-rows.mjs): the forced cells as the released guide's own fill.sh prints them over the translation a938651e1bfdf7a8… (all of the seat's roots in one cut). By AI agents, Wed Nov 11 2026. No macro, syntax, notation, axiom, sorry.
-/
import Derived.Test.YtfddmgagikeieaaDoorChecked
import GoSem.PinnedTables
import GoSem.Claim
import GoSem.ClaimJoined
import GoSem.ClaimMapViews
import Derived.JoinedTies
import Derived.KernelRfl
namespace Go.Proofs.YtfddmgagikeieaaDoor
/- THE CELL 'sum', in the pinned program and in every row, IS THE sha256 OF THE DUMP (.gsa) THAT YtfddmgagikeieaaDoorProg.lean LOADS. Nothing in Lean hashes anything: it is a label: what it is worth is what the hold of that sum in a sandbox is worth. -/
noncomputable def Tryd.pinned : Pinned := { name := "ytfddmgagikeieaadoor", sum := "a938651e1bfdf7a898e250df09faa6f3f4775be9fbe44db0cf3c839b5bd9c9ad", checked := Tryd.checked }
namespace Rows
def none {H : Type} : Left H := { results := [], args := [] }

/- WHAT THE LISTED PACKAGE-LEVEL VARIABLES READ AS WHEN THE CALL BEGINS. Each datum BY PROGRAM (the guide's laid-datum.mjs) off the statement by which the dump's own 'gosem.cut.vars' lays the variable. In a bare row this is a premise. The card (YtfddmgagikeieaaDoorCards.lean) ties it to the program's text. -/
def laid_unicode_utf8_acceptRanges {H : Type} : DataW H := .agg [.agg [.lit (.int .u8 128), .lit (.int .u8 191)], .agg [.lit (.int .u8 160), .lit (.int .u8 191)], .agg [.lit (.int .u8 128), .lit (.int .u8 159)], .agg [.lit (.int .u8 144), .lit (.int .u8 191)], .agg [.lit (.int .u8 128), .lit (.int .u8 143)], .agg [.lit (.int .u8 0), .lit (.int .u8 0)], .agg [.lit (.int .u8 0), .lit (.int .u8 0)], .agg [.lit (.int .u8 0), .lit (.int .u8 0)], .agg [.lit (.int .u8 0), .lit (.int .u8 0)], .agg [.lit (.int .u8 0), .lit (.int .u8 0)], .agg [.lit (.int .u8 0), .lit (.int .u8 0)], .agg [.lit (.int .u8 0), .lit (.int .u8 0)], .agg [.lit (.int .u8 0), .lit (.int .u8 0)], .agg [.lit (.int .u8 0), .lit (.int .u8 0)], .agg [.lit (.int .u8 0), .lit (.int .u8 0)], .agg [.lit (.int .u8 0), .lit (.int .u8 0)]]
/-- One of Go's own tables, pinned by name: the form's constant. -/
def laid_unicode_utf8_first : DataW Unit := Go.Pinned.utf8First

/-- 'baseboardlaw02.FieldsEncode': WHATEVER THE INPUT: true; the input reads as it did. -/
def fieldsEncodeSpec : ChangeSpec := { name := "fieldsEncode", fn := fun _ => fun
  | [d1, d2] => { results := [.lit (.bool true)], args := [d1, d2] }
  | _ => none }
def fieldsEncodeRow : OpenClaim := { program := "ytfddmgagikeieaadoor", sum := "a938651e1bfdf7a898e250df09faa6f3f4775be9fbe44db0cf3c839b5bd9c9ad", func := "baseboard/baseboardlaw02.FieldsEncode", spec := "fieldsEncode", inPlace := ["internal/bytealg.IndexByteString", "internal/bytealg.IndexString"], named := ["unicode/utf8.first", "unicode/utf8.acceptRanges", "internal/bytealg.MaxLen"], apart := false, laid := [("unicode/utf8.acceptRanges", laid_unicode_utf8_acceptRanges), ("unicode/utf8.first", laid_unicode_utf8_first)] }
def FieldsEncodeSaid : Prop := fieldsEncodeRow.holds Tryd.pinned (OpenSpec.ofChange fieldsEncodeSpec)

/-- ITS FALSE NEIGHBOUR: 'it returns false'. Refute it at one input. -/
def fieldsEncodeWrong : ChangeSpec := { name := "fieldsEncode", fn := fun _ => fun
  | [d1, d2] => { results := [.lit (.bool false)], args := [d1, d2] }
  | _ => none }
def FieldsEncodeWrongFalsely : Prop := fieldsEncodeRow.holds Tryd.pinned (OpenSpec.ofChange fieldsEncodeWrong)

/-- 'baseboardlaw02.FieldsBest': WHATEVER THE INPUT: true; the input reads as it did. -/
def fieldsBestSpec : ChangeSpec := { name := "fieldsBest", fn := fun _ => fun
  | [d1, d2] => { results := [.lit (.bool true)], args := [d1, d2] }
  | _ => none }
def fieldsBestRow : OpenClaim := { program := "ytfddmgagikeieaadoor", sum := "a938651e1bfdf7a898e250df09faa6f3f4775be9fbe44db0cf3c839b5bd9c9ad", func := "baseboard/baseboardlaw02.FieldsBest", spec := "fieldsBest", inPlace := ["internal/bytealg.IndexByteString", "internal/bytealg.IndexString"], named := ["unicode/utf8.first", "unicode/utf8.acceptRanges", "internal/bytealg.MaxLen"], apart := false, laid := [("unicode/utf8.acceptRanges", laid_unicode_utf8_acceptRanges), ("unicode/utf8.first", laid_unicode_utf8_first)] }
def FieldsBestSaid : Prop := fieldsBestRow.holds Tryd.pinned (OpenSpec.ofChange fieldsBestSpec)

/-- ITS FALSE NEIGHBOUR: 'it returns false'. Refute it at one input. -/
def fieldsBestWrong : ChangeSpec := { name := "fieldsBest", fn := fun _ => fun
  | [d1, d2] => { results := [.lit (.bool false)], args := [d1, d2] }
  | _ => none }
def FieldsBestWrongFalsely : Prop := fieldsBestRow.holds Tryd.pinned (OpenSpec.ofChange fieldsBestWrong)

/-- 'baseboardlaw02.FieldsShortest': WHATEVER THE INPUT: true; the input reads as it did. -/
def fieldsShortestSpec : ChangeSpec := { name := "fieldsShortest", fn := fun _ => fun
  | [d1, d2] => { results := [.lit (.bool true)], args := [d1, d2] }
  | _ => none }
def fieldsShortestRow : OpenClaim := { program := "ytfddmgagikeieaadoor", sum := "a938651e1bfdf7a898e250df09faa6f3f4775be9fbe44db0cf3c839b5bd9c9ad", func := "baseboard/baseboardlaw02.FieldsShortest", spec := "fieldsShortest", inPlace := ["internal/bytealg.IndexByteString", "internal/bytealg.IndexString"], named := ["unicode/utf8.first", "unicode/utf8.acceptRanges", "internal/bytealg.MaxLen"], apart := false, laid := [("unicode/utf8.acceptRanges", laid_unicode_utf8_acceptRanges), ("unicode/utf8.first", laid_unicode_utf8_first)] }
def FieldsShortestSaid : Prop := fieldsShortestRow.holds Tryd.pinned (OpenSpec.ofChange fieldsShortestSpec)

/-- ITS FALSE NEIGHBOUR: 'it returns false'. Refute it at one input. -/
def fieldsShortestWrong : ChangeSpec := { name := "fieldsShortest", fn := fun _ => fun
  | [d1, d2] => { results := [.lit (.bool false)], args := [d1, d2] }
  | _ => none }
def FieldsShortestWrongFalsely : Prop := fieldsShortestRow.holds Tryd.pinned (OpenSpec.ofChange fieldsShortestWrong)

/-- 'baseboardlaw02.FieldsKinds': WHATEVER THE INPUT: true; the input reads as it did. -/
def fieldsKindsSpec : ChangeSpec := { name := "fieldsKinds", fn := fun _ => fun
  | [d1, d2] => { results := [.lit (.bool true)], args := [d1, d2] }
  | _ => none }
def fieldsKindsRow : OpenClaim := { program := "ytfddmgagikeieaadoor", sum := "a938651e1bfdf7a898e250df09faa6f3f4775be9fbe44db0cf3c839b5bd9c9ad", func := "baseboard/baseboardlaw02.FieldsKinds", spec := "fieldsKinds", inPlace := ["internal/bytealg.IndexByteString", "internal/bytealg.IndexString"], named := ["unicode/utf8.first", "unicode/utf8.acceptRanges", "internal/bytealg.MaxLen"], apart := false, laid := [("unicode/utf8.acceptRanges", laid_unicode_utf8_acceptRanges), ("unicode/utf8.first", laid_unicode_utf8_first)] }
def FieldsKindsSaid : Prop := fieldsKindsRow.holds Tryd.pinned (OpenSpec.ofChange fieldsKindsSpec)

/-- ITS FALSE NEIGHBOUR: 'it returns false'. Refute it at one input. -/
def fieldsKindsWrong : ChangeSpec := { name := "fieldsKinds", fn := fun _ => fun
  | [d1, d2] => { results := [.lit (.bool false)], args := [d1, d2] }
  | _ => none }
def FieldsKindsWrongFalsely : Prop := fieldsKindsRow.holds Tryd.pinned (OpenSpec.ofChange fieldsKindsWrong)

/-- 'baseboardlaw02.FieldsDecode': WHATEVER THE INPUT: true; the input reads as it did. -/
def fieldsDecodeSpec : ChangeSpec := { name := "fieldsDecode", fn := fun _ => fun
  | [d] => { results := [.lit (.bool true)], args := [d] }
  | _ => none }
def fieldsDecodeRow : OpenClaim := { program := "ytfddmgagikeieaadoor", sum := "a938651e1bfdf7a898e250df09faa6f3f4775be9fbe44db0cf3c839b5bd9c9ad", func := "baseboard/baseboardlaw02.FieldsDecode", spec := "fieldsDecode", inPlace := ["internal/bytealg.IndexByteString", "internal/bytealg.IndexString"], named := ["unicode/utf8.first", "unicode/utf8.acceptRanges", "internal/bytealg.MaxLen"], apart := false, laid := [("unicode/utf8.acceptRanges", laid_unicode_utf8_acceptRanges), ("unicode/utf8.first", laid_unicode_utf8_first)] }
def FieldsDecodeSaid : Prop := fieldsDecodeRow.holds Tryd.pinned (OpenSpec.ofChange fieldsDecodeSpec)

/-- ITS FALSE NEIGHBOUR: 'it returns false'. Refute it at one input. -/
def fieldsDecodeWrong : ChangeSpec := { name := "fieldsDecode", fn := fun _ => fun
  | [d] => { results := [.lit (.bool false)], args := [d] }
  | _ => none }
def FieldsDecodeWrongFalsely : Prop := fieldsDecodeRow.holds Tryd.pinned (OpenSpec.ofChange fieldsDecodeWrong)

/-- 'baseboardlaw02.FieldsReturns': WHATEVER THE INPUT: true; the input reads as it did. -/
def fieldsReturnsSpec : ChangeSpec := { name := "fieldsReturns", fn := fun _ => fun
  | [d1, d2] => { results := [.lit (.bool true)], args := [d1, d2] }
  | _ => none }
def fieldsReturnsRow : OpenClaim := { program := "ytfddmgagikeieaadoor", sum := "a938651e1bfdf7a898e250df09faa6f3f4775be9fbe44db0cf3c839b5bd9c9ad", func := "baseboard/baseboardlaw02.FieldsReturns", spec := "fieldsReturns", inPlace := ["internal/bytealg.IndexByteString", "internal/bytealg.IndexString"], named := ["unicode/utf8.first", "unicode/utf8.acceptRanges", "internal/bytealg.MaxLen"], apart := false, laid := [("unicode/utf8.acceptRanges", laid_unicode_utf8_acceptRanges), ("unicode/utf8.first", laid_unicode_utf8_first)] }
def FieldsReturnsSaid : Prop := fieldsReturnsRow.holds Tryd.pinned (OpenSpec.ofChange fieldsReturnsSpec)

/-- ITS FALSE NEIGHBOUR: 'it returns false'. Refute it at one input. -/
def fieldsReturnsWrong : ChangeSpec := { name := "fieldsReturns", fn := fun _ => fun
  | [d1, d2] => { results := [.lit (.bool false)], args := [d1, d2] }
  | _ => none }
def FieldsReturnsWrongFalsely : Prop := fieldsReturnsRow.holds Tryd.pinned (OpenSpec.ofChange fieldsReturnsWrong)

/-- 'baseboardlaw02.FieldsBytes': WHATEVER THE INPUT: true; the input reads as it did. -/
def fieldsBytesSpec : ChangeSpec := { name := "fieldsBytes", fn := fun _ => fun
  | [d] => { results := [.lit (.bool true)], args := [d] }
  | _ => none }
def fieldsBytesRow : OpenClaim := { program := "ytfddmgagikeieaadoor", sum := "a938651e1bfdf7a898e250df09faa6f3f4775be9fbe44db0cf3c839b5bd9c9ad", func := "baseboard/baseboardlaw02.FieldsBytes", spec := "fieldsBytes", inPlace := ["internal/bytealg.IndexByteString", "internal/bytealg.IndexString"], named := ["unicode/utf8.first", "unicode/utf8.acceptRanges", "internal/bytealg.MaxLen"], apart := false, laid := [("unicode/utf8.acceptRanges", laid_unicode_utf8_acceptRanges), ("unicode/utf8.first", laid_unicode_utf8_first)] }
def FieldsBytesSaid : Prop := fieldsBytesRow.holds Tryd.pinned (OpenSpec.ofChange fieldsBytesSpec)

/-- ITS FALSE NEIGHBOUR: 'it returns false'. Refute it at one input. -/
def fieldsBytesWrong : ChangeSpec := { name := "fieldsBytes", fn := fun _ => fun
  | [d] => { results := [.lit (.bool false)], args := [d] }
  | _ => none }
def FieldsBytesWrongFalsely : Prop := fieldsBytesRow.holds Tryd.pinned (OpenSpec.ofChange fieldsBytesWrong)

/-- 'baseboardlaw02.FieldsLists': WHATEVER THE INPUT: true; the input reads as it did. -/
def fieldsListsSpec : ChangeSpec := { name := "fieldsLists", fn := fun _ => fun
  | [d1, d2] => { results := [.lit (.bool true)], args := [d1, d2] }
  | _ => none }
def fieldsListsRow : OpenClaim := { program := "ytfddmgagikeieaadoor", sum := "a938651e1bfdf7a898e250df09faa6f3f4775be9fbe44db0cf3c839b5bd9c9ad", func := "baseboard/baseboardlaw02.FieldsLists", spec := "fieldsLists", inPlace := ["internal/bytealg.IndexByteString", "internal/bytealg.IndexString"], unfollowed := true, recurses := true, named := ["unicode/utf8.first", "unicode/utf8.acceptRanges", "internal/bytealg.MaxLen"], apart := false, laid := [("unicode/utf8.acceptRanges", laid_unicode_utf8_acceptRanges), ("unicode/utf8.first", laid_unicode_utf8_first)] }
def FieldsListsSaid : Prop := fieldsListsRow.holds Tryd.pinned (OpenSpec.ofChange fieldsListsSpec)

/-- ITS FALSE NEIGHBOUR: 'it returns false'. Refute it at one input. -/
def fieldsListsWrong : ChangeSpec := { name := "fieldsLists", fn := fun _ => fun
  | [d1, d2] => { results := [.lit (.bool false)], args := [d1, d2] }
  | _ => none }
def FieldsListsWrongFalsely : Prop := fieldsListsRow.holds Tryd.pinned (OpenSpec.ofChange fieldsListsWrong)

/-- 'baseboardlaw02.FieldsListReturns': WHATEVER THE INPUT: true; the input reads as it did. -/
def fieldsListReturnsSpec : ChangeSpec := { name := "fieldsListReturns", fn := fun _ => fun
  | [d1, d2, d3] => { results := [.lit (.bool true)], args := [d1, d2, d3] }
  | _ => none }
def fieldsListReturnsRow : OpenClaim := { program := "ytfddmgagikeieaadoor", sum := "a938651e1bfdf7a898e250df09faa6f3f4775be9fbe44db0cf3c839b5bd9c9ad", func := "baseboard/baseboardlaw02.FieldsListReturns", spec := "fieldsListReturns", inPlace := ["internal/bytealg.IndexByteString", "internal/bytealg.IndexString"], unfollowed := true, recurses := true, named := ["unicode/utf8.first", "unicode/utf8.acceptRanges", "internal/bytealg.MaxLen"], apart := false, laid := [("unicode/utf8.acceptRanges", laid_unicode_utf8_acceptRanges), ("unicode/utf8.first", laid_unicode_utf8_first)] }
def FieldsListReturnsSaid : Prop := fieldsListReturnsRow.holds Tryd.pinned (OpenSpec.ofChange fieldsListReturnsSpec)

/-- ITS FALSE NEIGHBOUR: 'it returns false'. Refute it at one input. -/
def fieldsListReturnsWrong : ChangeSpec := { name := "fieldsListReturns", fn := fun _ => fun
  | [d1, d2, d3] => { results := [.lit (.bool false)], args := [d1, d2, d3] }
  | _ => none }
def FieldsListReturnsWrongFalsely : Prop := fieldsListReturnsRow.holds Tryd.pinned (OpenSpec.ofChange fieldsListReturnsWrong)

/-- 'baseboardlaw02.FieldsMany': WHATEVER THE INPUT: true; the input reads as it did. -/
def fieldsManySpec : ChangeSpec := { name := "fieldsMany", fn := fun _ => fun
  | [d1, d2] => { results := [.lit (.bool true)], args := [d1, d2] }
  | _ => none }
def fieldsManyRow : OpenClaim := { program := "ytfddmgagikeieaadoor", sum := "a938651e1bfdf7a898e250df09faa6f3f4775be9fbe44db0cf3c839b5bd9c9ad", func := "baseboard/baseboardlaw02.FieldsMany", spec := "fieldsMany", inPlace := ["internal/bytealg.IndexByteString", "internal/bytealg.IndexString"], unfollowed := true, recurses := true, named := ["unicode/utf8.first", "unicode/utf8.acceptRanges", "internal/bytealg.MaxLen"], apart := false, laid := [("unicode/utf8.acceptRanges", laid_unicode_utf8_acceptRanges), ("unicode/utf8.first", laid_unicode_utf8_first)] }
def FieldsManySaid : Prop := fieldsManyRow.holds Tryd.pinned (OpenSpec.ofChange fieldsManySpec)

/-- ITS FALSE NEIGHBOUR: 'it returns false'. Refute it at one input. -/
def fieldsManyWrong : ChangeSpec := { name := "fieldsMany", fn := fun _ => fun
  | [d1, d2] => { results := [.lit (.bool false)], args := [d1, d2] }
  | _ => none }
def FieldsManyWrongFalsely : Prop := fieldsManyRow.holds Tryd.pinned (OpenSpec.ofChange fieldsManyWrong)

/- THE SECOND FORM. 'bulk': how many values and letters a reading holds, each counted each time it is reached (what is shared counts as often as it is met; a slice's spare places count too). A statement '..UptoSaid' is the law's where the arguments, and the package variables that the reading takes, are together of bulk at most 1048576: NARROWER than '..Said'. Prove '..Said' where nothing that the law and all that it calls make is longer than what came in: it says more and counts as full. Else prove '..UptoSaid'. A law counts once. -/
mutual
def uptoBulk {H : Type} : DataW H → Nat
  | .lit (.string bytes) => bytes.length + 1
  | .lit _ => 1
  | .nil => 1
  | .ptr d => uptoBulk d + 1
  | .slice elems spare => uptoBulkAll elems + uptoBulkAll spare + 1
  | .agg parts => uptoBulkAll parts + 1
  | .iface _ d => uptoBulk d + 1
  | .map entries => uptoBulkEntries entries + 1
  | .held _ => 1
def uptoBulkAll {H : Type} : List (DataW H) → Nat
  | [] => 0
  | d :: r => uptoBulk d + uptoBulkAll r
def uptoBulkEntries {H : Type} : List (Lit × DataW H) → Nat
  | [] => 0
  | x :: r => uptoBulkEntry x + uptoBulkEntries r
def uptoBulkEntry {H : Type} : Lit × DataW H → Nat
  | (.string bytes, d) => bytes.length + uptoBulk d + 1
  | (_, d) => uptoBulk d + 1
 end
def uptoSmall : (H : Type) → List (DataW H) → Bool := fun _ ds => decide (uptoBulkAll ds ≤ 1048576)
def OpenSpec.upto (s : _root_.Go.ChangeSpec) : _root_.Go.OpenSpec := { _root_.Go.OpenSpec.ofChange s with cond := some uptoSmall }

/-- 'baseboardlaw02.FieldsEncode', WHERE WHAT IT READS IS OF BULK AT MOST 1048576: true; the input reads as it did. -/
def fieldsEncodeUptoRow : OpenClaim := { program := "ytfddmgagikeieaadoor", sum := "a938651e1bfdf7a898e250df09faa6f3f4775be9fbe44db0cf3c839b5bd9c9ad", func := "baseboard/baseboardlaw02.FieldsEncode", spec := "fieldsEncode", inPlace := ["internal/bytealg.IndexByteString", "internal/bytealg.IndexString"], named := ["unicode/utf8.first", "unicode/utf8.acceptRanges", "internal/bytealg.MaxLen"], apart := false, laid := [("unicode/utf8.acceptRanges", laid_unicode_utf8_acceptRanges), ("unicode/utf8.first", laid_unicode_utf8_first)], narrowed := true }
def FieldsEncodeUptoSaid : Prop := fieldsEncodeUptoRow.holds Tryd.pinned (OpenSpec.upto fieldsEncodeSpec)

/-- 'baseboardlaw02.FieldsBest', WHERE WHAT IT READS IS OF BULK AT MOST 1048576: true; the input reads as it did. -/
def fieldsBestUptoRow : OpenClaim := { program := "ytfddmgagikeieaadoor", sum := "a938651e1bfdf7a898e250df09faa6f3f4775be9fbe44db0cf3c839b5bd9c9ad", func := "baseboard/baseboardlaw02.FieldsBest", spec := "fieldsBest", inPlace := ["internal/bytealg.IndexByteString", "internal/bytealg.IndexString"], named := ["unicode/utf8.first", "unicode/utf8.acceptRanges", "internal/bytealg.MaxLen"], apart := false, laid := [("unicode/utf8.acceptRanges", laid_unicode_utf8_acceptRanges), ("unicode/utf8.first", laid_unicode_utf8_first)], narrowed := true }
def FieldsBestUptoSaid : Prop := fieldsBestUptoRow.holds Tryd.pinned (OpenSpec.upto fieldsBestSpec)

/-- 'baseboardlaw02.FieldsShortest', WHERE WHAT IT READS IS OF BULK AT MOST 1048576: true; the input reads as it did. -/
def fieldsShortestUptoRow : OpenClaim := { program := "ytfddmgagikeieaadoor", sum := "a938651e1bfdf7a898e250df09faa6f3f4775be9fbe44db0cf3c839b5bd9c9ad", func := "baseboard/baseboardlaw02.FieldsShortest", spec := "fieldsShortest", inPlace := ["internal/bytealg.IndexByteString", "internal/bytealg.IndexString"], named := ["unicode/utf8.first", "unicode/utf8.acceptRanges", "internal/bytealg.MaxLen"], apart := false, laid := [("unicode/utf8.acceptRanges", laid_unicode_utf8_acceptRanges), ("unicode/utf8.first", laid_unicode_utf8_first)], narrowed := true }
def FieldsShortestUptoSaid : Prop := fieldsShortestUptoRow.holds Tryd.pinned (OpenSpec.upto fieldsShortestSpec)

/-- 'baseboardlaw02.FieldsKinds', WHERE WHAT IT READS IS OF BULK AT MOST 1048576: true; the input reads as it did. -/
def fieldsKindsUptoRow : OpenClaim := { program := "ytfddmgagikeieaadoor", sum := "a938651e1bfdf7a898e250df09faa6f3f4775be9fbe44db0cf3c839b5bd9c9ad", func := "baseboard/baseboardlaw02.FieldsKinds", spec := "fieldsKinds", inPlace := ["internal/bytealg.IndexByteString", "internal/bytealg.IndexString"], named := ["unicode/utf8.first", "unicode/utf8.acceptRanges", "internal/bytealg.MaxLen"], apart := false, laid := [("unicode/utf8.acceptRanges", laid_unicode_utf8_acceptRanges), ("unicode/utf8.first", laid_unicode_utf8_first)], narrowed := true }
def FieldsKindsUptoSaid : Prop := fieldsKindsUptoRow.holds Tryd.pinned (OpenSpec.upto fieldsKindsSpec)

/-- 'baseboardlaw02.FieldsDecode', WHERE WHAT IT READS IS OF BULK AT MOST 1048576: true; the input reads as it did. -/
def fieldsDecodeUptoRow : OpenClaim := { program := "ytfddmgagikeieaadoor", sum := "a938651e1bfdf7a898e250df09faa6f3f4775be9fbe44db0cf3c839b5bd9c9ad", func := "baseboard/baseboardlaw02.FieldsDecode", spec := "fieldsDecode", inPlace := ["internal/bytealg.IndexByteString", "internal/bytealg.IndexString"], named := ["unicode/utf8.first", "unicode/utf8.acceptRanges", "internal/bytealg.MaxLen"], apart := false, laid := [("unicode/utf8.acceptRanges", laid_unicode_utf8_acceptRanges), ("unicode/utf8.first", laid_unicode_utf8_first)], narrowed := true }
def FieldsDecodeUptoSaid : Prop := fieldsDecodeUptoRow.holds Tryd.pinned (OpenSpec.upto fieldsDecodeSpec)

/-- 'baseboardlaw02.FieldsReturns', WHERE WHAT IT READS IS OF BULK AT MOST 1048576: true; the input reads as it did. -/
def fieldsReturnsUptoRow : OpenClaim := { program := "ytfddmgagikeieaadoor", sum := "a938651e1bfdf7a898e250df09faa6f3f4775be9fbe44db0cf3c839b5bd9c9ad", func := "baseboard/baseboardlaw02.FieldsReturns", spec := "fieldsReturns", inPlace := ["internal/bytealg.IndexByteString", "internal/bytealg.IndexString"], named := ["unicode/utf8.first", "unicode/utf8.acceptRanges", "internal/bytealg.MaxLen"], apart := false, laid := [("unicode/utf8.acceptRanges", laid_unicode_utf8_acceptRanges), ("unicode/utf8.first", laid_unicode_utf8_first)], narrowed := true }
def FieldsReturnsUptoSaid : Prop := fieldsReturnsUptoRow.holds Tryd.pinned (OpenSpec.upto fieldsReturnsSpec)

/-- 'baseboardlaw02.FieldsBytes', WHERE WHAT IT READS IS OF BULK AT MOST 1048576: true; the input reads as it did. -/
def fieldsBytesUptoRow : OpenClaim := { program := "ytfddmgagikeieaadoor", sum := "a938651e1bfdf7a898e250df09faa6f3f4775be9fbe44db0cf3c839b5bd9c9ad", func := "baseboard/baseboardlaw02.FieldsBytes", spec := "fieldsBytes", inPlace := ["internal/bytealg.IndexByteString", "internal/bytealg.IndexString"], named := ["unicode/utf8.first", "unicode/utf8.acceptRanges", "internal/bytealg.MaxLen"], apart := false, laid := [("unicode/utf8.acceptRanges", laid_unicode_utf8_acceptRanges), ("unicode/utf8.first", laid_unicode_utf8_first)], narrowed := true }
def FieldsBytesUptoSaid : Prop := fieldsBytesUptoRow.holds Tryd.pinned (OpenSpec.upto fieldsBytesSpec)

/-- 'baseboardlaw02.FieldsLists', WHERE WHAT IT READS IS OF BULK AT MOST 1048576: true; the input reads as it did. -/
def fieldsListsUptoRow : OpenClaim := { program := "ytfddmgagikeieaadoor", sum := "a938651e1bfdf7a898e250df09faa6f3f4775be9fbe44db0cf3c839b5bd9c9ad", func := "baseboard/baseboardlaw02.FieldsLists", spec := "fieldsLists", inPlace := ["internal/bytealg.IndexByteString", "internal/bytealg.IndexString"], unfollowed := true, recurses := true, named := ["unicode/utf8.first", "unicode/utf8.acceptRanges", "internal/bytealg.MaxLen"], apart := false, laid := [("unicode/utf8.acceptRanges", laid_unicode_utf8_acceptRanges), ("unicode/utf8.first", laid_unicode_utf8_first)], narrowed := true }
def FieldsListsUptoSaid : Prop := fieldsListsUptoRow.holds Tryd.pinned (OpenSpec.upto fieldsListsSpec)

/-- 'baseboardlaw02.FieldsListReturns', WHERE WHAT IT READS IS OF BULK AT MOST 1048576: true; the input reads as it did. -/
def fieldsListReturnsUptoRow : OpenClaim := { program := "ytfddmgagikeieaadoor", sum := "a938651e1bfdf7a898e250df09faa6f3f4775be9fbe44db0cf3c839b5bd9c9ad", func := "baseboard/baseboardlaw02.FieldsListReturns", spec := "fieldsListReturns", inPlace := ["internal/bytealg.IndexByteString", "internal/bytealg.IndexString"], unfollowed := true, recurses := true, named := ["unicode/utf8.first", "unicode/utf8.acceptRanges", "internal/bytealg.MaxLen"], apart := false, laid := [("unicode/utf8.acceptRanges", laid_unicode_utf8_acceptRanges), ("unicode/utf8.first", laid_unicode_utf8_first)], narrowed := true }
def FieldsListReturnsUptoSaid : Prop := fieldsListReturnsUptoRow.holds Tryd.pinned (OpenSpec.upto fieldsListReturnsSpec)

/-- 'baseboardlaw02.FieldsMany', WHERE WHAT IT READS IS OF BULK AT MOST 1048576: true; the input reads as it did. -/
def fieldsManyUptoRow : OpenClaim := { program := "ytfddmgagikeieaadoor", sum := "a938651e1bfdf7a898e250df09faa6f3f4775be9fbe44db0cf3c839b5bd9c9ad", func := "baseboard/baseboardlaw02.FieldsMany", spec := "fieldsMany", inPlace := ["internal/bytealg.IndexByteString", "internal/bytealg.IndexString"], unfollowed := true, recurses := true, named := ["unicode/utf8.first", "unicode/utf8.acceptRanges", "internal/bytealg.MaxLen"], apart := false, laid := [("unicode/utf8.acceptRanges", laid_unicode_utf8_acceptRanges), ("unicode/utf8.first", laid_unicode_utf8_first)], narrowed := true }
def FieldsManyUptoSaid : Prop := fieldsManyUptoRow.holds Tryd.pinned (OpenSpec.upto fieldsManySpec)

end Rows
end Go.Proofs.YtfddmgagikeieaaDoor
