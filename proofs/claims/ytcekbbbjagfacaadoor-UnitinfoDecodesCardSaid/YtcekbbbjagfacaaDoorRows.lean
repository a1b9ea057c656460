/-
  NARROWER THAN 'FOR EVERY INPUT', by the rows' own cells (each row's printed sentence says how): UnitinfoBytes: laid · UnitinfoSerials: laid · UnitinfoDecodes: laid · UnitinfoReturns: laid · UnitinfoAgain: laid.
  DERIVED. THE GIVEN ROWS OF THIS SEAT. 5 by the template 'for every input the law returns true; each argument reads behind the call as it read before'; 0 by the template 'total and deterministic' (their statements: YtcekbbbjagfacaaDoorTotals.lean).
  GIVEN WITH THE SEED: the statements are not yours to turn. If you find one false, say at which input.
  Laid BY PROGRAM, IN A SANDBOX (cutbox-rows.mjs): the forced cells as the released guide's own fill.sh prints them over the translation 2eb4b0a691422efe… (all of the seat's roots in one cut). By AI agents, Wed Nov 11 2026. No macro, syntax, notation, axiom, sorry.
-/
import Derived.Test.YtcekbbbjagfacaaDoorChecked
import GoSem.PinnedTables
import GoSem.Claim
import GoSem.ClaimJoined
import GoSem.ClaimMapViews
import Derived.JoinedTies
import Derived.KernelRfl
namespace Go.Proofs.YtcekbbbjagfacaaDoor
/- THE CELL 'sum', in the pinned program and in every row, IS THE sha256 OF THE DUMP (.gsa) THAT YtcekbbbjagfacaaDoorProg.lean LOADS. Nothing in Lean hashes anything: it is a label: what it is worth is what the hold of that sum in a sandbox is worth. -/
noncomputable def Tryd.pinned : Pinned := { name := "ytcekbbbjagfacaadoor", sum := "2eb4b0a691422efe2355569186d6e7d9fada5c279374c6330716a898ab07fa90", checked := Tryd.checked }
namespace Rows
def none {H : Type} : Left H := { results := [], args := [] }

/- WHAT THE LISTED PACKAGE-LEVEL VARIABLES READ AS WHEN THE CALL BEGINS. Each datum BY PROGRAM (the guide's laid-datum.mjs) off the statement by which the dump's own 'gosem.cut.vars' lays the variable. In a bare row this is a premise. The card (YtcekbbbjagfacaaDoorCards.lean) ties it to the program's text. -/
def laid_unicode_utf8_acceptRanges {H : Type} : DataW H := .agg [.agg [.lit (.int .u8 128), .lit (.int .u8 191)], .agg [.lit (.int .u8 160), .lit (.int .u8 191)], .agg [.lit (.int .u8 128), .lit (.int .u8 159)], .agg [.lit (.int .u8 144), .lit (.int .u8 191)], .agg [.lit (.int .u8 128), .lit (.int .u8 143)], .agg [.lit (.int .u8 0), .lit (.int .u8 0)], .agg [.lit (.int .u8 0), .lit (.int .u8 0)], .agg [.lit (.int .u8 0), .lit (.int .u8 0)], .agg [.lit (.int .u8 0), .lit (.int .u8 0)], .agg [.lit (.int .u8 0), .lit (.int .u8 0)], .agg [.lit (.int .u8 0), .lit (.int .u8 0)], .agg [.lit (.int .u8 0), .lit (.int .u8 0)], .agg [.lit (.int .u8 0), .lit (.int .u8 0)], .agg [.lit (.int .u8 0), .lit (.int .u8 0)], .agg [.lit (.int .u8 0), .lit (.int .u8 0)], .agg [.lit (.int .u8 0), .lit (.int .u8 0)]]
def laid_baseboard_unitinfo_leastFields {H : Type} : DataW H := .agg [.lit (.int .i64 2), .lit (.int .i64 5), .lit (.int .i64 7)]
/-- One of Go's own tables, pinned by name: the form's constant. -/
def laid_unicode_utf8_first : DataW Unit := Go.Pinned.utf8First

/-- 'baseboardlaw17.UnitinfoBytes': WHATEVER THE INPUT: true; the input reads as it did. -/
def unitinfoBytesSpec : ChangeSpec := { name := "unitinfoBytes", fn := fun _ => fun
  | [d1, d2] => { results := [.lit (.bool true)], args := [d1, d2] }
  | _ => none }
def unitinfoBytesRow : OpenClaim := { program := "ytcekbbbjagfacaadoor", sum := "2eb4b0a691422efe2355569186d6e7d9fada5c279374c6330716a898ab07fa90", func := "baseboard/baseboardlaw17.UnitinfoBytes", spec := "unitinfoBytes", inPlace := ["internal/bytealg.IndexByteString", "internal/bytealg.IndexString"], unfollowed := true, recurses := true, named := ["baseboard/unitinfo.leastFields", "unicode/utf8.first", "unicode/utf8.acceptRanges", "internal/bytealg.MaxLen"], apart := false, laid := [("unicode/utf8.acceptRanges", laid_unicode_utf8_acceptRanges), ("baseboard/unitinfo.leastFields", laid_baseboard_unitinfo_leastFields), ("unicode/utf8.first", laid_unicode_utf8_first)] }
def UnitinfoBytesSaid : Prop := unitinfoBytesRow.holds Tryd.pinned (OpenSpec.ofChange unitinfoBytesSpec)

/-- ITS FALSE NEIGHBOUR: 'it returns false'. Refute it at one input. -/
def unitinfoBytesWrong : ChangeSpec := { name := "unitinfoBytes", fn := fun _ => fun
  | [d1, d2] => { results := [.lit (.bool false)], args := [d1, d2] }
  | _ => none }
def UnitinfoBytesWrongFalsely : Prop := unitinfoBytesRow.holds Tryd.pinned (OpenSpec.ofChange unitinfoBytesWrong)

/-- 'baseboardlaw17.UnitinfoSerials': WHATEVER THE INPUT: true; the input reads as it did. -/
def unitinfoSerialsSpec : ChangeSpec := { name := "unitinfoSerials", fn := fun _ => fun
  | [d1, d2, d3, d4] => { results := [.lit (.bool true)], args := [d1, d2, d3, d4] }
  | _ => none }
def unitinfoSerialsRow : OpenClaim := { program := "ytcekbbbjagfacaadoor", sum := "2eb4b0a691422efe2355569186d6e7d9fada5c279374c6330716a898ab07fa90", func := "baseboard/baseboardlaw17.UnitinfoSerials", spec := "unitinfoSerials", inPlace := ["internal/bytealg.IndexByteString", "internal/bytealg.IndexString"], unfollowed := true, recurses := true, named := ["baseboard/unitinfo.leastFields", "unicode/utf8.first", "unicode/utf8.acceptRanges", "internal/bytealg.MaxLen"], apart := false, laid := [("unicode/utf8.acceptRanges", laid_unicode_utf8_acceptRanges), ("baseboard/unitinfo.leastFields", laid_baseboard_unitinfo_leastFields), ("unicode/utf8.first", laid_unicode_utf8_first)] }
def UnitinfoSerialsSaid : Prop := unitinfoSerialsRow.holds Tryd.pinned (OpenSpec.ofChange unitinfoSerialsSpec)

/-- ITS FALSE NEIGHBOUR: 'it returns false'. Refute it at one input. -/
def unitinfoSerialsWrong : ChangeSpec := { name := "unitinfoSerials", fn := fun _ => fun
  | [d1, d2, d3, d4] => { results := [.lit (.bool false)], args := [d1, d2, d3, d4] }
  | _ => none }
def UnitinfoSerialsWrongFalsely : Prop := unitinfoSerialsRow.holds Tryd.pinned (OpenSpec.ofChange unitinfoSerialsWrong)

/-- 'baseboardlaw17.UnitinfoDecodes': WHATEVER THE INPUT: true; the input reads as it did. -/
def unitinfoDecodesSpec : ChangeSpec := { name := "unitinfoDecodes", fn := fun _ => fun
  | [d1, d2] => { results := [.lit (.bool true)], args := [d1, d2] }
  | _ => none }
def unitinfoDecodesRow : OpenClaim := { program := "ytcekbbbjagfacaadoor", sum := "2eb4b0a691422efe2355569186d6e7d9fada5c279374c6330716a898ab07fa90", func := "baseboard/baseboardlaw17.UnitinfoDecodes", spec := "unitinfoDecodes", inPlace := ["internal/bytealg.IndexByteString", "internal/bytealg.IndexString"], unfollowed := true, recurses := true, named := ["baseboard/unitinfo.leastFields", "unicode/utf8.first", "unicode/utf8.acceptRanges", "internal/bytealg.MaxLen"], apart := false, laid := [("unicode/utf8.acceptRanges", laid_unicode_utf8_acceptRanges), ("baseboard/unitinfo.leastFields", laid_baseboard_unitinfo_leastFields), ("unicode/utf8.first", laid_unicode_utf8_first)] }
def UnitinfoDecodesSaid : Prop := unitinfoDecodesRow.holds Tryd.pinned (OpenSpec.ofChange unitinfoDecodesSpec)

/-- ITS FALSE NEIGHBOUR: 'it returns false'. Refute it at one input. -/
def unitinfoDecodesWrong : ChangeSpec := { name := "unitinfoDecodes", fn := fun _ => fun
  | [d1, d2] => { results := [.lit (.bool false)], args := [d1, d2] }
  | _ => none }
def UnitinfoDecodesWrongFalsely : Prop := unitinfoDecodesRow.holds Tryd.pinned (OpenSpec.ofChange unitinfoDecodesWrong)

/-- 'baseboardlaw17.UnitinfoReturns': WHATEVER THE INPUT: true; the input reads as it did. -/
def unitinfoReturnsSpec : ChangeSpec := { name := "unitinfoReturns", fn := fun _ => fun
  | [d1, d2, d3] => { results := [.lit (.bool true)], args := [d1, d2, d3] }
  | _ => none }
def unitinfoReturnsRow : OpenClaim := { program := "ytcekbbbjagfacaadoor", sum := "2eb4b0a691422efe2355569186d6e7d9fada5c279374c6330716a898ab07fa90", func := "baseboard/baseboardlaw17.UnitinfoReturns", spec := "unitinfoReturns", inPlace := ["internal/bytealg.IndexByteString", "internal/bytealg.IndexString"], unfollowed := true, recurses := true, named := ["baseboard/unitinfo.leastFields", "unicode/utf8.first", "unicode/utf8.acceptRanges", "internal/bytealg.MaxLen"], apart := false, laid := [("unicode/utf8.acceptRanges", laid_unicode_utf8_acceptRanges), ("baseboard/unitinfo.leastFields", laid_baseboard_unitinfo_leastFields), ("unicode/utf8.first", laid_unicode_utf8_first)] }
def UnitinfoReturnsSaid : Prop := unitinfoReturnsRow.holds Tryd.pinned (OpenSpec.ofChange unitinfoReturnsSpec)

/-- ITS FALSE NEIGHBOUR: 'it returns false'. Refute it at one input. -/
def unitinfoReturnsWrong : ChangeSpec := { name := "unitinfoReturns", fn := fun _ => fun
  | [d1, d2, d3] => { results := [.lit (.bool false)], args := [d1, d2, d3] }
  | _ => none }
def UnitinfoReturnsWrongFalsely : Prop := unitinfoReturnsRow.holds Tryd.pinned (OpenSpec.ofChange unitinfoReturnsWrong)

/-- 'baseboardlaw17.UnitinfoAgain': WHATEVER THE INPUT: true; the input reads as it did. -/
def unitinfoAgainSpec : ChangeSpec := { name := "unitinfoAgain", fn := fun _ => fun
  | [d1, d2] => { results := [.lit (.bool true)], args := [d1, d2] }
  | _ => none }
def unitinfoAgainRow : OpenClaim := { program := "ytcekbbbjagfacaadoor", sum := "2eb4b0a691422efe2355569186d6e7d9fada5c279374c6330716a898ab07fa90", func := "baseboard/baseboardlaw17.UnitinfoAgain", spec := "unitinfoAgain", inPlace := ["internal/bytealg.IndexByteString", "internal/bytealg.IndexString"], unfollowed := true, recurses := true, named := ["baseboard/unitinfo.leastFields", "unicode/utf8.first", "unicode/utf8.acceptRanges", "internal/bytealg.MaxLen"], apart := false, laid := [("unicode/utf8.acceptRanges", laid_unicode_utf8_acceptRanges), ("baseboard/unitinfo.leastFields", laid_baseboard_unitinfo_leastFields), ("unicode/utf8.first", laid_unicode_utf8_first)] }
def UnitinfoAgainSaid : Prop := unitinfoAgainRow.holds Tryd.pinned (OpenSpec.ofChange unitinfoAgainSpec)

/-- ITS FALSE NEIGHBOUR: 'it returns false'. Refute it at one input. -/
def unitinfoAgainWrong : ChangeSpec := { name := "unitinfoAgain", fn := fun _ => fun
  | [d1, d2] => { results := [.lit (.bool false)], args := [d1, d2] }
  | _ => none }
def UnitinfoAgainWrongFalsely : Prop := unitinfoAgainRow.holds Tryd.pinned (OpenSpec.ofChange unitinfoAgainWrong)

/- THE SECOND FORM. 'bulk': how many values and letters a reading holds, each counted each time it is reached (what is shared counts as often as it is met; a slice's spare places count too). A statement '..UptoSaid' is the law's where the arguments, and the package variables that the reading takes, are together of bulk at most 1048576: NARROWER than '..Said'. Prove '..Said' where nothing that the law and all that it calls make is longer than what came in: it says more and counts as full. Else prove '..UptoSaid'. A law counts once. -/
mutual
def uptoBulk {H : Type} : DataW H → Nat
  | .lit (.string bytes) => bytes.length + 1
  | .lit _ => 1
  | .nil => 1
  | .ptr d => uptoBulk d + 1
  | .slice elems spare => uptoBulkAll elems + uptoBulkAll spare + 1
  | .agg parts => uptoBulkAll parts + 1
  | .iface _ d => uptoBulk d + 1
  | .map entries => uptoBulkEntries entries + 1
  | .held _ => 1
def uptoBulkAll {H : Type} : List (DataW H) → Nat
  | [] => 0
  | d :: r => uptoBulk d + uptoBulkAll r
def uptoBulkEntries {H : Type} : List (Lit × DataW H) → Nat
  | [] => 0
  | x :: r => uptoBulkEntry x + uptoBulkEntries r
def uptoBulkEntry {H : Type} : Lit × DataW H → Nat
  | (.string bytes, d) => bytes.length + uptoBulk d + 1
  | (_, d) => uptoBulk d + 1
 end
def uptoSmall : (H : Type) → List (DataW H) → Bool := fun _ ds => decide (uptoBulkAll ds ≤ 1048576)
def OpenSpec.upto (s : _root_.Go.ChangeSpec) : _root_.Go.OpenSpec := { _root_.Go.OpenSpec.ofChange s with cond := some uptoSmall }

/-- 'baseboardlaw17.UnitinfoBytes', WHERE WHAT IT READS IS OF BULK AT MOST 1048576: true; the input reads as it did. -/
def unitinfoBytesUptoRow : OpenClaim := { program := "ytcekbbbjagfacaadoor", sum := "2eb4b0a691422efe2355569186d6e7d9fada5c279374c6330716a898ab07fa90", func := "baseboard/baseboardlaw17.UnitinfoBytes", spec := "unitinfoBytes", inPlace := ["internal/bytealg.IndexByteString", "internal/bytealg.IndexString"], unfollowed := true, recurses := true, named := ["baseboard/unitinfo.leastFields", "unicode/utf8.first", "unicode/utf8.acceptRanges", "internal/bytealg.MaxLen"], apart := false, laid := [("unicode/utf8.acceptRanges", laid_unicode_utf8_acceptRanges), ("baseboard/unitinfo.leastFields", laid_baseboard_unitinfo_leastFields), ("unicode/utf8.first", laid_unicode_utf8_first)], narrowed := true }
def UnitinfoBytesUptoSaid : Prop := unitinfoBytesUptoRow.holds Tryd.pinned (OpenSpec.upto unitinfoBytesSpec)

/-- 'baseboardlaw17.UnitinfoSerials', WHERE WHAT IT READS IS OF BULK AT MOST 1048576: true; the input reads as it did. -/
def unitinfoSerialsUptoRow : OpenClaim := { program := "ytcekbbbjagfacaadoor", sum := "2eb4b0a691422efe2355569186d6e7d9fada5c279374c6330716a898ab07fa90", func := "baseboard/baseboardlaw17.UnitinfoSerials", spec := "unitinfoSerials", inPlace := ["internal/bytealg.IndexByteString", "internal/bytealg.IndexString"], unfollowed := true, recurses := true, named := ["baseboard/unitinfo.leastFields", "unicode/utf8.first", "unicode/utf8.acceptRanges", "internal/bytealg.MaxLen"], apart := false, laid := [("unicode/utf8.acceptRanges", laid_unicode_utf8_acceptRanges), ("baseboard/unitinfo.leastFields", laid_baseboard_unitinfo_leastFields), ("unicode/utf8.first", laid_unicode_utf8_first)], narrowed := true }
def UnitinfoSerialsUptoSaid : Prop := unitinfoSerialsUptoRow.holds Tryd.pinned (OpenSpec.upto unitinfoSerialsSpec)

/-- 'baseboardlaw17.UnitinfoDecodes', WHERE WHAT IT READS IS OF BULK AT MOST 1048576: true; the input reads as it did. -/
def unitinfoDecodesUptoRow : OpenClaim := { program := "ytcekbbbjagfacaadoor", sum := "2eb4b0a691422efe2355569186d6e7d9fada5c279374c6330716a898ab07fa90", func := "baseboard/baseboardlaw17.UnitinfoDecodes", spec := "unitinfoDecodes", inPlace := ["internal/bytealg.IndexByteString", "internal/bytealg.IndexString"], unfollowed := true, recurses := true, named := ["baseboard/unitinfo.leastFields", "unicode/utf8.first", "unicode/utf8.acceptRanges", "internal/bytealg.MaxLen"], apart := false, laid := [("unicode/utf8.acceptRanges", laid_unicode_utf8_acceptRanges), ("baseboard/unitinfo.leastFields", laid_baseboard_unitinfo_leastFields), ("unicode/utf8.first", laid_unicode_utf8_first)], narrowed := true }
def UnitinfoDecodesUptoSaid : Prop := unitinfoDecodesUptoRow.holds Tryd.pinned (OpenSpec.upto unitinfoDecodesSpec)

/-- 'baseboardlaw17.UnitinfoReturns', WHERE WHAT IT READS IS OF BULK AT MOST 1048576: true; the input reads as it did. -/
def unitinfoReturnsUptoRow : OpenClaim := { program := "ytcekbbbjagfacaadoor", sum := "2eb4b0a691422efe2355569186d6e7d9fada5c279374c6330716a898ab07fa90", func := "baseboard/baseboardlaw17.UnitinfoReturns", spec := "unitinfoReturns", inPlace := ["internal/bytealg.IndexByteString", "internal/bytealg.IndexString"], unfollowed := true, recurses := true, named := ["baseboard/unitinfo.leastFields", "unicode/utf8.first", "unicode/utf8.acceptRanges", "internal/bytealg.MaxLen"], apart := false, laid := [("unicode/utf8.acceptRanges", laid_unicode_utf8_acceptRanges), ("baseboard/unitinfo.leastFields", laid_baseboard_unitinfo_leastFields), ("unicode/utf8.first", laid_unicode_utf8_first)], narrowed := true }
def UnitinfoReturnsUptoSaid : Prop := unitinfoReturnsUptoRow.holds Tryd.pinned (OpenSpec.upto unitinfoReturnsSpec)

/-- 'baseboardlaw17.UnitinfoAgain', WHERE WHAT IT READS IS OF BULK AT MOST 1048576: true; the input reads as it did. -/
def unitinfoAgainUptoRow : OpenClaim := { program := "ytcekbbbjagfacaadoor", sum := "2eb4b0a691422efe2355569186d6e7d9fada5c279374c6330716a898ab07fa90", func := "baseboard/baseboardlaw17.UnitinfoAgain", spec := "unitinfoAgain", inPlace := ["internal/bytealg.IndexByteString", "internal/bytealg.IndexString"], unfollowed := true, recurses := true, named := ["baseboard/unitinfo.leastFields", "unicode/utf8.first", "unicode/utf8.acceptRanges", "internal/bytealg.MaxLen"], apart := false, laid := [("unicode/utf8.acceptRanges", laid_unicode_utf8_acceptRanges), ("baseboard/unitinfo.leastFields", laid_baseboard_unitinfo_leastFields), ("unicode/utf8.first", laid_unicode_utf8_first)], narrowed := true }
def UnitinfoAgainUptoSaid : Prop := unitinfoAgainUptoRow.holds Tryd.pinned (OpenSpec.upto unitinfoAgainSpec)

end Rows
end Go.Proofs.YtcekbbbjagfacaaDoor
