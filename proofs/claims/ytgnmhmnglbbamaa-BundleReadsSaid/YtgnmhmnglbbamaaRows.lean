/-
  No cell of these rows narrows 'for every input' (looked for: loops, veiled, ifaces, maps, wideKeys, modest, calm, conditions, laid).
  DERIVED. THE GIVEN ROWS OF THIS SEAT. 4 by the template 'for every input the law returns true; each argument reads behind the call as it read before'; 0 by the template 'total and deterministic' (their statements: YtgnmhmnglbbamaaTotals.lean).
  GIVEN WITH THE SEED: the statements are not yours to turn. If you find one false, say at which input.
  Laid BY PROGRAM, IN A SANDBOX (cutbox-rows.mjs): the forced cells as the released guide's own fill.sh prints them over the translation 6ebccb9580589b0d… (all of the seat's roots in one cut). By AI agents, Wed Nov 11 2026. No macro, syntax, notation, axiom, sorry.
-/
import Derived.Test.YtgnmhmnglbbamaaChecked
import GoSem.Claim
import GoSem.ClaimJoined
import GoSem.ClaimMapViews
import Derived.JoinedTies
import Derived.KernelRfl
namespace Go.Proofs.Ytgnmhmnglbbamaa
/- THE CELL 'sum', in the pinned program and in every row, IS THE sha256 OF THE DUMP (.gsa) THAT YtgnmhmnglbbamaaProg.lean LOADS. Nothing in Lean hashes anything: it is a label: what it is worth is what the hold of that sum in a sandbox is worth. -/
noncomputable def Try.pinned : Pinned := { name := "ytgnmhmnglbbamaa", sum := "6ebccb9580589b0d9d6d5acdd0271a12e57498c83ebae828494d143dfc3c9d67", checked := Try.checked }
namespace Rows
def none {H : Type} : Left H := { results := [], args := [] }

/-- 'baseboardlaw28.BundleAnswers': WHATEVER THE INPUT: true; the input reads as it did. -/
def bundleAnswersSpec : ChangeSpec := { name := "bundleAnswers", fn := fun _ => fun
  | [d1, d2, d3] => { results := [.lit (.bool true)], args := [d1, d2, d3] }
  | _ => none }
def bundleAnswersRow : OpenClaim := { program := "ytgnmhmnglbbamaa", sum := "6ebccb9580589b0d9d6d5acdd0271a12e57498c83ebae828494d143dfc3c9d67", func := "baseboard/baseboardlaw28.BundleAnswers", spec := "bundleAnswers", unfollowed := true, recurses := true, apart := false }
def BundleAnswersSaid : Prop := bundleAnswersRow.holds Try.pinned (OpenSpec.ofChange bundleAnswersSpec)

/-- ITS FALSE NEIGHBOUR: 'it returns false'. Refute it at one input. -/
def bundleAnswersWrong : ChangeSpec := { name := "bundleAnswers", fn := fun _ => fun
  | [d1, d2, d3] => { results := [.lit (.bool false)], args := [d1, d2, d3] }
  | _ => none }
def BundleAnswersWrongFalsely : Prop := bundleAnswersRow.holds Try.pinned (OpenSpec.ofChange bundleAnswersWrong)

/-- 'baseboardlaw28.BundleReads': WHATEVER THE INPUT: true; the input reads as it did. -/
def bundleReadsSpec : ChangeSpec := { name := "bundleReads", fn := fun _ => fun
  | [d1, d2, d3, d4] => { results := [.lit (.bool true)], args := [d1, d2, d3, d4] }
  | _ => none }
def bundleReadsRow : OpenClaim := { program := "ytgnmhmnglbbamaa", sum := "6ebccb9580589b0d9d6d5acdd0271a12e57498c83ebae828494d143dfc3c9d67", func := "baseboard/baseboardlaw28.BundleReads", spec := "bundleReads", unfollowed := true, recurses := true, apart := false }
def BundleReadsSaid : Prop := bundleReadsRow.holds Try.pinned (OpenSpec.ofChange bundleReadsSpec)

/-- ITS FALSE NEIGHBOUR: 'it returns false'. Refute it at one input. -/
def bundleReadsWrong : ChangeSpec := { name := "bundleReads", fn := fun _ => fun
  | [d1, d2, d3, d4] => { results := [.lit (.bool false)], args := [d1, d2, d3, d4] }
  | _ => none }
def BundleReadsWrongFalsely : Prop := bundleReadsRow.holds Try.pinned (OpenSpec.ofChange bundleReadsWrong)

/-- 'baseboardlaw28.BundleReturns': WHATEVER THE INPUT: true; the input reads as it did. -/
def bundleReturnsSpec : ChangeSpec := { name := "bundleReturns", fn := fun _ => fun
  | [d1, d2, d3] => { results := [.lit (.bool true)], args := [d1, d2, d3] }
  | _ => none }
def bundleReturnsRow : OpenClaim := { program := "ytgnmhmnglbbamaa", sum := "6ebccb9580589b0d9d6d5acdd0271a12e57498c83ebae828494d143dfc3c9d67", func := "baseboard/baseboardlaw28.BundleReturns", spec := "bundleReturns", unfollowed := true, recurses := true, apart := false }
def BundleReturnsSaid : Prop := bundleReturnsRow.holds Try.pinned (OpenSpec.ofChange bundleReturnsSpec)

/-- ITS FALSE NEIGHBOUR: 'it returns false'. Refute it at one input. -/
def bundleReturnsWrong : ChangeSpec := { name := "bundleReturns", fn := fun _ => fun
  | [d1, d2, d3] => { results := [.lit (.bool false)], args := [d1, d2, d3] }
  | _ => none }
def BundleReturnsWrongFalsely : Prop := bundleReturnsRow.holds Try.pinned (OpenSpec.ofChange bundleReturnsWrong)

/-- 'baseboardlaw28.BundleSums': WHATEVER THE INPUT: true; the input reads as it did. -/
def bundleSumsSpec : ChangeSpec := { name := "bundleSums", fn := fun _ => fun
  | [d1, d2, d3] => { results := [.lit (.bool true)], args := [d1, d2, d3] }
  | _ => none }
def bundleSumsRow : OpenClaim := { program := "ytgnmhmnglbbamaa", sum := "6ebccb9580589b0d9d6d5acdd0271a12e57498c83ebae828494d143dfc3c9d67", func := "baseboard/baseboardlaw28.BundleSums", spec := "bundleSums", unfollowed := true, recurses := true, apart := false }
def BundleSumsSaid : Prop := bundleSumsRow.holds Try.pinned (OpenSpec.ofChange bundleSumsSpec)

/-- ITS FALSE NEIGHBOUR: 'it returns false'. Refute it at one input. -/
def bundleSumsWrong : ChangeSpec := { name := "bundleSums", fn := fun _ => fun
  | [d1, d2, d3] => { results := [.lit (.bool false)], args := [d1, d2, d3] }
  | _ => none }
def BundleSumsWrongFalsely : Prop := bundleSumsRow.holds Try.pinned (OpenSpec.ofChange bundleSumsWrong)

/- THE SECOND FORM. 'bulk': how many values and letters a reading holds, each counted each time it is reached (what is shared counts as often as it is met; a slice's spare places count too). A statement '..UptoSaid' is the law's where the arguments, and the package variables that the reading takes, are together of bulk at most 1048576: NARROWER than '..Said'. Prove '..Said' where nothing that the law and all that it calls make is longer than what came in: it says more and counts as full. Else prove '..UptoSaid'. A law counts once. -/
mutual
def uptoBulk {H : Type} : DataW H → Nat
  | .lit (.string bytes) => bytes.length + 1
  | .lit _ => 1
  | .nil => 1
  | .ptr d => uptoBulk d + 1
  | .slice elems spare => uptoBulkAll elems + uptoBulkAll spare + 1
  | .agg parts => uptoBulkAll parts + 1
  | .iface _ d => uptoBulk d + 1
  | .map entries => uptoBulkEntries entries + 1
  | .held _ => 1
def uptoBulkAll {H : Type} : List (DataW H) → Nat
  | [] => 0
  | d :: r => uptoBulk d + uptoBulkAll r
def uptoBulkEntries {H : Type} : List (Lit × DataW H) → Nat
  | [] => 0
  | x :: r => uptoBulkEntry x + uptoBulkEntries r
def uptoBulkEntry {H : Type} : Lit × DataW H → Nat
  | (.string bytes, d) => bytes.length + uptoBulk d + 1
  | (_, d) => uptoBulk d + 1
 end
def uptoSmall : (H : Type) → List (DataW H) → Bool := fun _ ds => decide (uptoBulkAll ds ≤ 1048576)
def OpenSpec.upto (s : _root_.Go.ChangeSpec) : _root_.Go.OpenSpec := { _root_.Go.OpenSpec.ofChange s with cond := some uptoSmall }

/-- 'baseboardlaw28.BundleAnswers', WHERE WHAT IT READS IS OF BULK AT MOST 1048576: true; the input reads as it did. -/
def bundleAnswersUptoRow : OpenClaim := { program := "ytgnmhmnglbbamaa", sum := "6ebccb9580589b0d9d6d5acdd0271a12e57498c83ebae828494d143dfc3c9d67", func := "baseboard/baseboardlaw28.BundleAnswers", spec := "bundleAnswers", unfollowed := true, recurses := true, apart := false, narrowed := true }
def BundleAnswersUptoSaid : Prop := bundleAnswersUptoRow.holds Try.pinned (OpenSpec.upto bundleAnswersSpec)

/-- 'baseboardlaw28.BundleReads', WHERE WHAT IT READS IS OF BULK AT MOST 1048576: true; the input reads as it did. -/
def bundleReadsUptoRow : OpenClaim := { program := "ytgnmhmnglbbamaa", sum := "6ebccb9580589b0d9d6d5acdd0271a12e57498c83ebae828494d143dfc3c9d67", func := "baseboard/baseboardlaw28.BundleReads", spec := "bundleReads", unfollowed := true, recurses := true, apart := false, narrowed := true }
def BundleReadsUptoSaid : Prop := bundleReadsUptoRow.holds Try.pinned (OpenSpec.upto bundleReadsSpec)

/-- 'baseboardlaw28.BundleReturns', WHERE WHAT IT READS IS OF BULK AT MOST 1048576: true; the input reads as it did. -/
def bundleReturnsUptoRow : OpenClaim := { program := "ytgnmhmnglbbamaa", sum := "6ebccb9580589b0d9d6d5acdd0271a12e57498c83ebae828494d143dfc3c9d67", func := "baseboard/baseboardlaw28.BundleReturns", spec := "bundleReturns", unfollowed := true, recurses := true, apart := false, narrowed := true }
def BundleReturnsUptoSaid : Prop := bundleReturnsUptoRow.holds Try.pinned (OpenSpec.upto bundleReturnsSpec)

/-- 'baseboardlaw28.BundleSums', WHERE WHAT IT READS IS OF BULK AT MOST 1048576: true; the input reads as it did. -/
def bundleSumsUptoRow : OpenClaim := { program := "ytgnmhmnglbbamaa", sum := "6ebccb9580589b0d9d6d5acdd0271a12e57498c83ebae828494d143dfc3c9d67", func := "baseboard/baseboardlaw28.BundleSums", spec := "bundleSums", unfollowed := true, recurses := true, apart := false, narrowed := true }
def BundleSumsUptoSaid : Prop := bundleSumsUptoRow.holds Try.pinned (OpenSpec.upto bundleSumsSpec)

end Rows
end Go.Proofs.Ytgnmhmnglbbamaa
