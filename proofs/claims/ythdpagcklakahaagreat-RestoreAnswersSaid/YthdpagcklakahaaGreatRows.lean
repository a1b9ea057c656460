/-
  No cell of these rows narrows 'for every input' (looked for: loops, veiled, ifaces, maps, wideKeys, modest, calm, conditions, laid).
  DERIVED. THE GIVEN ROWS OF THIS SEAT. 3 by the template 'for every input the law returns true; each argument reads behind the call as it read before'; 0 by the template 'total and deterministic' (their statements: YthdpagcklakahaaGreatTotals.lean).
  GIVEN WITH THE SEED: the statements are not yours to turn. If you find one false, say at which input.
  Laid BY PROGRAM, IN A SANDBOX (cutbox-rows.mjs): the forced cells as the released guide's own fill.sh prints them over the translation f687c9cd7d05af03… (all of the seat's roots in one cut). By AI agents, Wed Nov 11 2026. No macro, syntax, notation, axiom, sorry.
-/
import Derived.Test.YthdpagcklakahaaGreatChecked
import GoSem.Claim
import GoSem.ClaimJoined
import GoSem.ClaimMapViews
import Derived.JoinedTies
import Derived.KernelRfl
namespace Go.Proofs.YthdpagcklakahaaGreat
/- THE CELL 'sum', in the pinned program and in every row, IS THE sha256 OF THE DUMP (.gsa) THAT YthdpagcklakahaaGreatProg.lean LOADS. Nothing in Lean hashes anything: it is a label: what it is worth is what the hold of that sum in a sandbox is worth. -/
noncomputable def Tryz.pinned : Pinned := { name := "ythdpagcklakahaagreat", sum := "f687c9cd7d05af030b29b6992f093590eec3937477dda176133f88dda834e872", checked := Tryz.checked }
namespace Rows
def none {H : Type} : Left H := { results := [], args := [] }

/-- 'baseboardlaw06.SettingsOpens': WHATEVER THE INPUT: true; the input reads as it did. -/
def settingsOpensSpec : ChangeSpec := { name := "settingsOpens", fn := fun _ => fun
  | [d1, d2, d3, d4, d5, d6] => { results := [.lit (.bool true)], args := [d1, d2, d3, d4, d5, d6] }
  | _ => none }
def settingsOpensRow : OpenClaim := { program := "ythdpagcklakahaagreat", sum := "f687c9cd7d05af030b29b6992f093590eec3937477dda176133f88dda834e872", func := "baseboard/baseboardlaw06.SettingsOpens", spec := "settingsOpens", inPlace := ["maps.clone"], unfollowed := true, recurses := true, apart := false }
def SettingsOpensSaid : Prop := settingsOpensRow.holds Tryz.pinned (OpenSpec.ofChange settingsOpensSpec)

/-- ITS FALSE NEIGHBOUR: 'it returns false'. Refute it at one input. -/
def settingsOpensWrong : ChangeSpec := { name := "settingsOpens", fn := fun _ => fun
  | [d1, d2, d3, d4, d5, d6] => { results := [.lit (.bool false)], args := [d1, d2, d3, d4, d5, d6] }
  | _ => none }
def SettingsOpensWrongFalsely : Prop := settingsOpensRow.holds Tryz.pinned (OpenSpec.ofChange settingsOpensWrong)

/-- 'baseboardlaw06.SettingsPlays': WHATEVER THE INPUT: true; the input reads as it did. -/
def settingsPlaysSpec : ChangeSpec := { name := "settingsPlays", fn := fun _ => fun
  | [d] => { results := [.lit (.bool true)], args := [d] }
  | _ => none }
def settingsPlaysRow : OpenClaim := { program := "ythdpagcklakahaagreat", sum := "f687c9cd7d05af030b29b6992f093590eec3937477dda176133f88dda834e872", func := "baseboard/baseboardlaw06.SettingsPlays", spec := "settingsPlays", inPlace := ["maps.clone"], unfollowed := true, recurses := true, apart := false }
def SettingsPlaysSaid : Prop := settingsPlaysRow.holds Tryz.pinned (OpenSpec.ofChange settingsPlaysSpec)

/-- ITS FALSE NEIGHBOUR: 'it returns false'. Refute it at one input. -/
def settingsPlaysWrong : ChangeSpec := { name := "settingsPlays", fn := fun _ => fun
  | [d] => { results := [.lit (.bool false)], args := [d] }
  | _ => none }
def SettingsPlaysWrongFalsely : Prop := settingsPlaysRow.holds Tryz.pinned (OpenSpec.ofChange settingsPlaysWrong)

/-- 'baseboardlaw39.RestoreAnswers': WHATEVER THE INPUT: true; the input reads as it did. -/
def restoreAnswersSpec : ChangeSpec := { name := "restoreAnswers", fn := fun _ => fun
  | [d1, d2] => { results := [.lit (.bool true)], args := [d1, d2] }
  | _ => none }
def restoreAnswersRow : OpenClaim := { program := "ythdpagcklakahaagreat", sum := "f687c9cd7d05af030b29b6992f093590eec3937477dda176133f88dda834e872", func := "baseboard/baseboardlaw39.RestoreAnswers", spec := "restoreAnswers", inPlace := ["maps.clone"], unfollowed := true, recurses := true, apart := false }
def RestoreAnswersSaid : Prop := restoreAnswersRow.holds Tryz.pinned (OpenSpec.ofChange restoreAnswersSpec)

/-- ITS FALSE NEIGHBOUR: 'it returns false'. Refute it at one input. -/
def restoreAnswersWrong : ChangeSpec := { name := "restoreAnswers", fn := fun _ => fun
  | [d1, d2] => { results := [.lit (.bool false)], args := [d1, d2] }
  | _ => none }
def RestoreAnswersWrongFalsely : Prop := restoreAnswersRow.holds Tryz.pinned (OpenSpec.ofChange restoreAnswersWrong)

/- THE SECOND FORM. 'bulk': how many values and letters a reading holds, each counted each time it is reached (what is shared counts as often as it is met; a slice's spare places count too). A statement '..UptoSaid' is the law's where the arguments, and the package variables that the reading takes, are together of bulk at most 1048576: NARROWER than '..Said'. Prove '..Said' where nothing that the law and all that it calls make is longer than what came in: it says more and counts as full. Else prove '..UptoSaid'. A law counts once. -/
mutual
def uptoBulk {H : Type} : DataW H → Nat
  | .lit (.string bytes) => bytes.length + 1
  | .lit _ => 1
  | .nil => 1
  | .ptr d => uptoBulk d + 1
  | .slice elems spare => uptoBulkAll elems + uptoBulkAll spare + 1
  | .agg parts => uptoBulkAll parts + 1
  | .iface _ d => uptoBulk d + 1
  | .map entries => uptoBulkEntries entries + 1
  | .held _ => 1
def uptoBulkAll {H : Type} : List (DataW H) → Nat
  | [] => 0
  | d :: r => uptoBulk d + uptoBulkAll r
def uptoBulkEntries {H : Type} : List (Lit × DataW H) → Nat
  | [] => 0
  | x :: r => uptoBulkEntry x + uptoBulkEntries r
def uptoBulkEntry {H : Type} : Lit × DataW H → Nat
  | (.string bytes, d) => bytes.length + uptoBulk d + 1
  | (_, d) => uptoBulk d + 1
 end
def uptoSmall : (H : Type) → List (DataW H) → Bool := fun _ ds => decide (uptoBulkAll ds ≤ 1048576)
def OpenSpec.upto (s : _root_.Go.ChangeSpec) : _root_.Go.OpenSpec := { _root_.Go.OpenSpec.ofChange s with cond := some uptoSmall }

/-- 'baseboardlaw06.SettingsOpens', WHERE WHAT IT READS IS OF BULK AT MOST 1048576: true; the input reads as it did. -/
def settingsOpensUptoRow : OpenClaim := { program := "ythdpagcklakahaagreat", sum := "f687c9cd7d05af030b29b6992f093590eec3937477dda176133f88dda834e872", func := "baseboard/baseboardlaw06.SettingsOpens", spec := "settingsOpens", inPlace := ["maps.clone"], unfollowed := true, recurses := true, apart := false, narrowed := true }
def SettingsOpensUptoSaid : Prop := settingsOpensUptoRow.holds Tryz.pinned (OpenSpec.upto settingsOpensSpec)

/-- 'baseboardlaw06.SettingsPlays', WHERE WHAT IT READS IS OF BULK AT MOST 1048576: true; the input reads as it did. -/
def settingsPlaysUptoRow : OpenClaim := { program := "ythdpagcklakahaagreat", sum := "f687c9cd7d05af030b29b6992f093590eec3937477dda176133f88dda834e872", func := "baseboard/baseboardlaw06.SettingsPlays", spec := "settingsPlays", inPlace := ["maps.clone"], unfollowed := true, recurses := true, apart := false, narrowed := true }
def SettingsPlaysUptoSaid : Prop := settingsPlaysUptoRow.holds Tryz.pinned (OpenSpec.upto settingsPlaysSpec)

/-- 'baseboardlaw39.RestoreAnswers', WHERE WHAT IT READS IS OF BULK AT MOST 1048576: true; the input reads as it did. -/
def restoreAnswersUptoRow : OpenClaim := { program := "ythdpagcklakahaagreat", sum := "f687c9cd7d05af030b29b6992f093590eec3937477dda176133f88dda834e872", func := "baseboard/baseboardlaw39.RestoreAnswers", spec := "restoreAnswers", inPlace := ["maps.clone"], unfollowed := true, recurses := true, apart := false, narrowed := true }
def RestoreAnswersUptoSaid : Prop := restoreAnswersUptoRow.holds Tryz.pinned (OpenSpec.upto restoreAnswersSpec)

end Rows
end Go.Proofs.YthdpagcklakahaaGreat
