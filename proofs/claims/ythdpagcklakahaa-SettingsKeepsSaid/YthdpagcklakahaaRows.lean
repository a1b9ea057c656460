/-
  No cell of these rows narrows 'for every input' (looked for: loops, veiled, ifaces, maps, wideKeys, modest, calm, conditions, laid).
  DERIVED. THE GIVEN ROWS OF THIS SEAT. 6 by the template 'for every input the law returns true; each argument reads behind the call as it read before'; 0 by the template 'total and deterministic' (their statements: YthdpagcklakahaaTotals.lean).
  GIVEN WITH THE SEED: the statements are not yours to turn. If you find one false, say at which input.
  Laid BY PROGRAM, IN A SANDBOX (cutbox-rows.mjs): the forced cells as the released guide's own fill.sh prints them over the translation 9161b1de52427f8e… (all of the seat's roots in one cut). By AI agents, Wed Nov 11 2026. No macro, syntax, notation, axiom, sorry.
-/
import Derived.Test.YthdpagcklakahaaChecked
import GoSem.Claim
import GoSem.ClaimJoined
import GoSem.ClaimMapViews
import Derived.JoinedTies
import Derived.KernelRfl
namespace Go.Proofs.Ythdpagcklakahaa
/- THE CELL 'sum', in the pinned program and in every row, IS THE sha256 OF THE DUMP (.gsa) THAT YthdpagcklakahaaProg.lean LOADS. Nothing in Lean hashes anything: it is a label: what it is worth is what the hold of that sum in a sandbox is worth. -/
noncomputable def Try.pinned : Pinned := { name := "ythdpagcklakahaa", sum := "9161b1de52427f8e1159a25133f4821d1e7e030657dc90a54060400e52dac85e", checked := Try.checked }
namespace Rows
def none {H : Type} : Left H := { results := [], args := [] }

/-- 'baseboardlaw06.SettingsKeeps': WHATEVER THE INPUT: true; the input reads as it did. -/
def settingsKeepsSpec : ChangeSpec := { name := "settingsKeeps", fn := fun _ => fun
  | [d1, d2, d3] => { results := [.lit (.bool true)], args := [d1, d2, d3] }
  | _ => none }
def settingsKeepsRow : OpenClaim := { program := "ythdpagcklakahaa", sum := "9161b1de52427f8e1159a25133f4821d1e7e030657dc90a54060400e52dac85e", func := "baseboard/baseboardlaw06.SettingsKeeps", spec := "settingsKeeps", inPlace := ["maps.clone"], unfollowed := true, recurses := true, apart := false }
def SettingsKeepsSaid : Prop := settingsKeepsRow.holds Try.pinned (OpenSpec.ofChange settingsKeepsSpec)

/-- ITS FALSE NEIGHBOUR: 'it returns false'. Refute it at one input. -/
def settingsKeepsWrong : ChangeSpec := { name := "settingsKeeps", fn := fun _ => fun
  | [d1, d2, d3] => { results := [.lit (.bool false)], args := [d1, d2, d3] }
  | _ => none }
def SettingsKeepsWrongFalsely : Prop := settingsKeepsRow.holds Try.pinned (OpenSpec.ofChange settingsKeepsWrong)

/-- 'baseboardlaw06.SettingsRefuses': WHATEVER THE INPUT: true; the input reads as it did. -/
def settingsRefusesSpec : ChangeSpec := { name := "settingsRefuses", fn := fun _ => fun
  | [d1, d2, d3] => { results := [.lit (.bool true)], args := [d1, d2, d3] }
  | _ => none }
def settingsRefusesRow : OpenClaim := { program := "ythdpagcklakahaa", sum := "9161b1de52427f8e1159a25133f4821d1e7e030657dc90a54060400e52dac85e", func := "baseboard/baseboardlaw06.SettingsRefuses", spec := "settingsRefuses", inPlace := ["maps.clone"], unfollowed := true, recurses := true, apart := false }
def SettingsRefusesSaid : Prop := settingsRefusesRow.holds Try.pinned (OpenSpec.ofChange settingsRefusesSpec)

/-- ITS FALSE NEIGHBOUR: 'it returns false'. Refute it at one input. -/
def settingsRefusesWrong : ChangeSpec := { name := "settingsRefuses", fn := fun _ => fun
  | [d1, d2, d3] => { results := [.lit (.bool false)], args := [d1, d2, d3] }
  | _ => none }
def SettingsRefusesWrongFalsely : Prop := settingsRefusesRow.holds Try.pinned (OpenSpec.ofChange settingsRefusesWrong)

/-- 'baseboardlaw06.SettingsAtomic': WHATEVER THE INPUT: true; the input reads as it did. -/
def settingsAtomicSpec : ChangeSpec := { name := "settingsAtomic", fn := fun _ => fun
  | [d1, d2, d3, d4] => { results := [.lit (.bool true)], args := [d1, d2, d3, d4] }
  | _ => none }
def settingsAtomicRow : OpenClaim := { program := "ythdpagcklakahaa", sum := "9161b1de52427f8e1159a25133f4821d1e7e030657dc90a54060400e52dac85e", func := "baseboard/baseboardlaw06.SettingsAtomic", spec := "settingsAtomic", inPlace := ["maps.clone"], unfollowed := true, recurses := true, apart := false }
def SettingsAtomicSaid : Prop := settingsAtomicRow.holds Try.pinned (OpenSpec.ofChange settingsAtomicSpec)

/-- ITS FALSE NEIGHBOUR: 'it returns false'. Refute it at one input. -/
def settingsAtomicWrong : ChangeSpec := { name := "settingsAtomic", fn := fun _ => fun
  | [d1, d2, d3, d4] => { results := [.lit (.bool false)], args := [d1, d2, d3, d4] }
  | _ => none }
def SettingsAtomicWrongFalsely : Prop := settingsAtomicRow.holds Try.pinned (OpenSpec.ofChange settingsAtomicWrong)

/-- 'baseboardlaw06.SettingsFalls': WHATEVER THE INPUT: true; the input reads as it did. -/
def settingsFallsSpec : ChangeSpec := { name := "settingsFalls", fn := fun _ => fun
  | [d1, d2, d3] => { results := [.lit (.bool true)], args := [d1, d2, d3] }
  | _ => none }
def settingsFallsRow : OpenClaim := { program := "ythdpagcklakahaa", sum := "9161b1de52427f8e1159a25133f4821d1e7e030657dc90a54060400e52dac85e", func := "baseboard/baseboardlaw06.SettingsFalls", spec := "settingsFalls", inPlace := ["maps.clone"], unfollowed := true, recurses := true, apart := false }
def SettingsFallsSaid : Prop := settingsFallsRow.holds Try.pinned (OpenSpec.ofChange settingsFallsSpec)

/-- ITS FALSE NEIGHBOUR: 'it returns false'. Refute it at one input. -/
def settingsFallsWrong : ChangeSpec := { name := "settingsFalls", fn := fun _ => fun
  | [d1, d2, d3] => { results := [.lit (.bool false)], args := [d1, d2, d3] }
  | _ => none }
def SettingsFallsWrongFalsely : Prop := settingsFallsRow.holds Try.pinned (OpenSpec.ofChange settingsFallsWrong)

/-- 'baseboardlaw06.SettingsEnds': WHATEVER THE INPUT: true; the input reads as it did. -/
def settingsEndsSpec : ChangeSpec := { name := "settingsEnds", fn := fun _ => fun
  | [d1, d2, d3] => { results := [.lit (.bool true)], args := [d1, d2, d3] }
  | _ => none }
def settingsEndsRow : OpenClaim := { program := "ythdpagcklakahaa", sum := "9161b1de52427f8e1159a25133f4821d1e7e030657dc90a54060400e52dac85e", func := "baseboard/baseboardlaw06.SettingsEnds", spec := "settingsEnds", inPlace := ["maps.clone"], unfollowed := true, recurses := true, apart := false }
def SettingsEndsSaid : Prop := settingsEndsRow.holds Try.pinned (OpenSpec.ofChange settingsEndsSpec)

/-- ITS FALSE NEIGHBOUR: 'it returns false'. Refute it at one input. -/
def settingsEndsWrong : ChangeSpec := { name := "settingsEnds", fn := fun _ => fun
  | [d1, d2, d3] => { results := [.lit (.bool false)], args := [d1, d2, d3] }
  | _ => none }
def SettingsEndsWrongFalsely : Prop := settingsEndsRow.holds Try.pinned (OpenSpec.ofChange settingsEndsWrong)

/-- 'baseboardlaw39.RestoreCuts': WHATEVER THE INPUT: true; the input reads as it did. -/
def restoreCutsSpec : ChangeSpec := { name := "restoreCuts", fn := fun _ => fun
  | [d1, d2, d3, d4, d5, d6] => { results := [.lit (.bool true)], args := [d1, d2, d3, d4, d5, d6] }
  | _ => none }
def restoreCutsRow : OpenClaim := { program := "ythdpagcklakahaa", sum := "9161b1de52427f8e1159a25133f4821d1e7e030657dc90a54060400e52dac85e", func := "baseboard/baseboardlaw39.RestoreCuts", spec := "restoreCuts", inPlace := ["maps.clone"], unfollowed := true, recurses := true, apart := false }
def RestoreCutsSaid : Prop := restoreCutsRow.holds Try.pinned (OpenSpec.ofChange restoreCutsSpec)

/-- ITS FALSE NEIGHBOUR: 'it returns false'. Refute it at one input. -/
def restoreCutsWrong : ChangeSpec := { name := "restoreCuts", fn := fun _ => fun
  | [d1, d2, d3, d4, d5, d6] => { results := [.lit (.bool false)], args := [d1, d2, d3, d4, d5, d6] }
  | _ => none }
def RestoreCutsWrongFalsely : Prop := restoreCutsRow.holds Try.pinned (OpenSpec.ofChange restoreCutsWrong)

/- THE SECOND FORM. 'bulk': how many values and letters a reading holds, each counted each time it is reached (what is shared counts as often as it is met; a slice's spare places count too). A statement '..UptoSaid' is the law's where the arguments, and the package variables that the reading takes, are together of bulk at most 1048576: NARROWER than '..Said'. Prove '..Said' where nothing that the law and all that it calls make is longer than what came in: it says more and counts as full. Else prove '..UptoSaid'. A law counts once. -/
mutual
def uptoBulk {H : Type} : DataW H → Nat
  | .lit (.string bytes) => bytes.length + 1
  | .lit _ => 1
  | .nil => 1
  | .ptr d => uptoBulk d + 1
  | .slice elems spare => uptoBulkAll elems + uptoBulkAll spare + 1
  | .agg parts => uptoBulkAll parts + 1
  | .iface _ d => uptoBulk d + 1
  | .map entries => uptoBulkEntries entries + 1
  | .held _ => 1
def uptoBulkAll {H : Type} : List (DataW H) → Nat
  | [] => 0
  | d :: r => uptoBulk d + uptoBulkAll r
def uptoBulkEntries {H : Type} : List (Lit × DataW H) → Nat
  | [] => 0
  | x :: r => uptoBulkEntry x + uptoBulkEntries r
def uptoBulkEntry {H : Type} : Lit × DataW H → Nat
  | (.string bytes, d) => bytes.length + uptoBulk d + 1
  | (_, d) => uptoBulk d + 1
 end
def uptoSmall : (H : Type) → List (DataW H) → Bool := fun _ ds => decide (uptoBulkAll ds ≤ 1048576)
def OpenSpec.upto (s : _root_.Go.ChangeSpec) : _root_.Go.OpenSpec := { _root_.Go.OpenSpec.ofChange s with cond := some uptoSmall }

/-- 'baseboardlaw06.SettingsKeeps', WHERE WHAT IT READS IS OF BULK AT MOST 1048576: true; the input reads as it did. -/
def settingsKeepsUptoRow : OpenClaim := { program := "ythdpagcklakahaa", sum := "9161b1de52427f8e1159a25133f4821d1e7e030657dc90a54060400e52dac85e", func := "baseboard/baseboardlaw06.SettingsKeeps", spec := "settingsKeeps", inPlace := ["maps.clone"], unfollowed := true, recurses := true, apart := false, narrowed := true }
def SettingsKeepsUptoSaid : Prop := settingsKeepsUptoRow.holds Try.pinned (OpenSpec.upto settingsKeepsSpec)

/-- 'baseboardlaw06.SettingsRefuses', WHERE WHAT IT READS IS OF BULK AT MOST 1048576: true; the input reads as it did. -/
def settingsRefusesUptoRow : OpenClaim := { program := "ythdpagcklakahaa", sum := "9161b1de52427f8e1159a25133f4821d1e7e030657dc90a54060400e52dac85e", func := "baseboard/baseboardlaw06.SettingsRefuses", spec := "settingsRefuses", inPlace := ["maps.clone"], unfollowed := true, recurses := true, apart := false, narrowed := true }
def SettingsRefusesUptoSaid : Prop := settingsRefusesUptoRow.holds Try.pinned (OpenSpec.upto settingsRefusesSpec)

/-- 'baseboardlaw06.SettingsAtomic', WHERE WHAT IT READS IS OF BULK AT MOST 1048576: true; the input reads as it did. -/
def settingsAtomicUptoRow : OpenClaim := { program := "ythdpagcklakahaa", sum := "9161b1de52427f8e1159a25133f4821d1e7e030657dc90a54060400e52dac85e", func := "baseboard/baseboardlaw06.SettingsAtomic", spec := "settingsAtomic", inPlace := ["maps.clone"], unfollowed := true, recurses := true, apart := false, narrowed := true }
def SettingsAtomicUptoSaid : Prop := settingsAtomicUptoRow.holds Try.pinned (OpenSpec.upto settingsAtomicSpec)

/-- 'baseboardlaw06.SettingsFalls', WHERE WHAT IT READS IS OF BULK AT MOST 1048576: true; the input reads as it did. -/
def settingsFallsUptoRow : OpenClaim := { program := "ythdpagcklakahaa", sum := "9161b1de52427f8e1159a25133f4821d1e7e030657dc90a54060400e52dac85e", func := "baseboard/baseboardlaw06.SettingsFalls", spec := "settingsFalls", inPlace := ["maps.clone"], unfollowed := true, recurses := true, apart := false, narrowed := true }
def SettingsFallsUptoSaid : Prop := settingsFallsUptoRow.holds Try.pinned (OpenSpec.upto settingsFallsSpec)

/-- 'baseboardlaw06.SettingsEnds', WHERE WHAT IT READS IS OF BULK AT MOST 1048576: true; the input reads as it did. -/
def settingsEndsUptoRow : OpenClaim := { program := "ythdpagcklakahaa", sum := "9161b1de52427f8e1159a25133f4821d1e7e030657dc90a54060400e52dac85e", func := "baseboard/baseboardlaw06.SettingsEnds", spec := "settingsEnds", inPlace := ["maps.clone"], unfollowed := true, recurses := true, apart := false, narrowed := true }
def SettingsEndsUptoSaid : Prop := settingsEndsUptoRow.holds Try.pinned (OpenSpec.upto settingsEndsSpec)

/-- 'baseboardlaw39.RestoreCuts', WHERE WHAT IT READS IS OF BULK AT MOST 1048576: true; the input reads as it did. -/
def restoreCutsUptoRow : OpenClaim := { program := "ythdpagcklakahaa", sum := "9161b1de52427f8e1159a25133f4821d1e7e030657dc90a54060400e52dac85e", func := "baseboard/baseboardlaw39.RestoreCuts", spec := "restoreCuts", inPlace := ["maps.clone"], unfollowed := true, recurses := true, apart := false, narrowed := true }
def RestoreCutsUptoSaid : Prop := restoreCutsUptoRow.holds Try.pinned (OpenSpec.upto restoreCutsSpec)

end Rows
end Go.Proofs.Ythdpagcklakahaa
