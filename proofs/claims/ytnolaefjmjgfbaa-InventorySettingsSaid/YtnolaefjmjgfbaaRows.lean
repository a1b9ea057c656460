/-
  No cell of these rows narrows 'for every input' (looked for: loops, veiled, ifaces, maps, wideKeys, modest, calm, conditions, laid).
  DERIVED. THE GIVEN ROWS OF THIS SEAT. 6 by the template 'for every input the law returns true; each argument reads behind the call as it read before'; 0 by the template 'total and deterministic' (their statements: YtnolaefjmjgfbaaTotals.lean).
  GIVEN WITH THE SEED: the statements are not yours to turn. If you find one false, say at which input.
  Laid BY PROGRAM, IN A SANDBOX (cutbox-rows.mjs): the forced cells as the released guide's own fill.sh prints them over the translation 60ebfbb506b6306d… (all of the seat's roots in one cut). By AI agents, Wed Nov 11 2026. No macro, syntax, notation, axiom, sorry.
-/
import Derived.Test.YtnolaefjmjgfbaaChecked
import GoSem.Claim
import GoSem.ClaimJoined
import GoSem.ClaimMapViews
import Derived.JoinedTies
import Derived.KernelRfl
namespace Go.Proofs.Ytnolaefjmjgfbaa
/- THE CELL 'sum', in the pinned program and in every row, IS THE sha256 OF THE DUMP (.gsa) THAT YtnolaefjmjgfbaaProg.lean LOADS. Nothing in Lean hashes anything: it is a label: what it is worth is what the hold of that sum in a sandbox is worth. -/
noncomputable def Try.pinned : Pinned := { name := "ytnolaefjmjgfbaa", sum := "60ebfbb506b6306dd5213a09963ee2d25360df5f3ff3222a6fe206e8e22a0b5c", checked := Try.checked }
namespace Rows
def none {H : Type} : Left H := { results := [], args := [] }

/-- 'baseboardlaw19.InventoryCompares': WHATEVER THE INPUT: true; the input reads as it did. -/
def inventoryComparesSpec : ChangeSpec := { name := "inventoryCompares", fn := fun _ => fun
  | [d1, d2, d3] => { results := [.lit (.bool true)], args := [d1, d2, d3] }
  | _ => none }
def inventoryComparesRow : OpenClaim := { program := "ytnolaefjmjgfbaa", sum := "60ebfbb506b6306dd5213a09963ee2d25360df5f3ff3222a6fe206e8e22a0b5c", func := "baseboard/baseboardlaw19.InventoryCompares", spec := "inventoryCompares", unfollowed := true, recurses := true, apart := false }
def InventoryComparesSaid : Prop := inventoryComparesRow.holds Try.pinned (OpenSpec.ofChange inventoryComparesSpec)

/-- ITS FALSE NEIGHBOUR: 'it returns false'. Refute it at one input. -/
def inventoryComparesWrong : ChangeSpec := { name := "inventoryCompares", fn := fun _ => fun
  | [d1, d2, d3] => { results := [.lit (.bool false)], args := [d1, d2, d3] }
  | _ => none }
def InventoryComparesWrongFalsely : Prop := inventoryComparesRow.holds Try.pinned (OpenSpec.ofChange inventoryComparesWrong)

/-- 'baseboardlaw19.InventoryTurns': WHATEVER THE INPUT: true; the input reads as it did. -/
def inventoryTurnsSpec : ChangeSpec := { name := "inventoryTurns", fn := fun _ => fun
  | [d1, d2] => { results := [.lit (.bool true)], args := [d1, d2] }
  | _ => none }
def inventoryTurnsRow : OpenClaim := { program := "ytnolaefjmjgfbaa", sum := "60ebfbb506b6306dd5213a09963ee2d25360df5f3ff3222a6fe206e8e22a0b5c", func := "baseboard/baseboardlaw19.InventoryTurns", spec := "inventoryTurns", unfollowed := true, recurses := true, apart := false }
def InventoryTurnsSaid : Prop := inventoryTurnsRow.holds Try.pinned (OpenSpec.ofChange inventoryTurnsSpec)

/-- ITS FALSE NEIGHBOUR: 'it returns false'. Refute it at one input. -/
def inventoryTurnsWrong : ChangeSpec := { name := "inventoryTurns", fn := fun _ => fun
  | [d1, d2] => { results := [.lit (.bool false)], args := [d1, d2] }
  | _ => none }
def InventoryTurnsWrongFalsely : Prop := inventoryTurnsRow.holds Try.pinned (OpenSpec.ofChange inventoryTurnsWrong)

/-- 'baseboardlaw19.InventorySwaps': WHATEVER THE INPUT: true; the input reads as it did. -/
def inventorySwapsSpec : ChangeSpec := { name := "inventorySwaps", fn := fun _ => fun
  | [d1, d2] => { results := [.lit (.bool true)], args := [d1, d2] }
  | _ => none }
def inventorySwapsRow : OpenClaim := { program := "ytnolaefjmjgfbaa", sum := "60ebfbb506b6306dd5213a09963ee2d25360df5f3ff3222a6fe206e8e22a0b5c", func := "baseboard/baseboardlaw19.InventorySwaps", spec := "inventorySwaps", unfollowed := true, recurses := true, apart := false }
def InventorySwapsSaid : Prop := inventorySwapsRow.holds Try.pinned (OpenSpec.ofChange inventorySwapsSpec)

/-- ITS FALSE NEIGHBOUR: 'it returns false'. Refute it at one input. -/
def inventorySwapsWrong : ChangeSpec := { name := "inventorySwaps", fn := fun _ => fun
  | [d1, d2] => { results := [.lit (.bool false)], args := [d1, d2] }
  | _ => none }
def InventorySwapsWrongFalsely : Prop := inventorySwapsRow.holds Try.pinned (OpenSpec.ofChange inventorySwapsWrong)

/-- 'baseboardlaw19.InventoryOne': WHATEVER THE INPUT: true; the input reads as it did. -/
def inventoryOneSpec : ChangeSpec := { name := "inventoryOne", fn := fun _ => fun
  | [d1, d2, d3, d4, d5, d6, d7] => { results := [.lit (.bool true)], args := [d1, d2, d3, d4, d5, d6, d7] }
  | _ => none }
def inventoryOneRow : OpenClaim := { program := "ytnolaefjmjgfbaa", sum := "60ebfbb506b6306dd5213a09963ee2d25360df5f3ff3222a6fe206e8e22a0b5c", func := "baseboard/baseboardlaw19.InventoryOne", spec := "inventoryOne", unfollowed := true, recurses := true, apart := false }
def InventoryOneSaid : Prop := inventoryOneRow.holds Try.pinned (OpenSpec.ofChange inventoryOneSpec)

/-- ITS FALSE NEIGHBOUR: 'it returns false'. Refute it at one input. -/
def inventoryOneWrong : ChangeSpec := { name := "inventoryOne", fn := fun _ => fun
  | [d1, d2, d3, d4, d5, d6, d7] => { results := [.lit (.bool false)], args := [d1, d2, d3, d4, d5, d6, d7] }
  | _ => none }
def InventoryOneWrongFalsely : Prop := inventoryOneRow.holds Try.pinned (OpenSpec.ofChange inventoryOneWrong)

/-- 'baseboardlaw19.InventoryEvents': WHATEVER THE INPUT: true; the input reads as it did. -/
def inventoryEventsSpec : ChangeSpec := { name := "inventoryEvents", fn := fun _ => fun
  | [d1, d2] => { results := [.lit (.bool true)], args := [d1, d2] }
  | _ => none }
def inventoryEventsRow : OpenClaim := { program := "ytnolaefjmjgfbaa", sum := "60ebfbb506b6306dd5213a09963ee2d25360df5f3ff3222a6fe206e8e22a0b5c", func := "baseboard/baseboardlaw19.InventoryEvents", spec := "inventoryEvents", unfollowed := true, recurses := true, apart := false }
def InventoryEventsSaid : Prop := inventoryEventsRow.holds Try.pinned (OpenSpec.ofChange inventoryEventsSpec)

/-- ITS FALSE NEIGHBOUR: 'it returns false'. Refute it at one input. -/
def inventoryEventsWrong : ChangeSpec := { name := "inventoryEvents", fn := fun _ => fun
  | [d1, d2] => { results := [.lit (.bool false)], args := [d1, d2] }
  | _ => none }
def InventoryEventsWrongFalsely : Prop := inventoryEventsRow.holds Try.pinned (OpenSpec.ofChange inventoryEventsWrong)

/-- 'baseboardlaw19.InventorySettings': WHATEVER THE INPUT: true; the input reads as it did. -/
def inventorySettingsSpec : ChangeSpec := { name := "inventorySettings", fn := fun _ => fun
  | [d1, d2, d3] => { results := [.lit (.bool true)], args := [d1, d2, d3] }
  | _ => none }
def inventorySettingsRow : OpenClaim := { program := "ytnolaefjmjgfbaa", sum := "60ebfbb506b6306dd5213a09963ee2d25360df5f3ff3222a6fe206e8e22a0b5c", func := "baseboard/baseboardlaw19.InventorySettings", spec := "inventorySettings", unfollowed := true, recurses := true, apart := false }
def InventorySettingsSaid : Prop := inventorySettingsRow.holds Try.pinned (OpenSpec.ofChange inventorySettingsSpec)

/-- ITS FALSE NEIGHBOUR: 'it returns false'. Refute it at one input. -/
def inventorySettingsWrong : ChangeSpec := { name := "inventorySettings", fn := fun _ => fun
  | [d1, d2, d3] => { results := [.lit (.bool false)], args := [d1, d2, d3] }
  | _ => none }
def InventorySettingsWrongFalsely : Prop := inventorySettingsRow.holds Try.pinned (OpenSpec.ofChange inventorySettingsWrong)

/- THE SECOND FORM. 'bulk': how many values and letters a reading holds, each counted each time it is reached (what is shared counts as often as it is met; a slice's spare places count too). A statement '..UptoSaid' is the law's where the arguments, and the package variables that the reading takes, are together of bulk at most 1048576: NARROWER than '..Said'. Prove '..Said' where nothing that the law and all that it calls make is longer than what came in: it says more and counts as full. Else prove '..UptoSaid'. A law counts once. -/
mutual
def uptoBulk {H : Type} : DataW H → Nat
  | .lit (.string bytes) => bytes.length + 1
  | .lit _ => 1
  | .nil => 1
  | .ptr d => uptoBulk d + 1
  | .slice elems spare => uptoBulkAll elems + uptoBulkAll spare + 1
  | .agg parts => uptoBulkAll parts + 1
  | .iface _ d => uptoBulk d + 1
  | .map entries => uptoBulkEntries entries + 1
  | .held _ => 1
def uptoBulkAll {H : Type} : List (DataW H) → Nat
  | [] => 0
  | d :: r => uptoBulk d + uptoBulkAll r
def uptoBulkEntries {H : Type} : List (Lit × DataW H) → Nat
  | [] => 0
  | x :: r => uptoBulkEntry x + uptoBulkEntries r
def uptoBulkEntry {H : Type} : Lit × DataW H → Nat
  | (.string bytes, d) => bytes.length + uptoBulk d + 1
  | (_, d) => uptoBulk d + 1
 end
def uptoSmall : (H : Type) → List (DataW H) → Bool := fun _ ds => decide (uptoBulkAll ds ≤ 1048576)
def OpenSpec.upto (s : _root_.Go.ChangeSpec) : _root_.Go.OpenSpec := { _root_.Go.OpenSpec.ofChange s with cond := some uptoSmall }

/-- 'baseboardlaw19.InventoryCompares', WHERE WHAT IT READS IS OF BULK AT MOST 1048576: true; the input reads as it did. -/
def inventoryComparesUptoRow : OpenClaim := { program := "ytnolaefjmjgfbaa", sum := "60ebfbb506b6306dd5213a09963ee2d25360df5f3ff3222a6fe206e8e22a0b5c", func := "baseboard/baseboardlaw19.InventoryCompares", spec := "inventoryCompares", unfollowed := true, recurses := true, apart := false, narrowed := true }
def InventoryComparesUptoSaid : Prop := inventoryComparesUptoRow.holds Try.pinned (OpenSpec.upto inventoryComparesSpec)

/-- 'baseboardlaw19.InventoryTurns', WHERE WHAT IT READS IS OF BULK AT MOST 1048576: true; the input reads as it did. -/
def inventoryTurnsUptoRow : OpenClaim := { program := "ytnolaefjmjgfbaa", sum := "60ebfbb506b6306dd5213a09963ee2d25360df5f3ff3222a6fe206e8e22a0b5c", func := "baseboard/baseboardlaw19.InventoryTurns", spec := "inventoryTurns", unfollowed := true, recurses := true, apart := false, narrowed := true }
def InventoryTurnsUptoSaid : Prop := inventoryTurnsUptoRow.holds Try.pinned (OpenSpec.upto inventoryTurnsSpec)

/-- 'baseboardlaw19.InventorySwaps', WHERE WHAT IT READS IS OF BULK AT MOST 1048576: true; the input reads as it did. -/
def inventorySwapsUptoRow : OpenClaim := { program := "ytnolaefjmjgfbaa", sum := "60ebfbb506b6306dd5213a09963ee2d25360df5f3ff3222a6fe206e8e22a0b5c", func := "baseboard/baseboardlaw19.InventorySwaps", spec := "inventorySwaps", unfollowed := true, recurses := true, apart := false, narrowed := true }
def InventorySwapsUptoSaid : Prop := inventorySwapsUptoRow.holds Try.pinned (OpenSpec.upto inventorySwapsSpec)

/-- 'baseboardlaw19.InventoryOne', WHERE WHAT IT READS IS OF BULK AT MOST 1048576: true; the input reads as it did. -/
def inventoryOneUptoRow : OpenClaim := { program := "ytnolaefjmjgfbaa", sum := "60ebfbb506b6306dd5213a09963ee2d25360df5f3ff3222a6fe206e8e22a0b5c", func := "baseboard/baseboardlaw19.InventoryOne", spec := "inventoryOne", unfollowed := true, recurses := true, apart := false, narrowed := true }
def InventoryOneUptoSaid : Prop := inventoryOneUptoRow.holds Try.pinned (OpenSpec.upto inventoryOneSpec)

/-- 'baseboardlaw19.InventoryEvents', WHERE WHAT IT READS IS OF BULK AT MOST 1048576: true; the input reads as it did. -/
def inventoryEventsUptoRow : OpenClaim := { program := "ytnolaefjmjgfbaa", sum := "60ebfbb506b6306dd5213a09963ee2d25360df5f3ff3222a6fe206e8e22a0b5c", func := "baseboard/baseboardlaw19.InventoryEvents", spec := "inventoryEvents", unfollowed := true, recurses := true, apart := false, narrowed := true }
def InventoryEventsUptoSaid : Prop := inventoryEventsUptoRow.holds Try.pinned (OpenSpec.upto inventoryEventsSpec)

/-- 'baseboardlaw19.InventorySettings', WHERE WHAT IT READS IS OF BULK AT MOST 1048576: true; the input reads as it did. -/
def inventorySettingsUptoRow : OpenClaim := { program := "ytnolaefjmjgfbaa", sum := "60ebfbb506b6306dd5213a09963ee2d25360df5f3ff3222a6fe206e8e22a0b5c", func := "baseboard/baseboardlaw19.InventorySettings", spec := "inventorySettings", unfollowed := true, recurses := true, apart := false, narrowed := true }
def InventorySettingsUptoSaid : Prop := inventorySettingsUptoRow.holds Try.pinned (OpenSpec.upto inventorySettingsSpec)

end Rows
end Go.Proofs.Ytnolaefjmjgfbaa
