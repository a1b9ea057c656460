/-
  NARROWER THAN 'FOR EVERY INPUT', by the rows' own cells (each row's printed sentence says how): UpdateEnds: laid · UpdateWhole: laid · UpdateOrders: laid · UpdateOpens: laid · UpdateReopens: laid · UpdateRefuses: laid · UpdateAnswers: laid.
  DERIVED. THE GIVEN ROWS OF THIS SEAT. 7 by the template 'for every input the law returns true; each argument reads behind the call as it read before'; 0 by the template 'total and deterministic' (their statements: YtplchdlgdjcojaaGreatDoorTotals.lean).
  GIVEN WITH THE SEED: the statements are not yours to turn. If you find one false, say at which input.
  Laid BY PROGRAM, IN A SANDBOX (cutbox-rows.mjs): the forced cells as the released guide's own fill.sh prints them over the translation f91112282ea82e59… (all of the seat's roots in one cut). By AI agents, Wed Nov 11 2026. No macro, syntax, notation, axiom, sorry.
-/
import Derived.Test.YtplchdlgdjcojaaGreatDoorChecked
import GoSem.Claim
import GoSem.ClaimJoined
import GoSem.ClaimMapViews
import Derived.JoinedTies
import Derived.KernelRfl
namespace Go.Proofs.YtplchdlgdjcojaaGreatDoor
/- THE CELL 'sum', in the pinned program and in every row, IS THE sha256 OF THE DUMP (.gsa) THAT YtplchdlgdjcojaaGreatDoorProg.lean LOADS. Nothing in Lean hashes anything: it is a label: what it is worth is what the hold of that sum in a sandbox is worth. -/
noncomputable def Tryz.pinned : Pinned := { name := "ytplchdlgdjcojaagreatdoor", sum := "f91112282ea82e59f78822a3932a7ad7ae17499cd582fc1a1b21bf9ef95d9ef3", checked := Tryz.checked }
namespace Rows
def none {H : Type} : Left H := { results := [], args := [] }

/- WHAT THE LISTED PACKAGE-LEVEL VARIABLES READ AS WHEN THE CALL BEGINS. Each datum BY PROGRAM (the guide's laid-datum.mjs) off the statement by which the dump's own 'gosem.cut.vars' lays the variable. In a bare row this is a premise. The card (YtplchdlgdjcojaaGreatDoorCards.lean) ties it to the program's text. -/
def laid_baseboard_update_steps {H : Type} : DataW H := .iface "func table" (.map [(.int .i64 2, .iface "func" (.lit (.string [40, 42, 98, 97, 115, 101, 98, 111, 97, 114, 100, 47, 117, 112, 100, 97, 116, 101, 46, 65, 103, 101, 110, 116, 41, 46, 97, 99, 116, 105, 118, 97, 116, 101]))), (.int .i64 3, .iface "func" (.lit (.string [40, 42, 98, 97, 115, 101, 98, 111, 97, 114, 100, 47, 117, 112, 100, 97, 116, 101, 46, 65, 103, 101, 110, 116, 41, 46, 114, 111, 108, 108, 98, 97, 99, 107])))])

/-- 'baseboardlaw32.UpdateEnds': WHATEVER THE INPUT: true; the input reads as it did. -/
def updateEndsSpec : ChangeSpec := { name := "updateEnds", fn := fun _ => fun
  | [d1, d2] => { results := [.lit (.bool true)], args := [d1, d2] }
  | _ => none }
def updateEndsRow : OpenClaim := { program := "ytplchdlgdjcojaagreatdoor", sum := "f91112282ea82e59f78822a3932a7ad7ae17499cd582fc1a1b21bf9ef95d9ef3", func := "baseboard/baseboardlaw32.UpdateEnds", spec := "updateEnds", inPlace := ["maps.clone"], unfollowed := true, recurses := true, named := ["baseboard/update.steps"], apart := false, laid := [("baseboard/update.steps", laid_baseboard_update_steps)] }
def UpdateEndsSaid : Prop := updateEndsRow.holds Tryz.pinned (OpenSpec.ofChange updateEndsSpec)

/-- ITS FALSE NEIGHBOUR: 'it returns false'. Refute it at one input. -/
def updateEndsWrong : ChangeSpec := { name := "updateEnds", fn := fun _ => fun
  | [d1, d2] => { results := [.lit (.bool false)], args := [d1, d2] }
  | _ => none }
def UpdateEndsWrongFalsely : Prop := updateEndsRow.holds Tryz.pinned (OpenSpec.ofChange updateEndsWrong)

/-- 'baseboardlaw32.UpdateWhole': WHATEVER THE INPUT: true; the input reads as it did. -/
def updateWholeSpec : ChangeSpec := { name := "updateWhole", fn := fun _ => fun
  | [d] => { results := [.lit (.bool true)], args := [d] }
  | _ => none }
def updateWholeRow : OpenClaim := { program := "ytplchdlgdjcojaagreatdoor", sum := "f91112282ea82e59f78822a3932a7ad7ae17499cd582fc1a1b21bf9ef95d9ef3", func := "baseboard/baseboardlaw32.UpdateWhole", spec := "updateWhole", inPlace := ["maps.clone"], unfollowed := true, recurses := true, named := ["baseboard/update.steps"], apart := false, laid := [("baseboard/update.steps", laid_baseboard_update_steps)] }
def UpdateWholeSaid : Prop := updateWholeRow.holds Tryz.pinned (OpenSpec.ofChange updateWholeSpec)

/-- ITS FALSE NEIGHBOUR: 'it returns false'. Refute it at one input. -/
def updateWholeWrong : ChangeSpec := { name := "updateWhole", fn := fun _ => fun
  | [d] => { results := [.lit (.bool false)], args := [d] }
  | _ => none }
def UpdateWholeWrongFalsely : Prop := updateWholeRow.holds Tryz.pinned (OpenSpec.ofChange updateWholeWrong)

/-- 'baseboardlaw32.UpdateOrders': WHATEVER THE INPUT: true; the input reads as it did. -/
def updateOrdersSpec : ChangeSpec := { name := "updateOrders", fn := fun _ => fun
  | [d] => { results := [.lit (.bool true)], args := [d] }
  | _ => none }
def updateOrdersRow : OpenClaim := { program := "ytplchdlgdjcojaagreatdoor", sum := "f91112282ea82e59f78822a3932a7ad7ae17499cd582fc1a1b21bf9ef95d9ef3", func := "baseboard/baseboardlaw32.UpdateOrders", spec := "updateOrders", inPlace := ["maps.clone"], unfollowed := true, recurses := true, named := ["baseboard/update.steps"], apart := false, laid := [("baseboard/update.steps", laid_baseboard_update_steps)] }
def UpdateOrdersSaid : Prop := updateOrdersRow.holds Tryz.pinned (OpenSpec.ofChange updateOrdersSpec)

/-- ITS FALSE NEIGHBOUR: 'it returns false'. Refute it at one input. -/
def updateOrdersWrong : ChangeSpec := { name := "updateOrders", fn := fun _ => fun
  | [d] => { results := [.lit (.bool false)], args := [d] }
  | _ => none }
def UpdateOrdersWrongFalsely : Prop := updateOrdersRow.holds Tryz.pinned (OpenSpec.ofChange updateOrdersWrong)

/-- 'baseboardlaw32.UpdateOpens': WHATEVER THE INPUT: true; the input reads as it did. -/
def updateOpensSpec : ChangeSpec := { name := "updateOpens", fn := fun _ => fun
  | [d1, d2, d3, d4] => { results := [.lit (.bool true)], args := [d1, d2, d3, d4] }
  | _ => none }
def updateOpensRow : OpenClaim := { program := "ytplchdlgdjcojaagreatdoor", sum := "f91112282ea82e59f78822a3932a7ad7ae17499cd582fc1a1b21bf9ef95d9ef3", func := "baseboard/baseboardlaw32.UpdateOpens", spec := "updateOpens", inPlace := ["maps.clone"], unfollowed := true, recurses := true, named := ["baseboard/update.steps"], apart := false, laid := [("baseboard/update.steps", laid_baseboard_update_steps)] }
def UpdateOpensSaid : Prop := updateOpensRow.holds Tryz.pinned (OpenSpec.ofChange updateOpensSpec)

/-- ITS FALSE NEIGHBOUR: 'it returns false'. Refute it at one input. -/
def updateOpensWrong : ChangeSpec := { name := "updateOpens", fn := fun _ => fun
  | [d1, d2, d3, d4] => { results := [.lit (.bool false)], args := [d1, d2, d3, d4] }
  | _ => none }
def UpdateOpensWrongFalsely : Prop := updateOpensRow.holds Tryz.pinned (OpenSpec.ofChange updateOpensWrong)

/-- 'baseboardlaw32.UpdateReopens': WHATEVER THE INPUT: true; the input reads as it did. -/
def updateReopensSpec : ChangeSpec := { name := "updateReopens", fn := fun _ => fun
  | [d1, d2] => { results := [.lit (.bool true)], args := [d1, d2] }
  | _ => none }
def updateReopensRow : OpenClaim := { program := "ytplchdlgdjcojaagreatdoor", sum := "f91112282ea82e59f78822a3932a7ad7ae17499cd582fc1a1b21bf9ef95d9ef3", func := "baseboard/baseboardlaw32.UpdateReopens", spec := "updateReopens", inPlace := ["maps.clone"], unfollowed := true, recurses := true, named := ["baseboard/update.steps"], apart := false, laid := [("baseboard/update.steps", laid_baseboard_update_steps)] }
def UpdateReopensSaid : Prop := updateReopensRow.holds Tryz.pinned (OpenSpec.ofChange updateReopensSpec)

/-- ITS FALSE NEIGHBOUR: 'it returns false'. Refute it at one input. -/
def updateReopensWrong : ChangeSpec := { name := "updateReopens", fn := fun _ => fun
  | [d1, d2] => { results := [.lit (.bool false)], args := [d1, d2] }
  | _ => none }
def UpdateReopensWrongFalsely : Prop := updateReopensRow.holds Tryz.pinned (OpenSpec.ofChange updateReopensWrong)

/-- 'baseboardlaw32.UpdateRefuses': WHATEVER THE INPUT: true; the input reads as it did. -/
def updateRefusesSpec : ChangeSpec := { name := "updateRefuses", fn := fun _ => fun
  | [d1, d2, d3] => { results := [.lit (.bool true)], args := [d1, d2, d3] }
  | _ => none }
def updateRefusesRow : OpenClaim := { program := "ytplchdlgdjcojaagreatdoor", sum := "f91112282ea82e59f78822a3932a7ad7ae17499cd582fc1a1b21bf9ef95d9ef3", func := "baseboard/baseboardlaw32.UpdateRefuses", spec := "updateRefuses", inPlace := ["maps.clone"], unfollowed := true, recurses := true, named := ["baseboard/update.steps"], apart := false, laid := [("baseboard/update.steps", laid_baseboard_update_steps)] }
def UpdateRefusesSaid : Prop := updateRefusesRow.holds Tryz.pinned (OpenSpec.ofChange updateRefusesSpec)

/-- ITS FALSE NEIGHBOUR: 'it returns false'. Refute it at one input. -/
def updateRefusesWrong : ChangeSpec := { name := "updateRefuses", fn := fun _ => fun
  | [d1, d2, d3] => { results := [.lit (.bool false)], args := [d1, d2, d3] }
  | _ => none }
def UpdateRefusesWrongFalsely : Prop := updateRefusesRow.holds Tryz.pinned (OpenSpec.ofChange updateRefusesWrong)

/-- 'baseboardlaw32.UpdateAnswers': WHATEVER THE INPUT: true; the input reads as it did. -/
def updateAnswersSpec : ChangeSpec := { name := "updateAnswers", fn := fun _ => fun
  | [d] => { results := [.lit (.bool true)], args := [d] }
  | _ => none }
def updateAnswersRow : OpenClaim := { program := "ytplchdlgdjcojaagreatdoor", sum := "f91112282ea82e59f78822a3932a7ad7ae17499cd582fc1a1b21bf9ef95d9ef3", func := "baseboard/baseboardlaw32.UpdateAnswers", spec := "updateAnswers", inPlace := ["maps.clone"], unfollowed := true, recurses := true, named := ["baseboard/update.steps"], apart := false, laid := [("baseboard/update.steps", laid_baseboard_update_steps)] }
def UpdateAnswersSaid : Prop := updateAnswersRow.holds Tryz.pinned (OpenSpec.ofChange updateAnswersSpec)

/-- ITS FALSE NEIGHBOUR: 'it returns false'. Refute it at one input. -/
def updateAnswersWrong : ChangeSpec := { name := "updateAnswers", fn := fun _ => fun
  | [d] => { results := [.lit (.bool false)], args := [d] }
  | _ => none }
def UpdateAnswersWrongFalsely : Prop := updateAnswersRow.holds Tryz.pinned (OpenSpec.ofChange updateAnswersWrong)

/- THE SECOND FORM. 'bulk': how many values and letters a reading holds, each counted each time it is reached (what is shared counts as often as it is met; a slice's spare places count too). A statement '..UptoSaid' is the law's where the arguments, and the package variables that the reading takes, are together of bulk at most 1048576: NARROWER than '..Said'. Prove '..Said' where nothing that the law and all that it calls make is longer than what came in: it says more and counts as full. Else prove '..UptoSaid'. A law counts once. -/
mutual
def uptoBulk {H : Type} : DataW H → Nat
  | .lit (.string bytes) => bytes.length + 1
  | .lit _ => 1
  | .nil => 1
  | .ptr d => uptoBulk d + 1
  | .slice elems spare => uptoBulkAll elems + uptoBulkAll spare + 1
  | .agg parts => uptoBulkAll parts + 1
  | .iface _ d => uptoBulk d + 1
  | .map entries => uptoBulkEntries entries + 1
  | .held _ => 1
def uptoBulkAll {H : Type} : List (DataW H) → Nat
  | [] => 0
  | d :: r => uptoBulk d + uptoBulkAll r
def uptoBulkEntries {H : Type} : List (Lit × DataW H) → Nat
  | [] => 0
  | x :: r => uptoBulkEntry x + uptoBulkEntries r
def uptoBulkEntry {H : Type} : Lit × DataW H → Nat
  | (.string bytes, d) => bytes.length + uptoBulk d + 1
  | (_, d) => uptoBulk d + 1
 end
def uptoSmall : (H : Type) → List (DataW H) → Bool := fun _ ds => decide (uptoBulkAll ds ≤ 1048576)
def OpenSpec.upto (s : _root_.Go.ChangeSpec) : _root_.Go.OpenSpec := { _root_.Go.OpenSpec.ofChange s with cond := some uptoSmall }

/-- 'baseboardlaw32.UpdateEnds', WHERE WHAT IT READS IS OF BULK AT MOST 1048576: true; the input reads as it did. -/
def updateEndsUptoRow : OpenClaim := { program := "ytplchdlgdjcojaagreatdoor", sum := "f91112282ea82e59f78822a3932a7ad7ae17499cd582fc1a1b21bf9ef95d9ef3", func := "baseboard/baseboardlaw32.UpdateEnds", spec := "updateEnds", inPlace := ["maps.clone"], unfollowed := true, recurses := true, named := ["baseboard/update.steps"], apart := false, laid := [("baseboard/update.steps", laid_baseboard_update_steps)], narrowed := true }
def UpdateEndsUptoSaid : Prop := updateEndsUptoRow.holds Tryz.pinned (OpenSpec.upto updateEndsSpec)

/-- 'baseboardlaw32.UpdateWhole', WHERE WHAT IT READS IS OF BULK AT MOST 1048576: true; the input reads as it did. -/
def updateWholeUptoRow : OpenClaim := { program := "ytplchdlgdjcojaagreatdoor", sum := "f91112282ea82e59f78822a3932a7ad7ae17499cd582fc1a1b21bf9ef95d9ef3", func := "baseboard/baseboardlaw32.UpdateWhole", spec := "updateWhole", inPlace := ["maps.clone"], unfollowed := true, recurses := true, named := ["baseboard/update.steps"], apart := false, laid := [("baseboard/update.steps", laid_baseboard_update_steps)], narrowed := true }
def UpdateWholeUptoSaid : Prop := updateWholeUptoRow.holds Tryz.pinned (OpenSpec.upto updateWholeSpec)

/-- 'baseboardlaw32.UpdateOrders', WHERE WHAT IT READS IS OF BULK AT MOST 1048576: true; the input reads as it did. -/
def updateOrdersUptoRow : OpenClaim := { program := "ytplchdlgdjcojaagreatdoor", sum := "f91112282ea82e59f78822a3932a7ad7ae17499cd582fc1a1b21bf9ef95d9ef3", func := "baseboard/baseboardlaw32.UpdateOrders", spec := "updateOrders", inPlace := ["maps.clone"], unfollowed := true, recurses := true, named := ["baseboard/update.steps"], apart := false, laid := [("baseboard/update.steps", laid_baseboard_update_steps)], narrowed := true }
def UpdateOrdersUptoSaid : Prop := updateOrdersUptoRow.holds Tryz.pinned (OpenSpec.upto updateOrdersSpec)

/-- 'baseboardlaw32.UpdateOpens', WHERE WHAT IT READS IS OF BULK AT MOST 1048576: true; the input reads as it did. -/
def updateOpensUptoRow : OpenClaim := { program := "ytplchdlgdjcojaagreatdoor", sum := "f91112282ea82e59f78822a3932a7ad7ae17499cd582fc1a1b21bf9ef95d9ef3", func := "baseboard/baseboardlaw32.UpdateOpens", spec := "updateOpens", inPlace := ["maps.clone"], unfollowed := true, recurses := true, named := ["baseboard/update.steps"], apart := false, laid := [("baseboard/update.steps", laid_baseboard_update_steps)], narrowed := true }
def UpdateOpensUptoSaid : Prop := updateOpensUptoRow.holds Tryz.pinned (OpenSpec.upto updateOpensSpec)

/-- 'baseboardlaw32.UpdateReopens', WHERE WHAT IT READS IS OF BULK AT MOST 1048576: true; the input reads as it did. -/
def updateReopensUptoRow : OpenClaim := { program := "ytplchdlgdjcojaagreatdoor", sum := "f91112282ea82e59f78822a3932a7ad7ae17499cd582fc1a1b21bf9ef95d9ef3", func := "baseboard/baseboardlaw32.UpdateReopens", spec := "updateReopens", inPlace := ["maps.clone"], unfollowed := true, recurses := true, named := ["baseboard/update.steps"], apart := false, laid := [("baseboard/update.steps", laid_baseboard_update_steps)], narrowed := true }
def UpdateReopensUptoSaid : Prop := updateReopensUptoRow.holds Tryz.pinned (OpenSpec.upto updateReopensSpec)

/-- 'baseboardlaw32.UpdateRefuses', WHERE WHAT IT READS IS OF BULK AT MOST 1048576: true; the input reads as it did. -/
def updateRefusesUptoRow : OpenClaim := { program := "ytplchdlgdjcojaagreatdoor", sum := "f91112282ea82e59f78822a3932a7ad7ae17499cd582fc1a1b21bf9ef95d9ef3", func := "baseboard/baseboardlaw32.UpdateRefuses", spec := "updateRefuses", inPlace := ["maps.clone"], unfollowed := true, recurses := true, named := ["baseboard/update.steps"], apart := false, laid := [("baseboard/update.steps", laid_baseboard_update_steps)], narrowed := true }
def UpdateRefusesUptoSaid : Prop := updateRefusesUptoRow.holds Tryz.pinned (OpenSpec.upto updateRefusesSpec)

/-- 'baseboardlaw32.UpdateAnswers', WHERE WHAT IT READS IS OF BULK AT MOST 1048576: true; the input reads as it did. -/
def updateAnswersUptoRow : OpenClaim := { program := "ytplchdlgdjcojaagreatdoor", sum := "f91112282ea82e59f78822a3932a7ad7ae17499cd582fc1a1b21bf9ef95d9ef3", func := "baseboard/baseboardlaw32.UpdateAnswers", spec := "updateAnswers", inPlace := ["maps.clone"], unfollowed := true, recurses := true, named := ["baseboard/update.steps"], apart := false, laid := [("baseboard/update.steps", laid_baseboard_update_steps)], narrowed := true }
def UpdateAnswersUptoSaid : Prop := updateAnswersUptoRow.holds Tryz.pinned (OpenSpec.upto updateAnswersSpec)

end Rows
end Go.Proofs.YtplchdlgdjcojaaGreatDoor
