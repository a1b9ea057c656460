/-
  No cell of these rows narrows 'for every input' (looked for: loops, veiled, ifaces, maps, wideKeys, modest, calm, conditions, laid).
  DERIVED. THE GIVEN ROWS OF THIS SEAT. 7 by the template 'for every input the law returns true; each argument reads behind the call as it read before'; 0 by the template 'total and deterministic' (their statements: YteaoblglgcpdnaaTotals.lean).
  GIVEN WITH THE SEED: the statements are not yours to turn. If you find one false, say at which input.
  Laid BY PROGRAM, IN A SANDBOX (cutbox-rows.mjs): the forced cells as the released guide's own fill.sh prints them over the translation c676e288ebb8a969… (all of the seat's roots in one cut). By AI agents, Wed Nov 11 2026. No macro, syntax, notation, axiom, sorry.
-/
import Derived.Test.YteaoblglgcpdnaaChecked
import GoSem.Claim
import GoSem.ClaimJoined
import GoSem.ClaimMapViews
import Derived.JoinedTies
import Derived.KernelRfl
namespace Go.Proofs.Yteaoblglgcpdnaa
/- THE CELL 'sum', in the pinned program and in every row, IS THE sha256 OF THE DUMP (.gsa) THAT YteaoblglgcpdnaaProg.lean LOADS. Nothing in Lean hashes anything: it is a label: what it is worth is what the hold of that sum in a sandbox is worth. -/
noncomputable def Try.pinned : Pinned := { name := "yteaoblglgcpdnaa", sum := "c676e288ebb8a969d48f8af8d4fb6676f8ac0c147912f3260b55d3c496be84e4", checked := Try.checked }
namespace Rows
def none {H : Type} : Left H := { results := [], args := [] }

/-- 'baseboardlaw31.ActivationChains': WHATEVER THE INPUT: true; the input reads as it did. -/
def activationChainsSpec : ChangeSpec := { name := "activationChains", fn := fun _ => fun
  | [d1, d2] => { results := [.lit (.bool true)], args := [d1, d2] }
  | _ => none }
def activationChainsRow : OpenClaim := { program := "yteaoblglgcpdnaa", sum := "c676e288ebb8a969d48f8af8d4fb6676f8ac0c147912f3260b55d3c496be84e4", func := "baseboard/baseboardlaw31.ActivationChains", spec := "activationChains", unfollowed := true, recurses := true, apart := false }
def ActivationChainsSaid : Prop := activationChainsRow.holds Try.pinned (OpenSpec.ofChange activationChainsSpec)

/-- ITS FALSE NEIGHBOUR: 'it returns false'. Refute it at one input. -/
def activationChainsWrong : ChangeSpec := { name := "activationChains", fn := fun _ => fun
  | [d1, d2] => { results := [.lit (.bool false)], args := [d1, d2] }
  | _ => none }
def ActivationChainsWrongFalsely : Prop := activationChainsRow.holds Try.pinned (OpenSpec.ofChange activationChainsWrong)

/-- 'baseboardlaw31.ActivationReverses': WHATEVER THE INPUT: true; the input reads as it did. -/
def activationReversesSpec : ChangeSpec := { name := "activationReverses", fn := fun _ => fun
  | [d] => { results := [.lit (.bool true)], args := [d] }
  | _ => none }
def activationReversesRow : OpenClaim := { program := "yteaoblglgcpdnaa", sum := "c676e288ebb8a969d48f8af8d4fb6676f8ac0c147912f3260b55d3c496be84e4", func := "baseboard/baseboardlaw31.ActivationReverses", spec := "activationReverses", unfollowed := true, recurses := true, apart := false }
def ActivationReversesSaid : Prop := activationReversesRow.holds Try.pinned (OpenSpec.ofChange activationReversesSpec)

/-- ITS FALSE NEIGHBOUR: 'it returns false'. Refute it at one input. -/
def activationReversesWrong : ChangeSpec := { name := "activationReverses", fn := fun _ => fun
  | [d] => { results := [.lit (.bool false)], args := [d] }
  | _ => none }
def ActivationReversesWrongFalsely : Prop := activationReversesRow.holds Try.pinned (OpenSpec.ofChange activationReversesWrong)

/-- 'baseboardlaw31.ActivationMeets': WHATEVER THE INPUT: true; the input reads as it did. -/
def activationMeetsSpec : ChangeSpec := { name := "activationMeets", fn := fun _ => fun
  | [d] => { results := [.lit (.bool true)], args := [d] }
  | _ => none }
def activationMeetsRow : OpenClaim := { program := "yteaoblglgcpdnaa", sum := "c676e288ebb8a969d48f8af8d4fb6676f8ac0c147912f3260b55d3c496be84e4", func := "baseboard/baseboardlaw31.ActivationMeets", spec := "activationMeets", unfollowed := true, recurses := true, apart := false }
def ActivationMeetsSaid : Prop := activationMeetsRow.holds Try.pinned (OpenSpec.ofChange activationMeetsSpec)

/-- ITS FALSE NEIGHBOUR: 'it returns false'. Refute it at one input. -/
def activationMeetsWrong : ChangeSpec := { name := "activationMeets", fn := fun _ => fun
  | [d] => { results := [.lit (.bool false)], args := [d] }
  | _ => none }
def ActivationMeetsWrongFalsely : Prop := activationMeetsRow.holds Try.pinned (OpenSpec.ofChange activationMeetsWrong)

/-- 'baseboardlaw31.ActivationLeast': WHATEVER THE INPUT: true; the input reads as it did. -/
def activationLeastSpec : ChangeSpec := { name := "activationLeast", fn := fun _ => fun
  | [d1, d2] => { results := [.lit (.bool true)], args := [d1, d2] }
  | _ => none }
def activationLeastRow : OpenClaim := { program := "yteaoblglgcpdnaa", sum := "c676e288ebb8a969d48f8af8d4fb6676f8ac0c147912f3260b55d3c496be84e4", func := "baseboard/baseboardlaw31.ActivationLeast", spec := "activationLeast", unfollowed := true, recurses := true, apart := false }
def ActivationLeastSaid : Prop := activationLeastRow.holds Try.pinned (OpenSpec.ofChange activationLeastSpec)

/-- ITS FALSE NEIGHBOUR: 'it returns false'. Refute it at one input. -/
def activationLeastWrong : ChangeSpec := { name := "activationLeast", fn := fun _ => fun
  | [d1, d2] => { results := [.lit (.bool false)], args := [d1, d2] }
  | _ => none }
def ActivationLeastWrongFalsely : Prop := activationLeastRow.holds Try.pinned (OpenSpec.ofChange activationLeastWrong)

/-- 'baseboardlaw31.ActivationTightens': WHATEVER THE INPUT: true; the input reads as it did. -/
def activationTightensSpec : ChangeSpec := { name := "activationTightens", fn := fun _ => fun
  | [d] => { results := [.lit (.bool true)], args := [d] }
  | _ => none }
def activationTightensRow : OpenClaim := { program := "yteaoblglgcpdnaa", sum := "c676e288ebb8a969d48f8af8d4fb6676f8ac0c147912f3260b55d3c496be84e4", func := "baseboard/baseboardlaw31.ActivationTightens", spec := "activationTightens", unfollowed := true, recurses := true, apart := false }
def ActivationTightensSaid : Prop := activationTightensRow.holds Try.pinned (OpenSpec.ofChange activationTightensSpec)

/-- ITS FALSE NEIGHBOUR: 'it returns false'. Refute it at one input. -/
def activationTightensWrong : ChangeSpec := { name := "activationTightens", fn := fun _ => fun
  | [d] => { results := [.lit (.bool false)], args := [d] }
  | _ => none }
def ActivationTightensWrongFalsely : Prop := activationTightensRow.holds Try.pinned (OpenSpec.ofChange activationTightensWrong)

/-- 'baseboardlaw31.ActivationDecides': WHATEVER THE INPUT: true; the input reads as it did. -/
def activationDecidesSpec : ChangeSpec := { name := "activationDecides", fn := fun _ => fun
  | [d1, d2] => { results := [.lit (.bool true)], args := [d1, d2] }
  | _ => none }
def activationDecidesRow : OpenClaim := { program := "yteaoblglgcpdnaa", sum := "c676e288ebb8a969d48f8af8d4fb6676f8ac0c147912f3260b55d3c496be84e4", func := "baseboard/baseboardlaw31.ActivationDecides", spec := "activationDecides", unfollowed := true, recurses := true, apart := false }
def ActivationDecidesSaid : Prop := activationDecidesRow.holds Try.pinned (OpenSpec.ofChange activationDecidesSpec)

/-- ITS FALSE NEIGHBOUR: 'it returns false'. Refute it at one input. -/
def activationDecidesWrong : ChangeSpec := { name := "activationDecides", fn := fun _ => fun
  | [d1, d2] => { results := [.lit (.bool false)], args := [d1, d2] }
  | _ => none }
def ActivationDecidesWrongFalsely : Prop := activationDecidesRow.holds Try.pinned (OpenSpec.ofChange activationDecidesWrong)

/-- 'baseboardlaw31.ActivationAnswers': WHATEVER THE INPUT: true; the input reads as it did. -/
def activationAnswersSpec : ChangeSpec := { name := "activationAnswers", fn := fun _ => fun
  | [d1, d2, d3] => { results := [.lit (.bool true)], args := [d1, d2, d3] }
  | _ => none }
def activationAnswersRow : OpenClaim := { program := "yteaoblglgcpdnaa", sum := "c676e288ebb8a969d48f8af8d4fb6676f8ac0c147912f3260b55d3c496be84e4", func := "baseboard/baseboardlaw31.ActivationAnswers", spec := "activationAnswers", unfollowed := true, recurses := true, apart := false }
def ActivationAnswersSaid : Prop := activationAnswersRow.holds Try.pinned (OpenSpec.ofChange activationAnswersSpec)

/-- ITS FALSE NEIGHBOUR: 'it returns false'. Refute it at one input. -/
def activationAnswersWrong : ChangeSpec := { name := "activationAnswers", fn := fun _ => fun
  | [d1, d2, d3] => { results := [.lit (.bool false)], args := [d1, d2, d3] }
  | _ => none }
def ActivationAnswersWrongFalsely : Prop := activationAnswersRow.holds Try.pinned (OpenSpec.ofChange activationAnswersWrong)

/- THE SECOND FORM. 'bulk': how many values and letters a reading holds, each counted each time it is reached (what is shared counts as often as it is met; a slice's spare places count too). A statement '..UptoSaid' is the law's where the arguments, and the package variables that the reading takes, are together of bulk at most 1048576: NARROWER than '..Said'. Prove '..Said' where nothing that the law and all that it calls make is longer than what came in: it says more and counts as full. Else prove '..UptoSaid'. A law counts once. -/
mutual
def uptoBulk {H : Type} : DataW H → Nat
  | .lit (.string bytes) => bytes.length + 1
  | .lit _ => 1
  | .nil => 1
  | .ptr d => uptoBulk d + 1
  | .slice elems spare => uptoBulkAll elems + uptoBulkAll spare + 1
  | .agg parts => uptoBulkAll parts + 1
  | .iface _ d => uptoBulk d + 1
  | .map entries => uptoBulkEntries entries + 1
  | .held _ => 1
def uptoBulkAll {H : Type} : List (DataW H) → Nat
  | [] => 0
  | d :: r => uptoBulk d + uptoBulkAll r
def uptoBulkEntries {H : Type} : List (Lit × DataW H) → Nat
  | [] => 0
  | x :: r => uptoBulkEntry x + uptoBulkEntries r
def uptoBulkEntry {H : Type} : Lit × DataW H → Nat
  | (.string bytes, d) => bytes.length + uptoBulk d + 1
  | (_, d) => uptoBulk d + 1
 end
def uptoSmall : (H : Type) → List (DataW H) → Bool := fun _ ds => decide (uptoBulkAll ds ≤ 1048576)
def OpenSpec.upto (s : _root_.Go.ChangeSpec) : _root_.Go.OpenSpec := { _root_.Go.OpenSpec.ofChange s with cond := some uptoSmall }

/-- 'baseboardlaw31.ActivationChains', WHERE WHAT IT READS IS OF BULK AT MOST 1048576: true; the input reads as it did. -/
def activationChainsUptoRow : OpenClaim := { program := "yteaoblglgcpdnaa", sum := "c676e288ebb8a969d48f8af8d4fb6676f8ac0c147912f3260b55d3c496be84e4", func := "baseboard/baseboardlaw31.ActivationChains", spec := "activationChains", unfollowed := true, recurses := true, apart := false, narrowed := true }
def ActivationChainsUptoSaid : Prop := activationChainsUptoRow.holds Try.pinned (OpenSpec.upto activationChainsSpec)

/-- 'baseboardlaw31.ActivationReverses', WHERE WHAT IT READS IS OF BULK AT MOST 1048576: true; the input reads as it did. -/
def activationReversesUptoRow : OpenClaim := { program := "yteaoblglgcpdnaa", sum := "c676e288ebb8a969d48f8af8d4fb6676f8ac0c147912f3260b55d3c496be84e4", func := "baseboard/baseboardlaw31.ActivationReverses", spec := "activationReverses", unfollowed := true, recurses := true, apart := false, narrowed := true }
def ActivationReversesUptoSaid : Prop := activationReversesUptoRow.holds Try.pinned (OpenSpec.upto activationReversesSpec)

/-- 'baseboardlaw31.ActivationMeets', WHERE WHAT IT READS IS OF BULK AT MOST 1048576: true; the input reads as it did. -/
def activationMeetsUptoRow : OpenClaim := { program := "yteaoblglgcpdnaa", sum := "c676e288ebb8a969d48f8af8d4fb6676f8ac0c147912f3260b55d3c496be84e4", func := "baseboard/baseboardlaw31.ActivationMeets", spec := "activationMeets", unfollowed := true, recurses := true, apart := false, narrowed := true }
def ActivationMeetsUptoSaid : Prop := activationMeetsUptoRow.holds Try.pinned (OpenSpec.upto activationMeetsSpec)

/-- 'baseboardlaw31.ActivationLeast', WHERE WHAT IT READS IS OF BULK AT MOST 1048576: true; the input reads as it did. -/
def activationLeastUptoRow : OpenClaim := { program := "yteaoblglgcpdnaa", sum := "c676e288ebb8a969d48f8af8d4fb6676f8ac0c147912f3260b55d3c496be84e4", func := "baseboard/baseboardlaw31.ActivationLeast", spec := "activationLeast", unfollowed := true, recurses := true, apart := false, narrowed := true }
def ActivationLeastUptoSaid : Prop := activationLeastUptoRow.holds Try.pinned (OpenSpec.upto activationLeastSpec)

/-- 'baseboardlaw31.ActivationTightens', WHERE WHAT IT READS IS OF BULK AT MOST 1048576: true; the input reads as it did. -/
def activationTightensUptoRow : OpenClaim := { program := "yteaoblglgcpdnaa", sum := "c676e288ebb8a969d48f8af8d4fb6676f8ac0c147912f3260b55d3c496be84e4", func := "baseboard/baseboardlaw31.ActivationTightens", spec := "activationTightens", unfollowed := true, recurses := true, apart := false, narrowed := true }
def ActivationTightensUptoSaid : Prop := activationTightensUptoRow.holds Try.pinned (OpenSpec.upto activationTightensSpec)

/-- 'baseboardlaw31.ActivationDecides', WHERE WHAT IT READS IS OF BULK AT MOST 1048576: true; the input reads as it did. -/
def activationDecidesUptoRow : OpenClaim := { program := "yteaoblglgcpdnaa", sum := "c676e288ebb8a969d48f8af8d4fb6676f8ac0c147912f3260b55d3c496be84e4", func := "baseboard/baseboardlaw31.ActivationDecides", spec := "activationDecides", unfollowed := true, recurses := true, apart := false, narrowed := true }
def ActivationDecidesUptoSaid : Prop := activationDecidesUptoRow.holds Try.pinned (OpenSpec.upto activationDecidesSpec)

/-- 'baseboardlaw31.ActivationAnswers', WHERE WHAT IT READS IS OF BULK AT MOST 1048576: true; the input reads as it did. -/
def activationAnswersUptoRow : OpenClaim := { program := "yteaoblglgcpdnaa", sum := "c676e288ebb8a969d48f8af8d4fb6676f8ac0c147912f3260b55d3c496be84e4", func := "baseboard/baseboardlaw31.ActivationAnswers", spec := "activationAnswers", unfollowed := true, recurses := true, apart := false, narrowed := true }
def ActivationAnswersUptoSaid : Prop := activationAnswersUptoRow.holds Try.pinned (OpenSpec.upto activationAnswersSpec)

end Rows
end Go.Proofs.Yteaoblglgcpdnaa
