/-
  No cell of these rows narrows 'for every input' (looked for: loops, veiled, ifaces, maps, wideKeys, modest, calm, conditions, laid).
  DERIVED. THE GIVEN ROWS OF THIS SEAT. 6 by the template 'for every input the law returns true; each argument reads behind the call as it read before'; 0 by the template 'total and deterministic' (their statements: YtcjhemblnemhfaaTotals.lean).
  GIVEN WITH THE SEED: the statements are not yours to turn. If you find one false, say at which input.
  Laid BY PROGRAM, IN A SANDBOX (cutbox-rows.mjs): the forced cells as the released guide's own fill.sh prints them over the translation 6f76f349b56a3317… (all of the seat's roots in one cut). By AI agents, Wed Nov 11 2026. No macro, syntax, notation, axiom, sorry.
-/
import Derived.Test.YtcjhemblnemhfaaChecked
import GoSem.Claim
import GoSem.ClaimJoined
import GoSem.ClaimMapViews
import Derived.JoinedTies
import Derived.KernelRfl
namespace Go.Proofs.Ytcjhemblnemhfaa
/- THE CELL 'sum', in the pinned program and in every row, IS THE sha256 OF THE DUMP (.gsa) THAT YtcjhemblnemhfaaProg.lean LOADS. Nothing in Lean hashes anything: it is a label: what it is worth is what the hold of that sum in a sandbox is worth. -/
noncomputable def Try.pinned : Pinned := { name := "ytcjhemblnemhfaa", sum := "6f76f349b56a33175e0e118f8a14ab0df4fb75a8b34a71b3f2a709c63d41f14a", checked := Try.checked }
namespace Rows
def none {H : Type} : Left H := { results := [], args := [] }

/-- 'baseboardlaw29.BankPieces': WHATEVER THE INPUT: true; the input reads as it did. -/
def bankPiecesSpec : ChangeSpec := { name := "bankPieces", fn := fun _ => fun
  | [d1, d2, d3] => { results := [.lit (.bool true)], args := [d1, d2, d3] }
  | _ => none }
def bankPiecesRow : OpenClaim := { program := "ytcjhemblnemhfaa", sum := "6f76f349b56a33175e0e118f8a14ab0df4fb75a8b34a71b3f2a709c63d41f14a", func := "baseboard/baseboardlaw29.BankPieces", spec := "bankPieces", apart := false }
def BankPiecesSaid : Prop := bankPiecesRow.holds Try.pinned (OpenSpec.ofChange bankPiecesSpec)

/-- ITS FALSE NEIGHBOUR: 'it returns false'. Refute it at one input. -/
def bankPiecesWrong : ChangeSpec := { name := "bankPieces", fn := fun _ => fun
  | [d1, d2, d3] => { results := [.lit (.bool false)], args := [d1, d2, d3] }
  | _ => none }
def BankPiecesWrongFalsely : Prop := bankPiecesRow.holds Try.pinned (OpenSpec.ofChange bankPiecesWrong)

/-- 'baseboardlaw29.BankErases': WHATEVER THE INPUT: true; the input reads as it did. -/
def bankErasesSpec : ChangeSpec := { name := "bankErases", fn := fun _ => fun
  | [d] => { results := [.lit (.bool true)], args := [d] }
  | _ => none }
def bankErasesRow : OpenClaim := { program := "ytcjhemblnemhfaa", sum := "6f76f349b56a33175e0e118f8a14ab0df4fb75a8b34a71b3f2a709c63d41f14a", func := "baseboard/baseboardlaw29.BankErases", spec := "bankErases", apart := false }
def BankErasesSaid : Prop := bankErasesRow.holds Try.pinned (OpenSpec.ofChange bankErasesSpec)

/-- ITS FALSE NEIGHBOUR: 'it returns false'. Refute it at one input. -/
def bankErasesWrong : ChangeSpec := { name := "bankErases", fn := fun _ => fun
  | [d] => { results := [.lit (.bool false)], args := [d] }
  | _ => none }
def BankErasesWrongFalsely : Prop := bankErasesRow.holds Try.pinned (OpenSpec.ofChange bankErasesWrong)

/-- 'baseboardlaw29.BankPreserves': WHATEVER THE INPUT: true; the input reads as it did. -/
def bankPreservesSpec : ChangeSpec := { name := "bankPreserves", fn := fun _ => fun
  | [d1, d2] => { results := [.lit (.bool true)], args := [d1, d2] }
  | _ => none }
def bankPreservesRow : OpenClaim := { program := "ytcjhemblnemhfaa", sum := "6f76f349b56a33175e0e118f8a14ab0df4fb75a8b34a71b3f2a709c63d41f14a", func := "baseboard/baseboardlaw29.BankPreserves", spec := "bankPreserves", apart := false }
def BankPreservesSaid : Prop := bankPreservesRow.holds Try.pinned (OpenSpec.ofChange bankPreservesSpec)

/-- ITS FALSE NEIGHBOUR: 'it returns false'. Refute it at one input. -/
def bankPreservesWrong : ChangeSpec := { name := "bankPreserves", fn := fun _ => fun
  | [d1, d2] => { results := [.lit (.bool false)], args := [d1, d2] }
  | _ => none }
def BankPreservesWrongFalsely : Prop := bankPreservesRow.holds Try.pinned (OpenSpec.ofChange bankPreservesWrong)

/-- 'baseboardlaw29.BankTries': WHATEVER THE INPUT: true; the input reads as it did. -/
def bankTriesSpec : ChangeSpec := { name := "bankTries", fn := fun _ => fun
  | [d] => { results := [.lit (.bool true)], args := [d] }
  | _ => none }
def bankTriesRow : OpenClaim := { program := "ytcjhemblnemhfaa", sum := "6f76f349b56a33175e0e118f8a14ab0df4fb75a8b34a71b3f2a709c63d41f14a", func := "baseboard/baseboardlaw29.BankTries", spec := "bankTries", apart := false }
def BankTriesSaid : Prop := bankTriesRow.holds Try.pinned (OpenSpec.ofChange bankTriesSpec)

/-- ITS FALSE NEIGHBOUR: 'it returns false'. Refute it at one input. -/
def bankTriesWrong : ChangeSpec := { name := "bankTries", fn := fun _ => fun
  | [d] => { results := [.lit (.bool false)], args := [d] }
  | _ => none }
def BankTriesWrongFalsely : Prop := bankTriesRow.holds Try.pinned (OpenSpec.ofChange bankTriesWrong)

/-- 'baseboardlaw29.BankAnswers': WHATEVER THE INPUT: true; the input reads as it did. -/
def bankAnswersSpec : ChangeSpec := { name := "bankAnswers", fn := fun _ => fun
  | [d1, d2, d3, d4, d5] => { results := [.lit (.bool true)], args := [d1, d2, d3, d4, d5] }
  | _ => none }
def bankAnswersRow : OpenClaim := { program := "ytcjhemblnemhfaa", sum := "6f76f349b56a33175e0e118f8a14ab0df4fb75a8b34a71b3f2a709c63d41f14a", func := "baseboard/baseboardlaw29.BankAnswers", spec := "bankAnswers", apart := false }
def BankAnswersSaid : Prop := bankAnswersRow.holds Try.pinned (OpenSpec.ofChange bankAnswersSpec)

/-- ITS FALSE NEIGHBOUR: 'it returns false'. Refute it at one input. -/
def bankAnswersWrong : ChangeSpec := { name := "bankAnswers", fn := fun _ => fun
  | [d1, d2, d3, d4, d5] => { results := [.lit (.bool false)], args := [d1, d2, d3, d4, d5] }
  | _ => none }
def BankAnswersWrongFalsely : Prop := bankAnswersRow.holds Try.pinned (OpenSpec.ofChange bankAnswersWrong)

/-- 'baseboardlaw29.BankRuns': WHATEVER THE INPUT: true; the input reads as it did. -/
def bankRunsSpec : ChangeSpec := { name := "bankRuns", fn := fun _ => fun
  | [d] => { results := [.lit (.bool true)], args := [d] }
  | _ => none }
def bankRunsRow : OpenClaim := { program := "ytcjhemblnemhfaa", sum := "6f76f349b56a33175e0e118f8a14ab0df4fb75a8b34a71b3f2a709c63d41f14a", func := "baseboard/baseboardlaw29.BankRuns", spec := "bankRuns", apart := false }
def BankRunsSaid : Prop := bankRunsRow.holds Try.pinned (OpenSpec.ofChange bankRunsSpec)

/-- ITS FALSE NEIGHBOUR: 'it returns false'. Refute it at one input. -/
def bankRunsWrong : ChangeSpec := { name := "bankRuns", fn := fun _ => fun
  | [d] => { results := [.lit (.bool false)], args := [d] }
  | _ => none }
def BankRunsWrongFalsely : Prop := bankRunsRow.holds Try.pinned (OpenSpec.ofChange bankRunsWrong)

/- THE SECOND FORM. 'bulk': how many values and letters a reading holds, each counted each time it is reached (what is shared counts as often as it is met; a slice's spare places count too). A statement '..UptoSaid' is the law's where the arguments, and the package variables that the reading takes, are together of bulk at most 1048576: NARROWER than '..Said'. Prove '..Said' where nothing that the law and all that it calls make is longer than what came in: it says more and counts as full. Else prove '..UptoSaid'. A law counts once. -/
mutual
def uptoBulk {H : Type} : DataW H → Nat
  | .lit (.string bytes) => bytes.length + 1
  | .lit _ => 1
  | .nil => 1
  | .ptr d => uptoBulk d + 1
  | .slice elems spare => uptoBulkAll elems + uptoBulkAll spare + 1
  | .agg parts => uptoBulkAll parts + 1
  | .iface _ d => uptoBulk d + 1
  | .map entries => uptoBulkEntries entries + 1
  | .held _ => 1
def uptoBulkAll {H : Type} : List (DataW H) → Nat
  | [] => 0
  | d :: r => uptoBulk d + uptoBulkAll r
def uptoBulkEntries {H : Type} : List (Lit × DataW H) → Nat
  | [] => 0
  | x :: r => uptoBulkEntry x + uptoBulkEntries r
def uptoBulkEntry {H : Type} : Lit × DataW H → Nat
  | (.string bytes, d) => bytes.length + uptoBulk d + 1
  | (_, d) => uptoBulk d + 1
 end
def uptoSmall : (H : Type) → List (DataW H) → Bool := fun _ ds => decide (uptoBulkAll ds ≤ 1048576)
def OpenSpec.upto (s : _root_.Go.ChangeSpec) : _root_.Go.OpenSpec := { _root_.Go.OpenSpec.ofChange s with cond := some uptoSmall }

/-- 'baseboardlaw29.BankPieces', WHERE WHAT IT READS IS OF BULK AT MOST 1048576: true; the input reads as it did. -/
def bankPiecesUptoRow : OpenClaim := { program := "ytcjhemblnemhfaa", sum := "6f76f349b56a33175e0e118f8a14ab0df4fb75a8b34a71b3f2a709c63d41f14a", func := "baseboard/baseboardlaw29.BankPieces", spec := "bankPieces", apart := false, narrowed := true }
def BankPiecesUptoSaid : Prop := bankPiecesUptoRow.holds Try.pinned (OpenSpec.upto bankPiecesSpec)

/-- 'baseboardlaw29.BankErases', WHERE WHAT IT READS IS OF BULK AT MOST 1048576: true; the input reads as it did. -/
def bankErasesUptoRow : OpenClaim := { program := "ytcjhemblnemhfaa", sum := "6f76f349b56a33175e0e118f8a14ab0df4fb75a8b34a71b3f2a709c63d41f14a", func := "baseboard/baseboardlaw29.BankErases", spec := "bankErases", apart := false, narrowed := true }
def BankErasesUptoSaid : Prop := bankErasesUptoRow.holds Try.pinned (OpenSpec.upto bankErasesSpec)

/-- 'baseboardlaw29.BankPreserves', WHERE WHAT IT READS IS OF BULK AT MOST 1048576: true; the input reads as it did. -/
def bankPreservesUptoRow : OpenClaim := { program := "ytcjhemblnemhfaa", sum := "6f76f349b56a33175e0e118f8a14ab0df4fb75a8b34a71b3f2a709c63d41f14a", func := "baseboard/baseboardlaw29.BankPreserves", spec := "bankPreserves", apart := false, narrowed := true }
def BankPreservesUptoSaid : Prop := bankPreservesUptoRow.holds Try.pinned (OpenSpec.upto bankPreservesSpec)

/-- 'baseboardlaw29.BankTries', WHERE WHAT IT READS IS OF BULK AT MOST 1048576: true; the input reads as it did. -/
def bankTriesUptoRow : OpenClaim := { program := "ytcjhemblnemhfaa", sum := "6f76f349b56a33175e0e118f8a14ab0df4fb75a8b34a71b3f2a709c63d41f14a", func := "baseboard/baseboardlaw29.BankTries", spec := "bankTries", apart := false, narrowed := true }
def BankTriesUptoSaid : Prop := bankTriesUptoRow.holds Try.pinned (OpenSpec.upto bankTriesSpec)

/-- 'baseboardlaw29.BankAnswers', WHERE WHAT IT READS IS OF BULK AT MOST 1048576: true; the input reads as it did. -/
def bankAnswersUptoRow : OpenClaim := { program := "ytcjhemblnemhfaa", sum := "6f76f349b56a33175e0e118f8a14ab0df4fb75a8b34a71b3f2a709c63d41f14a", func := "baseboard/baseboardlaw29.BankAnswers", spec := "bankAnswers", apart := false, narrowed := true }
def BankAnswersUptoSaid : Prop := bankAnswersUptoRow.holds Try.pinned (OpenSpec.upto bankAnswersSpec)

/-- 'baseboardlaw29.BankRuns', WHERE WHAT IT READS IS OF BULK AT MOST 1048576: true; the input reads as it did. -/
def bankRunsUptoRow : OpenClaim := { program := "ytcjhemblnemhfaa", sum := "6f76f349b56a33175e0e118f8a14ab0df4fb75a8b34a71b3f2a709c63d41f14a", func := "baseboard/baseboardlaw29.BankRuns", spec := "bankRuns", apart := false, narrowed := true }
def BankRunsUptoSaid : Prop := bankRunsUptoRow.holds Try.pinned (OpenSpec.upto bankRunsSpec)

end Rows
end Go.Proofs.Ytcjhemblnemhfaa
