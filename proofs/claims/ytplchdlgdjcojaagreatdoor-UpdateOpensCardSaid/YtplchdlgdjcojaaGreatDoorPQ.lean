/-
  The statement UpdateOpensSaid: the law answers true whatever the input, and its arguments read as they did.
  Conditions: none.
-/
import Derived.Test.YtplchdlgdjcojaaGreatDoorPQ7
import Derived.Test.YtplchdlgdjcojaaGreatDoorRows
import Derived.Test.YtplchdlgdjcojaaGreatDoorProg
import Derived.Test.YtplchdlgdjcojaaGreatDoorTie
import Derived.Test.YtplchdlgdjcojaaGreatDoorCards
namespace Go.Proofs.YtplchdlgdjcojaaGreatDoor
open Go Go.ChangeShapes Go.WideShapes Go.ChangeAt Go.RowKit
set_option linter.unusedVariables false
set_option linter.unusedSimpArgs false
set_option maxRecDepth 20000

theorem updateOpens_holds:Rows.UpdateOpensCardSaid:=
 Claim7.holds_tied_plain_at .later [] [.funcs] true (true, "cfe594e962d36ea5776570d19fd160328c90e4cdf266319e1a892b949101c819") true
  updateOpens_row_holds (fun _ h=>by cases h) (by kernel_rfl) (fun _ h=>by cases h) updateOpens_row_tie rfl ⟨rfl,rfl⟩ (by kernel_rfl) O
  (fun f fn hf hfn=>by
   obtain rfl:f=6:=Option.some.inj ((show Tryz.prog.funcNamed "baseboard/baseboardlaw32.UpdateOpens" =some 6 by kernel_rfl).symm.trans hf) |>.symm
   obtain rfl:fn=Tryz.f6:=(Option.some.inj (Tryz.func6.symm.trans hfn)).symm
   refine ⟨by kernel_rfl,fun j t ht=>?_⟩
   rw [Tryz.params6] at ht
   have hm:=Array.mem_of_getElem? ht
   simp only [List.mem_toArray,List.mem_cons,List.not_mem_nil,or_false] at hm
   rcases hm with rfl | rfl | rfl | rfl <;> (show _=_) <;> kernel_rfl)
  (by kernel_rfl)

#print axioms updateOpens_holds

end Go.Proofs.YtplchdlgdjcojaaGreatDoor
