/-
  Sameness of bytes and of fields.
  Conditions: none.
-/
import Derived.Test.YtelepclajhpnfaaGreatDoorFld3
namespace Go.Proofs.YtelepclajhpnfaaGreatDoor
open Go
set_option linter.unusedSimpArgs false
set_option linter.unusedVariables false
end Go.Proofs.YtelepclajhpnfaaGreatDoor
