/-
  All models and contracts.
  Conditions: none.
-/
import Derived.Test.YtcekbbbjagfacaaDoorGenD1
