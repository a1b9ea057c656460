/-
  All models and contracts.
  Conditions: none.
-/
import Derived.Test.YthdpagcklakahaaGen3
