/-
  All models and contracts.
  Conditions: none.
-/
import Derived.Test.YthdpagcklakahaaGenS2
