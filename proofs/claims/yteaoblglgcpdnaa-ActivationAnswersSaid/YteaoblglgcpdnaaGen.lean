/-
  All models and contracts.
  Conditions: none.
-/
import Derived.Test.YteaoblglgcpdnaaGen3
