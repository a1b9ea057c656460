/-
  The laws of decoding: FieldsDecode.
  Conditions: none.
-/
import Derived.Test.YtfddmgagikeieaaDoorGenFieldsDecode
import Derived.Test.YtfddmgagikeieaaDoorFldB
import Derived.Test.YtfddmgagikeieaaDoorFld5
namespace Go.Proofs.YtfddmgagikeieaaDoor
open Go
set_option linter.unusedSimpArgs false
set_option linter.unusedVariables false

theorem fieldsDecode_true (b : List Int) (hb : okL (inK .u8) b) : m_law02_FieldsDecode b = some true := by
  obtain ⟨l, hl, rfl⟩ := okL_iz hb
  unfold m_law02_FieldsDecode
  simp only [awake_ok, bnd_some]
  by_cases h1 : l.length ≤ 300
  · rw [show decide (((iz l).length : Int) > 300) = false from decide_eq_false (by rw [iz_len]; omega), cond_false, Decode_prog l hl (by omega), bnd_some, Decode_ref l hl (by omega), bnd_some]
    simp only [sameF_self, bnd_some, cond_true, beq_self_eq_true]
  · rw [show decide (((iz l).length : Int) > 300) = true from decide_eq_true (by rw [iz_len]; omega)]
    rfl

end Go.Proofs.YtfddmgagikeieaaDoor
