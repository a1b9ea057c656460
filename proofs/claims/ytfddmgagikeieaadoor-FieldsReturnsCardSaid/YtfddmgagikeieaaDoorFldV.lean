/-
  The laws of decoding: FieldsReturns.
  Conditions: none.
-/
import Derived.Test.YtfddmgagikeieaaDoorGenFieldsReturns
import Derived.Test.YtfddmgagikeieaaDoorFldB
import Derived.Test.YtfddmgagikeieaaDoorFldR
namespace Go.Proofs.YtfddmgagikeieaaDoor
open Go
set_option linter.unusedSimpArgs false
set_option linter.unusedVariables false

theorem fieldsReturns_true (l rest : List Int) (hl : okL (inK .i64) l) (hr : okL (inK .u8) rest) : m_law02_FieldsReturns l rest = some true := by
  obtain ⟨r, hr8, rfl⟩ := okL_iz hr
  unfold m_law02_FieldsReturns
  simp only [light_ok, roll_ok, bnd_some, awake_ok]
  by_cases h2 : l.length ≤ 600
  · rw [show decide ((l.length : Int) ≤ 600) = true from decide_eq_true (by omega)]
    simp only [Bool.not_true, cond_false, bnd_some, iz_len]
    by_cases h1 : r.length ≤ 100
    · rw [show decide ((r.length : Int) > 100) = false from decide_eq_false (by omega), cond_false]
      obtain ⟨⟨d, f⟩, hx, hx1, hx2⟩ := field_ex ⟨l, 0⟩ (roll_fair l h2)
      have hx2' : validF f.Kind (bs f.Value) = true := hx2
      have hs := valid_size' hx2'
      have hel := encF_len hx2'
      rw [bs_len] at hs
      rw [hx, bnd_some, Encode_prog f (by omega), bnd_some, hx2', if_pos rfl]
      simp only
      have a1 : app 1 ([] : List Int) (iz (encF f.Kind (bs f.Value))) = some (iz (encF f.Kind (bs f.Value))) := app_iz (l := []) (by simp; omega) (by simp; omega)
      rw [a1, bnd_some, app_iz (by omega) (by omega), bnd_some, Decode_prog _ ((encF_lt hx2' (bs_lt _)).app hr8) (by simp; omega), bnd_some, dec_enc hx2' (bs_lt _), valid_prog f (by omega), bnd_some, hx2', sb_bs]
      have hsame : (⟨f.Kind, f.Value⟩ : T_Field) = f := rfl
      simp only [cond_true, hsame, sameF_self, bnd_some, iz_len, beq_self_eq_true, Bool.not_false]
    · rw [show decide ((r.length : Int) > 100) = true from decide_eq_true (by omega)]
      rfl
  · rw [show decide ((l.length : Int) ≤ 600) = false from decide_eq_false (by omega)]
    rfl

end Go.Proofs.YtfddmgagikeieaaDoor
