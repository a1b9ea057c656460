/-
  The laws of encodings: FieldsEncode.
  Conditions: none.
-/
import Derived.Test.YtfddmgagikeieaaDoorGenFieldsEncode
import Derived.Test.YtfddmgagikeieaaDoorFldB
import Derived.Test.YtfddmgagikeieaaDoorFldD
namespace Go.Proofs.YtfddmgagikeieaaDoor
open Go
set_option linter.unusedSimpArgs false
set_option linter.unusedVariables false

theorem enc_same (c : Bool) (l : List Nat) (hl : l.length ≤ 64) : m_ref01_Same (if c = true then (iz l, (0 : Int)) else ([], 1)).1 (if c = true then (iz l, (0 : Int)) else ([], 1)).1 = some true := by
  cases c
  · exact (same_nat [] [] (by decide)).trans rfl
  · rw [if_pos rfl, same_nat l l (by omega)]
    simp
theorem enc_len (k : Int) (v : List Nat) : validF k v = true → (encF k v).length ≤ 64 := encF_len

/-- One round of the law: the program's and the reference's answers are one. -/
theorem enc_round (f : T_Field) (h : f.Value.size ≤ 1000000) {ρ : Type} (k : Bool → Option ρ) (r : Option ρ) (hk : k false = r) :
    (bnd (m_fields_Encode f) fun r5 => bnd (m_ref02_Encode f) fun r6 => bnd ((bnd (m_fields_Valid f) fun r7 => bnd (m_ref02_Valid f) fun r8 => bif !(r7 == r8) then (some true) else (bif (r5.2 != r6.2) then (some true) else (bnd (m_ref01_Same r5.1 r6.1) fun r9 => some (!r9))) : Option Bool)) fun o2 => k o2) = r := by
  rw [Encode_prog f h, Encode_ref f h, valid_prog f h, valid_ref f h]
  simp only [bnd_some]
  have h1 : (!(validF f.Kind (bs f.Value) == validF f.Kind (bs f.Value))) = false := by simp
  have h3 : m_ref01_Same (if validF f.Kind (bs f.Value) = true then (iz (encF f.Kind (bs f.Value)), (0 : Int)) else ([], 1)).1 (if validF f.Kind (bs f.Value) = true then (iz (encF f.Kind (bs f.Value)), (0 : Int)) else ([], 1)).1 = some true := by
    cases hv : validF f.Kind (bs f.Value)
    · exact (same_nat [] [] (by decide)).trans rfl
    · rw [if_pos rfl, same_nat _ _ (by have := encF_len hv; omega)]
      simp
  rw [h1, cond_false, h3]
  simp only [bne_self_eq_false, cond_false, bnd_some, Bool.not_true]
  exact hk

theorem fieldsEncode_true (f : T_Field) (l : List Int) (hf : ok_T_Field f) (hl : okL (inK .i64) l) : m_law02_FieldsEncode f l = some true := by
  unfold m_law02_FieldsEncode
  simp only [light_ok, roll_ok, bnd_some, awake_ok]
  by_cases h1 : f.Value.size ≤ 400
  · rw [show decide ((f.Value.size : Int) > 400) = false from decide_eq_false (by omega), cond_false, bnd_some]
    by_cases h2 : l.length ≤ 600
    · rw [show decide ((l.length : Int) ≤ 600) = true from decide_eq_true (by omega)]
      simp only [Bool.not_true, cond_false]
      obtain ⟨x, hx, hx1, hx2⟩ := oddField_ex ⟨l, 0⟩ (roll_fair l h2)
      rw [hx, bnd_some]
      refine enc_round f (by omega) _ _ ?_
      simp only [cond_false]
      refine enc_round x.2 (by omega) _ _ ?_
      rfl
    · rw [show decide ((l.length : Int) ≤ 600) = false from decide_eq_false (by omega)]
      rfl
  · rw [show decide ((f.Value.size : Int) > 400) = true from decide_eq_true (by omega)]
    rfl

end Go.Proofs.YtfddmgagikeieaaDoor
