/-
  The laws of the best field: FieldsBest.
  Conditions: none.
-/
import Derived.Test.YtfddmgagikeieaaDoorGenFieldsBest
import Derived.Test.YtfddmgagikeieaaDoorFldB
import Derived.Test.YtfddmgagikeieaaDoorFldD
namespace Go.Proofs.YtfddmgagikeieaaDoor
open Go
set_option linter.unusedSimpArgs false
set_option linter.unusedVariables false

theorem Best_ref (s : ByteArray) (h : s.size ≤ 1000000) : m_ref02_Best s = some (bestF s) := by
  unfold m_ref02_Best
  exact Best_ref' s h _ fun _ => rfl

theorem best_round (s : ByteArray) (h : s.size ≤ 1000000) {ρ : Type} (k : Bool → Option ρ) (r : Option ρ) (hk : k false = r) :
    (bnd (m_fields_Best s) fun r5 => bnd (m_ref02_Best s) fun r6 => bnd ((bif (r5.2 != r6.2) then (some true) else (bnd (m_ref02_Same r5.1 r6.1) fun r7 => some (!r7)) : Option Bool)) fun o2 => k o2) = r := by
  rw [Best_prog s h, Best_ref s h]
  simp only [bnd_some, sameF_self, bne_self_eq_false, cond_false, Bool.not_true]
  exact hk

theorem fieldsBest_true (s : ByteArray) (l : List Int) (hs : okS s) (hl : okL (inK .i64) l) : m_law02_FieldsBest s l = some true := by
  unfold m_law02_FieldsBest
  simp only [light_ok, roll_ok, bnd_some, awake_ok]
  by_cases h1 : s.size ≤ 300
  · rw [show decide ((s.size : Int) > 300) = false from decide_eq_false (by omega), cond_false, bnd_some]
    by_cases h2 : l.length ≤ 600
    · rw [show decide ((l.length : Int) ≤ 600) = true from decide_eq_true (by omega)]
      simp only [Bool.not_true, cond_false]
      obtain ⟨x, hx, hx1, hx2⟩ := oddField_ex ⟨l, 0⟩ (roll_fair l h2)
      rw [hx, bnd_some]
      refine best_round s (by omega) _ _ ?_
      simp only [cond_false]
      refine best_round x.2.Value (by omega) _ _ ?_
      rfl
    · rw [show decide ((l.length : Int) ≤ 600) = false from decide_eq_false (by omega)]
      rfl
  · rw [show decide ((s.size : Int) > 300) = true from decide_eq_true (by omega)]
    rfl

end Go.Proofs.YtfddmgagikeieaaDoor
