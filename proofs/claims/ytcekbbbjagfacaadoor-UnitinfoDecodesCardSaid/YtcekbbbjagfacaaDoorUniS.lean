/-
  Sameness of bytes and of fields.
  Conditions: none.
-/
import Derived.Test.YtcekbbbjagfacaaDoorFld3
namespace Go.Proofs.YtcekbbbjagfacaaDoor
open Go
set_option linter.unusedSimpArgs false
set_option linter.unusedVariables false

/-! ## Sameness -/

theorem same_nat (a b : List Nat) (hbig : a.length ≤ 140737488355328) : m_ref01_Same (iz a) (iz b) = some (decide (a = b)) := by
  unfold m_ref01_Same
  by_cases hl : a.length = b.length
  · have h0 : (((iz a).length : Int) != ((iz b).length : Int)) = false := by rw [iz_len, iz_len, hl]; simp
    rw [h0, cond_false]
    refine bnd_loop_any (fun i => (i : Int)) a.length (fun i => !decide (a[i]? = b[i]?)) (.inl false) (.inr ()) rfl (fun i hi => ?_) ?_ ?_
    · have h1 : decide ((i : Int) < ((iz a).length : Int)) = true := decide_eq_true (by rw [iz_len]; omega)
      rw [h1, cond_true]
      refine bnd_eq (elt_iz hi) ?_
      refine bnd_eq (elt_iz (by omega)) ?_
      rw [List.getElem?_eq_getElem hi, List.getElem?_eq_getElem (show i < b.length by omega), wrap_succ hi hbig]
      by_cases he : a[i] = b[i]
      · simp [he]
      · have : ((((a[i] : Nat) : Int)) != ((b[i] : Nat) : Int)) = true := by simp; omega
        rw [this, cond_true]
        simp [he]
    · have h1 : decide ((a.length : Int) < ((iz a).length : Int)) = false := decide_eq_false (by rw [iz_len]; omega)
      rw [h1, cond_false]
    · by_cases he : a = b
      · subst he
        have : (List.range a.length).any (fun i => !decide (a[i]? = a[i]?)) = false := by simp
        rw [this]
        simp [retOr_inr]
      · have : (List.range a.length).any (fun i => !decide (a[i]? = b[i]?)) = true := by
          rw [List.any_eq_true]
          have hne : ∃ i, i < a.length ∧ a[i]? ≠ b[i]? := by
            rcases Classical.em (∃ i, i < a.length ∧ a[i]? ≠ b[i]?) with h | h
            · exact h
            · exfalso
              apply he
              apply List.ext_getElem? fun i => ?_
              rcases Nat.lt_or_ge i a.length with g | g
              · rcases Classical.em (a[i]? = b[i]?) with e | e
                · exact e
                · exact absurd ⟨i, g, e⟩ h
              · rw [List.getElem?_eq_none g, List.getElem?_eq_none (by omega)]
          obtain ⟨i, hi, hne⟩ := hne
          exact ⟨i, List.mem_range.2 hi, by simpa using hne⟩
        rw [this]
        simp [retOr_inl, he]
  · have h0 : (((iz a).length : Int) != ((iz b).length : Int)) = true := by rw [iz_len, iz_len]; simp; omega
    rw [h0, cond_true]
    have : a ≠ b := fun e => hl (by rw [e])
    simp [this]


end Go.Proofs.YtcekbbbjagfacaaDoor
