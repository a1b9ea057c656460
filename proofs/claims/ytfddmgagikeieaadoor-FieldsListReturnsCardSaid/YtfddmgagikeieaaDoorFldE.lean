/-
  Lists of fields out of dice.
  Conditions: none.
-/
import Derived.Test.YtfddmgagikeieaaDoorGenFieldsListReturns
import Derived.Test.YtfddmgagikeieaaDoorFldD
namespace Go.Proofs.YtfddmgagikeieaaDoor
open Go
set_option linter.unusedSimpArgs false
set_option linter.unusedVariables false

/-- Valid fields, at most sixteen. -/
theorem fields_ex (d : T_Dice) (least : Int) (hd : Fair d) (h0 : 0 ≤ least) (h1 : least ≤ 100) : ∃ x, m_made_Dice_Fields d least = some x ∧ Fair x.1 ∧ x.2.length ≤ 16 ∧ (least ≤ 16 → least ≤ (x.2.length : Int)) ∧ ∀ f ∈ x.2, validF f.Kind (bs f.Value) = true := by
  unfold m_made_Dice_Fields
  refine bnd_ex (next_ex d 3 hd (by omega) (by omega)) fun a ⟨a1, a2, a3⟩ => ?_
  refine bnd_ex (P := fun o => Fair ⟨o.2.1, o.2.2⟩ ∧ 0 ≤ o.1 ∧ (least ≤ 16 → least ≤ o.1)) ?_ fun o ⟨o1, o2, o3⟩ => ?_
  · refine bnd_ex (bool_ex a.1 10 a1 (by omega) (by omega)) fun b b1 => ?_
    cases b.2
    · rw [cond_false, wrap_i64 (by omega) (by omega)]
      exact ⟨_, rfl, b1, by show 0 ≤ least + a.2; omega, fun _ => by show least ≤ least + a.2; omega⟩
    · rw [cond_true]
      exact ⟨_, rfl, b1, by show (0 : Int) ≤ 16; omega, fun h => by show least ≤ 16; omega⟩
  refine bnd_loop_inv (fun s => Fair ⟨s.2.2.1, s.2.2.2⟩ ∧ 0 ≤ s.2.1 ∧ s.2.1 ≤ min o.1 16 ∧ (s.1.length : Int) = s.2.1 ∧ ∀ f ∈ s.1, validF f.Kind (bs f.Value) = true) (fun s => (16 - s.2.1).toNat)
    (fun t => Fair ⟨t.2.1, t.2.2⟩ ∧ (t.1.length : Int) = min o.1 16 ∧ ∀ f ∈ t.1, validF f.Kind (bs f.Value) = true)
    ⟨o1, by simp, by show (0 : Int) ≤ min o.1 16; omega, rfl, fun f hf => by cases hf⟩ (fun s ⟨i1, i2, i3, i4, i5⟩ => ?_) (fun t ⟨t1, t2, t3⟩ => ⟨_, rfl, t1, by show t.1.length ≤ 16; omega, fun h => by have := o3 h; show least ≤ (t.1.length : Int); omega, t3⟩)
  by_cases hs : s.2.1 < min o.1 16
  · rw [decide_eq_true hs, cond_true]
    obtain ⟨x, hx, x1, x2⟩ := field_ex ⟨s.2.2.1, s.2.2.2⟩ i1
    rw [hx, bnd_some, app_eq (by simp; omega) (by simp; omega), bnd_some, wrap_i64 (by omega) (by omega)]
    refine .inl ⟨_, rfl, ⟨x1, by show 0 ≤ s.2.1 + 1; omega, by show s.2.1 + 1 ≤ min o.1 16; omega, ?_, ?_⟩, ?_⟩
    · show ((s.1 ++ [x.2]).length : Int) = s.2.1 + 1
      rw [List.length_append]
      simp only [List.length_cons, List.length_nil]
      omega
    · intro f hf
      rcases List.mem_append.1 hf with hf | hf
      · exact i5 f hf
      · rw [List.mem_singleton] at hf
        subst hf
        exact x2
    · show (16 - (s.2.1 + 1)).toNat < (16 - s.2.1).toNat
      omega
  · rw [decide_eq_false hs, cond_false]
    exact .inr ⟨_, rfl, i1, by show (s.1.length : Int) = min o.1 16; omega, i5⟩


end Go.Proofs.YtfddmgagikeieaaDoor
