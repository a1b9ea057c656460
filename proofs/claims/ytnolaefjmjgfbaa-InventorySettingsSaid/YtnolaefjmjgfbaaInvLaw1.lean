/-
  The laws of inventories answer true: which are valid, and the differences of any two.
  Conditions: none.
-/
import Derived.Test.YtnolaefjmjgfbaaDice
namespace Go.Proofs.Ytnolaefjmjgfbaa
open Go
set_option linter.unusedSimpArgs false
set_option linter.unusedVariables false

theorem made_light (l : List Int) : m_made_Light l = some (decide (l.length ≤ 600)) := by
  unfold m_made_Light
  congr 1
  rw [Bool.eq_iff_iff]
  simp
  omega

def lightB (l : List T_Known) : Bool := decide (l.length ≤ 40) && !l.any fun k => decide ((k.Serial.size : Int) > 60)

theorem law_light (l : List T_Known) : m_law19_light l = some (lightB l) := by
  unfold m_law19_light lightB
  by_cases h : l.length ≤ 40
  · have h2 : ¬ ((l.length : Int) > 40) := by omega
    have hl : Short l := by unfold Short; omega
    simp only [h, h2, decide_true, decide_false, cond_false, Bool.true_and]
    have hk := loop_any (m := fun (s1 : Int) => bif decide (s1 < (l.length : Int)) then (bnd (elt l s1) fun x1 => bif decide ((x1.Serial.size : Int) > 60) then (some (.done (.inl false))) else (some (.next (IntKind.wrap .i64 (s1 + 1))))) else (some (.done (.inr ())))) (fun i => (i : Int)) l.length (fun i => match l[i]? with | some x => decide ((x.Serial.size : Int) > 60) | none => false) (u := (.inl false : Bool ⊕ Unit)) (t := .inr ()) (fun i hi => ?_) (by simp)
    · rw [show ((0 : Nat) : Int) = 0 from rfl] at hk
      rw [hk, any_range l (fun x => decide ((x.Serial.size : Int) > 60)) _ (fun i h => by rw [List.getElem?_eq_getElem h])]
      cases l.any fun x => decide ((x.Serial.size : Int) > 60) <;> rfl
    · have hi2 : (i : Int) < (l.length : Int) := by omega
      simp only [hi2, decide_true, cond_true, elt_lt hi, bnd_some, wrap_succ hi hl, List.getElem?_eq_getElem hi]
      cases decide ((l[i].Serial.size : Int) > 60) <;> rfl
  · have h2 : ((l.length : Int) > 40) := by omega
    simp [h, h2]

theorem short_of {α : Type} {l : List α} {n : Nat} (h : l.length ≤ n) (hn : n ≤ 140737488355328) : Short l := Nat.le_trans h hn

theorem awake_true : m_law19_awake = some true := by
  unfold m_law19_awake
  simp only [m_law19_known, bnd_some]
  rw [prog_Compare _ _ (by simp [Short]) (by simp [Short])]
  have e : (if validB [(⟨0, true, ⟨#[65]⟩, 0⟩ : T_Known), ⟨1, true, ⟨#[66]⟩, 0⟩] = true ∧ validB [(⟨0, true, ⟨#[66]⟩, 0⟩ : T_Known), ⟨2, true, ⟨#[65]⟩, 0⟩] = true then (diffs [(⟨0, true, ⟨#[65]⟩, 0⟩ : T_Known), ⟨1, true, ⟨#[66]⟩, 0⟩] [(⟨0, true, ⟨#[66]⟩, 0⟩ : T_Known), ⟨2, true, ⟨#[65]⟩, 0⟩] 16, (0 : Int)) else ([], 1)) = ([(⟨4, 0, 1⟩ : T_Difference), (⟨4, 2, 0⟩ : T_Difference)], 0) := by kernel_rfl
  rw [e]
  simp only [bnd_some, beq_self_eq_true, cond_true, same_refl _ (show Short [(⟨4, 0, 1⟩ : T_Difference), (⟨4, 2, 0⟩ : T_Difference)] by simp [Short])]

end Go.Proofs.Ytnolaefjmjgfbaa
