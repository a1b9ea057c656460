/-
  More plain laws: searches, counts.
  Conditions: none.
-/
import Derived.Test.YthdpagcklakahaaPure1
namespace Go.Proofs.Ythdpagcklakahaa
open Go
set_option linter.unusedSimpArgs false
set_option linter.unusedVariables false

theorem find_from {α τ : Type} (p : α → Bool) (g : Nat → α → τ) : ∀ (l : List α) (k : Nat) (f : Nat → Option τ), (∀ i (h : i < l.length), f (k + i) = if p l[i] then some (g (k + i) l[i]) else none) →
    (∃ i, ∃ h : i < l.length, p l[i] = true ∧ l.find? p = some l[i] ∧ (List.range' k l.length).findSome? f = some (g (k + i) l[i])) ∨ (l.find? p = none ∧ (∀ x ∈ l, p x = false) ∧ (List.range' k l.length).findSome? f = none)
  | [], k, f, _ => .inr ⟨rfl, by simp, rfl⟩
  | x :: r, k, f, hf => by
    have h0 := hf 0 (by simp)
    simp only [Nat.add_zero, List.getElem_cons_zero] at h0
    cases hp : p x
    · have ih := find_from p g r (k + 1) f (fun i h => by
        have := hf (i + 1) (by simpa using h)
        simpa [Nat.add_assoc, Nat.add_comm 1 i] using this)
      simp only [hp, Bool.false_eq_true, if_false] at h0
      rcases ih with ⟨i, h, h1, h2, h3⟩ | ⟨h1, h2, h3⟩
      · refine .inl ⟨i + 1, by simpa using h, by simpa using h1, by simp [List.find?_cons, hp, h2], ?_⟩
        simp only [List.length_cons, List.range'_succ, List.findSome?_cons, h0, h3, List.getElem_cons_succ]
        congr 2
        omega
      · exact .inr ⟨by simp [List.find?_cons, hp, h1], by simpa [hp] using h2, by simp [List.range'_succ, List.findSome?_cons, h0, h3]⟩
    · refine .inl ⟨0, by simp, by simpa using hp, by simp [List.find?_cons, hp], ?_⟩
      simp only [hp, if_true] at h0
      simp [List.range'_succ, List.findSome?_cons, h0]

/-- A search through the elements of a list. -/
theorem find_range {α τ : Type} (l : List α) (p : α → Bool) (g : Nat → α → τ) (f : Nat → Option τ) (hf : ∀ i (h : i < l.length), f i = if p l[i] then some (g i l[i]) else none) :
    (∃ i, ∃ h : i < l.length, p l[i] = true ∧ l.find? p = some l[i] ∧ (List.range l.length).findSome? f = some (g i l[i])) ∨ (l.find? p = none ∧ (∀ x ∈ l, p x = false) ∧ (List.range l.length).findSome? f = none) := by
  have := find_from p g l 0 f (by simpa using hf)
  simpa [List.range_eq_range'] using this

/-- The first i + 1 elements. -/
theorem take_succ_get {α : Type} {l : List α} {i : Nat} (h : i < l.length) : l.take (i + 1) = l.take i ++ [l[i]] := by
  rw [List.take_add_one, List.getElem?_eq_getElem h]
  rfl

/-- A loop that keeps something and comes to an end. -/
theorem loop_inv {σ τ : Type} {m : σ → Option (Step σ τ)} (I : σ → Prop) (μ : σ → Nat) (Q : τ → Prop) (h : ∀ s, I s → (∃ s', m s = some (.next s') ∧ I s' ∧ μ s' < μ s) ∨ ∃ t, m s = some (.done t) ∧ Q t) : ∀ s, I s → ∃ t, loopM m s = some t ∧ Q t := by
  have : ∀ n s, μ s ≤ n → I s → ∃ t, loopM m s = some t ∧ Q t := by
    intro n
    induction n with
    | zero =>
      intro s hs hI
      rcases h s hI with ⟨s', _, _, hl⟩ | ⟨t, ht, hq⟩
      · omega
      · exact ⟨t, loop_done ht, hq⟩
    | succ n ih =>
      intro s hs hI
      rcases h s hI with ⟨s', hm, hI', hl⟩ | ⟨t, ht, hq⟩
      · obtain ⟨t, h1, h2⟩ := ih s' (by omega) hI'
        exact ⟨t, loop_next hm h1, h2⟩
      · exact ⟨t, loop_done ht, hq⟩
  exact fun s hI => this (μ s) s (Nat.le_refl _) hI

end Go.Proofs.Ythdpagcklakahaa
