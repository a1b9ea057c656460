/-
  The law BankErases: the plain part.
  Conditions: none.
-/
import Derived.Test.YtcjhemblnemhfaaBank4
import Derived.Test.YtcjhemblnemhfaaGenBankErases
namespace Go.Proofs.Ytcjhemblnemhfaa
open Go
set_option linter.unusedSimpArgs false
set_option linter.unusedVariables false

theorem erases_true (codes : List Int) (h : okL (inK .u8) codes) : m_law29_BankErases codes = some true := by
  unfold m_law29_BankErases
  rw [awake_true]
  simp only [bnd_some, Bool.not_true, cond_false]
  obtain ⟨c, e1, hc⟩ := new_codes h (most := 100) (by omega) (by omega)
  rw [e1]
  simp only [bnd_some]
  obtain ⟨c1, d, e2, hc1, hi⟩ := device_ok hc psuN_ok
  have e2' : m_field_Codes_Device c (⟨#[112, 115, 117]⟩) = some (c1, d) := e2
  rw [e2']
  simp only [bnd_some, erase_prog hi.sm]
  by_cases hw : d.Running = d.Active ∧ d.Trial = false
  · obtain ⟨hr, ht⟩ := hw
    have hw0 := wr_of hi.vd hr ht
    have hE : eraseF d = (⟨d.Name, setS d.Slots (1 - d.Running) zeroSlot, d.Active, d.Running, d.Trial⟩, 0) := by
      unfold eraseF
      rw [hw0]
      rfl
    have hi2 := (erase_inv hi (by rw [hE])).1
    rw [hE] at hi2 ⊢
    have hb := hi.vd.br
    have hne : d.Running ≠ 1 - d.Running := by rcases hb with h | h <;> rw [h] <;> decide
    have hg0 : goodB zeroSlot d.Name = false := by
      cases hg : goodB zeroSlot d.Name
      · rfl
      · have := (right_spec (good_spec hg).1).2.2.1
        simp [zeroSlot, zeroI] at this
    have hsw : switchF ⟨d.Name, setS d.Slots (1 - d.Running) zeroSlot, d.Active, d.Running, d.Trial⟩ = (zeroD, 46) := by
      unfold switchF
      rw [wr_of hi2.vd hr ht]
      simp only [pick_set, hg0]
      rfl
    simp only [ht, hr, cond_false, bnd_some, bne_self_eq_false]
    rw [hr, ht] at hsw hi2
    rw [switch_prog (d := ⟨d.Name, setS d.Slots (1 - d.Active) zeroSlot, d.Active, d.Active, false⟩) hi2.sm, hsw]
    rw [hr] at hb hne
    simp only [bnd_some, flip hb, elt2 _ (bit_flip hb), elt2 _ hb, pick_set, pick_set_ne (bit_flip hb) hb hne, sameImage_refl]
    simp [zeroSlot, zeroI]
  · have hw1 := wr_ne hi.vd hw
    have hE : eraseF d = (zeroD, 46) := by
      unfold eraseF
      rw [hw1]
      rfl
    rw [hE]
    have ho : (bif d.Trial then some true else some (d.Running != d.Active) : Option Bool) = some true := by
      cases ht : d.Trial
      · have : d.Running ≠ d.Active := fun h => hw ⟨h, ht⟩
        simp [this]
      · rfl
    rw [ho]
    rfl

end Go.Proofs.Ytcjhemblnemhfaa
