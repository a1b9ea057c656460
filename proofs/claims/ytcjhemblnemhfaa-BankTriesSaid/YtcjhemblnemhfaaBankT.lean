/-
  The law BankTries: the plain part.
  Conditions: none.
-/
import Derived.Test.YtcjhemblnemhfaaBank4
import Derived.Test.YtcjhemblnemhfaaGenBankTries
namespace Go.Proofs.Ytcjhemblnemhfaa
open Go
set_option linter.unusedSimpArgs false
set_option linter.unusedVariables false

theorem tries_true (codes : List Int) (h : okL (inK .u8) codes) : m_law29_BankTries codes = some true := by
  unfold m_law29_BankTries
  rw [awake_true]
  simp only [bnd_some, Bool.not_true, cond_false]
  obtain ⟨c, e1, hc⟩ := new_codes h (most := 100) (by omega) (by omega)
  rw [e1]
  simp only [bnd_some]
  obtain ⟨c1, d, e2, hc1, hi⟩ := device_ok hc meN_ok
  have e2' : m_field_Codes_Device c (⟨#[109, 101]⟩) = some (c1, d) := e2
  rw [e2']
  simp only [bnd_some, switch_prog hi.sm]
  by_cases he : (switchF d).2 = 0
  · obtain ⟨hx, hw0, hgo, hX⟩ := switch_inv hi he
    obtain ⟨hv, hr, ht⟩ := wr_zero hw0
    have e : ((switchF d).2 != 0) = false := by simp [he]
    simp only [e, cond_false]
    have hb := hi.vd.br
    have hra : d.Active = d.Running := hr.symm
    rw [flip hb]
    simp only [elt2 _ hb, elt2 _ (bit_flip hb), bnd_some]
    rw [hX] at hx ⊢
    -- the next start
    have hY : bootF ⟨d.Name, d.Slots, d.Active, d.Running, true⟩ = ⟨d.Name, d.Slots, d.Active, 1 - d.Active, false⟩ := by
      unfold bootF
      rw [(valid_iff _).2 hx.vd]
      rfl
    have hy := boot_inv hx
    rw [boot_prog hx.sm, hY]
    rw [hY] at hy
    simp only [bnd_some]
    have hZ : bootF ⟨d.Name, d.Slots, d.Active, 1 - d.Active, false⟩ = ⟨d.Name, d.Slots, d.Active, d.Active, false⟩ := by
      unfold bootF
      rw [(valid_iff _).2 hy.vd]
      rfl
    have hz := boot_inv hy
    rw [boot_prog hy.sm, hZ]
    rw [hZ] at hz
    simp only [bnd_some]
    have hK : confirmF ⟨d.Name, d.Slots, d.Active, 1 - d.Active, false⟩ = (⟨d.Name, d.Slots, 1 - d.Active, 1 - d.Active, false⟩, 0) := by
      unfold confirmF
      rw [(valid_iff _).2 hy.vd]
      rfl
    have hk := confirm_inv hy (by rw [hK])
    rw [confirm_prog hy.sm, hK]
    rw [hK] at hk
    simp only [bnd_some]
    have hB : bootF ⟨d.Name, d.Slots, 1 - d.Active, 1 - d.Active, false⟩ = ⟨d.Name, d.Slots, 1 - d.Active, 1 - d.Active, false⟩ := by
      unfold bootF
      rw [(valid_iff _).2 hk.vd]
      rfl
    rw [boot_prog hk.sm, hB]
    simp only [bnd_some]
    rw [boot_prog hk.sm, hB]
    have hZ2 : bootF ⟨d.Name, d.Slots, d.Active, d.Active, false⟩ = ⟨d.Name, d.Slots, d.Active, d.Active, false⟩ := by
      unfold bootF
      rw [(valid_iff _).2 hz.vd]
      rfl
    simp only [bnd_some]
    rw [boot_prog hz.sm, hZ2, hra]
    rw [hra] at hZ2
    simp only [bnd_some, elt2 _ hb, elt2 _ (bit_flip hb), sameImage_refl, same_refl]
    rfl
  · have e : ((switchF d).2 != 0) = true := by simpa using he
    simp only [e, cond_true]

end Go.Proofs.Ytcjhemblnemhfaa
