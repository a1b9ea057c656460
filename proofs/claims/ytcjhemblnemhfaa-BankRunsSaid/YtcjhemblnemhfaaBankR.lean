/-
  The law BankRuns: the plain part.
  Conditions: none.
-/
import Derived.Test.YtcjhemblnemhfaaBank4
import Derived.Test.YtcjhemblnemhfaaGenBankRuns
namespace Go.Proofs.Ytcjhemblnemhfaa
open Go
set_option linter.unusedSimpArgs false
set_option linter.unusedVariables false

theorem guard2 (e : Int) (c : T_Codes) (d d' : T_Device) : (bif (e != 0) then some (c, d) else some (c, d') : Option (T_Codes × T_Device)) = some (c, if e = 0 then d' else d) := by
  by_cases h : e = 0
  · simp [h]
  · have : (e != 0) = true := by simpa using h
    rw [this, if_neg h]
    rfl

theorem step_ok {c : T_Codes} (hc : CodesOk c) {d : T_Device} {n : ByteArray} (h : Inv d n) : ∃ c' d', m_law29_step c d = some (c', d') ∧ CodesOk c' ∧ Inv d' n := by
  unfold m_law29_step
  obtain ⟨c1, x1, e1, hc1, _, _⟩ := next_ok hc 5
  rw [e1]
  simp only [bnd_some]
  obtain ⟨c2, x2, e2, hc2, _, _⟩ := next_ok hc1 256
  rw [e2]
  simp only [bnd_some]
  obtain ⟨c3, x3, e3, hc3, _, _⟩ := next_ok hc2 9
  rw [e3]
  simp only [bnd_some]
  have hsm : small (⟨d.Name, (⟨IntKind.wrap .i64 (1 + x1), 0, 0⟩ : T_Version), [IntKind.wrap .u8 x2, 1]⟩ : T_Image) := by unfold small; simp
  have pick : ∀ (e : Int) (d' : T_Device) (c' : T_Codes), CodesOk c' → (e = 0 → Inv d' n) → ∃ c2 d2, (bif (e != 0) then some (c', d) else some (c', d') : Option (T_Codes × T_Device)) = some (c2, d2) ∧ CodesOk c2 ∧ Inv d2 n := fun e d' c' hc' hi => by
    rw [guard2]
    refine ⟨_, _, rfl, hc', ?_⟩
    by_cases he : e = 0
    · rw [if_pos he]; exact hi he
    · rw [if_neg he]; exact h
  cases (x3 == 0)
  · simp only [cond_false]
    cases (x3 == 1)
    · simp only [cond_false]
      cases h2 : (x3 == 2)
      · simp only [cond_false, bnd_some]
        cases (x3 == 3)
        · simp only [cond_false]
          cases (x3 == 4)
          · simp only [cond_false]
            cases (x3 == 5)
            · simp only [cond_false]
              cases (x3 == 6)
              · simp only [cond_false]
                cases h7 : (x3 == 7)
                · simp only [cond_false, bnd_some]
                  cases (x3 == 8)
                  · exact ⟨_, _, rfl, hc3, h⟩
                  · simp only [cond_true, boot_prog h.sm, bnd_some]
                    exact ⟨_, _, rfl, hc3, boot_inv h⟩
                · simp only [cond_true, boot_prog h.sm, bnd_some]
                  exact ⟨_, _, rfl, hc3, boot_inv h⟩
              · simp only [cond_true]
                obtain ⟨c4, i, e4, hc4, hil, _⟩ := image_ok hc3 (⟨#[109, 101]⟩)
                rw [e4]
                simp only [bnd_some]
                obtain ⟨c5, z, e5, hc5, _, _⟩ := next_ok hc4 9
                rw [e5]
                have his : small i := by unfold small; omega
                simp only [bnd_some, spoil_prog h.sm his]
                exact ⟨_, _, rfl, hc5, spoil_inv h his _⟩
            · simp only [cond_true, confirm_prog h.sm, bnd_some]
              exact pick _ _ _ hc3 fun he => confirm_inv h he
          · simp only [cond_true, switch_prog h.sm, bnd_some]
            exact pick _ _ _ hc3 fun he => (switch_inv h he).1
        · simp only [cond_true, write_prog h.sm hsm, bnd_some]
          generalize hw : writeF d (⟨d.Name, (⟨IntKind.wrap .i64 (1 + x1), 0, 0⟩ : T_Version), [IntKind.wrap .u8 x2, 1]⟩ : T_Image) 2 = w
          by_cases he : w.2 = 0
          · have e : (w.2 == 0) = true := by simpa using he
            have hi := write_inv h hsm (k := 2) (by rw [hw]; exact he)
            rw [hw] at hi
            simp only [e, cond_true, sum_prog, bnd_some, finish_prog hi.sm]
            exact pick _ _ _ hc3 fun he => finish_inv hi he
          · have e : (w.2 == 0) = false := by simpa using he
            rw [e]
            exact pick _ _ _ hc3 fun h0 => absurd h0 he
      · simp only [cond_true, bnd_some]
        simp only [cond_true, write_prog h.sm hsm, bnd_some]
        generalize hw : writeF d (⟨d.Name, (⟨IntKind.wrap .i64 (1 + x1), 0, 0⟩ : T_Version), [IntKind.wrap .u8 x2, 1]⟩ : T_Image) 2 = w
        by_cases he : w.2 = 0
        · have e : (w.2 == 0) = true := by simpa using he
          have hi := write_inv h hsm (k := 2) (by rw [hw]; exact he)
          rw [hw] at hi
          simp only [e, cond_true, sum_prog, bnd_some, finish_prog hi.sm]
          exact pick _ _ _ hc3 fun he => finish_inv hi he
        · have e : (w.2 == 0) = false := by simpa using he
          rw [e]
          exact pick _ _ _ hc3 fun h0 => absurd h0 he
    · simp only [cond_true]
      obtain ⟨c4, z, e4, hc4, _, _⟩ := next_ok hc3 3
      rw [e4]
      simp only [bnd_some, write_prog h.sm hsm]
      exact pick _ _ _ hc4 fun he => write_inv h hsm he
  · simp only [cond_true, erase_prog h.sm, bnd_some]
    exact pick _ _ _ hc3 fun he => (erase_inv h he).1

theorem runs_true (codes : List Int) (h : okL (inK .u8) codes) : m_law29_BankRuns codes = some true := by
  unfold m_law29_BankRuns
  rw [awake_true]
  simp only [bnd_some, Bool.not_true, cond_false]
  obtain ⟨c, e1, hc⟩ := new_codes h (most := 200) (by omega) (by omega)
  rw [e1]
  simp only [bnd_some]
  have s1 : small (bi 1 1) := small_right bi1
  obtain ⟨hi, h2, h3⟩ := new_inv bi1
  have n1 : m_bank_New (⟨⟨#[98, 105, 111, 115]⟩, (⟨1, 0, 0⟩ : T_Version), [1]⟩ : T_Image) = some (newF (bi 1 1)) := new_prog (i := bi 1 1) s1
  rw [n1]
  simp only [bnd_some, h2, bne_self_eq_false, cond_false]
  obtain ⟨t, ht, hQ⟩ := loop_inv (τ := Bool ⊕ (T_Device × List Int × Int)) (m := (fun (s1 : T_Device × Int × List Int × Int) => bif decide (s1.2.1 < 30) then (bnd (m_law29_step (⟨s1.2.2.1, s1.2.2.2⟩ : T_Codes) s1.1) fun r4 => bnd ((bnd (m_bank_Valid r4.2) fun r5 => bif !r5 then (some true) else (bif decide (r4.2.Running < 0) then (some true) else (bif decide (r4.2.Running > 1) then (some true) else (bnd (elt [r4.2.Slots.e0, r4.2.Slots.e1] r4.2.Running) fun x1 => bnd (m_bank_Whole x1) fun r6 => bif !r6 then (some true) else (bif !(x1.Image.Name.toList == ((⟨#[98, 105, 111, 115]⟩) : ByteArray).toList) then (some true) else (bnd (m_bank_Version r4.2) fun r7 => some (!((r7.Major == x1.Image.Version.Major) && ((r7.Minor == x1.Image.Version.Minor) && ((r7.Patch == x1.Image.Version.Patch) && true))))))))) : Option Bool)) fun o3 => bif o3 then (some (.done (.inl false))) else (some (.next (r4.2, IntKind.wrap .i64 (s1.2.1 + 1), r4.1.L, r4.1.At)))) else (some (.done (.inr (s1.1, s1.2.2.1, s1.2.2.2))))))
    (fun s => CodesOk ⟨s.2.2.1, s.2.2.2⟩ ∧ 0 ≤ s.2.1 ∧ s.2.1 ≤ 30 ∧ Inv s.1 biosN) (fun s => (30 - s.2.1).toNat) (fun t => ∃ o, t = .inr o) (fun s hs => by
      obtain ⟨d, k, L, At⟩ := s
      obtain ⟨g1, g2, g3, g4⟩ := hs
      simp only at g1 g2 g3 g4
      by_cases hk : k < 30
      · left
        have dk : decide (k < 30) = true := by simpa using hk
        obtain ⟨c4, d', e4, hc4, hi'⟩ := step_ok g1 g4
        have hw3 : IntKind.wrap .i64 (k + 1) = k + 1 := wrap_i64 (by omega) (by omega)
        have hv : validB d' = true := (valid_iff _).2 hi'.vd
        have hb := hi'.vd.br
        have d0 : decide (d'.Running < 0) = false := by rcases hb with h | h <;> rw [h] <;> rfl
        have d1 : decide (d'.Running > 1) = false := by rcases hb with h | h <;> rw [h] <;> rfl
        have hg := hi'.vd.gr
        have hwh : wholeB (pickS d'.Slots d'.Running) = true := by
          have := hg
          simp only [goodB, Bool.and_eq_true] at this
          exact this.1
        have hnm : (pickS d'.Slots d'.Running).Image.Name = (⟨#[98, 105, 111, 115]⟩ : ByteArray) := (good_spec hg).2.2.trans hi'.nm
        have hve : versionF d' = (pickS d'.Slots d'.Running).Image.Version := by
          unfold versionF
          rw [hv]
          rfl
        simp only [dk, cond_true, e4, bnd_some, hw3, prog_dvalid, hv, d0, d1, Bool.not_true, cond_false, elt2 _ hb, whole_prog, hwh, hnm, beq_self_eq_true, version_prog, hve, Bool.and_true]
        exact ⟨_, rfl, ⟨hc4, by simp only; omega, by simp only; omega, hi'⟩, by simp only; omega⟩
      · right
        have dk : decide (k < 30) = false := by simpa using hk
        simp only [dk, cond_false]
        exact ⟨_, rfl, _, rfl⟩) ((newF (bi 1 1)).1, 0, c.L, c.At) ⟨hc, by simp only; omega, by simp only; omega, hi⟩
  rw [ht]
  obtain ⟨o, rfl⟩ := hQ
  rfl

end Go.Proofs.Ytcjhemblnemhfaa
