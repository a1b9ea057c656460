/-
  The law BankPreserves: the plain part.
  Conditions: none.
-/
import Derived.Test.YtcjhemblnemhfaaBank4
import Derived.Test.YtcjhemblnemhfaaGenBankPreserves
namespace Go.Proofs.Ytcjhemblnemhfaa
open Go
set_option linter.unusedSimpArgs false
set_option linter.unusedVariables false

/-- The device runs the slot `x`, settled. -/
structure Holds (d : T_Device) (n : ByteArray) (x : T_Slot) : Prop where
  inv : Inv d n
  run : d.Running = d.Active
  tr : d.Trial = false
  slot : pickS d.Slots d.Running = x

theorem keep_set {d : T_Device} {n : ByteArray} {x : T_Slot} (h : Holds d n x) {y : T_Slot} (hy : small y.Image) : Holds ⟨d.Name, setS d.Slots (1 - d.Running) y, d.Active, d.Running, d.Trial⟩ n x := by
  have br := h.inv.vd.br
  have hne : d.Running ≠ 1 - d.Running := by rcases br with h | h <;> rw [h] <;> decide
  exact ⟨set_inv h.inv h.run h.tr hy, h.run, h.tr, (pick_set_ne (bit_flip br) br hne).trans h.slot⟩
theorem keep_boot {d : T_Device} {n : ByteArray} {x : T_Slot} (h : Holds d n x) : Holds (bootF d) n x := by
  have e : bootF d = d := by
    unfold bootF
    rw [(valid_iff _).2 h.inv.vd, h.tr]
    have h1 := h.run
    have h2 := h.tr
    obtain ⟨a, b, p, q, t⟩ := d
    simp only at h1 h2
    subst h1 h2
    rfl
  rw [e]
  exact h
theorem keep_write {d : T_Device} {n : ByteArray} {x : T_Slot} (h : Holds d n x) {i : T_Image} (hi : small i) {k : Int} (he : (writeF d i k).2 = 0) : Holds (writeF d i k).1 n x := by
  have hw := wr_of h.inv.vd h.run h.tr
  unfold writeF at *
  rw [hw] at he ⊢
  cases ho : writeOk d i k
  · rw [ho] at he; cases he
  · refine keep_set h ?_
    unfold small at *
    simp
    omega
theorem keep_spoil {d : T_Device} {n : ByteArray} {x : T_Slot} (h : Holds d n x) {i : T_Image} (hi : small i) (s : Int) : Holds (spoilF d i s) n x := by
  unfold spoilF
  rw [wr_of h.inv.vd h.run h.tr]
  exact keep_boot (keep_set h hi)

theorem preserves_true (codes : List Int) (sum : Int) (h : okL (inK .u8) codes) (hs : inK .u32 sum) : m_law29_BankPreserves codes sum = some true := by
  unfold m_law29_BankPreserves
  rw [awake_true]
  simp only [bnd_some, Bool.not_true, cond_false]
  obtain ⟨c, e1, hc⟩ := new_codes h (most := 160) (by omega) (by omega)
  rw [e1]
  simp only [bnd_some]
  obtain ⟨c1, d0, e2, hc1, hi0⟩ := device_ok hc biosN_ok
  have e2' : m_field_Codes_Device c (⟨#[98, 105, 111, 115]⟩) = some (c1, d0) := e2
  rw [e2']
  simp only [bnd_some]
  obtain ⟨t, ht, d, rfl, hi, hr, htr⟩ := loop_inv (τ := Bool ⊕ T_Device) (m := (fun (s1 : T_Device) => bnd ((bif s1.Trial then (some true) else (some (s1.Running != s1.Active)) : Option Bool)) fun o3 => bif o3 then (bnd (m_bank_Boot s1) fun r4 => bnd (m_bank_Valid r4) fun r5 => bif !r5 then (some (.done (.inl false))) else (bif (r4.Running != r4.Active) then (bnd (m_bank_Boot r4) fun r6 => some (.done (.inr r6))) else (some (.next r4)))) else (some (.done (.inr s1)))))
    (fun d => Inv d biosN) (fun d => if d.Trial = false ∧ d.Running = d.Active then 0 else 1) (fun t => ∃ d, t = .inr d ∧ Inv d biosN ∧ d.Running = d.Active ∧ d.Trial = false) (fun d hi => by
      by_cases hq : d.Trial = false ∧ d.Running = d.Active
      · right
        obtain ⟨h1, h2⟩ := hq
        simp only [h1, h2, cond_false, bnd_some, bne_self_eq_false]
        exact ⟨_, rfl, _, rfl, hi, h2, h1⟩
      · have ho : (bif d.Trial then (some true) else (some (d.Running != d.Active)) : Option Bool) = some true := by
          cases h1 : d.Trial
          · have : d.Running ≠ d.Active := fun h2 => hq ⟨h1, h2⟩
            simp [this]
          · rfl
        have hb := boot_inv hi
        simp only [ho, bnd_some, cond_true, boot_prog hi.sm, prog_dvalid, (valid_iff _).2 hb.vd, Bool.not_true, cond_false]
        have hB : bootF d = bif d.Trial then ⟨d.Name, d.Slots, d.Active, 1 - d.Active, false⟩ else ⟨d.Name, d.Slots, d.Active, d.Active, d.Trial⟩ := by
          unfold bootF
          rw [(valid_iff _).2 hi.vd]
          rfl
        cases ht : d.Trial
        · left
          rw [ht] at hB
          have e : ((bootF d).Running != (bootF d).Active) = false := by rw [hB]; simp
          rw [e]
          refine ⟨_, rfl, hb, ?_⟩
          have i1 : ¬ ((false : Bool) = false ∧ d.Running = d.Active) := fun hh => hq ⟨ht, hh.2⟩
          have i2 : (bootF d).Trial = false ∧ (bootF d).Running = (bootF d).Active := by rw [hB]; exact ⟨rfl, rfl⟩
          rw [if_neg i1, if_pos i2]
          exact Nat.zero_lt_one
        · right
          rw [ht] at hB
          have hne : 1 - d.Active ≠ d.Active := by rcases hi.vd.ba with h | h <;> rw [h] <;> decide
          have e : ((bootF d).Running != (bootF d).Active) = true := by rw [hB]; simpa using hne
          rw [e, boot_prog hb.sm]
          have hC : bootF (bootF d) = ⟨d.Name, d.Slots, d.Active, d.Active, false⟩ := by
            unfold bootF at hb ⊢
            rw [(valid_iff _).2 hi.vd, ht] at hb ⊢
            simp only [cond_true] at hb ⊢
            rw [(valid_iff _).2 hb.vd]
            rfl
          have hb2 := boot_inv hb
          rw [hC] at hb2 ⊢
          exact ⟨_, rfl, _, rfl, hb2, rfl, rfl⟩) d0 hi0
  rw [ht]
  have hbr := hi.vd.br
  simp only [bnd_some, retOr_inr, elt2 _ hbr]
  generalize hx : pickS d.Slots d.Running = x
  obtain ⟨t, ht, o, rfl⟩ := loop_inv (τ := Bool ⊕ (T_Device × List Int × Int)) (m := (fun (s2 : T_Device × Int × List Int × Int) => bif decide (s2.2.1 < 6) then (bnd (m_field_Codes_Image (⟨s2.2.2.1, s2.2.2.2⟩ : T_Codes) (⟨#[98, 105, 111, 115]⟩)) fun r7 => bnd (m_field_Codes_Next r7.1 6) fun r8 => bnd (m_bank_Write s2.1 r7.2 r8.2) fun r9 => bnd ((bif (r9.2 == 0) then (some r9.1) else (some s2.1) : Option T_Device)) fun o6 => bnd ((bnd (m_field_Codes_Next r8.1 3) fun r10 => bif (r10.2 == 2) then (bnd (m_field_Codes_Image r10.1 (⟨#[112, 115, 117]⟩)) fun r11 => bnd (m_bank_Spoil o6 r11.2 sum) fun r12 => some (r11.1.L, r11.1.At, r12)) else (some (r10.1.L, r10.1.At, o6)) : Option (List Int × Int × T_Device))) fun o7 => bnd ((bif (o7.2.2.Running != o7.2.2.Active) then (some true) else (bif decide (o7.2.2.Running < 0) then (some true) else (bif decide (o7.2.2.Running > 1) then (some true) else (bnd (elt [o7.2.2.Slots.e0, o7.2.2.Slots.e1] o7.2.2.Running) fun x2 => bif (x2.Sum != x.Sum) then (some true) else (bnd (m_ref28_SameImage x2.Image x.Image) fun r13 => some (!r13))))) : Option Bool)) fun o8 => bif o8 then (some (.done (.inl false))) else (some (.next (o7.2.2, IntKind.wrap .i64 (s2.2.1 + 1), o7.1, o7.2.1)))) else (some (.done (.inr (s2.1, s2.2.2.1, s2.2.2.2))))))
    (fun s => CodesOk ⟨s.2.2.1, s.2.2.2⟩ ∧ 0 ≤ s.2.1 ∧ s.2.1 ≤ 6 ∧ Holds s.1 biosN x) (fun s => (6 - s.2.1).toNat) (fun t => ∃ o, t = .inr o) (fun s hs => by
      obtain ⟨d, k, L, At⟩ := s
      obtain ⟨g1, g2, g3, g4⟩ := hs
      simp only at g1 g2 g3 g4
      by_cases hk : k < 6
      · left
        have dk : decide (k < 6) = true := by simpa using hk
        obtain ⟨c4, i, e4, hc4, hil, _⟩ := image_ok g1 (⟨#[98, 105, 111, 115]⟩)
        obtain ⟨c5, z, e5, hc5, _, _⟩ := next_ok hc4 6
        have his : small i := by unfold small; omega
        have hw3 : IntKind.wrap .i64 (k + 1) = k + 1 := wrap_i64 (by omega) (by omega)
        simp only [dk, cond_true, e4, bnd_some, e5, write_prog g4.inv.sm his, hw3]
        have ho6 : ∃ d6, (bif ((writeF d i z).2 == 0) then (some (writeF d i z).1) else (some d) : Option T_Device) = some d6 ∧ Holds d6 biosN x := by
          by_cases he : (writeF d i z).2 = 0
          · have e : ((writeF d i z).2 == 0) = true := by simpa using he
            rw [e]
            exact ⟨_, rfl, keep_write g4 his he⟩
          · have e : ((writeF d i z).2 == 0) = false := by simpa using he
            rw [e]
            exact ⟨_, rfl, g4⟩
        obtain ⟨d6, e6, k6⟩ := ho6
        rw [e6]
        simp only [bnd_some]
        obtain ⟨c7, y, e7, hc7, _, _⟩ := next_ok hc5 3
        rw [e7]
        simp only [bnd_some]
        have ho7 : ∃ c8 d8, (bif (y == 2) then (bnd (m_field_Codes_Image c7 (⟨#[112, 115, 117]⟩)) fun r11 => bnd (m_bank_Spoil d6 r11.2 sum) fun r12 => some (r11.1.L, r11.1.At, r12)) else (some (c7.L, c7.At, d6)) : Option (List Int × Int × T_Device)) = some (c8.L, c8.At, d8) ∧ CodesOk c8 ∧ Holds d8 biosN x := by
          cases (y == 2)
          · exact ⟨c7, d6, rfl, hc7, k6⟩
          · obtain ⟨c8, j, e8, hc8, hjl, _⟩ := image_ok hc7 (⟨#[112, 115, 117]⟩)
            have hjs : small j := by unfold small; omega
            simp only [cond_true, e8, bnd_some, spoil_prog k6.inv.sm hjs]
            exact ⟨c8, _, rfl, hc8, keep_spoil k6 hjs _⟩
        obtain ⟨c8, d8, e8, hc8, k8⟩ := ho7
        rw [e8]
        have hb := k8.inv.vd.br
        have q0 : decide (d8.Running < 0) = false := by rcases hb with h | h <;> rw [h] <;> rfl
        have q1 : decide (d8.Running > 1) = false := by rcases hb with h | h <;> rw [h] <;> rfl
        have q2 : (d8.Running != d8.Active) = false := by rw [k8.run]; simp
        simp only [bnd_some, q0, q1, q2, cond_false, elt2 _ hb, k8.slot, bne_self_eq_false, sameImage_refl, Bool.not_true]
        exact ⟨_, rfl, ⟨hc8, by simp only; omega, by simp only; omega, k8⟩, by simp only; omega⟩
      · right
        have dk : decide (k < 6) = false := by simpa using hk
        simp only [dk, cond_false]
        exact ⟨_, rfl, _, rfl⟩) (d, 0, c1.L, c1.At) ⟨hc1, by simp only; omega, by simp only; omega, ⟨hi, hr, htr, hx⟩⟩
  rw [ht]
  rfl

end Go.Proofs.Ytcjhemblnemhfaa
