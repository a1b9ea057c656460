/-
  The law BankAnswers: the plain part.
  Conditions: none.
-/
import Derived.Test.YtcjhemblnemhfaaBank4
import Derived.Test.YtcjhemblnemhfaaGenBankAnswers
namespace Go.Proofs.Ytcjhemblnemhfaa
open Go
set_option linter.unusedSimpArgs false
set_option linter.unusedVariables false

theorem elt_ok {α : Type} {l : List α} {x : Int} (h0 : 0 ≤ x) (h1 : x < (l.length : Int)) : ∃ y, elt l x = some y ∧ y ∈ l := by
  obtain ⟨k, rfl⟩ : ∃ k : Nat, x = (k : Int) := ⟨x.toNat, by omega⟩
  have hk : k < l.length := by omega
  exact ⟨_, elt_lt hk, List.getElem_mem hk⟩

theorem next_in {c : T_Codes} (h : CodesOk c) {n : Int} (hn : 1 ≤ n) : ∃ c' x, m_field_Codes_Next c n = some (c', x) ∧ CodesOk c' ∧ 0 ≤ x ∧ x < n := by
  obtain ⟨c', x, e, hc, x0, x1⟩ := next_ok h n
  exact ⟨c', x, e, hc, x0, by omega⟩

theorem rname_ok {c : T_Codes} (h : CodesOk c) : ∃ c' s, m_field_Codes_Name c = some (c', s) ∧ CodesOk c' := by
  unfold m_field_Codes_Name m_field_names
  obtain ⟨c1, x, e1, hc1, x0, x1⟩ := next_in h (n := 24) (by omega)
  rw [e1]
  simp only [bnd_some]
  obtain ⟨c2, y, e2, hc2, y0, y1⟩ := next_in hc1 (n := 6) (by omega)
  simp only [e2, bnd_some]
  obtain ⟨z, ez, _⟩ := elt_ok (l := ([⟨#[]⟩, ⟨#[66, 105, 111, 115]⟩, ⟨#[49, 97]⟩, ⟨#[97, 95, 98]⟩, ⟨#[97, 98, 99, 100, 101, 102, 103, 104, 105, 106, 107, 108, 109, 110, 111, 112, 113]⟩, ⟨#[45, 97]⟩] : List ByteArray)) y0 y1
  obtain ⟨w, ew, _⟩ := elt_ok (l := ([⟨#[98, 105, 111, 115]⟩, ⟨#[99, 112, 108, 100]⟩, ⟨#[109, 101]⟩, ⟨#[112, 115, 117]⟩, ⟨#[120, 45, 49]⟩, ⟨#[122, 122]⟩] : List ByteArray)) y0 y1
  rw [ez, ew]
  cases (x == 23) <;> exact ⟨_, _, rfl, hc2⟩

theorem odd_ok {c : T_Codes} (hc : CodesOk c) {d : T_Device} (h : smallD d) : ∃ c' d', m_law29_odd c d = some (c', d') ∧ CodesOk c' ∧ smallD d' := by
  unfold m_law29_odd
  rw [copy_ref h]
  simp only [bnd_some]
  obtain ⟨c1, x, e1, hc1, x0, x1⟩ := next_in hc (n := 6) (by omega)
  rw [e1]
  simp only [bnd_some]
  cases (x == 0)
  · simp only [cond_false]
    cases (x == 1)
    · simp only [cond_false]
      cases (x == 2)
      · simp only [cond_false]
        cases (x == 3)
        · simp only [cond_false]
          cases (x == 4)
          · simp only [cond_false]
            cases (x == 5)
            · exact ⟨_, _, rfl, hc1, h⟩
            · simp only [cond_true]
              obtain ⟨c2, y, e2, hc2, y0, y1⟩ := next_in hc1 (n := 2) (by omega)
              rw [e2]
              simp only [bnd_some]
              obtain ⟨c3, i, e3, hc3, hil, _⟩ := image_ok hc2 d.Name
              have hy : bit y := by unfold bit; omega
              rw [e3]
              simp only [bnd_some, elt2 _ hy, set2 _ _ hy]
              have his : small i := by unfold small; omega
              exact ⟨_, _, rfl, hc3, smallD_set h his⟩
          · simp only [cond_true]
            obtain ⟨c2, s, e2, hc2⟩ := rname_ok hc1
            rw [e2]
            exact ⟨_, _, rfl, hc2, h⟩
        · simp only [cond_true]
          obtain ⟨c2, y, e2, hc2, y0, y1⟩ := next_in hc1 (n := 2) (by omega)
          have hy : bit y := by unfold bit; omega
          simp only [e2, bnd_some, elt2 _ hy, set2 _ _ hy]
          exact ⟨_, _, rfl, hc2, smallD_set h (small_pick h _)⟩
      · exact ⟨_, _, rfl, hc1, h⟩
    · simp only [cond_true]
      obtain ⟨c2, y, e2, hc2, y0, y1⟩ := next_in hc1 (n := 3) (by omega)
      obtain ⟨w, ew, _⟩ := elt_ok (l := [IntKind.wrap .i64 (1 - d.Running), 2, (-1)]) y0 y1
      simp only [e2, bnd_some, ew]
      exact ⟨_, _, rfl, hc2, h⟩
  · simp only [cond_true]
    obtain ⟨c2, y, e2, hc2, y0, y1⟩ := next_in hc1 (n := 3) (by omega)
    obtain ⟨w, ew, _⟩ := elt_ok (l := [IntKind.wrap .i64 (1 - d.Active), 2, (-1)]) y0 y1
    simp only [e2, bnd_some, ew]
    exact ⟨_, _, rfl, hc2, h⟩

theorem version_ref (d : T_Device) : m_ref29_Version d = some (versionF d) := by
  unfold m_ref29_Version versionF
  simp only [ref_dvalid, bnd_some]
  cases hv : validB d
  · rfl
  · have hb := ((valid_iff d).1 hv).br
    simp only [Bool.not_true, cond_false, cond_true, elt2 _ hb, bnd_some]

theorem simple_ok {d : T_Device} (h : smallD d) : m_law29_simple d = some true := by
  unfold m_law29_simple
  simp only [erase_prog h, erase_ref h, switch_prog h, switch_ref h, confirm_prog h, confirm_ref h, bnd_some, beq_self_eq_true, same_refl, cond_true]

theorem answers_true (codes : List Int) (raw : T_Device) (i : T_Image) (n sum : Int) (h : okL (inK .u8) codes) (_ : ok_T_Device raw) (_ : ok_T_Image i) (_ : inK .i64 n) (_ : inK .u32 sum) : m_law29_BankAnswers codes raw i n sum = some true := by
  unfold m_law29_BankAnswers
  rw [awake_true]
  simp only [bnd_some, Bool.not_true, cond_false]
  by_cases hbig : (i.Data.length : Int) > 600 ∨ (raw.Slots.e0.Image.Data.length : Int) > 600 ∨ (raw.Slots.e1.Image.Data.length : Int) > 600
  · have ho : (bif decide ((i.Data.length : Int) > 600) then (some true) else (bif decide ((raw.Slots.e0.Image.Data.length : Int) > 600) then (some true) else (some (decide ((raw.Slots.e1.Image.Data.length : Int) > 600)))) : Option Bool) = some true := by
      by_cases g1 : (i.Data.length : Int) > 600
      · simp only [g1, decide_true, cond_true]
      by_cases g2 : (raw.Slots.e0.Image.Data.length : Int) > 600
      · simp only [g1, g2, decide_true, decide_false, cond_true, cond_false]
      have g3 : (raw.Slots.e1.Image.Data.length : Int) > 600 := by
        rcases hbig with g | g | g
        · exact absurd g g1
        · exact absurd g g2
        · exact g
      simp only [g1, g2, g3, decide_true, decide_false, cond_true, cond_false]
    rw [ho]
    rfl
  have g1 : ¬ (i.Data.length : Int) > 600 := fun g => hbig (.inl g)
  have g2 : ¬ (raw.Slots.e0.Image.Data.length : Int) > 600 := fun g => hbig (.inr (.inl g))
  have g3 : ¬ (raw.Slots.e1.Image.Data.length : Int) > 600 := fun g => hbig (.inr (.inr g))
  simp only [g1, g2, g3, decide_false, cond_false, bnd_some]
  have hsi : small i := by unfold small; omega
  have hsr : smallD raw := ⟨by unfold small; omega, by unfold small; omega⟩
  obtain ⟨c, e1, hc⟩ := new_codes h (most := 160) (by omega) (by omega)
  rw [e1]
  simp only [bnd_some]
  obtain ⟨c1, x, e2, hc1, x0, x1⟩ := next_in hc (n := 2) (by omega)
  rw [e2]
  simp only [bnd_some]
  obtain ⟨nm, en, hnm⟩ := elt_ok (l := ([⟨#[98, 105, 111, 115]⟩, ⟨#[109, 101]⟩] : List ByteArray)) x0 x1
  have hn : nameB nm = true := by
    rcases List.mem_cons.1 hnm with h | h
    · rw [h]; exact biosN_ok
    · rcases List.mem_cons.1 h with h | h
      · rw [h]; exact meN_ok
      · cases h
  rw [en]
  simp only [bnd_some]
  obtain ⟨c2, d, e3, hc2, hi⟩ := device_ok hc1 hn
  rw [e3]
  simp only [bnd_some]
  obtain ⟨c3, j, e4, hc3, hjl, _⟩ := image_ok hc2 d.Name
  have hsj : small j := by unfold small; omega
  rw [e4]
  simp only [bnd_some]
  obtain ⟨c4, o, e5, hc4, hso⟩ := odd_ok hc3 hi.sm
  rw [e5]
  simp only [bnd_some]
  obtain ⟨t, ht, u, rfl⟩ := loop_inv (τ := Bool ⊕ (List Int × Int)) (m := (fun (s1 : Int × List Int × Int) => bif decide (s1.1 < ((3 : Nat) : Int)) then (bnd (elt ([d, o, raw]) s1.1) fun x2 => bnd (m_field_Codes_Next (⟨s1.2.1, s1.2.2⟩ : T_Codes) (IntKind.wrap .i64 ((j.Data.length : Int) + 2))) fun r7 => bnd (m_ref28_Sum x2.Slots.e0.Image) fun r8 => bnd (m_ref28_Sum x2.Slots.e1.Image) fun r9 => bnd (m_field_Codes_Next r7.1 3) fun r10 => bnd (elt ([r8, r9, sum]) r10.2) fun x3 => bnd ((bnd (m_field_Codes_Next r10.1 5) fun r11 => bif (r11.2 == 4) then (some (n, i, r11.1.L, r11.1.At)) else (some (r7.2, j, r11.1.L, r11.1.At)) : Option (Int × T_Image × List Int × Int))) fun o4 => bnd (m_bank_New o4.2.1) fun r12 => bnd (m_ref29_New o4.2.1) fun r13 => bnd ((bif (r12.2 != r13.2) then (some true) else (bnd (m_ref29_Same r12.1 r13.1) fun r14 => bif !r14 then (some true) else (bnd (m_bank_Valid x2) fun r15 => bnd (m_ref29_Valid x2) fun r16 => bif !(r15 == r16) then (some true) else (bnd (m_bank_Version x2) fun r17 => bnd (m_ref29_Version x2) fun r18 => bif !((r17.Major == r18.Major) && ((r17.Minor == r18.Minor) && ((r17.Patch == r18.Patch) && true))) then (some true) else (bnd (m_bank_Whole x2.Slots.e0) fun r19 => bnd (m_ref29_Whole x2.Slots.e0) fun r20 => bif !(r19 == r20) then (some true) else (bnd (m_bank_Whole x2.Slots.e1) fun r21 => bnd (m_ref29_Whole x2.Slots.e1) fun r22 => some (!(r21 == r22))))))) : Option Bool)) fun o5 => bif o5 then (some (.done (.inl false))) else (bnd (m_bank_Write x2 o4.2.1 o4.1) fun r23 => bnd (m_ref29_Write x2 o4.2.1 o4.1) fun r24 => bnd ((bif (r23.2 != r24.2) then (some true) else (bnd (m_ref29_Same r23.1 r24.1) fun r25 => some (!r25)) : Option Bool)) fun o6 => bif o6 then (some (.done (.inl false))) else (bnd (m_bank_Finish x2 x3) fun r26 => bnd (m_ref29_Finish x2 x3) fun r27 => bnd ((bif (r26.2 != r27.2) then (some true) else (bnd (m_ref29_Same r26.1 r27.1) fun r28 => bif !r28 then (some true) else (bnd (m_bank_Spoil x2 o4.2.1 x3) fun r29 => bnd (m_ref29_Spoil x2 o4.2.1 x3) fun r30 => bnd (m_ref29_Same r29 r30) fun r31 => bif !r31 then (some true) else (bnd (m_bank_Boot x2) fun r32 => bnd (m_ref29_Boot x2) fun r33 => bnd (m_ref29_Same r32 r33) fun r34 => some (!r34)))) : Option Bool)) fun o7 => bif o7 then (some (.done (.inl false))) else (bnd (m_law29_simple x2) fun r35 => bif !r35 then (some (.done (.inl false))) else (some (.next (IntKind.wrap .i64 (s1.1 + 1), o4.2.2.1, o4.2.2.2))))))) else (some (.done (.inr (s1.2.1, s1.2.2))))))
    (fun s => CodesOk ⟨s.2.1, s.2.2⟩ ∧ 0 ≤ s.1 ∧ s.1 ≤ 3) (fun s => (3 - s.1).toNat) (fun t => ∃ o, t = .inr o) (fun s hs => by
      obtain ⟨k, L, At⟩ := s
      obtain ⟨g1, g2, g3⟩ := hs
      simp only at g1 g2 g3
      by_cases hk : k < 3
      · left
        have dk : decide (k < ((3 : Nat) : Int)) = true := by simpa using hk
        have hw3 : IntKind.wrap .i64 (k + 1) = k + 1 := wrap_i64 (by omega) (by omega)
        have hwj : IntKind.wrap .i64 ((j.Data.length : Int) + 2) = (j.Data.length : Int) + 2 := wrap_i64 (by omega) (by omega)
        obtain ⟨y, ey, hy⟩ := elt_ok (l := [d, o, raw]) g2 (by simpa using hk)
        have hsy : smallD y := by
          simp only [List.mem_cons, List.not_mem_nil, or_false] at hy
          rcases hy with rfl | rfl | rfl
          · exact hi.sm
          · exact hso
          · exact hsr
        obtain ⟨c5, a, e6, hc5, a0, a1⟩ := next_in g1 (n := (j.Data.length : Int) + 2) (by omega)
        obtain ⟨c6, b, e7, hc6, b0, b1⟩ := next_in hc5 (n := 3) (by omega)
        obtain ⟨sm, es, _⟩ := elt_ok (l := [sumF y.Slots.e0.Image, sumF y.Slots.e1.Image, sum]) b0 b1
        obtain ⟨c7, f, e8, hc7, f0, f1⟩ := next_in hc6 (n := 5) (by omega)
        simp only [dk, cond_true, ey, bnd_some, hwj, e6, sum_ref, e7, es, e8]
        have ho4 : ∃ (p : Int) (q : T_Image), (bif (f == 4) then (some (n, i, c7.L, c7.At)) else (some (a, j, c7.L, c7.At)) : Option (Int × T_Image × List Int × Int)) = some (p, q, c7.L, c7.At) ∧ small q := by
          cases (f == 4)
          · exact ⟨_, _, rfl, hsj⟩
          · exact ⟨_, _, rfl, hsi⟩
        obtain ⟨p, q, e9, hsq⟩ := ho4
        simp only [e9, bnd_some, new_prog hsq, new_ref hsq, bne_self_eq_false, cond_false, same_refl, Bool.not_true, prog_dvalid, ref_dvalid, beq_self_eq_true, version_prog, version_ref, Bool.and_true, whole_prog, whole_ref, write_prog hsy hsq, write_ref hsy hsq, finish_prog hsy, finish_ref hsy, spoil_prog hsy hsq, spoil_ref hsy hsq, boot_prog hsy, boot_ref hsy, simple_ok hsy, hw3]
        exact ⟨_, rfl, ⟨hc7, by simp only; omega, by simp only; omega⟩, by simp only; omega⟩
      · right
        have dk : decide (k < ((3 : Nat) : Int)) = false := by simpa using hk
        simp only [dk, cond_false]
        exact ⟨_, rfl, _, rfl⟩) (0, c4.L, c4.At) ⟨hc4, by simp only; omega, by simp only; omega⟩
  rw [ht]
  rfl

end Go.Proofs.Ytcjhemblnemhfaa
