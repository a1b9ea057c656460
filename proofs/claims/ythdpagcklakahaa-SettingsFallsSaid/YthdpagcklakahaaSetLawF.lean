/-
  The law of a store that loses power again and again.
  Conditions: none.
-/
import Derived.Test.YthdpagcklakahaaSetX2
import Derived.Test.YthdpagcklakahaaGenSettingsFalls
namespace Go.Proofs.Ythdpagcklakahaa
open Go
set_option linter.unusedSimpArgs false
set_option linter.unusedVariables false

theorem okP.add {l : List T_Setting} (h : okP l) {x : T_Setting} (hx : (0 ≤ x.Key ∧ x.Key ≤ 255) ∧ rng x.Value ∧ x.Value.length ≤ 28 ∧ (x.Delete = true → x.Value = [])) (hk : ∀ y ∈ l, y.Key ≠ x.Key) : okP (l ++ [x]) := ⟨fun y hy => by
  rcases List.mem_append.1 hy with hy | hy
  · exact h.1 y hy
  · rw [List.mem_singleton] at hy; subst hy; exact hx, List.pairwise_append.2 ⟨h.2, List.pairwise_singleton _ _, fun y hy z hz => by
  rw [List.mem_singleton] at hz; subst hz; exact hk y hy⟩⟩
noncomputable def faStep : List T_Setting × Int × List Int × Int → Option (Step (List T_Setting × Int × List Int × Int) (List T_Setting × List Int × Int)) :=
  (fun (s2 : List T_Setting × Int × List Int × Int) => bif decide (s2.2.1 > 0) then (bnd (m_made_Dice_Next (⟨s2.2.2.1, s2.2.2.2⟩ : T_Dice) 3) fun r9 => bnd (m_made_Dice_Bytes r9.1 28) fun r10 => bnd (app 40 s2.1 [(⟨IntKind.wrap .u8 (IntKind.wrap .i64 ((IntKind.wrap .i64 (3 * s2.2.1)) + r9.2)), r10.2, false⟩ : T_Setting)]) fun l1 => some (.next (l1, IntKind.wrap .i64 (s2.2.1 - 1), r10.1.L, r10.1.At))) else (some (.done (s2.1, s2.2.2.1, s2.2.2.2))))
def InvC (s : List T_Setting × Int × List Int × Int) : Prop := Fair ⟨s.2.2.1, s.2.2.2⟩ ∧ 0 ≤ s.2.1 ∧ (s.1.length : Int) + s.2.1 ≤ 4 ∧ okP s.1 ∧ ∀ x ∈ s.1, 3 * s.2.1 + 3 ≤ x.Key ∧ x.Key ≤ 14
theorem fa_step (s : List T_Setting × Int × List Int × Int) (hI : InvC s) : (∃ s', faStep s = some (.next s') ∧ InvC s' ∧ s'.2.1.toNat < s.2.1.toNat) ∨ ∃ t, faStep s = some (.done t) ∧ (Fair ⟨t.2.1, t.2.2⟩ ∧ t.1.length ≤ 4 ∧ okP t.1 ∧ ∀ x ∈ t.1, x.Key ≤ 14) := by
  obtain ⟨out, k, L, at_⟩ := s
  obtain ⟨i1, i2, i3, i4, i5⟩ := hI
  simp only at i1 i2 i3 i4 i5
  unfold faStep
  simp only
  by_cases hc : 0 < k
  · left
    rw [cnd_t (by simpa using hc)]
    refine ex_next ?_
    refine bnd_ex (next_ex ⟨L, at_⟩ 3 i1 (by omega) (by omega)) fun r9 ⟨g1, g2, g3⟩ => ?_
    refine bnd_ex (bytes_ex r9.1 28 g1 (by omega) (by omega)) fun r10 ⟨h1, l, h2, h3, h4⟩ => ?_
    rw [app_eq (by simp; omega) (by simp; omega), bnd_some, wrap_i64 (x := k - 1) (by omega) (by omega), wrap_i64 (x := 3 * k) (by omega) (by omega), wrap_i64 (x := 3 * k + r9.2) (by omega) (by omega), wrap_u8 (x := 3 * k + r9.2) (by omega) (by omega)]
    refine ⟨_, rfl, _, rfl, ⟨h1, by simp only; omega, by simp; omega, i4.add ⟨⟨by simp only; omega, by simp only; omega⟩, by simp only; rw [h4]; exact iz_rng h2, by simp only; rw [h4, iz_len]; omega, fun h => by cases h⟩ fun y hy => by have := (i5 y hy).1; simp only; omega, fun x hx => ?_⟩, by simp only; omega⟩
    rcases List.mem_append.1 hx with hx | hx
    · have := i5 x hx; simp only; omega
    · rw [List.mem_singleton] at hx; subst hx; simp only; omega
  · right
    rw [cnd_f (by simpa using hc)]
    exact ⟨_, rfl, i1, by simp only; omega, i4, fun x hx => (i5 x hx).2⟩
/-- What stays from fall to fall. -/
structure Fall (d : T_Device) (K : List T_Setting) (g : Int) : Prop where
  ok : OkD d
  down : d.down = false
  size : d.size = 1024
  wear : d.wear.length = 3
  list : (openF d 0).K = K
  gen : (openF d 0).gen ≤ g
  keys : ∀ x ∈ K, x.Key ≤ 14
noncomputable def flStep (falls torn : List Int) : T_Device × List T_Setting × Int × List Int × Int → Option (Step (T_Device × List T_Setting × Int × List Int × Int) (Bool ⊕ (T_Device × List Int × Int))) :=
  (fun (s1 : T_Device × List T_Setting × Int × List Int × Int) => bif decide (s1.2.2.1 < (falls.length : Int)) then (bnd (m_settings_Open s1.1 0) fun r5 => optM r5.2.1 (some (.done (.inl false))) (fun q2 => bnd ((bif (r5.2.2 != 0) then (some true) else (bnd (m_settings_Store_All q2 r5.1) fun r6 => bnd (m_ref06_Same r6 s1.2.1) fun r7 => some (!r7)) : Option Bool)) fun o4 => bif o4 then (some (.done (.inl false))) else (bnd (m_made_Dice_Next (⟨s1.2.2.2.1, s1.2.2.2.2⟩ : T_Dice) 4) fun r8 => bnd (loopM (τ := List T_Setting × List Int × Int) faStep ([], IntKind.wrap .i64 (1 + r8.2), r8.1.L, r8.1.At)) fun o5 => bnd ((bif decide (s1.2.2.1 < (torn.length : Int)) then (bnd (elt torn s1.2.2.1) fun x1 => some x1) else (some 0) : Option Int)) fun o6 => bnd (elt falls s1.2.2.1) fun x2 => bnd (m_made_Mod x2 90) fun r11 => bnd (m_flash_Device_Arm r5.1 (IntKind.wrap .i64 (1 + r11)) o6) fun r12 => bnd (m_settings_Store_Update q2 o5.1 r12) fun r13 => bnd (m_flash_Device_Restore r13.2.1) fun r14 => bnd (m_ref06_ApplyAll s1.2.1 o5.1) fun r15 => bnd (m_settings_Open r14 0) fun r16 => optM r16.2.1 (some (.done (.inl false))) (fun q3 => bif (r16.2.2 != 0) then (some (.done (.inl false))) else (bnd (m_settings_Store_All q3 r16.1) fun r17 => bnd (m_ref06_Same r17 r15) fun r18 => bif r18 then (some (.next (r16.1, r15, IntKind.wrap .i64 (s1.2.2.1 + 1), o5.2.1, o5.2.2))) else (bnd ((bif (r13.2.2 == 0) then (some true) else (bnd (m_ref06_Same r17 s1.2.1) fun r19 => some (!r19)) : Option Bool)) fun o7 => bif o7 then (some (.done (.inl false))) else (some (.next (r16.1, s1.2.1, IntKind.wrap .i64 (s1.2.2.1 + 1), o5.2.1, o5.2.2))))))))) else (some (.done (.inr (s1.1, s1.2.2.2.1, s1.2.2.2.2)))))
def InvL (falls : List Int) (s : T_Device × List T_Setting × Int × List Int × Int) : Prop := Fair ⟨s.2.2.2.1, s.2.2.2.2⟩ ∧ 0 ≤ s.2.2.1 ∧ s.2.2.1 ≤ falls.length ∧ Fall s.1 s.2.1 s.2.2.1
theorem fl_step {falls torn : List Int} (hf : falls.length ≤ 25) (ht : rng torn) (s : T_Device × List T_Setting × Int × List Int × Int) (hI : InvL falls s) : (∃ s', flStep falls torn s = some (.next s') ∧ InvL falls s' ∧ (falls.length - s'.2.2.1).toNat < (falls.length - s.2.2.1).toNat) ∨ ∃ t, flStep falls torn s = some (.done t) ∧ ∃ u, t = .inr u := by
  obtain ⟨d, K, i, L, at_⟩ := s
  obtain ⟨i1, i2, i3, i4⟩ := hI
  simp only at i1 i2 i3 i4
  obtain ⟨j, rfl⟩ := Int.eq_ofNat_of_zero_le i2
  unfold flStep
  simp only
  by_cases hc : j < falls.length
  · left
    rw [cnd_t (by simpa using hc)]
    refine ex_next ?_
    obtain ⟨s, h1, hS⟩ := open_sto i4.ok i4.down (by rw [i4.size]; omega) (f := 0) (by rw [i4.wear]; omega)
    have h1' : m_settings_Open d 0 = some (d, some s, 0) := h1
    have hokV := hS.okV
    have hok := hS.okK
    rw [i4.list] at hokV hok
    have hlen := asc_len hok.asc (a := 0) (b := 14) (fun x hx => ⟨(hok.ok x hx).key.1, i4.keys x hx⟩) (by omega)
    rw [h1', bnd_some]
    show ∃ r, bnd (bnd (m_settings_Store_All s d) fun r6 => bnd (m_ref06_Same r6 K) fun r7 => some (!r7)) _ = _ ∧ _
    rw [hS.all, bnd_some, i4.list, sameL hokV, bnd_some, decide_eq_true rfl, bnd_some]
    show ∃ r, bnd (m_made_Dice_Next ⟨L, at_⟩ 4) _ = _ ∧ _
    refine bnd_ex (next_ex ⟨L, at_⟩ 4 i1 (by omega) (by omega)) fun r8 ⟨g1, g2, g3⟩ => ?_
    rw [wrap_i64 (x := 1 + r8.2) (by omega) (by omega)]
    refine bnd_ex (loop_inv (m := faStep) InvC (fun s => s.2.1.toNat) _ fa_step ([], 1 + r8.2, r8.1.L, r8.1.At) ⟨g1, by simp only; omega, by simp; omega, ⟨fun x hx => (by cases hx), List.Pairwise.nil⟩, fun x hx => (by cases hx)⟩) fun o5 ⟨q1, q2, q3, q4⟩ => ?_
    have ho6 : ∃ t, (bif decide ((j : Int) < (torn.length : Int)) then (bnd (elt torn (j : Int)) fun x1 => some x1) else (some 0) : Option Int) = some t ∧ (0 ≤ t ∧ t ≤ 255) := by
      by_cases hj : j < torn.length
      · rw [cnd_t (by simpa using hj), elt_lt hj]
        exact ⟨_, rfl, ht _ (List.getElem_mem hj)⟩
      · rw [cnd_f (by simpa using hj)]
        exact ⟨0, rfl, by omega⟩
    refine bnd_ex ho6 fun t ht => ?_
    rw [elt_lt hc, bnd_some]
    obtain ⟨r11, e11, k1, k2, _⟩ := mod_some falls[j] 90 (by omega) (by omega)
    rw [e11, bnd_some, arm_eq, bnd_some, wrap_i64 (x := 1 + r11) (by omega) (by omega)]
    have hA := hS.arm (n := 1 + r11) (t := t) (by omega) ht
    have hall : allK (openF (armF d (1 + r11) t) 0).K o5.1 = allK K o5.1 := by rw [openF_arm, i4.list]
    have hlen2 := allK_len o5.1 K
    have hgen := i4.gen
    obtain ⟨r13, e13, t', hcut⟩ := hA.cut q3 (by omega) (by rw [hall]; omega) (by rw [openF_arm]; omega)
    rw [e13, bnd_some, rest_eq, bnd_some, applyAll_eq hok.asc (by omega), bnd_some]
    have hop : m_settings_Open (restF r13.2.1) 0 = some (restF r13.2.1, some t', 0) := hcut.open_
    rw [hop, bnd_some]
    show ∃ r, bnd (m_settings_Store_All t' (restF r13.2.1)) _ = _ ∧ _
    have hV := hcut.sto.okV
    rw [hcut.sto.all, bnd_some, sameL hV, bnd_some, wrapS (by omega)]
    have hlist := hcut.list
    rw [hall, openF_arm, i4.list] at hlist
    have hg2 := hcut.gen
    rw [openF_arm] at hg2
    have hsz : (armF d (1 + r11) t).size = d.size := by unfold armF; split <;> rfl
    have hwr : (armF d (1 + r11) t).wear = d.wear := by unfold armF; split <;> rfl
    have fall : ∀ N, (openF (restF r13.2.1) 0).K = N → (∀ x ∈ N, x.Key ≤ 14) → Fall (restF r13.2.1) N ((j + 1 : Nat) : Int) := fun N h1 h2 => ⟨hcut.sto.ok, rfl, by show r13.2.1.size = 1024; rw [hcut.size, hsz]; exact i4.size, by show r13.2.1.wear.length = 3; rw [hcut.wear, hwr]; exact i4.wear, h1, by omega, h2⟩
    by_cases hN : (openF (restF r13.2.1) 0).K = allK K o5.1
    · rw [decide_eq_true hN, cond_true]
      refine ⟨_, rfl, _, rfl, ⟨q1, by simp only; omega, by simp only; omega, fall _ hN fun x hx => ?_⟩, by simp only; omega⟩
      rcases allK_mem hx with hx | hx
      · exact i4.keys x hx
      · exact q4 x hx
    · rw [decide_eq_false hN, cond_false]
      rcases hlist with h | ⟨h, h'⟩
      · exact absurd h hN
      · rw [cnd_f (by simp [h]), sameL hV, bnd_some, decide_eq_true h', bnd_some]
        exact ⟨_, rfl, _, rfl, ⟨q1, by simp only; omega, by simp only; omega, fall _ h' i4.keys⟩, by simp only; omega⟩
  · right
    rw [cnd_f (by simpa using hc)]
    exact ⟨_, rfl, _, rfl⟩
theorem okL_rng {l : List Int} (h : okL (inK .u8) l) : rng l := by
  obtain ⟨m, h1, rfl⟩ := okL_iz h
  exact iz_rng h1
theorem falls_true (l falls torn : List Int) (_ : okL (inK .i64) l) (_ : okL (inK .i64) falls) (ht : okL (inK .u8) torn) : m_law06_SettingsFalls l falls torn = some true := by
  unfold m_law06_SettingsFalls m_made_Light
  rw [bnd_some]
  by_cases hl : l.length ≤ 600
  · rw [cnd_f (by simp; omega)]
    by_cases hf : falls.length ≤ 25
    · rw [cnd_f (by simp; omega), bnd_some]
      by_cases h2 : torn.length ≤ 25
      · rw [show decide ((torn.length : Int) > 25) = false from by simp; omega, cond_false, device_eq, bnd_some]
        show bnd (loopM (flStep falls torn) (newD 3 1024, [], 0, l, 0)) (fun o2 => retOr o2 fun o3 => bnd (m_law06_awake) fun r20 => some r20) = _
        have ho : openF (newD 3 1024) 0 = os0 := newD_open (by omega) (by omega)
        obtain ⟨t, h3, u, h4⟩ := loop_inv (m := flStep falls torn) (InvL falls) (fun s => (falls.length - s.2.2.1).toNat) _ (fl_step hf (okL_rng ht)) (newD 3 1024, [], 0, l, 0) ⟨roll_fair l hl, by simp, by simp, newD_ok (n := 3) (m := 1024) (by omega) (by omega), rfl, rfl, rfl, by simp only; rw [ho]; rfl, by simp only; rw [ho]; exact Int.le_refl _, fun x hx => by cases hx⟩
        rw [h3, h4, awake_ok]
        rfl
      · rw [show decide ((torn.length : Int) > 25) = true from by simp; omega, cond_true, awake_ok]
        rfl
    · rw [cnd_t (by simp; omega), bnd_some, cond_true, awake_ok]
      rfl
  · rw [cnd_t (by simp; omega), bnd_some, cond_true, awake_ok]
    rfl
end Go.Proofs.Ythdpagcklakahaa
