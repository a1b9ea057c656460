/-
  The law of an update at which the power fails.
  Conditions: none.
-/
import Derived.Test.YthdpagcklakahaaSetX2
import Derived.Test.YthdpagcklakahaaGenSettingsAtomic
namespace Go.Proofs.Ythdpagcklakahaa
open Go
set_option linter.unusedSimpArgs false
set_option linter.unusedVariables false

noncomputable def atStep : List T_Setting × Int × List Int × Int → Option (Step (List T_Setting × Int × List Int × Int) (List T_Setting × List Int × Int)) :=
  (fun (s1 : List T_Setting × Int × List Int × Int) => bif decide (s1.2.1 > 0) then (bnd (m_made_Dice_Bytes (⟨s1.2.2.1, s1.2.2.2⟩ : T_Dice) 28) fun r9 => bnd (app 40 s1.1 [(⟨IntKind.wrap .u8 s1.2.1, r9.2, false⟩ : T_Setting)]) fun l1 => some (.next (l1, IntKind.wrap .i64 (s1.2.1 - 1), r9.1.L, r9.1.At))) else (some (.done (s1.1, s1.2.2.1, s1.2.2.2))))
def InvA (s : List T_Setting × Int × List Int × Int) : Prop := Fair ⟨s.2.2.1, s.2.2.2⟩ ∧ 0 ≤ s.2.1 ∧ (s.1.length : Int) + s.2.1 ≤ 6 ∧ okP s.1 ∧ ∀ x ∈ s.1, s.2.1 < x.Key ∧ x.Key ≤ 6
theorem okP.add {l : List T_Setting} (h : okP l) {x : T_Setting} (hx : (0 ≤ x.Key ∧ x.Key ≤ 255) ∧ rng x.Value ∧ x.Value.length ≤ 28 ∧ (x.Delete = true → x.Value = [])) (hk : ∀ y ∈ l, y.Key ≠ x.Key) : okP (l ++ [x]) := ⟨fun y hy => by
  rcases List.mem_append.1 hy with hy | hy
  · exact h.1 y hy
  · rw [List.mem_singleton] at hy; subst hy; exact hx, List.pairwise_append.2 ⟨h.2, List.pairwise_singleton _ _, fun y hy z hz => by
  rw [List.mem_singleton] at hz; subst hz; exact hk y hy⟩⟩
theorem at_step (s : List T_Setting × Int × List Int × Int) (hI : InvA s) : (∃ s', atStep s = some (.next s') ∧ InvA s' ∧ s'.2.1.toNat < s.2.1.toNat) ∨ ∃ t, atStep s = some (.done t) ∧ (t.1.length ≤ 6 ∧ okP t.1 ∧ ∀ x ∈ t.1, x.Key ≤ 6) := by
  obtain ⟨out, k, L, at_⟩ := s
  obtain ⟨i1, i2, i3, i4, i5⟩ := hI
  simp only at i1 i2 i3 i4 i5
  unfold atStep
  simp only
  by_cases hc : 0 < k
  · left
    rw [cnd_t (by simpa using hc)]
    refine ex_next ?_
    refine bnd_ex (bytes_ex ⟨L, at_⟩ 28 i1 (by omega) (by omega)) fun r9 ⟨h1, l, h2, h3, h4⟩ => ?_
    rw [app_eq (by simp; omega) (by simp; omega), bnd_some, wrap_i64 (x := k - 1) (by omega) (by omega), wrap_u8 (x := k) (by omega) (by omega)]
    refine ⟨_, rfl, _, rfl, ⟨h1, by simp only; omega, by simp; omega, i4.add ⟨⟨by simp only; omega, by simp only; omega⟩, by simp only; rw [h4]; exact iz_rng h2, by simp only; rw [h4, iz_len]; omega, fun h => by cases h⟩ fun y hy => by have := (i5 y hy).1; simp only; omega, fun x hx => ?_⟩, by simp only; omega⟩
    rcases List.mem_append.1 hx with hx | hx
    · have := i5 x hx; simp only; omega
    · rw [List.mem_singleton] at hx; subst hx; simp only; omega
  · right
    rw [cnd_f (by simpa using hc)]
    exact ⟨_, rfl, by simp only; omega, i4, fun x hx => (i5 x hx).2⟩
theorem mod_ex (x n : Int) (hn : 0 < n) (hb : n ≤ 4611686018427387904) : ∃ r, m_made_Mod x n = some r ∧ 0 ≤ r ∧ r < n := by
  obtain ⟨r, h1, h2, h3, _⟩ := mod_some x n hn hb
  exact ⟨r, h1, h2, h3⟩
theorem atomic_true (l : List Int) (before n torn : Int) (_ : okL (inK .i64) l) (_ : inK .i64 before) (_ : inK .i64 n) (ht : inK .u8 torn) : m_law06_SettingsAtomic l before n torn = some true := by
  have ht' : 0 ≤ torn ∧ torn ≤ 255 := ht
  unfold m_law06_SettingsAtomic m_made_Light
  rw [bnd_some]
  by_cases hl : l.length ≤ 600
  · rw [cnd_f (by simp; omega)]
    obtain ⟨r3, e3, g3, g3'⟩ := mod_ex before 30 (by omega) (by omega)
    rw [e3, bnd_some]
    obtain ⟨d, s, K, e4, hF⟩ := filled_eq hl (n := r3) (by omega)
    rw [e4, bnd_some]
    have hok := hF.sto.okK
    have hokV := hF.sto.okV
    have hS := hF.sto
    rw [hF.list] at hok hokV
    have hk32 := hok.len
    show bnd (bnd (m_settings_Store_All s d) _) _ = _
    rw [hF.sto.all, bnd_some, hF.list, sameL hokV, bnd_some, decide_eq_true rfl, bnd_some]
    show bnd (m_made_Dice_Next ⟨l, 0⟩ 6) _ = _
    obtain ⟨r8, e8, g8, g8a, g8b⟩ := next_ex ⟨l, 0⟩ 6 (roll_fair l hl) (by omega) (by omega)
    rw [e8, bnd_some, wrap_i64 (x := 1 + r8.2) (by omega) (by omega)]
    obtain ⟨o2, h3, h4, h5, h6⟩ := loop_inv (m := atStep) InvA (fun s => s.2.1.toNat) _ at_step ([], 1 + r8.2, r8.1.L, r8.1.At) ⟨g8, by simp only; omega, by simp; omega, ⟨fun x hx => (by cases hx), List.Pairwise.nil⟩, fun x hx => (by cases hx)⟩
    show bnd (loopM atStep _) _ = _
    rw [h3, bnd_some, app_eq (by simp; omega) (by simp; omega), bnd_some]
    have hc : okP (o2.1 ++ [(⟨9, [], true⟩ : T_Setting)]) := h5.add ⟨⟨by simp, by simp⟩, rng.nil, by simp, fun _ => rfl⟩ fun y hy => by have := h6 y hy; simp only; omega
    have hcl : (o2.1 ++ [(⟨9, [], true⟩ : T_Setting)]).length ≤ 32 := by simp; omega
    revert hc hcl
    generalize o2.1 ++ [(⟨9, [], true⟩ : T_Setting)] = c
    intro hc hcl
    rw [applyAll_eq hok.asc (by omega), bnd_some]
    by_cases hK : (allK K c).length ≤ 32
    · rw [cnd_f (by simp; omega)]
      obtain ⟨r12, e12, g12, g12'⟩ := mod_ex n 500 (by omega) (by omega)
      rw [e12, bnd_some, arm_eq, bnd_some, wrap_i64 (x := 1 + r12) (by omega) (by omega)]
      have hA := hS.arm (n := 1 + r12) (t := torn) (by omega) ht'
      have hgen := hF.gen
      have hall : allK (openF (armF d (1 + r12) torn) 0).K c = allK K c := by rw [openF_arm, hF.list]
      obtain ⟨r14, e14, t, hcut⟩ := hA.cut hc hcl (by rw [hall]; exact hK) (by rw [openF_arm]; omega)
      rw [e14, bnd_some]
      have ho3 : (bif (r14.2.2 != 0) then (bif (r14.2.2 != 10) then (some true) else (bnd (m_flash_Device_Down r14.2.1) fun r15 => some (!((r14.2.2 == 10) == r15)))) else (bnd (m_flash_Device_Down r14.2.1) fun r16 => some (!((r14.2.2 == 10) == r16))) : Option Bool) = some false := by
        unfold m_flash_Device_Down
        rcases hcut.err with ⟨a1, a2, _⟩ | ⟨a1, a2, _⟩ <;> simp [a1, a2]
      rw [ho3, bnd_some, cnd_f rfl, rest_eq, bnd_some]
      have hop : m_settings_Open (restF r14.2.1) 0 = some (restF r14.2.1, some t, 0) := hcut.open_
      rw [hop, bnd_some]
      show bnd (m_settings_Store_All t (restF r14.2.1)) _ = _
      have hV := hcut.sto.okV
      rw [hcut.sto.all, bnd_some, sameL hV, bnd_some, sameL hV, bnd_some]
      have hlist := hcut.list
      rw [hall, openF_arm, hF.list] at hlist
      have ho4 : (bif !decide ((openF (restF r14.2.1) 0).K = allK K c) then (bif !decide ((openF (restF r14.2.1) 0).K = K) then (some true) else (bif (r14.2.2 == 0) then (some (!decide ((openF (restF r14.2.1) 0).K = allK K c))) else (some false))) else (bif (r14.2.2 == 0) then (some (!decide ((openF (restF r14.2.1) 0).K = allK K c))) else (some false)) : Option Bool) = some false := by
        rcases hlist with h | ⟨h, h'⟩
        · rw [decide_eq_true h]
          cases (r14.2.2 == 0) <;> rfl
        · rw [h, decide_eq_true h']
          cases decide ((openF (restF r14.2.1) 0).K = allK K c) <;> rfl
      rw [ho4, bnd_some, cnd_f rfl]
      have hK2 : allK (openF (restF r14.2.1) 0).K c = allK K c := by
        rcases hlist with h | ⟨h, h'⟩
        · rw [h, allK_idem hok.asc hok.nd]
        · rw [h']
      have hg2 := hcut.gen
      rw [openF_arm] at hg2
      obtain ⟨r22, e22, a1, a2, a3, a4, a5, _⟩ := hcut.sto.sure rfl hc hcl (by rw [hK2]; exact hK) (by omega)
      rw [e22, bnd_some]
      have hV2 := a2.okV
      rw [hK2] at a3
      rw [cnd_t (by simpa using a1), a2.all, bnd_some, sameL hV2, bnd_some, decide_eq_true a3, cond_true, awake_ok]
      rfl
    · rw [cnd_t (by simp; omega), awake_ok]
      rfl
  · rw [cnd_t (by simp; omega), awake_ok]
    rfl
end Go.Proofs.Ythdpagcklakahaa
