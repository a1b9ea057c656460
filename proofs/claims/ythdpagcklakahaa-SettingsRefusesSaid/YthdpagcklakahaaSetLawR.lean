/-
  The law of updates that are refused.
  Conditions: none.
-/
import Derived.Test.YthdpagcklakahaaSetX2
import Derived.Test.YthdpagcklakahaaGenSettingsRefuses
namespace Go.Proofs.Ythdpagcklakahaa
open Go
set_option linter.unusedSimpArgs false
set_option linter.unusedVariables false

/-- Changes and what they bring. -/
def Brings (K : List T_Setting) (o : List T_Setting × Int) : Prop := okU o.1 ∧ ((o.2 = chkF o.1 ∧ chkF o.1 ≠ 0) ∨ (o.2 = 3 ∧ chkF o.1 = 0 ∧ o.1 ≠ [] ∧ (allK K o.1).length > 32) ∨ (o.2 = 0 ∧ okP o.1 ∧ o.1.length ≤ 32 ∧ (allK K o.1).length ≤ 32))
def dels (n : Nat) : List T_Setting := (List.range n).map fun (j : Nat) => ⟨(j : Int), [], true⟩
def puts (n : Nat) : List T_Setting := (List.range n).map fun (j : Nat) => ⟨((100 + j : Nat) : Int), [], false⟩
theorem mem_puts {n : Nat} {x : T_Setting} (h : x ∈ puts n) : ∃ j, j < n ∧ x = ⟨((100 + j : Nat) : Int), [], false⟩ := by
  obtain ⟨j, h1, h2⟩ := List.mem_map.1 h
  exact ⟨j, List.mem_range.1 h1, h2.symm⟩
theorem puts_asc (n : Nat) : Asc (puts n) := by
  unfold Asc puts
  rw [List.pairwise_map]
  exact List.pairwise_lt_range.imp fun h => by simp only; omega
theorem puts_ok : okP (puts 32) := ⟨fun x hx => by
  obtain ⟨j, h1, rfl⟩ := mem_puts hx
  exact ⟨⟨by simp only; omega, by simp only; omega⟩, rng.nil, by simp, fun _ => rfl⟩, (puts_asc 32).imp fun h => by omega⟩
theorem okU_of {l : List T_Setting} (h : l.length ≤ 1000000) (h2 : ∀ x ∈ l, (0 ≤ x.Key ∧ x.Key ≤ 255) ∧ rng x.Value) : okU l := ⟨h, fun x hx => ⟨(h2 x hx).1.1, (h2 x hx).1.2, (h2 x hx).2⟩⟩
noncomputable def refChg (what n_p2 : Int) (K : List T_Setting) : Option (List T_Setting × Int) := (bnd (m_made_Mod what 5) fun r6 => bif (r6 == 0) then (bnd (m_made_Mod n_p2 40) fun r7 => bnd (mkS 1 0 (IntKind.wrap .i64 (29 + r7)) (IntKind.wrap .i64 (29 + r7))) fun l4 => some ([(⟨1, [], false⟩ : T_Setting), (⟨2, l4, false⟩ : T_Setting)], 1)) else (bif (r6 == 1) then (some ([(⟨1, [], false⟩ : T_Setting), (⟨2, [1], true⟩ : T_Setting)], 1)) else (bif (r6 == 2) then (some ([(⟨3, [], false⟩ : T_Setting), (⟨4, [], false⟩ : T_Setting), (⟨3, [], true⟩ : T_Setting)], 7)) else (bif (r6 == 3) then (bnd (loopM (τ := List T_Setting) (fun (s3 : List T_Setting × Int) => bif decide (s3.2 ≤ 32) then (bnd (app 40 s3.1 [(⟨IntKind.wrap .u8 s3.2, [], true⟩ : T_Setting)]) fun l5 => some (.next (l5, IntKind.wrap .i64 (s3.2 + 1)))) else (some (.done s3.1))) ([], 0)) fun o5 => some (o5, 3)) else (bnd (loopM (τ := List T_Setting) (fun (s4 : List T_Setting × Int) => bif decide (s4.2 < 32) then (bnd (app 40 s4.1 [(⟨IntKind.wrap .u8 (IntKind.wrap .i64 (100 + s4.2)), [], false⟩ : T_Setting)]) fun l6 => some (.next (l6, IntKind.wrap .i64 (s4.2 + 1)))) else (some (.done s4.1))) ([], 0)) fun o6 => bif ((K.length : Int) == 0) then (some (o6, 0)) else (some (o6, 3)))))) : Option (List T_Setting × Int))
theorem chg_ex (what n : Int) {K : List T_Setting} (hK : OkK K) (hk : ∀ x ∈ K, x.Key ≤ 26) : ∃ o, refChg what n K = some o ∧ Brings K o := by
  unfold refChg
  obtain ⟨r6, e6, g6, g6'⟩ : ∃ r, m_made_Mod what 5 = some r ∧ 0 ≤ r ∧ r < 5 := by
    obtain ⟨r, h1, h2, h3, _⟩ := mod_some what 5 (by omega) (by omega)
    exact ⟨r, h1, h2, h3⟩
  rw [e6, bnd_some]
  by_cases h0 : r6 = 0
  · rw [cnd_t (by simpa using h0)]
    obtain ⟨r7, e7, g7, g7', _⟩ := mod_some n 40 (by omega) (by omega)
    rw [e7, bnd_some, wrap_i64 (x := 29 + r7) (by omega) (by omega)]
    have e : mkS 1 (0 : Int) (29 + r7) (29 + r7) = some (List.replicate (29 + r7).toNat 0) := by
      unfold mkS
      rw [if_pos (by omega)]
    rw [e, bnd_some]
    have hc : chkF [(⟨1, [], false⟩ : T_Setting), (⟨2, List.replicate (29 + r7).toNat 0, false⟩ : T_Setting)] = 1 := by
      unfold chkF
      rw [if_neg (by simp)]
      unfold chkG
      rw [if_neg (by simp), if_neg (by simp)]
      unfold chkG
      rw [if_pos (by simp; omega)]
    refine ⟨_, rfl, okU_of (by simp) (fun x hx => ?_), .inl ⟨hc.symm, by rw [hc]; decide⟩⟩
    simp only [List.mem_cons, List.not_mem_nil, or_false] at hx
    rcases hx with rfl | rfl
    · exact ⟨by simp, rng.nil⟩
    · exact ⟨by simp, rng.rep (by omega)⟩
  · rw [cnd_f (by simpa using h0)]
    by_cases h1 : r6 = 1
    · rw [cnd_t (by simpa using h1)]
      refine ⟨_, rfl, okU_of (by simp) (fun x hx => ?_), .inl ⟨rfl, by decide⟩⟩
      simp only [List.mem_cons, List.not_mem_nil, or_false] at hx
      rcases hx with rfl | rfl
      · exact ⟨by simp, rng.nil⟩
      · exact ⟨by simp, rng.cons (by omega) rng.nil⟩
    · rw [cnd_f (by simpa using h1)]
      by_cases h2 : r6 = 2
      · rw [cnd_t (by simpa using h2)]
        refine ⟨_, rfl, okU_of (by simp) (fun x hx => ?_), .inl ⟨rfl, by decide⟩⟩
        simp only [List.mem_cons, List.not_mem_nil, or_false] at hx
        rcases hx with rfl | rfl | rfl <;> exact ⟨by simp, rng.nil⟩
      · rw [cnd_f (by simpa using h2)]
        by_cases h3 : r6 = 3
        · rw [cnd_t (by simpa using h3)]
          refine bnd_ex (P := fun c => c = dels 33) ⟨dels 33, ?_, rfl⟩ fun c hc => ?_
          · refine loop_run (fun i => (dels i, (i : Int))) 33 (fun i hi => ?_) ?_
            rotate_left
            · rfl
            simp only
            rw [cnd_t (by simp; omega), app_eq (by simp [dels]; omega) (by simp [dels]; omega), bnd_some, wrapS (by omega), wrap_u8 (by omega) (by omega)]
            unfold dels
            rw [List.range_succ, List.map_append]
            rfl
          · subst hc
            refine ⟨_, rfl, okU_of (by simp [dels]) (fun x hx => ?_), .inl ⟨?_, ?_⟩⟩
            · obtain ⟨j, hj, rfl⟩ := List.mem_map.1 hx
              have := List.mem_range.1 hj
              exact ⟨⟨by simp only; omega, by simp only; omega⟩, rng.nil⟩
            · unfold chkF
              rw [if_pos (by simp [dels])]
            · unfold chkF
              rw [if_pos (by simp [dels])]
              decide
        · rw [cnd_f (by simpa using h3)]
          refine bnd_ex (P := fun c => c = puts 32) ⟨puts 32, ?_, rfl⟩ fun c hc => ?_
          · refine loop_run (fun i => (puts i, (i : Int))) 32 (fun i hi => ?_) ?_
            rotate_left
            · rfl
            simp only
            rw [cnd_t (by simp; omega), app_eq (by simp [puts]; omega) (by simp [puts]; omega), bnd_some, wrapS (by omega), wrap_i64 (x := 100 + (i : Int)) (by omega) (by omega), wrap_u8 (by omega) (by omega)]
            unfold puts
            rw [List.range_succ, List.map_append]
            rfl
          · subst hc
            have hl : (puts 32).length = 32 := by simp [puts]
            cases K with
            | nil => exact ⟨_, rfl, puts_ok.okU (by simp [puts]), .inr (.inr ⟨rfl, puts_ok, by simp only; omega, by have := allK_len (puts 32) []; simp only; rw [hl] at this; simpa using this⟩)⟩
            | cons x K =>
              rw [cnd_f (by simp; omega)]
              refine ⟨_, rfl, puts_ok.okU (by simp [puts]), .inr (.inl ⟨rfl, chkF_zero puts_ok (by show (puts 32).length ≤ 32; omega), (fun e => by have e' : puts 32 = [] := e; rw [e'] at hl; simp at hl), ?_⟩)⟩
              simp only
              rw [allK_end (fun y hy => by obtain ⟨j, _, rfl⟩ := mem_puts hy; rfl) (List.pairwise_append.2 ⟨hK.asc, puts_asc 32, fun y hy z hz => by
                obtain ⟨j, _, rfl⟩ := mem_puts hz
                have := hk y hy
                simp only; omega⟩), List.length_append, hl]
              simp
theorem refuses_true (l : List Int) (what n : Int) (_ : okL (inK .i64) l) (_ : inK .i64 what) (_ : inK .i64 n) : m_law06_SettingsRefuses l what n = some true := by
  unfold m_law06_SettingsRefuses m_made_Light
  rw [bnd_some]
  by_cases hl : l.length ≤ 600
  · rw [cnd_f (by simp; omega)]
    obtain ⟨d, s, K, e4, hF⟩ := filled_eq hl (n := 3) (by omega)
    rw [e4, bnd_some]
    have hok := hF.sto.okK
    have hokV := hF.sto.okV
    rw [hF.list] at hok hokV
    obtain ⟨o, e5, hO, hB⟩ := chg_ex what n hok hF.keys
    show bnd (refChg what n K) _ = _
    rw [e5, bnd_some]
    unfold m_flash_Device_Steps
    rw [bnd_some]
    have hgen := hF.gen
    have fin : ∀ (s' : T_settings_Store) (d' : T_Device), Sto d' s' 0 → ∃ s2, m_settings_Store_Update s' [] d' = some (s2, d', 0) := fun s' d' h => by
      obtain ⟨s2, h1, _⟩ := h.none
      exact ⟨s2, h1⟩
    have hB' : (∃ e s', e ≠ 0 ∧ o.2 = e ∧ m_settings_Store_Update s o.1 d = some (s', d, e) ∧ Sto d s' 0) ∨ (o.2 = 0 ∧ okP o.1 ∧ o.1.length ≤ 32 ∧ (allK K o.1).length ≤ 32) := by
      rcases hB with ⟨h1, h2⟩ | ⟨h1, h2, h3, h4⟩ | h
      · obtain ⟨s', h5, h6⟩ := hF.sto.bad hO h2
        exact .inl ⟨_, s', h2, h1, h5, h6⟩
      · obtain ⟨s', h5, h6⟩ := hF.sto.many hO h2 h3 (by rw [hF.list]; exact h4)
        exact .inl ⟨3, s', by decide, h1, h5, h6⟩
      · exact .inr h
    rcases hB' with ⟨e, s', he, hoe, h1, h2⟩ | ⟨h1, h2, h3, h4⟩
    · obtain ⟨s2, h3⟩ := fin s' d h2
      show bnd (m_settings_Store_Update s o.1 d) _ = some true
      rw [h1, bnd_some, hoe, cnd_f (by simp), cnd_f (by simpa using he), bnd_some, cnd_t (by simp), h2.all, bnd_some, hF.list, sameL hokV, bnd_some, decide_eq_true rfl, cond_true, h3, bnd_some, cnd_t (by rfl), awake_ok]
      rfl
    · obtain ⟨r, h5, h6, h7, _⟩ := hF.sto.sure hF.left h2 h3 (by rw [hF.list]; exact h4) (by omega)
      obtain ⟨s2, h8⟩ := fin r.1 r.2.1 h7
      show bnd (m_settings_Store_Update s o.1 d) _ = _
      rw [h5, bnd_some, h1, h6, cnd_f (by simp), cnd_t (by simp), h8, bnd_some, cnd_t (by rfl), awake_ok]
      rfl
  · rw [cnd_t (by simp; omega), awake_ok]
    rfl
end Go.Proofs.Ythdpagcklakahaa
