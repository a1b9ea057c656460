/-
  The law of a store whose device lost power.
  Conditions: none.
-/
import Derived.Test.YthdpagcklakahaaSetX2
import Derived.Test.YthdpagcklakahaaGenSettingsEnds
namespace Go.Proofs.Ythdpagcklakahaa
open Go
set_option linter.unusedSimpArgs false
set_option linter.unusedVariables false

theorem progL_fall : ∀ (b : List Int) (d : T_Device) (i : Nat), d.down = false → 1 ≤ d.left → d.left ≤ b.length → (progL d i b).2 = 10
  | [], d, i, _, h1, h2 => by simp at h2; omega
  | x :: b, d, i, hd, h1, h2 => by
    unfold progL
    by_cases hl : d.left = 1
    · have e : (stepF d).2 = true := by unfold stepF; rw [if_pos (by omega)]; simp [hl]
      rw [if_pos e]
    · have e : (stepF d).2 = false := by unfold stepF; rw [if_pos (by omega)]; simp; omega
      have e2 : (stepF d).1.left = d.left - 1 := by unfold stepF; rw [if_pos (by omega)]
      rw [if_neg (by simp [e])]
      refine progL_fall b _ _ ?_ ?_ ?_
      · show (stepF d).1.down = false
        rw [stepF_down hd]; exact e
      · show 1 ≤ (stepF d).1.left
        omega
      · show (stepF d).1.left ≤ _
        simp only [List.length_cons] at h2
        omega
theorem programF_fall {d : T_Device} (hd : d.down = false) {b : List Int} (h1 : 1 ≤ d.left) (h2 : d.left ≤ b.length) (at_ : Int) : (programF d at_ b).2 ≠ 0 := by
  unfold programF
  rw [if_neg (by simp [hd])]
  split
  · rw [progL_fall b d _ hd h1 h2]; decide
  · simp
theorem andD_zero {r : T_Device × Int} {g : T_Device → T_Device × Int} (h : (andD r g).2 = 0) : r.2 = 0 ∧ (g r.1).2 = 0 := by
  unfold andD at h
  split at h
  · rename_i h1; exact ⟨h1, h⟩
  · rename_i h1; exact absurd h h1
theorem finU_zero {o o' : OS} {r : T_Device × Int} (h : (finU o o' r).2.2 = 0) : r.2 = 0 := by
  unfold finU at h
  split at h
  · assumption
  · split at h
    · simp at h
    · exact h
theorem eraseF_fall {d : T_Device} (hd : d.down = false) (h1 : 1 ≤ d.left) (k : Int) (h : (eraseF d k).2 = 0) : (eraseF d k).1.down = false ∧ (eraseF d k).1.left = d.left - 1 ∧ 2 ≤ d.left := by
  unfold eraseF at h ⊢
  rw [if_neg (by simp [hd])] at h ⊢
  split at h
  · simp at h
  · rename_i hk
    rw [if_neg hk]
    simp only at h ⊢
    have hl : (wrW d k.toNat).left = d.left := rfl
    have e2 : (stepF (wrW d k.toNat)).2 = false := by
      cases he : (stepF (wrW d k.toNat)).2 with
      | false => rfl
      | true => rw [he] at h; simp at h
    have e1 : (stepF (wrW d k.toNat)).1.left = d.left - 1 := by unfold stepF; rw [if_pos (by rw [hl]; omega)]; rfl
    refine ⟨?_, e1, ?_⟩
    · show (stepF (wrW d k.toNat)).1.down = false
      rw [stepF_down (by exact hd)]; exact e2
    · unfold stepF at e2
      rw [if_pos (by rw [hl]; omega)] at e2
      simp only [hl, beq_eq_false_iff_ne, ne_eq] at e2
      omega
theorem moveD_fall {d : T_Device} (hd : d.down = false) (h1 : 1 ≤ d.left) (h2 : d.left ≤ 4) (o : OS) (f : Nat) (N : List T_Setting) : (moveD o d f N).2 ≠ 0 := by
  intro h
  unfold moveD at h
  obtain ⟨h, _⟩ := andD_zero h
  obtain ⟨h, _⟩ := andD_zero h
  obtain ⟨h3, h4⟩ := andD_zero h
  split at h4
  · exact programF_fall (b := gen4 (o.gen + 1)) hd h1 (by show d.left ≤ 4; omega) _ h4
  · rename_i hb
    rw [if_neg hb] at h3
    obtain ⟨a1, a2, a3⟩ := eraseF_fall hd h1 _ h3
    exact programF_fall (b := gen4 (o.gen + 1)) a1 (by omega) (by show _ ≤ (4 : Int); omega) _ h4
theorem updF_fall {d : T_Device} (hd : d.down = false) (h1 : 1 ≤ d.left) (h2 : d.left ≤ 4) (o : OS) (f : Nat) {l : List T_Setting} (hl : l ≠ []) (h4 : 4 ≤ (encF l).length) : (updF o d f l).2.2 ≠ 0 := by
  unfold updF
  rw [if_neg (by simp [hd])]
  split
  · assumption
  · split
    · simp
    · split
      · exact fun h => programF_fall hd h1 (by omega) _ (finU_zero h)
      · split
        · simp
        · exact fun h => moveD_fall hd h1 h2 _ _ _ (finU_zero h)
theorem appK_ge {K : List T_Setting} (h : Asc K) (c : T_Setting) (hd : c.Delete = false) : K.length ≤ (appK K c).length := by
  unfold appK
  rw [if_neg (by simp [hd]), List.length_append, List.length_cons]
  have : ∀ {L : List T_Setting}, Asc L → L.length ≤ (L.filter fun x => decide (x.Key < c.Key)).length + (L.filter fun x => decide (c.Key < x.Key)).length + 1 := fun {L} hL => by
    induction L with
    | nil => simp
    | cons x r ih =>
      have hp := List.pairwise_cons.1 hL
      have := ih hp.2
      rw [List.filter_cons, List.filter_cons, List.length_cons]
      by_cases h1 : x.Key < c.Key
      · rw [if_pos (by simpa using h1), List.length_cons]
        split
        · rw [List.length_cons]; omega
        · omega
      · have e : (r.filter fun x => decide (c.Key < x.Key)) = r := filter_all (c := c) fun y hy => by have := hp.1 y hy; simp; omega
        rw [e]
        split <;> split <;> (try simp only [List.length_cons]) <;> omega
  have := this h
  omega
def put5 : T_Setting := ⟨5, [1], false⟩
theorem put5_ok : okP [put5] := ⟨fun x hx => by
  rw [List.mem_singleton] at hx; subst hx
  exact ⟨by decide, rng.cons (by omega) rng.nil, by decide, fun h => by cases h⟩, List.pairwise_singleton _ _⟩
theorem ends_true (l : List Int) (n torn : Int) (_ : okL (inK .i64) l) (_ : inK .i64 n) (ht : inK .u8 torn) : m_law06_SettingsEnds l n torn = some true := by
  have ht' : 0 ≤ torn ∧ torn ≤ 255 := ht
  unfold m_law06_SettingsEnds m_made_Light
  rw [bnd_some]
  by_cases hl : l.length ≤ 600
  · rw [cnd_f (by simp; omega)]
    obtain ⟨d, s, K, e4, hF⟩ := filled_eq hl (n := 4) (by omega)
    rw [e4, bnd_some]
    have hok := hF.sto.okK
    rw [hF.list] at hok
    have hgen := hF.gen
    have hlen := asc_len hok.asc (a := 0) (b := 26) (fun x hx => ⟨(hok.ok x hx).key.1, hF.keys x hx⟩) (by omega)
    obtain ⟨r5, e5, g5, g5', _⟩ := mod_some n 4 (by omega) (by omega)
    show bnd (m_made_Mod n 4) _ = _
    rw [e5, bnd_some, arm_eq, bnd_some, wrap_i64 (x := 1 + r5) (by omega) (by omega)]
    have hA := hF.sto.arm (n := 1 + r5) (t := torn) (by omega) ht'
    have hall : (allK (openF (armF d (1 + r5) torn) 0).K [put5]) = allK K [put5] := by rw [openF_arm, hF.list]
    have hlen2 := allK_len [put5] K
    obtain ⟨r, e7, t, hcut⟩ := hA.cut put5_ok (by simp) (by rw [hall]; simp only [List.length_singleton] at hlen2; omega) (by rw [openF_arm]; omega)
    have hleft : (armF d (1 + r5) torn).left = 1 + r5 := by
      unfold armF
      rw [if_neg (by simp [hF.sto.down])]
      show max (1 + r5) 0 = _
      omega
    have h10 : r.2.2 = 10 ∧ r.1 = endS := by
      rcases hcut.err with ⟨a1, _⟩ | ⟨a1, _, a3⟩
      · exact absurd (by rw [← hcut.val]; exact a1) (updF_fall hA.down (by omega) (by omega) (openF (armF d (1 + r5) torn) 0) 0 (l := [put5]) (by simp) (by decide))
      · exact ⟨a1, a3⟩
    rw [put_eq]
    show bnd (m_settings_Store_Update s [put5] (armF d (1 + r5) torn)) _ = _
    rw [e7, bnd_some, rest_eq, bnd_some, h10.2, get_end, bnd_some]
    unfold m_flash_Device_Steps
    rw [bnd_some, put_eq, update_end, bnd_some]
    unfold m_settings_Store_Delete
    rw [update_end, bnd_some, bnd_some, update_end, bnd_some]
    have hop : m_settings_Open (restF r.2.1) 0 = some (restF r.2.1, some t, 0) := hcut.open_
    show bnd (m_settings_Open (restF r.2.1) 0) _ = _
    rw [hop, bnd_some]
    have hlist := hcut.list
    rw [hall, openF_arm, hF.list] at hlist
    have h2 : K.length ≤ (openF (restF r.2.1) 0).K.length + 1 := by
      rcases hlist with h | ⟨_, h⟩
      · rw [h]
        have := appK_ge hok.asc put5 rfl
        show K.length ≤ (appK K put5).length + 1
        omega
      · rw [h]; omega
    have h3 := hcut.sto.okK.len
    rw [h10.1, all_end]
    unfold m_settings_Store_Generation
    rw [awake_ok]
    show bnd (bif ((restF r.2.1).steps == (restF r.2.1).steps) then bnd (m_settings_Store_All t (restF r.2.1)) (fun r18 => bif decide (IntKind.wrap .i64 ((r18.length : Int) + 1) ≥ (K.length : Int)) then (bnd (some true) fun r19 => some r19) else some false) else some false) (fun o1 => some o1) = some true
    rw [cnd_t (by simp), hcut.sto.all, bnd_some, wrap_i64 (by omega) (by omega), cnd_t (by simp; omega)]
    rfl
  · rw [cnd_t (by simp; omega), awake_ok]
    rfl
end Go.Proofs.Ythdpagcklakahaa
