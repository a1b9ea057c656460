/-
  ActivationMeets: the state after each beginning of an order meets every need, and a plan without needs has the ascending order.
  Conditions: none.
-/
import Derived.Test.YteaoblglgcpdnaaAct4
import Derived.Test.YteaoblglgcpdnaaGenActivationMeets
namespace Go.Proofs.Yteaoblglgcpdnaa
open Go
set_option linter.unusedSimpArgs false
set_option linter.unusedVariables false

theorem path_take {n F : Nat} {G : Nat → Bool} (hF : F < 2 ^ n) : ∀ {l : List Nat} {S : Nat}, okPath F G S l → G S = true → ∀ k, ∃ T, gath n F S (iz (l.take k)) = .inr T ∧ G T = true
  | [], S, h, hg, k => ⟨S, by simp [gath], hg⟩
  | i :: l, S, h, hg, 0 => ⟨S, rfl, hg⟩
  | i :: l, S, h, hg, k + 1 => by
    obtain ⟨a, b, c⟩ := step_parts h.1
    have hin := bit_lt hF a
    obtain ⟨T, h1, h2⟩ := path_take hF h.2 c k
    refine ⟨T, ?_, h2⟩
    rw [List.take_succ_cons, iz_cons, gath_cons]
    simp only [Int.toNat_natCast]
    rw [if_neg (by rw [a]; simp; omega), if_neg (by rw [b]; simp)]
    exact h1

/-- A set of steps without its least one. -/
theorem stepsOf_least {D D' i : Nat} (hi : D.testBit i = true) (hj : ∀ j, j < i → D.testBit j = false) (hd : ∀ j, D'.testBit j = (D.testBit j && !decide (i = j))) : ∀ m, stepsOf m D = (if i < m then [i] else []) ++ stepsOf m D'
  | 0 => by simp [stepsOf]
  | m + 1 => by
    have ih := stepsOf_least hi hj hd m
    rw [stepsOf_succ, stepsOf_succ, hd m, ih]
    by_cases hm : i = m
    · subst hm
      have h0 : stepsOf i D' = [] := by
        unfold stepsOf
        rw [List.filter_eq_nil_iff]
        intro x hx
        rw [hd x, hj x (by simpa using hx)]
        simp
      simp [hi, h0]
    · by_cases hlt : i < m
      · have e : i < m + 1 := by omega
        rw [if_pos hlt, if_pos e]
        simp only [hm, decide_false, Bool.not_false, Bool.and_true]
        cases D.testBit m <;> simp
      · have e : ¬ i < m + 1 := by omega
        rw [if_neg hlt, if_neg e, hj m (by omega)]
        simp

theorem lst_free {n F : Nat} (hF : F < 2 ^ n) (S : Nat) (hs : sub2 S F) : lst n F (fun _ => true) S = some (stepsOf n (F ^^^ S)) := by
  refine path_induct F (fun _ => true) (fun S => lst n F (fun _ => true) S = some (stepsOf n (F ^^^ S))) (fun S hs ih => ?_) S hs
  by_cases he : S = F
  · subst he
    rw [least_full, Nat.xor_self]
    simp [stepsOf]
  · rw [least_step n F _ hs he]
    -- the least step that is left
    have hex : ∃ i, F.testBit i = true ∧ S.testBit i = false := by
      refine Classical.byContradiction fun hno => he ?_
      apply Nat.eq_of_testBit_eq
      intro i
      cases h1 : F.testBit i
      · cases h2 : S.testBit i
        · rfl
        · rw [hs i h2] at h1; cases h1
      · cases h2 : S.testBit i
        · exact absurd ⟨i, h1, h2⟩ hno
        · rfl
    obtain ⟨i, ⟨h1, h2⟩, h3⟩ := Go.Proofs.Yteaoblglgcpdnaa.least hex
    have hst : ∀ j, stepB F (fun _ => true) S j = (F.testBit j && !S.testBit j) := fun j => by unfold stepB; simp
    have hin := bit_lt hF h1
    have hsi : stepB F (fun _ => true) S i = true := by rw [hst, h1, h2]; rfl
    have hx := fs_first (f := fun i => if stepB F (fun _ => true) S i = true then (lst n F (fun _ => true) (S ||| 2 ^ i)).map (i :: ·) else none) (m := n) (i := i) (v := i :: stepsOf n (F ^^^ (S ||| 2 ^ i))) hin (by
      simp only [hsi, if_true, ih i hsi]
      rfl) (fun j hj => by
        have : stepB F (fun _ => true) S j = false := by
          cases hc : stepB F (fun _ => true) S j
          · rfl
          · rw [hst] at hc
            simp at hc
            have := h3 j hc
            omega
        simp [this])
    rw [hx]
    congr 1
    have := stepsOf_least (D := F ^^^ S) (D' := F ^^^ (S ||| 2 ^ i)) (i := i) (by rw [Nat.testBit_xor, h1, h2]; rfl) (fun j hj => by
      rw [Nat.testBit_xor]
      cases hf : F.testBit j
      · cases hsj : S.testBit j
        · rfl
        · rw [hs j hsj] at hf; cases hf
      · cases hsj : S.testBit j
        · have := h3 j ⟨hf, hsj⟩; omega
        · rfl) (fun j => by
      rw [Nat.testBit_xor, Nat.testBit_xor, or_bit]
      by_cases hij : i = j
      · subst hij; simp [h1]
      · simp [hij]) n
    rw [this, if_pos hin]
    rfl

theorem ints_same {l : List Int} (hl : l.length ≤ 1000) : m_law31_ints l l = some true := by
  unfold m_law31_ints
  rw [bne_self_eq_false]
  simp only [cond_false]
  refine bnd_loop (fun (i : Nat) => (i : Int)) l.length (.inr ()) rfl (fun i hi => ?_) ?_ rfl
  · have d0 : decide ((i : Int) < (l.length : Int)) = true := by simp; omega
    simp only [d0, cond_true, elt_lt hi, bnd_some, wrap_succ hi (by omega), bne_self_eq_false, cond_false]
  · have d0 : decide ((l.length : Int) < (l.length : Int)) = false := by simp
    simp only [d0, cond_false]

theorem meets_true (codes : List Int) (hc : okL (inK .u8) codes) : m_law31_ActivationMeets codes = some true := by
  unfold m_law31_ActivationMeets
  rw [awake_eq]
  simp only [bnd_some, Bool.not_true, cond_false]
  obtain ⟨c, h1, h2⟩ := made_plan hc
  refine bnd_eq h1 ?_
  obtain ⟨r, h3, _, hG⟩ := plan_ok h2
  refine bnd_eq h3 ?_
  generalize r.2 = p at hG
  -- the plan without needs
  have hP0 : PlanOk ⟨p.Now, p.Next, []⟩ := ⟨hG.now, hG.next, rfl, hG.names, rfl, rfl⟩
  have hv0 : validN ⟨p.Now, p.Next, []⟩ = 0 := planOk.2 hP0
  have hF0 : fullP ⟨p.Now, p.Next, []⟩ < 2 ^ p.Now.length := mask_lt _ _
  have ho0 : orderP ⟨p.Now, p.Next, []⟩ = some (stepsOf p.Now.length (fullP ⟨p.Now, p.Next, []⟩)) := by
    have := lst_free hF0 0 (sub2.zero _)
    rw [Nat.xor_zero] at this
    exact this
  have hrest : bnd (m_activation_Order (⟨p.Now, p.Next, []⟩ : T_Plan)) (fun r7 => bnd ((bif (r7.2 == 0) then (bnd (m_activation_Steps (⟨p.Now, p.Next, []⟩ : T_Plan)) fun r8 => bnd (m_law31_ints r7.1 r8) fun r9 => some r9) else (some false) : Option Bool)) fun o6 => some o6) = some true := by
    rw [order_eq, if_pos hv0, ho0, steps_eq, if_pos hv0]
    simp only [bnd_some, BEq.rfl, cond_true]
    rw [ints_same]
    · rfl
    · have : (stepsOf p.Now.length (fullP ⟨p.Now, p.Next, []⟩)).length ≤ 8 := Nat.le_trans (List.length_filter_le _ _) (by simp; exact hP0.le8)
      simp
      omega
  by_cases hv : validN p = 0
  · have h := planOk.1 hv
    rw [order_eq, if_pos hv]
    cases ho : orderP p with
    | none =>
      simp only [bnd_some]
      refine bnd_loop (fun _ => (0 : Int)) 0 (.inr ()) rfl (fun i hi => by omega) rfl ?_
      exact hrest
    | some l =>
      simp only [bnd_some]
      have hp : okPath (fullP p) (goodP p) 0 l := least_path _ _ _ _ (sub2.zero _) l ho
      have hlen : l.length ≤ 8 := by
        have h5 := path_len (F := fullP p) (n := p.Now.length) (mask_lt _ _) hp
        have h6 : (stepsOf p.Now.length (fullP p)).length ≤ 8 := Nat.le_trans (List.length_filter_le _ _) (by simp; exact h.le8)
        omega
      refine bnd_loop (fun (i : Nat) => (i : Int)) (l.length + 1) (.inr ()) rfl (fun i hi => ?_) ?_ ?_
      · have d0 : decide ((i : Int) ≤ ((iz l).length : Int)) = true := by simp; omega
        have hsub : sub (iz l) 0 (i : Int) = some (iz (l.take i)) := by
          have := sub_iz (l := l) (a := 0) (b := i) (by omega) (by omega)
          simpa using this
        simp only [BEq.rfl, cond_true, d0, bnd_some, hsub]
        obtain ⟨T, hT, hgT⟩ := path_take (mask_lt _ _) hp (good0 h) i
        rw [State_eq (by simp; omega)]
        have hgp : gathP p (iz (l.take i)) = .inr T := by unfold gathP; rw [if_pos hv]; exact hT
        rw [hgp]
        simp only [bnd_some, bne_self_eq_false, cond_false]
        have hnl := needsOk_len h.needs
        refine bnd_loop (fun (k : Nat) => (k : Int)) p.Needs.length (.inr ()) rfl (fun k hk => ?_) ?_ ?_
        · have d1 : decide ((k : Int) < (p.Needs.length : Int)) = true := by simp; omega
          have hm : metB (stateP p T) p.Needs[k] = true := List.all_eq_true.1 hgT _ (List.getElem_mem hk)
          simp only [d1, cond_true, elt_lt hk, bnd_some, met_eq (l := stateP p T) (by have := h.le8; simp [stateP]; omega), hm, Bool.not_true, cond_false, wrap_succ hk (by omega)]
        · have d1 : decide ((p.Needs.length : Int) < (p.Needs.length : Int)) = false := by simp
          simp only [d1, cond_false]
        · show some (Step.next (IntKind.wrap .i64 ((i : Int) + 1))) = _
          rw [wrap_i64 (by omega) (by omega)]
          congr 2
      · have d0 : decide (((l.length + 1 : Nat) : Int) ≤ ((iz l).length : Int)) = false := by simp; omega
        simp only [BEq.rfl, cond_true, d0, bnd_some, cond_false]
      · exact hrest
  · rw [order_eq, if_neg hv]
    have e1 : ((validN p : Int) == 0) = false := by rw [beq_eq_false_iff_ne]; exact_mod_cast hv
    simp only [bnd_some]
    refine bnd_loop (fun _ => (0 : Int)) 0 (.inr ()) rfl (fun i hi => by omega) ?_ ?_
    · simp only [e1, cond_false, bnd_some]
    · exact hrest
end Go.Proofs.Yteaoblglgcpdnaa
