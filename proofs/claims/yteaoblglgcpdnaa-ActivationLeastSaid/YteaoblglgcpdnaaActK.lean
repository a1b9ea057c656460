/-
  ActivationLeast: an order takes every step once, all needs are met on its way, and no lesser order of the same steps does so.
  Conditions: none.
-/
import Derived.Test.YteaoblglgcpdnaaAct4
import Derived.Test.YteaoblglgcpdnaaGenActivationLeast
namespace Go.Proofs.Yteaoblglgcpdnaa
open Go
set_option linter.unusedSimpArgs false
set_option linter.unusedVariables false

theorem same_self {a : List T_Installed} (hl : a.length ≤ 1000) : m_ref27_Same a a = some true := by
  unfold m_ref27_Same
  rw [bne_self_eq_false]
  simp only [cond_false]
  refine bnd_loop (fun (i : Nat) => (i : Int)) a.length (.inr ()) rfl (fun i hi => ?_) ?_ rfl
  · have d0 : decide ((i : Int) < (a.length : Int)) = true := by simp; omega
    simp only [d0, cond_true, elt_lt hi, bnd_some, wrap_succ hi (by omega), BEq.rfl, Bool.and_self, Bool.not_true, cond_false]
  · have d0 : decide ((a.length : Int) < (a.length : Int)) = false := by simp
    simp only [d0, cond_false]

theorem gath_all {n F : Nat} (hF : F < 2 ^ n) : ∀ {M : List Nat} {S : Nat}, M.Nodup → (∀ i ∈ M, F.testBit i = true ∧ S.testBit i = false) → ∃ T, gath n F S (iz M) = .inr T ∧ ∀ j, T.testBit j = (S.testBit j || decide (j ∈ M))
  | [], S, _, _ => ⟨S, rfl, fun j => by simp⟩
  | i :: M, S, hn, hm => by
    have hn' := List.nodup_cons.1 hn
    obtain ⟨a, b⟩ := hm i (by simp)
    have hin := bit_lt hF a
    obtain ⟨T, h1, h2⟩ := gath_all hF (S := S ||| 2 ^ i) hn'.2 (fun j hj => by
      obtain ⟨c, d⟩ := hm j (by simp [hj])
      refine ⟨c, ?_⟩
      rw [or_bit, d]
      have : i ≠ j := fun e => hn'.1 (e ▸ hj)
      simp [this])
    refine ⟨T, ?_, fun j => ?_⟩
    · rw [iz_cons, gath_cons]
      simp only [Int.toNat_natCast]
      rw [if_neg (by rw [a]; simp; omega), if_neg (by rw [b]; simp)]
      exact h1
    · rw [h2, or_bit]
      by_cases hij : j = i
      · subst hij; simp
      · have : ¬ i = j := fun h => hij h.symm
        simp [hij, this]

theorem chk_ge (G : Nat → Bool) : ∀ (l : List Int) (S k : Nat), chkI G S l k = -1 ∨ (k : Int) ≤ chkI G S l k
  | [], S, k => by
    rw [chkI_nil]
    split
    · exact .inl rfl
    · exact .inr (Int.le_refl _)
  | x :: l, S, k => by
    rw [chkI_cons]
    split
    · rcases chk_ge G l (S ||| 2 ^ x.toNat) (k + 1) with h | h
      · exact .inl h
      · exact .inr (by omega)
    · exact .inr (Int.le_refl _)
theorem chk_pos {G : Nat → Bool} {S : Nat} (h : G S = true) (l : List Int) : chkI G S l 0 = -1 ∨ 0 < chkI G S l 0 := by
  cases l with
  | nil => rw [chkI_nil, if_pos h]; exact .inl rfl
  | cons x l =>
    rw [chkI_cons, if_pos h]
    rcases chk_ge G l (S ||| 2 ^ x.toNat) (0 + 1) with g | g
    · exact .inl g
    · exact .inr (by omega)

/-- A list that is less at the first place where they differ. -/
theorem not_lex : ∀ {l m : List Nat} {i : Nat} (hl : i < l.length) (hm : i < m.length), (∀ j (hj : j < i), l[j] = m[j]) → m[i] < l[i] → ¬ lexLe l m
  | x :: l, y :: m, 0, hl, hm, _, hlt, h => by
    simp only [List.getElem_cons_zero] at hlt
    rcases h with h | h
    · omega
    · omega
  | x :: l, y :: m, i + 1, hl, hm, he, hlt, h => by
    have h0 := he 0 (by omega)
    simp only [List.getElem_cons_zero] at h0
    subst h0
    rcases h with h | h
    · omega
    · refine not_lex (i := i) (by simpa using hl) (by simpa using hm) (fun j hj => ?_) (by simpa using hlt) h.2
      have := he (j + 1) (by omega)
      simpa using this

theorem least_true (codes : List Int) (other : List Int) (hc : okL (inK .u8) codes) (hot : okL (inK .u8) other) : m_law31_ActivationLeast codes other = some true := by
  unfold m_law31_ActivationLeast
  rw [awake_eq]
  simp only [bnd_some, Bool.not_true, cond_false]
  obtain ⟨c, h1, h2⟩ := made_plan hc
  refine bnd_eq h1 ?_
  obtain ⟨r, h3, _, hG⟩ := plan_ok h2
  refine bnd_eq h3 ?_
  generalize r.2 = p at hG
  by_cases hv : validN p = 0
  · have h := planOk.1 hv
    have hF : fullP p < 256 := mask256 h.le8
    have hFn : fullP p < 2 ^ p.Now.length := mask_lt _ _
    rw [order_eq, if_pos hv]
    cases ho : orderP p with
    | none => rfl
    | some l =>
      have hp := order_path ho
      have hlen := path_short hv hp
      have hll : l.length = (stepsOf p.Now.length (fullP p)).length := by
        have h5 := path_len (F := fullP p) (n := p.Now.length) hFn hp
        have h6 : stepsOf p.Now.length 0 = [] := by simp [stepsOf]
        rw [h6] at h5
        simpa using h5
      have hst : m_activation_State p (iz l) = some (p.Next, 0) := by
        rw [State_eq (by simp; omega)]
        have : gathP p (iz l) = .inr (fullP p) := by
          unfold gathP
          rw [if_pos hv]
          exact path_gath hFn hp
        rw [this]
        simp only
        rw [state_full h]
      simp only [bnd_some, bne_self_eq_false, cond_false, path_check hv (by omega) hp, hst, same_self (a := p.Next) (by have := h.len; have := h.le8; omega), Bool.not_true, steps_eq, if_pos hv]
      have e1 : (((iz l).length : Int) != ((iz (stepsOf p.Now.length (fullP p))).length : Int)) = false := by simp [hll]
      rw [e1]
      simp only [cond_false]
      generalize hsteps : stepsOf p.Now.length (fullP p) = steps at *
      have hsn : steps.Nodup := by rw [← hsteps]; exact List.nodup_range.filter _
      have hsm : ∀ i, i ∈ steps ↔ (fullP p).testBit i = true := fun i => by
        rw [← hsteps]
        unfold stepsOf
        rw [List.mem_filter]
        constructor
        · exact fun hh => hh.2
        · exact fun hh => ⟨by simpa using bit_lt hFn hh, hh⟩
      suffices hk : ∃ r, bnd (loopM (τ := List Int) (fun (s1 : List Int × List Int × Int) => bif decide ((s1.2.1.length : Int) > 0) then (bnd ((bif decide (s1.2.2 < (other.length : Int)) then (bnd (elt other s1.2.2) fun x1 => bnd (remM (IntKind.wrap .i64 x1) (s1.2.1.length : Int)) fun q1 => some q1) else (some 0) : Option Int)) fun o4 => bnd (elt s1.2.1 o4) fun x2 => bnd (app 8 s1.1 [x2]) fun l1 => bnd (sub s1.2.1 0 o4) fun l2 => bnd (sub s1.2.1 (IntKind.wrap .i64 (o4 + 1)) (s1.2.1.length : Int)) fun l3 => bnd (app 8 ([]) l2) fun l4 => bnd (app 8 l4 l3) fun l5 => some (.next (l1, l5, IntKind.wrap .i64 (s1.2.2 + 1)))) else (some (.done s1.1))) ([], iz steps, 0))
          (fun o3 => bnd (loopM (τ := Bool ⊕ Unit) (fun (s2 : Int) => bif decide (s2 < ((iz l).length : Int)) then (bnd (elt o3 s2) fun x3 => bnd (elt (iz l) s2) fun x4 => bif decide (x3 > x4) then (some (.done (.inl true))) else (bif decide (x3 < x4) then (bnd (m_activation_Check p o3) fun r11 => bnd ((bif (r11.2 == 0) then (some (decide (r11.1 > 0))) else (some false) : Option Bool)) fun o7 => some (.done (.inl o7))) else (some (.next (IntKind.wrap .i64 (s2 + 1)))))) else (some (.done (.inr ())))) 0) fun o5 => retOr o5 fun o6 => some true) = some r ∧ r = true by
        obtain ⟨r, k1, k2⟩ := hk
        rw [k2] at k1
        exact k1
      refine bnd_loop_ex (fun s => ∃ (M R : List Nat) (k : Nat), s = (iz M, iz R, (k : Int)) ∧ (M ++ R).Perm steps ∧ k + R.length = steps.length) (fun s => s.2.1.length) (fun t => ∃ M : List Nat, t = iz M ∧ M.Perm steps)
        ⟨[], steps, 0, rfl, List.Perm.refl _, by omega⟩ (fun s hI => ?_) (fun t ht => ?_)
      · obtain ⟨M, R, k, rfl, hperm, hkl⟩ := hI
        simp only [iz_len]
        have hMl : M.length ≤ 8 := by have := hperm.length_eq; simp at this; omega
        have hRl : R.length ≤ 8 := by omega
        by_cases hR : R.length = 0
        · have d0 : decide (((R.length : Nat) : Int) > 0) = false := by rw [hR]; rfl
          rw [d0]
          have : R = [] := List.eq_nil_of_length_eq_zero hR
          subst this
          exact ⟨_, rfl, M, rfl, by simpa using hperm⟩
        · have d0 : decide (((R.length : Nat) : Int) > 0) = true := by simp; omega
          rw [d0]
          simp only [cond_true]
          obtain ⟨o4, ho4, hlt⟩ : ∃ o4 : Nat, ((bif decide ((k : Int) < (other.length : Int)) then (bnd (elt other (k : Int)) fun x1 => bnd (remM (IntKind.wrap .i64 x1) ((R.length : Nat) : Int)) fun q1 => some q1) else (some 0) : Option Int)) = some (o4 : Int) ∧ o4 < R.length := by
            by_cases hko : k < other.length
            · have d1 : decide ((k : Int) < (other.length : Int)) = true := by simp; omega
              have hx := hot.1 _ (List.getElem_mem hko)
              obtain ⟨x, hx'⟩ : ∃ x : Nat, other[k] = (x : Int) := ⟨other[k].toNat, by have := hx.1; simp [IntKind.min, IntKind.signed] at this; omega⟩
              have hx2 : x ≤ 255 := by have := hx.2; rw [hx'] at this; simp [IntKind.max, IntKind.signed, IntKind.bits] at this; omega
              rw [d1, elt_lt hko, hx']
              simp only [cond_true, bnd_some]
              rw [wrap_i64n (by omega), remM_n (by omega)]
              exact ⟨x % R.length, rfl, Nat.mod_lt _ (by omega)⟩
            · have d1 : decide ((k : Int) < (other.length : Int)) = false := by simp; omega
              rw [d1]
              exact ⟨0, rfl, by omega⟩
          rw [ho4]
          simp only [bnd_some]
          rw [elt_iz hlt, bnd_some, app_eq (by simp; omega) (by simp; omega), bnd_some]
          have hs1 : sub (iz R) 0 (o4 : Int) = some (iz (R.take o4)) := by
            have := sub_iz (l := R) (a := 0) (b := o4) (by omega) (by omega)
            simpa using this
          have hs2 : sub (iz R) (IntKind.wrap .i64 ((o4 : Int) + 1)) ((R.length : Nat) : Int) = some (iz (R.drop (o4 + 1))) := by
            rw [wrap_succ hlt (by omega), sub_iz (by omega) (by omega), List.take_length]
          rw [hs1, bnd_some, hs2, bnd_some, app_eq (by simp; omega) (by simp; omega), bnd_some, app_eq (by simp; omega) (by simp; omega), bnd_some]
          refine ⟨_, rfl, ⟨M ++ [R[o4]], R.take o4 ++ R.drop (o4 + 1), k + 1, ?_, ?_, ?_⟩, ?_⟩
          · rw [wrap_i64 (by omega) (by omega)]
            simp [iz]
          · refine List.Perm.trans ?_ hperm
            rw [List.append_assoc]
            refine List.Perm.append_left M ?_
            have hR2 : R = R.take o4 ++ R[o4] :: R.drop (o4 + 1) := by rw [← List.drop_eq_getElem_cons hlt, List.take_append_drop]
            conv => rhs; rw [hR2]
            exact (List.perm_middle (a := R[o4]) (l₁ := R.take o4) (l₂ := R.drop (o4 + 1))).symm
          · simp
            omega
          · show ([] ++ iz (R.take o4) ++ iz (R.drop (o4 + 1))).length < R.length
            simp
            omega
      · obtain ⟨M, rfl, hperm⟩ := ht
        have hMn : M.Nodup := hperm.nodup_iff.2 hsn
        have hMl : M.length = l.length := by rw [hperm.length_eq]; exact hll.symm
        obtain ⟨T, hT, hTb⟩ := gath_all hFn (S := 0) hMn (fun i hi => ⟨(hsm i).1 (hperm.mem_iff.1 hi), by simp⟩)
        have hTF : T = fullP p := by
          apply Nat.eq_of_testBit_eq
          intro j
          rw [hTb]
          have : decide (j ∈ M) = (fullP p).testBit j := by
            rw [Bool.eq_iff_iff, decide_eq_true_eq, hperm.mem_iff, hsm]
          simp [this]
        subst hTF
        have hck : m_activation_Check p (iz M) = some (chkI (goodP p) 0 (iz M) 0, 0) := by
          rw [check_list (by simp; omega)]
          have : gathP p (iz M) = .inr (fullP p) := by unfold gathP; rw [if_pos hv]; exact hT
          rw [this]
        refine bnd_loop_ex (fun s => ∃ i : Nat, s = (i : Int) ∧ i ≤ l.length ∧ ∀ j (hj : j < i) (hjl : j < l.length), l[j] = M[j]'(by omega)) (fun s => l.length - s.toNat) (fun t => t = .inl true ∨ t = .inr ()) ⟨0, rfl, by omega, fun j hj => by omega⟩ (fun s hI => ?_) (fun t ht => ?_)
        · obtain ⟨i, rfl, hi, heq⟩ := hI
          by_cases hil : i < l.length
          · have d0 : decide ((i : Int) < ((iz l).length : Int)) = true := by simp; omega
            have hiM : i < M.length := by omega
            simp only [d0, cond_true, elt_iz hil, elt_iz hiM, bnd_some, wrap_succ hil (by omega)]
            by_cases hgt : l[i] < M[i]
            · have d1 : decide (((M[i] : Nat) : Int) > ((l[i] : Nat) : Int)) = true := by simp; omega
              rw [d1]
              exact ⟨_, rfl, .inl rfl⟩
            · have d1 : decide (((M[i] : Nat) : Int) > ((l[i] : Nat) : Int)) = false := by simp; omega
              rw [d1]
              simp only [cond_false]
              by_cases hlt : M[i] < l[i]
              · have d2 : decide (((M[i] : Nat) : Int) < ((l[i] : Nat) : Int)) = true := by simp; omega
                rw [d2, hck]
                simp only [cond_true, bnd_some, BEq.rfl]
                have hne : chkI (goodP p) 0 (iz M) 0 ≠ -1 := fun hc => by
                  have hMp := chk_path hT hc
                  exact not_lex hil hiM (fun j hj => heq j hj (by omega)) hlt (least_lex p.Now.length (fullP p) (goodP p) hFn 0 (sub2.zero _) l M ho hMp)
                have hpos : decide (chkI (goodP p) 0 (iz M) 0 > 0) = true := by
                  rcases chk_pos (good0 h) (iz M) with g | g
                  · exact absurd g hne
                  · simpa using g
                rw [hpos]
                exact ⟨_, rfl, .inl rfl⟩
              · have d2 : decide (((M[i] : Nat) : Int) < ((l[i] : Nat) : Int)) = false := by simp; omega
                rw [d2]
                refine ⟨_, rfl, ⟨i + 1, rfl, by omega, fun j hj hjl => ?_⟩, ?_⟩
                · by_cases hji : j = i
                  · subst hji; omega
                  · exact heq j (by omega) hjl
                · show l.length - ((i + 1 : Nat) : Int).toNat < l.length - ((i : Nat) : Int).toNat
                  omega
          · have d0 : decide ((i : Int) < ((iz l).length : Int)) = false := by simp; omega
            rw [d0]
            exact ⟨_, rfl, .inr rfl⟩
        · rcases ht with rfl | rfl
          · exact ⟨_, rfl, rfl⟩
          · exact ⟨_, rfl, rfl⟩
  · rw [order_eq, if_neg hv]
    have e1 : ((validN p : Int) != 0) = true := by rw [bne_iff_ne]; exact_mod_cast hv
    simp only [bnd_some, e1, cond_true, valid_eq]
    have : (((validN p : Nat) : Int) == (validN p : Int)) = true := by simp
    rw [this]
    cases ((validN p : Int) == 41) <;> rfl
end Go.Proofs.Yteaoblglgcpdnaa
