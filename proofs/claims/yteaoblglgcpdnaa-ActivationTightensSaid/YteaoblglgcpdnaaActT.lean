/-
  ActivationTightens: a further need never makes an order possible, and never makes a set reachable that was not.
  Conditions: none.
-/
import Derived.Test.YteaoblglgcpdnaaAct4
import Derived.Test.YteaoblglgcpdnaaAct6
import Derived.Test.YteaoblglgcpdnaaGenActivationTightens
namespace Go.Proofs.Yteaoblglgcpdnaa
open Go
set_option linter.unusedSimpArgs false
set_option linter.unusedVariables false

theorem okPath_mono {F : Nat} {G G' : Nat → Bool} (hG : ∀ S, G S = true → G' S = true) : ∀ {l : List Nat} {S : Nat}, okPath F G S l → okPath F G' S l
  | [], S, h => h
  | i :: l, S, h => by
    obtain ⟨a, b, c⟩ := step_parts h.1
    refine ⟨?_, okPath_mono hG h.2⟩
    unfold stepB
    rw [a, b, hG _ c]
    rfl
theorem reach_mono {F : Nat} {G G' : Nat → Bool} (hG : ∀ S, G S = true → G' S = true) {S : Nat} (h : Reach F G S) : Reach F G' S := by
  induction h with
  | zero => exact .zero
  | step h hs ih =>
    obtain ⟨a, b, c⟩ := step_parts hs
    refine .step ih ?_
    unfold stepB
    rw [a, b, hG _ c]
    rfl

/-- The walk through two ascending lists. -/
theorem merge_true {L M : List Nat} (hL : L.Pairwise (· < ·)) (hM : M.Pairwise (· < ·)) (hsub : ∀ x ∈ M, x ∈ L) (hl : L.length ≤ 1000) (hm : M.length ≤ 1000) :
    bnd (loopM (τ := Bool ⊕ Unit) (fun (s1 : Int × Int × List Int) => bif decide (s1.2.1 < ((iz M).length : Int)) then (bnd (elt (iz M) s1.2.1) fun x1 => bnd (loopM (τ := Int × List Int) (fun (s2 : Int × List Int) => bnd ((bif decide (s2.1 < (s2.2.length : Int)) then (bnd (elt s2.2 s2.1) fun x2 => some (s2.2, decide (x2 < x1))) else (some (s2.2, false)) : Option (List Int × Bool))) fun o6 => bif o6.2 then (some (.next (IntKind.wrap .i64 (s2.1 + 1), o6.1))) else (some (.done (s2.1, o6.1)))) (s1.1, s1.2.2)) fun o5 => bnd ((bif (o5.1 == (o5.2.length : Int)) then (some (o5.2, true)) else (bnd (elt o5.2 o5.1) fun x3 => some (o5.2, (x3 != x1))) : Option (List Int × Bool))) fun o7 => bif o7.2 then (some (.done (.inl false))) else (some (.next (o5.1, IntKind.wrap .i64 (s1.2.1 + 1), o7.1)))) else (some (.done (.inr ())))) (0, 0, iz L)) (fun o3 => retOr o3 fun o4 => some true) = some true := by
  suffices hk : ∃ r, bnd (loopM (τ := Bool ⊕ Unit) (fun (s1 : Int × Int × List Int) => bif decide (s1.2.1 < ((iz M).length : Int)) then (bnd (elt (iz M) s1.2.1) fun x1 => bnd (loopM (τ := Int × List Int) (fun (s2 : Int × List Int) => bnd ((bif decide (s2.1 < (s2.2.length : Int)) then (bnd (elt s2.2 s2.1) fun x2 => some (s2.2, decide (x2 < x1))) else (some (s2.2, false)) : Option (List Int × Bool))) fun o6 => bif o6.2 then (some (.next (IntKind.wrap .i64 (s2.1 + 1), o6.1))) else (some (.done (s2.1, o6.1)))) (s1.1, s1.2.2)) fun o5 => bnd ((bif (o5.1 == (o5.2.length : Int)) then (some (o5.2, true)) else (bnd (elt o5.2 o5.1) fun x3 => some (o5.2, (x3 != x1))) : Option (List Int × Bool))) fun o7 => bif o7.2 then (some (.done (.inl false))) else (some (.next (o5.1, IntKind.wrap .i64 (s1.2.1 + 1), o7.1)))) else (some (.done (.inr ())))) (0, 0, iz L)) (fun o3 => retOr o3 fun o4 => some true) = some r ∧ r = true by
    obtain ⟨r, k1, k2⟩ := hk
    rw [k2] at k1
    exact k1
  refine bnd_loop_ex (fun s => ∃ k i : Nat, s = ((k : Int), (i : Int), iz L) ∧ k ≤ L.length ∧ i ≤ M.length ∧ ∀ j (hj : j < k) (hjl : j < L.length) i' (hi' : i ≤ i') (him : i' < M.length), L[j] < M[i']) (fun s => M.length - s.2.1.toNat) (fun t => t = .inr ()) ⟨0, 0, rfl, by omega, by omega, fun j hj => by omega⟩ (fun s hI => ?_) (fun t ht => ?_)
  · obtain ⟨k, i, rfl, hk, hi, hb⟩ := hI
    by_cases him : i < M.length
    · have d0 : decide ((i : Int) < ((iz M).length : Int)) = true := by simp; omega
      simp only [d0, cond_true, elt_iz him, bnd_some]
      refine bnd_loop_ex (fun s => ∃ k' : Nat, s = ((k' : Int), iz L) ∧ k' ≤ L.length ∧ ∀ j (hj : j < k') (hjl : j < L.length), L[j] < M[i]) (fun s => L.length - s.1.toNat)
        (fun t => ∃ k' : Nat, t = ((k' : Int), iz L) ∧ k' ≤ L.length ∧ (∀ j (hj : j < k') (hjl : j < L.length), L[j] < M[i]) ∧ ∀ (h : k' < L.length), M[i] ≤ L[k'])
        ⟨k, rfl, hk, fun j hj hjl => hb j hj hjl i (by omega) him⟩ (fun s hI => ?_) (fun t ht => ?_)
      · obtain ⟨k', rfl, hk', hb'⟩ := hI
        by_cases hkl : k' < L.length
        · have d1 : decide ((k' : Int) < ((iz L).length : Int)) = true := by simp; omega
          simp only [d1, cond_true, elt_iz hkl, bnd_some]
          by_cases hlt : L[k'] < M[i]
          · have d2 : decide (((L[k'] : Nat) : Int) < ((M[i] : Nat) : Int)) = true := by simp; omega
            rw [d2]
            simp only [cond_true, wrap_succ hkl (by omega)]
            refine ⟨_, rfl, ⟨k' + 1, rfl, by omega, fun j hj hjl => ?_⟩, ?_⟩
            · by_cases hjk : j = k'
              · subst hjk; exact hlt
              · exact hb' j (by omega) hjl
            · show L.length - ((k' + 1 : Nat) : Int).toNat < L.length - ((k' : Nat) : Int).toNat
              omega
          · have d2 : decide (((L[k'] : Nat) : Int) < ((M[i] : Nat) : Int)) = false := by simp; omega
            rw [d2]
            exact ⟨_, rfl, k', rfl, hk', hb', fun _ => by omega⟩
        · have d1 : decide ((k' : Int) < ((iz L).length : Int)) = false := by simp; omega
          rw [d1]
          exact ⟨_, rfl, k', rfl, hk', hb', fun h => absurd h hkl⟩
      · obtain ⟨k', rfl, hk', hb', hge⟩ := ht
        obtain ⟨t, htl, hte⟩ := List.getElem_of_mem (hsub _ (List.getElem_mem him))
        have htk : k' ≤ t := by
          rcases Nat.lt_or_ge t k' with g | g
          · have := hb' t g htl
            omega
          · exact g
        have hkl : k' < L.length := by omega
        have heq : L[k'] = M[i] := by
          have h1 := hge hkl
          by_cases hkt : k' = t
          · subst hkt; exact hte
          · have := asc_get hL (i := k') (j := t) (by omega) htl
            omega
        have d1 : ((k' : Int) == ((iz L).length : Int)) = false := by
          rw [beq_eq_false_iff_ne]
          simp
          omega
        have d2 : (((L[k'] : Nat) : Int) != ((M[i] : Nat) : Int)) = false := by rw [heq]; simp
        simp only [d1, cond_false, elt_iz hkl, bnd_some, d2, wrap_succ him (by omega)]
        refine ⟨_, rfl, ⟨k', i + 1, rfl, hk', by omega, fun j hj hjl i' hi' him' => ?_⟩, ?_⟩
        · have h1 := hb' j hj hjl
          have h2 := asc_get hM (i := i) (j := i') (by omega) him'
          omega
        · show M.length - ((i + 1 : Nat) : Int).toNat < M.length - ((i : Nat) : Int).toNat
          omega
    · have d0 : decide ((i : Int) < ((iz M).length : Int)) = false := by simp; omega
      rw [d0]
      exact ⟨_, rfl, rfl⟩
  · subst ht
    exact ⟨_, rfl, rfl⟩

theorem tightens_true (codes : List Int) (hc : okL (inK .u8) codes) : m_law31_ActivationTightens codes = some true := by
  unfold m_law31_ActivationTightens
  rw [awake_eq]
  simp only [bnd_some, Bool.not_true, cond_false]
  obtain ⟨c, h1, h2⟩ := made_plan hc
  refine bnd_eq h1 ?_
  obtain ⟨r, h3, h4, hG⟩ := plan_ok h2
  refine bnd_eq h3 ?_
  obtain ⟨r4, h5, _⟩ := need_ok h4
  generalize r.2 = p at hG
  rw [app_eq (by simp; have := hG.few; omega) (by simp; have := hG.few; omega)]
  simp only [List.nil_append, bnd_some, h5]
  rw [app_eq (by simp; have := hG.few; omega) (by simp; have := hG.few; omega)]
  simp only [bnd_some, valid_eq]
  generalize hq : (⟨p.Now, p.Next, p.Needs ++ [r4.2]⟩ : T_Plan) = q
  by_cases hv : validN p = 0
  · have e1 : ((validN p : Int) != 0) = false := by rw [hv]; rfl
    rw [e1]
    by_cases hvq : validN q = 0
    · have e2 : ((validN q : Int) != 0) = false := by rw [hvq]; rfl
      rw [e2]
      simp only [cond_false, bnd_some]
      have hF : fullP q = fullP p := by subst hq; rfl
      have hgood : ∀ S, goodP q S = true → goodP p S = true := fun S hg => by
        subst hq
        unfold goodP at hg ⊢
        rw [List.all_append, Bool.and_eq_true] at hg
        exact hg.1
      obtain ⟨R1, k1, k2, k3⟩ := reach_eq hv
      obtain ⟨R2, l1, l2, l3⟩ := reach_eq hvq
      have hN : fullP p < 256 := mask256 (planOk.1 hv).le8
      have hlen : ∀ {p' : T_Plan} {R : List Nat}, fullP p' < 256 → R.Pairwise (· < ·) → (∀ S, S ∈ R ↔ Reach (fullP p') (goodP p') S) → R.length ≤ 256 := fun hf hp hm =>
        few256 (hp.imp fun h => by omega) fun S hS => by have := ((hm S).1 hS).sub.le; omega
      have hl1 := hlen hN k2 k3
      have hl2 := hlen (by rw [hF]; exact hN) l2 l3
      rw [order_eq, if_pos hv, order_eq, if_pos hvq, k1, l1]
      have hmerge := merge_true k2 l2 (fun x hx => (k3 x).2 (by have := (l3 x).1 hx; rw [hF] at this; exact reach_mono hgood this)) (by omega) (by omega)
      cases ho : orderP p with
      | none =>
        cases hoq : orderP q with
        | none =>
          simp only [bnd_some, bne_self_eq_false, cond_false]
          exact hmerge
        | some l =>
          have hp := order_path hoq
          rw [hF] at hp
          exact absurd (okPath_mono hgood hp) (order_none ho l)
      | some l' =>
        cases hoq : orderP q with
        | none =>
          simp only [bnd_some, bne_self_eq_false, cond_false]
          exact hmerge
        | some l =>
          simp only [bnd_some, bne_self_eq_false, cond_false, BEq.rfl, cond_true]
          exact hmerge
    · have e2 : ((validN q : Int) != 0) = true := by rw [bne_iff_ne]; exact_mod_cast hvq
      rw [e2]
      rfl
  · have e1 : ((validN p : Int) != 0) = true := by rw [bne_iff_ne]; exact_mod_cast hv
    rw [e1]
    rfl
end Go.Proofs.Yteaoblglgcpdnaa
