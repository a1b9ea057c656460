/-
  ActivationDecides: there is an order, and no list of sets proves that there is none, or what Reachable returns is such a proof.
  Conditions: none.
-/
import Derived.Test.YteaoblglgcpdnaaAct4
import Derived.Test.YteaoblglgcpdnaaAct6
import Derived.Test.YteaoblglgcpdnaaGenActivationDecides
namespace Go.Proofs.Yteaoblglgcpdnaa
open Go
set_option linter.unusedSimpArgs false
set_option linter.unusedVariables false

theorem reach_path {F : Nat} {G : Nat → Bool} : ∀ {l : List Nat} {S : Nat}, Reach F G S → okPath F G S l → Reach F G F
  | [], S, h, hp => by
    have : S = F := hp
    rw [this] at h
    exact h
  | i :: l, S, h, hp => reach_path (.step h hp.1) hp.2
theorem path_reach {F : Nat} {G : Nat → Bool} {S : Nat} (h : Reach F G S) : ∀ {l : List Nat}, okPath F G S l → ∃ m, okPath F G 0 m := by
  induction h with
  | zero => exact fun hp => ⟨_, hp⟩
  | step h hs ih => exact fun hp => ih (l := _ :: _) ⟨hs, hp⟩
theorem full_reach {F : Nat} {G : Nat → Bool} (h : Reach F G F) : ∃ m, okPath F G 0 m := path_reach h (l := []) rfl

/-- Where there is an order, nothing proves that there is none. -/
theorem no_proof {p : T_Plan} {l : List Nat} (hp : okPath (fullP p) (goodP p) 0 l) (sets : List Int) : ¬ StuckP p sets := by
  rintro ⟨hv, L, hA, h0, hF, hc⟩
  have h0m : 0 ∈ L := List.mem_of_getElem? h0
  have : ∀ (l : List Nat) (S : Nat), S ∈ L → ¬ okPath (fullP p) (goodP p) S l := by
    intro l
    induction l with
    | nil =>
      intro S hS hp
      have : S = fullP p := hp
      rw [this] at hS
      exact hF hS
    | cons i l ih =>
      intro S hS hp
      obtain ⟨a, b, c⟩ := step_parts hp.1
      by_cases hm : S ||| 2 ^ i ∈ L
      · exact ih _ hm hp.2
      · have := hc S hS i (bit_lt (mask_lt _ _) a) a hm
        rw [c] at this
        cases this
  exact this l 0 h0m hp

theorem reach_stuck {p : T_Plan} (hv : validN p = 0) (hno : ∀ l, ¬ okPath (fullP p) (goodP p) 0 l) {R : List Nat} (hR : R.Pairwise (· < ·)) (hm : ∀ S, S ∈ R ↔ Reach (fullP p) (goodP p) S) : StuckP p (iz R) := by
  refine ⟨hv, R, ⟨rfl, hR, fun S hS => ((hm S).1 hS).sub⟩, ?_, fun hF => ?_, fun S hS i hi hFi hnm => ?_⟩
  · have h0 : 0 ∈ R := (hm 0).2 .zero
    cases R with
    | nil => cases h0
    | cons x R =>
      rcases List.mem_cons.1 h0 with g | g
      · rw [← g]; rfl
      · have := (List.pairwise_cons.1 hR).1 0 g
        omega
  · obtain ⟨m, hp⟩ := full_reach ((hm _).1 hF)
    exact hno m hp
  · cases hg : goodP p (S ||| 2 ^ i)
    · rfl
    · exfalso
      apply hnm
      cases hb : S.testBit i
      · refine (hm _).2 (.step ((hm S).1 hS) ?_)
        unfold stepB
        rw [hFi, hb, hg]
        rfl
      · have := or_same S i
        rw [hb, beq_iff_eq] at this
        have h2 : S ||| 2 ^ i = S := by exact_mod_cast this
        rw [h2]
        exact hS

theorem last_full {F : Nat} {R : List Nat} (hR : R.Pairwise (· < ·)) (hs : ∀ S ∈ R, S ≤ F) (h0 : 0 < R.length) : R[R.length - 1] = F ↔ F ∈ R := by
  constructor
  · intro h; rw [← h]; exact List.getElem_mem _
  · intro h
    obtain ⟨j, hj, hjF⟩ := List.getElem_of_mem h
    by_cases hjl : j = R.length - 1
    · subst hjl; exact hjF
    · have h1 := asc_get hR (i := j) (j := R.length - 1) (by omega) (by omega)
      have h2 := hs _ (List.getElem_mem (by omega : R.length - 1 < R.length))
      omega

theorem decides_true (codes : List Int) (sets : List Int) (hc : okL (inK .u8) codes) (hst : okL (inK .i64) sets) : m_law31_ActivationDecides codes sets = some true := by
  unfold m_law31_ActivationDecides
  rw [awake_eq]
  simp only [bnd_some, Bool.not_true, cond_false]
  by_cases hlen : sets.length > 300
  · have d0 : decide ((sets.length : Int) > 300) = true := by simp; omega
    rw [d0]
    rfl
  have d0 : decide ((sets.length : Int) > 300) = false := by simp; omega
  rw [d0]
  simp only [cond_false]
  obtain ⟨c, h1, h2⟩ := made_plan hc
  refine bnd_eq h1 ?_
  obtain ⟨r, h3, _, hG⟩ := plan_ok h2
  refine bnd_eq h3 ?_
  generalize r.2 = p at hG
  obtain ⟨b, hb1, hb2⟩ := stuck_eq (p := p) hst.1 (by omega)
  rw [valid_eq]
  simp only [bnd_some]
  by_cases hv : validN p = 0
  · have e1 : ((validN p : Int) != 0) = false := by rw [hv]; rfl
    rw [e1]
    simp only [cond_false]
    have h := planOk.1 hv
    have hF : fullP p < 256 := mask256 h.le8
    have hFn : fullP p < 2 ^ p.Now.length := mask_lt _ _
    obtain ⟨R, k1, k2, k3⟩ := reach_eq hv
    have hR256 : ∀ S ∈ R, S ≤ fullP p := fun S hS => ((k3 S).1 hS).sub.le
    have hRl : R.length ≤ 256 := few256 (k2.imp fun h => by omega) fun S hS => by have := hR256 S hS; omega
    have h0R : 0 < R.length := List.length_pos_of_mem ((k3 0).2 .zero)
    have hRz : ∀ x ∈ iz R, inK .i64 x := fun x hx => by
      unfold iz at hx
      obtain ⟨S, hS, rfl⟩ := List.mem_map.1 hx
      have := hR256 S hS
      exact inK_i64.2 ⟨by omega, by omega⟩
    have hsl : (stepsOf p.Now.length (fullP p)).length ≤ 8 := Nat.le_trans (List.length_filter_le _ _) (by simp; exact h.le8)
    have hloop : bnd (loopM (τ := Bool ⊕ Int) (fun (s1 : Int × Int) => bif decide (s1.2 < ((iz (stepsOf p.Now.length (fullP p))).length : Int)) then (bnd (elt (iz (stepsOf p.Now.length (fullP p))) s1.2) fun x1 => bnd ((bif decide (x1 < 0) then (some true) else (some (decide (x1 > 7))) : Option Bool)) fun o4 => bif o4 then (some (.done (.inl false))) else (bnd (shlM .i64 1 (IntKind.wrap .u64 x1)) fun q1 => some (.next (iOr .i64 s1.1 q1, IntKind.wrap .i64 (s1.2 + 1))))) else (some (.done (.inr s1.1)))) (0, 0)) (fun o => some o) = some (.inr (fullP p : Int)) := by
      suffices hk : ∃ r, bnd (loopM (τ := Bool ⊕ Int) (fun (s1 : Int × Int) => bif decide (s1.2 < ((iz (stepsOf p.Now.length (fullP p))).length : Int)) then (bnd (elt (iz (stepsOf p.Now.length (fullP p))) s1.2) fun x1 => bnd ((bif decide (x1 < 0) then (some true) else (some (decide (x1 > 7))) : Option Bool)) fun o4 => bif o4 then (some (.done (.inl false))) else (bnd (shlM .i64 1 (IntKind.wrap .u64 x1)) fun q1 => some (.next (iOr .i64 s1.1 q1, IntKind.wrap .i64 (s1.2 + 1))))) else (some (.done (.inr s1.1)))) (0, 0)) (fun o => some o) = some r ∧ r = .inr (fullP p : Int) by
        obtain ⟨r, g1, g2⟩ := hk
        rw [g1, g2]
      generalize hs : stepsOf p.Now.length (fullP p) = steps at hsl
      have hsm : ∀ i, i ∈ steps ↔ (fullP p).testBit i = true := fun i => by
        rw [← hs]
        unfold stepsOf
        rw [List.mem_filter]
        exact ⟨fun hh => hh.2, fun hh => ⟨by simpa using bit_lt hFn hh, hh⟩⟩
      refine bnd_loop_ex (fun s => ∃ T i : Nat, s = ((T : Int), (i : Int)) ∧ i ≤ steps.length ∧ T < 256 ∧ ∀ j, T.testBit j = decide (j ∈ steps.take i)) (fun s => steps.length - s.2.toNat) (fun t => t = .inr (fullP p : Int)) ⟨0, 0, rfl, by omega, by omega, fun j => by simp⟩ (fun s hI => ?_) (fun t ht => ⟨t, rfl, ht⟩)
      obtain ⟨T, i, rfl, hi, hT, hTb⟩ := hI
      by_cases hil : i < steps.length
      · have d1 : decide ((i : Int) < ((iz steps).length : Int)) = true := by simp; omega
        have hk8 : steps[i] < 8 := by have := bit_lt hFn ((hsm _).1 (List.getElem_mem hil)); have := h.le8; omega
        have d2 : decide (((steps[i] : Nat) : Int) < 0) = false := decide_eq_false (by omega)
        have d3 : decide (((steps[i] : Nat) : Int) > 7) = false := decide_eq_false (by omega)
        simp only [d1, cond_true, elt_iz hil, bnd_some, d2, d3, cond_false, wrap_u64n (n := steps[i]) (by omega), shl1 hk8, or1 hT hk8, wrap_succ hil (by omega)]
        refine ⟨_, rfl, ⟨T ||| 2 ^ steps[i], i + 1, rfl, by omega, or256 hT hk8, fun j => ?_⟩, ?_⟩
        · rw [Bool.eq_iff_iff]
          simp only [or_bit, hTb, Bool.or_eq_true, decide_eq_true_eq]
          have : j ∈ steps.take (i + 1) ↔ j ∈ steps.take i ∨ j = steps[i] := by rw [take_succ_get hil, List.mem_append, List.mem_singleton]
          rw [this]
          exact or_congr Iff.rfl ⟨Eq.symm, Eq.symm⟩
        · show steps.length - ((i + 1 : Nat) : Int).toNat < steps.length - ((i : Nat) : Int).toNat
          omega
      · have d1 : decide ((i : Int) < ((iz steps).length : Int)) = false := by simp; omega
        rw [d1]
        refine ⟨_, rfl, ?_⟩
        have : T = fullP p := by
          apply Nat.eq_of_testBit_eq
          intro j
          rw [hTb, List.take_of_length_le (by omega), Bool.eq_iff_iff, decide_eq_true_eq, hsm]
        rw [this]
    have hloop' : loopM (τ := Bool ⊕ Int) (fun (s1 : Int × Int) => bif decide (s1.2 < ((iz (stepsOf p.Now.length (fullP p))).length : Int)) then (bnd (elt (iz (stepsOf p.Now.length (fullP p))) s1.2) fun x1 => bnd ((bif decide (x1 < 0) then (some true) else (some (decide (x1 > 7))) : Option Bool)) fun o4 => bif o4 then (some (.done (.inl false))) else (bnd (shlM .i64 1 (IntKind.wrap .u64 x1)) fun q1 => some (.next (iOr .i64 s1.1 q1, IntKind.wrap .i64 (s1.2 + 1))))) else (some (.done (.inr s1.1)))) (0, 0) = some (.inr (fullP p : Int)) := by
      rw [bnd_ret] at hloop
      exact hloop
    have hlast : elt (iz R) (IntKind.wrap .i64 (((iz R).length : Int) - 1)) = some ((R[R.length - 1] : Nat) : Int) := by
      rw [wrap_i64 (by simp; omega) (by simp; omega)]
      have : ((iz R).length : Int) - 1 = ((R.length - 1 : Nat) : Int) := by simp; omega
      rw [this, elt_iz (by omega)]
    have hlen0 : (((iz R).length : Int) == 0) = false := by rw [beq_eq_false_iff_ne]; simp; exact List.ne_nil_of_length_pos h0R
    obtain ⟨b2, hb3, hb4⟩ := stuck_eq (p := p) hRz (by simp; omega)
    have hsub : sub (iz R) 0 (IntKind.wrap .i64 (((iz R).length : Int) - 1)) = some (iz (R.take (R.length - 1))) := by
      rw [wrap_i64 (by simp; omega) (by simp; omega)]
      have : ((iz R).length : Int) - 1 = ((R.length - 1 : Nat) : Int) := by simp; omega
      rw [this]
      have := sub_iz (l := R) (a := 0) (b := R.length - 1) (by omega) (by omega)
      simpa using this
    obtain ⟨b3, hb5, hb6⟩ := stuck_eq (p := p) (sets := iz (R.take (R.length - 1))) (fun x hx => by
      refine hRz x ?_
      unfold iz at hx ⊢
      obtain ⟨S, hS, rfl⟩ := List.mem_map.1 hx
      exact List.mem_map.2 ⟨S, List.mem_of_mem_take hS, rfl⟩) (by simp; omega)
    rw [order_eq, if_pos hv, k1, steps_eq, if_pos hv]
    cases ho : orderP p with
    | none =>
      have hno := order_none ho
      simp only [bnd_some, bne_self_eq_false, cond_false]
      have e2 : (((41 : Int)) != 0) = true := by decide
      simp only [e2, cond_true, hlen0, bnd_some, cond_false, hloop', retOr_inr, hlast]
      have hF2 : R[R.length - 1] ≠ fullP p := fun e => by
        obtain ⟨m, hp⟩ := full_reach ((k3 _).1 ((last_full k2 hR256 h0R).1 e))
        exact hno m hp
      have e3 : (((R[R.length - 1] : Nat) : Int) == (fullP p : Int)) = false := by rw [beq_eq_false_iff_ne]; exact_mod_cast hF2
      have e4 : ((41 : Int) == 0) = false := by decide
      rw [e3, e4]
      have hbt : b2 = true := hb4.2 (reach_stuck hv hno k2 k3)
      rw [hb3, hbt]
      rfl
    | some l =>
      have hp := order_path ho
      simp only [bnd_some, bne_self_eq_false, cond_false, hlen0, hloop', retOr_inr, hlast]
      have hF2 : R[R.length - 1] = fullP p := (last_full k2 hR256 h0R).2 ((k3 _).2 (reach_path .zero hp))
      have e3 : (((R[R.length - 1] : Nat) : Int) == (fullP p : Int)) = true := by rw [hF2]; simp
      have hf1 : b = false := by
        cases b
        · rfl
        · exact absurd (hb2.1 rfl) (no_proof hp _)
      have hf2 : b2 = false := by
        cases b2
        · rfl
        · exact absurd (hb4.1 rfl) (no_proof hp _)
      have hf3 : b3 = false := by
        cases b3
        · rfl
        · exact absurd (hb6.1 rfl) (no_proof hp _)
      simp only [e3, BEq.rfl, Bool.not_true, cond_false, cond_true, hb1, hf1, bnd_some, Bool.not_false, hb3, hf2, hsub, hb5, hf3]
  · have e1 : ((validN p : Int) != 0) = true := by rw [bne_iff_ne]; exact_mod_cast hv
    rw [e1]
    have hf1 : b = false := by
      cases b
      · rfl
      · exact absurd (hb2.1 rfl).1 hv
    simp only [cond_true, hb1, hf1, bnd_some, Bool.not_false]
end Go.Proofs.Yteaoblglgcpdnaa
