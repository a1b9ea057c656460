/-
  Chapter 31: the reference's orders, reached sets and proofs answer as the program's do.
  Conditions: none.
-/
import Derived.Test.YteaoblglgcpdnaaActA1
namespace Go.Proofs.Yteaoblglgcpdnaa
open Go
set_option linter.unusedSimpArgs false
set_option linter.unusedVariables false

theorem sub_bit {S F : Nat} : decide (S &&& F = S) = true ↔ sub2 S F := by
  rw [decide_eq_true_eq]
  constructor
  · intro h i hi
    have : (S &&& F).testBit i = S.testBit i := by rw [h]
    rw [Nat.testBit_and, hi] at this
    simpa using this
  · intro h
    apply Nat.eq_of_testBit_eq
    intro i
    rw [Nat.testBit_and]
    cases hs : S.testBit i
    · rfl
    · rw [h i hs]; rfl

theorem and_pow {a i : Nat} : (((a &&& 2 ^ i : Nat) : Int) != 0) = a.testBit i := by
  rw [Bool.eq_iff_iff, bne_iff_ne]
  constructor
  · intro h
    cases hb : a.testBit i
    · exfalso
      apply h
      have : a &&& 2 ^ i = 0 := by
        apply Nat.eq_of_testBit_eq
        intro j
        rw [Nat.testBit_and]
        by_cases hij : i = j
        · subst hij; simp [hb]
        · simp [Nat.testBit_two_pow_of_ne hij]
      rw [this]
      rfl
    · rfl
  · intro hb h
    have h0 : a &&& 2 ^ i = 0 := by exact_mod_cast h
    have : (a &&& 2 ^ i).testBit i = true := by rw [Nat.testBit_and, hb]; simp
    rw [h0] at this
    simp at this
theorem and_pow0 {a i : Nat} : (((a &&& 2 ^ i : Nat) : Int) == 0) = !a.testBit i := by
  have := and_pow (a := a) (i := i)
  rw [← this]
  simp [bne]
theorem and2 {a i : Nat} (ha : a < 4611686018427387904) (hi : i < 8) : iAnd .i64 (a : Int) ((2 ^ i : Nat) : Int) = ((a &&& 2 ^ i : Nat) : Int) := iAnd_i64 ha (by have := pow8 hi; omega)

theorem elt_map {f : Nat → Bool} {n S : Nat} (h : S < n) : elt ((List.range n).map f) (S : Int) = some (f S) := by
  have hl : S < ((List.range n).map f).length := by simpa using h
  rw [elt_lt hl]
  simp
theorem setE_map {f : Nat → Bool} {n S : Nat} (h : S < n) (b : Bool) : setE ((List.range n).map f) (S : Int) b = some ((List.range n).map fun T => if T = S then b else f T) := by
  rw [setE_nat (by simpa using h)]
  congr 1
  apply List.ext_getElem (by simp)
  intro i h1 h2
  by_cases hi : i = S
  · subst hi; simp
  · rw [List.getElem_set_ne (fun e => hi e.symm)]
    simp [hi]

section
variable {p : T_Plan}

/-- Whether a set is good and leads to all steps. -/
def compl (p : T_Plan) (S : Nat) : Bool := decide (S &&& fullP p = S) && (goodP p S && (lst p.Now.length (fullP p) (goodP p) S).isSome)

theorem compl_step (hv : validN p = 0) {S : Nat} (hs : sub2 S (fullP p)) (hg : goodP p S = true) : compl p S = (decide (S = fullP p) || (List.range p.Now.length).any fun i => (fullP p).testBit i && (!S.testBit i && compl p (S ||| 2 ^ i))) := by
  have h1 : decide (S &&& fullP p = S) = true := sub_bit.2 hs
  by_cases he : S = fullP p
  · unfold compl
    rw [h1, hg, he, least_full]
    simp
  · have hF : decide (S = fullP p) = false := decide_eq_false he
    rw [hF, Bool.false_or]
    unfold compl
    rw [h1, hg, least_step p.Now.length (fullP p) (goodP p) hs he, Bool.true_and, Bool.true_and, Bool.eq_iff_iff]
    rw [Option.isSome_iff_exists, List.any_eq_true]
    constructor
    · rintro ⟨l, hl⟩
      obtain ⟨i, hi, h2, _⟩ := fs_some hl
      split at h2
      · rename_i hst
        obtain ⟨a, b, c⟩ := step_parts hst
        rw [Option.map_eq_some_iff] at h2
        obtain ⟨r, h3, _⟩ := h2
        refine ⟨i, by simpa using hi, ?_⟩
        rw [a, b, c, h3, sub_bit.2 (hs.or a)]
        rfl
      · cases h2
    · rintro ⟨i, hi, h2⟩
      simp only [Bool.and_eq_true, Bool.not_eq_true'] at h2
      obtain ⟨a, b, _, c, d⟩ := h2
      have hst : stepB (fullP p) (goodP p) S i = true := by unfold stepB; rw [a, b, c]; rfl
      cases hf : (List.range p.Now.length).findSome? (fun i => if stepB (fullP p) (goodP p) S i = true then (lst p.Now.length (fullP p) (goodP p) (S ||| 2 ^ i)).map (i :: ·) else none) with
      | some l => exact ⟨l, rfl⟩
      | none =>
        have := List.findSome?_eq_none_iff.1 hf i hi
        rw [if_pos hst] at this
        rw [Option.map_eq_none_iff] at this
        rw [this] at d
        cases d

theorem any_range_succ (n : Nat) (f : Nat → Bool) : (List.range (n + 1)).any f = ((List.range n).any f || f n) := by
  rw [List.range_succ, List.any_append]
  simp

theorem completes_ref (hv : validN p = 0) : m_ref31_completes p = some ((List.range (fullP p + 1)).map (compl p)) := by
  have h := planOk.1 hv
  have h8 := h.le8
  have hF : fullP p < 256 := mask256 h.le8
  have hFn : fullP p < 2 ^ p.Now.length := mask_lt _ _
  unfold m_ref31_completes
  rw [all_ref hv]
  simp only [bnd_some]
  have hmk : mkS 1 false (IntKind.wrap .i64 ((fullP p : Int) + 1)) (IntKind.wrap .i64 ((fullP p : Int) + 1)) = some ((List.range (fullP p + 1)).map fun S => false) := by
    rw [wrap_i64 (by omega) (by omega)]
    unfold mkS
    rw [if_pos ⟨by omega, by omega, by omega, by omega⟩]
    congr 1
    apply List.ext_getElem (by simp)
    intro i h1 h2
    simp
  rw [hmk]
  simp only [bnd_some]
  suffices hk : ∃ r, bnd (loopM (τ := List Bool) (fun (s1 : Int × List Bool) => bif decide (s1.1 ≥ 0) then (bnd ((bif ((iAndNot .i64 s1.1 (fullP p : Int)) != 0) then (some true) else (bnd (m_ref31_good p s1.1) fun r2 => some (!r2)) : Option Bool)) fun o2 => bif o2 then (some (.next (IntKind.wrap .i64 (s1.1 - 1), s1.2))) else (bnd (elt s1.2 s1.1) fun x1 => bnd (setE s1.2 s1.1 (s1.1 == (fullP p : Int))) fun l2 => bnd (loopM (τ := List Bool) (fun (s2 : Int × List Bool) => bif decide (s2.1 < (p.Now.length : Int)) then (bnd (shlM .i64 1 (IntKind.wrap .u64 s2.1)) fun q1 => bnd ((bif ((iAnd .i64 (fullP p : Int) q1) != 0) then (bif ((iAnd .i64 s1.1 q1) == 0) then (bnd (elt s2.2 (iOr .i64 s1.1 q1)) fun x2 => some (s2.2, x2)) else (some (s2.2, false))) else (some (s2.2, false)) : Option (List Bool × Bool))) fun o4 => bif o4.2 then (bnd (elt o4.1 s1.1) fun x3 => bnd (setE o4.1 s1.1 true) fun l3 => some (.next (IntKind.wrap .i64 (s2.1 + 1), l3))) else (some (.next (IntKind.wrap .i64 (s2.1 + 1), o4.1)))) else (some (.done s2.2))) (0, l2)) fun o3 => some (.next (IntKind.wrap .i64 (s1.1 - 1), o3)))) else (some (.done s1.2))) ((fullP p : Int), (List.range (fullP p + 1)).map fun S => false)) (fun o1 => some o1) = some r ∧ r = (List.range (fullP p + 1)).map (compl p) by
    obtain ⟨r, g1, g2⟩ := hk
    rw [g1, g2]
  -- k sets are left: those below k
  refine bnd_loop_ex (fun s => ∃ k : Nat, k ≤ fullP p + 1 ∧ s = ((k : Int) - 1, (List.range (fullP p + 1)).map fun S => decide (k ≤ S) && compl p S)) (fun s => (s.1 + 1).toNat) (fun t => t = (List.range (fullP p + 1)).map (compl p)) ⟨fullP p + 1, by omega, ?_⟩ (fun s hI => ?_) (fun t ht => ⟨t, rfl, ht⟩)
  · congr 1
    · omega
    · apply List.map_congr_left
      intro S hS
      have : ¬ fullP p + 1 ≤ S := by simp at hS; omega
      simp [this]
  · obtain ⟨k, hk, rfl⟩ := hI
    by_cases hk0 : k = 0
    · subst hk0
      have d0 : decide ((((0 : Nat) : Int) - 1) ≥ 0) = false := by decide
      simp only [d0, cond_false]
      refine ⟨_, rfl, ?_⟩
      apply List.map_congr_left
      intro S _
      simp
    · obtain ⟨S, rfl⟩ : ∃ S, k = S + 1 := ⟨k - 1, by omega⟩
      have hSk : ((S + 1 : Nat) : Int) - 1 = (S : Int) := by omega
      rw [hSk]
      have d0 : decide ((S : Int) ≥ 0) = true := decide_eq_true (by omega)
      have hS : S < 256 := by omega
      have hSn : S < fullP p + 1 := by omega
      have hw : IntKind.wrap .i64 ((S : Int) - 1) = (S : Int) - 1 := wrap_i64 (by omega) (by omega)
      have hmu : ∀ l : List Bool, (((S : Int) - 1, l).1 + 1).toNat < ((((S : Int)), (List.range (fullP p + 1)).map fun T => decide (S + 1 ≤ T) && compl p T).1 + 1).toNat := fun l => by
        show (((S : Int) - 1) + 1).toNat < ((S : Int) + 1).toNat
        omega
      have keep : compl p S = false → ((List.range (fullP p + 1)).map fun T => decide (S + 1 ≤ T) && compl p T) = (List.range (fullP p + 1)).map fun T => decide (S ≤ T) && compl p T := fun hc => by
        apply List.map_congr_left
        intro T _
        by_cases hT : T = S
        · subst hT; rw [hc]; simp
        · have : decide (S + 1 ≤ T) = decide (S ≤ T) := by congr 1; simp only [eq_iff_iff]; omega
          rw [this]
      simp only [d0, cond_true, hw]
      by_cases hsub : sub2 S (fullP p)
      · have d1 : (iAndNot .i64 (S : Int) (fullP p : Int) != 0) = false := by
          cases hc : (iAndNot .i64 (S : Int) (fullP p : Int) != 0)
          · rfl
          · exact absurd hsub ((andNot_zero (by omega)).1 hc)
        rw [d1]
        simp only [cond_false, good_ref h hS, bnd_some]
        cases hg : goodP p S
        · refine ⟨_, rfl, ⟨S, by omega, ?_⟩, hmu _⟩
          rw [keep (by unfold compl; rw [hg]; simp)]
        · simp only [Bool.not_true, cond_false, elt_map hSn, bnd_some, setE_map hSn]
          have hin : loopM (τ := List Bool) (fun (s2 : Int × List Bool) => bif decide (s2.1 < (p.Now.length : Int)) then (bnd (shlM .i64 1 (IntKind.wrap .u64 s2.1)) fun q1 => bnd ((bif ((iAnd .i64 (fullP p : Int) q1) != 0) then (bif ((iAnd .i64 (S : Int) q1) == 0) then (bnd (elt s2.2 (iOr .i64 (S : Int) q1)) fun x2 => some (s2.2, x2)) else (some (s2.2, false))) else (some (s2.2, false)) : Option (List Bool × Bool))) fun o4 => bif o4.2 then (bnd (elt o4.1 (S : Int)) fun x3 => bnd (setE o4.1 (S : Int) true) fun l3 => some (.next (IntKind.wrap .i64 (s2.1 + 1), l3))) else (some (.next (IntKind.wrap .i64 (s2.1 + 1), o4.1)))) else (some (.done s2.2)))
              (0, (List.range (fullP p + 1)).map fun T => if T = S then ((S : Int) == (fullP p : Int)) else decide (S + 1 ≤ T) && compl p T) = some ((List.range (fullP p + 1)).map fun T => if T = S then compl p S else decide (S + 1 ≤ T) && compl p T) := by
            have h0 : ((List.range (fullP p + 1)).map fun T => if T = S then ((S : Int) == (fullP p : Int)) else decide (S + 1 ≤ T) && compl p T) = ((List.range (fullP p + 1)).map fun T => if T = S then (decide (S = fullP p) || (List.range 0).any fun j => (fullP p).testBit j && (!S.testBit j && compl p (S ||| 2 ^ j))) else decide (S + 1 ≤ T) && compl p T) := by
              have : ((S : Int) == (fullP p : Int)) = decide (S = fullP p) := by
                rw [Bool.eq_iff_iff, beq_iff_eq, decide_eq_true_eq]
                omega
              rw [this]
              simp
            rw [h0]
            refine loop_run (fun i : Nat => ((i : Int), (List.range (fullP p + 1)).map fun T => if T = S then (decide (S = fullP p) || (List.range i).any fun j => (fullP p).testBit j && (!S.testBit j && compl p (S ||| 2 ^ j))) else decide (S + 1 ≤ T) && compl p T)) p.Now.length (fun i hi => ?_) ?_
            · have hi8 : i < 8 := by omega
              have d2 : decide ((i : Int) < (p.Now.length : Int)) = true := decide_eq_true (by omega)
              simp only [d2, cond_true, wrap_u64n (n := i) (by omega), shl1 hi8, bnd_some, and2 (a := fullP p) (by omega) hi8, and_pow, and2 (a := S) (by omega) hi8, and_pow0, or1 hS hi8, wrap_succ hi (by omega)]
              rw [any_range_succ]
              cases hb1 : (fullP p).testBit i
              · simp
              · cases hb2 : S.testBit i
                · have hlt := or_gt hb2
                  have hle := (hsub.or hb1).le
                  have hne : ¬ (S ||| 2 ^ i) = S := by omega
                  have hge : decide (S + 1 ≤ S ||| 2 ^ i) = true := decide_eq_true (by omega)
                  simp only [Bool.not_false, cond_true, elt_map (n := fullP p + 1) (S := S ||| 2 ^ i) (by omega), bnd_some, hne, if_false, hge, Bool.true_and]
                  cases hc : compl p (S ||| 2 ^ i)
                  · simp
                  · simp only [cond_true, elt_map hSn, bnd_some, setE_map hSn]
                    congr 3
                    apply List.map_congr_left
                    intro T _
                    by_cases hT : T = S
                    · simp [hT]
                    · simp [hT]
                · simp
            · have d2 : decide ((p.Now.length : Int) < (p.Now.length : Int)) = false := by simp
              simp only [d2, cond_false]
              rw [← compl_step hv hsub hg]
          rw [hin]
          simp only [bnd_some]
          refine ⟨_, rfl, ⟨S, by omega, ?_⟩, hmu _⟩
          congr 1
          apply List.map_congr_left
          intro T _
          by_cases hT : T = S
          · subst hT; simp
          · have : decide (S + 1 ≤ T) = decide (S ≤ T) := by congr 1; simp only [eq_iff_iff]; omega
            simp [hT, this]
      · have d1 : (iAndNot .i64 (S : Int) (fullP p : Int) != 0) = true := (andNot_zero (by omega)).2 hsub
        rw [d1]
        simp only [cond_true, bnd_some]
        refine ⟨_, rfl, ⟨S, by omega, ?_⟩, hmu _⟩
        rw [keep (by
          unfold compl
          have : decide (S &&& fullP p = S) = false := by
            cases hc : decide (S &&& fullP p = S)
            · rfl
            · exact absurd (sub_bit.1 hc) hsub
          rw [this]; rfl)]

theorem order_ref (p : T_Plan) : m_ref31_Order p = some (if validN p = 0 then (match orderP p with | some l => (iz l, 0) | none => ([], 41)) else ([], (validN p : Int))) := by
  unfold m_ref31_Order
  rw [valid_ref]
  simp only [bnd_some]
  by_cases hv : validN p = 0
  · have h := planOk.1 hv
    have h8 := h.le8
    have hF : fullP p < 256 := mask256 h.le8
    have hFn : fullP p < 2 ^ p.Now.length := mask_lt _ _
    have e : ((validN p : Int) != 0) = false := by rw [hv]; rfl
    rw [e, if_pos hv, completes_ref hv, all_ref hv]
    have e0 : elt ((List.range (fullP p + 1)).map (compl p)) 0 = some (compl p 0) := elt_map (S := 0) (by omega)
    simp only [cond_false, bnd_some, e0]
    have hc0 : compl p 0 = (orderP p).isSome := by
      unfold compl orderP
      rw [good0 h]
      simp
    rw [hc0]
    cases ho : orderP p with
    | none => rfl
    | some l =>
      simp only [Option.isSome_some, Bool.not_true, cond_false]
      have hpath := order_path ho
      have hll := path_short hv hpath
      suffices hk : ∃ r, bnd (loopM (τ := List Int) (fun (s1 : List Int × Int) => bif (s1.2 != (fullP p : Int)) then (bnd (loopM (τ := List Int × Int) (fun (s2 : List Int × Int × Int) => bif decide (s2.2.2 < (p.Now.length : Int)) then (bnd (shlM .i64 1 (IntKind.wrap .u64 s2.2.2)) fun q1 => bnd ((bif ((iAnd .i64 (fullP p : Int) q1) != 0) then (bif ((iAnd .i64 s2.2.1 q1) == 0) then (bnd (elt ((List.range (fullP p + 1)).map (compl p)) (iOr .i64 s2.2.1 q1)) fun x2 => some x2) else (some false)) else (some false) : Option Bool)) fun o3 => bif o3 then (bnd (app 8 s2.1 [s2.2.2]) fun l1 => some (.done (l1, iOr .i64 s2.2.1 q1))) else (some (.next (s2.1, s2.2.1, IntKind.wrap .i64 (s2.2.2 + 1))))) else (some (.done (s2.1, s2.2.1)))) (s1.1, s1.2, 0)) fun o2 => some (.next (o2.1, o2.2))) else (some (.done s1.1))) ([], 0)) (fun o1 => some (o1, (0 : Int))) = some r ∧ r = (iz l, 0) by
        obtain ⟨r, g1, g2⟩ := hk
        rw [g1, g2]
      refine bnd_loop_ex (fun s => ∃ (M l' : List Nat) (S : Nat), s = (iz M, (S : Int)) ∧ l = M ++ l' ∧ sub2 S (fullP p) ∧ lst p.Now.length (fullP p) (goodP p) S = some l') (fun s => 300 - s.2.toNat) (fun t => t = iz l) ⟨[], l, 0, rfl, rfl, sub2.zero _, ho⟩ (fun s hI => ?_) (fun t ht => ⟨_, rfl, by rw [ht]⟩)
      obtain ⟨M, l', S, rfl, hl, hs, hlst⟩ := hI
      have hle := hs.le
      have hS : S < 256 := by omega
      by_cases he : S = fullP p
      · have d0 : ((S : Int) != (fullP p : Int)) = false := by rw [he]; simp
        rw [d0]
        rw [he, least_full] at hlst
        injection hlst with hlst
        subst hlst
        exact ⟨_, rfl, by rw [hl]; simp⟩
      · have d0 : ((S : Int) != (fullP p : Int)) = true := by rw [bne_iff_ne]; omega
        rw [d0]
        simp only [cond_true]
        rw [least_step p.Now.length (fullP p) (goodP p) hs he] at hlst
        obtain ⟨i, hi, h1, h2⟩ := fs_some hlst
        split at h1
        · rename_i hst
          obtain ⟨a, b, c⟩ := step_parts hst
          rw [Option.map_eq_some_iff] at h1
          obtain ⟨l'', h3, h4⟩ := h1
          have hlt := or_gt b
          have hsub := hs.or a
          have hle2 := hsub.le
          have hMl : M.length ≤ 8 := by have := congrArg List.length hl; simp at this; omega
          have hcan : ∀ j, j < p.Now.length → ((fullP p).testBit j && (!S.testBit j && compl p (S ||| 2 ^ j))) = (if stepB (fullP p) (goodP p) S j = true then (lst p.Now.length (fullP p) (goodP p) (S ||| 2 ^ j)).map (j :: ·) else none).isSome := fun j hj => by
            cases hb1 : (fullP p).testBit j
            · have : stepB (fullP p) (goodP p) S j = false := by unfold stepB; rw [hb1]; rfl
              rw [this]; rfl
            · cases hb2 : S.testBit j
              · have hsj : decide ((S ||| 2 ^ j) &&& fullP p = S ||| 2 ^ j) = true := sub_bit.2 (hs.or hb1)
                cases hg : goodP p (S ||| 2 ^ j)
                · have : stepB (fullP p) (goodP p) S j = false := by unfold stepB; rw [hb1, hb2, hg]; rfl
                  rw [this]
                  unfold compl
                  rw [hg]
                  simp
                · have : stepB (fullP p) (goodP p) S j = true := by unfold stepB; rw [hb1, hb2, hg]; rfl
                  rw [if_pos this]
                  unfold compl
                  rw [hg, hsj]
                  simp
              · have : stepB (fullP p) (goodP p) S j = false := by unfold stepB; rw [hb2]; simp
                rw [this]; rfl
          have hinner : loopM (τ := List Int × Int) (fun (s2 : List Int × Int × Int) => bif decide (s2.2.2 < (p.Now.length : Int)) then (bnd (shlM .i64 1 (IntKind.wrap .u64 s2.2.2)) fun q1 => bnd ((bif ((iAnd .i64 (fullP p : Int) q1) != 0) then (bif ((iAnd .i64 s2.2.1 q1) == 0) then (bnd (elt ((List.range (fullP p + 1)).map (compl p)) (iOr .i64 s2.2.1 q1)) fun x2 => some x2) else (some false)) else (some false) : Option Bool)) fun o3 => bif o3 then (bnd (app 8 s2.1 [s2.2.2]) fun l1 => some (.done (l1, iOr .i64 s2.2.1 q1))) else (some (.next (s2.1, s2.2.1, IntKind.wrap .i64 (s2.2.2 + 1))))) else (some (.done (s2.1, s2.2.1)))) (iz M, (S : Int), 0) = some (iz (M ++ [i]), ((S ||| 2 ^ i : Nat) : Int)) := by
            have hstep : ∀ j, j < p.Now.length → ∀ (v : Bool), v = ((fullP p).testBit j && (!S.testBit j && compl p (S ||| 2 ^ j))) → (bnd (shlM .i64 1 (IntKind.wrap .u64 (j : Int))) fun q1 => bnd ((bif ((iAnd .i64 (fullP p : Int) q1) != 0) then (bif ((iAnd .i64 (S : Int) q1) == 0) then (bnd (elt ((List.range (fullP p + 1)).map (compl p)) (iOr .i64 (S : Int) q1)) fun x2 => some x2) else (some false)) else (some false) : Option Bool)) fun o3 => bif o3 then (bnd (app 8 (iz M) [(j : Int)]) fun l1 => some (Step.done (σ := List Int × Int × Int) (l1, iOr .i64 (S : Int) q1))) else (some (.next (iz M, (S : Int), IntKind.wrap .i64 ((j : Int) + 1))))) = some (bif v then Step.done (iz (M ++ [j]), ((S ||| 2 ^ j : Nat) : Int)) else .next (iz M, (S : Int), ((j + 1 : Nat) : Int))) := fun j hj v hvv => by
              have hj8 : j < 8 := by omega
              simp only [wrap_u64n (n := j) (by omega), shl1 hj8, bnd_some, and2 (a := fullP p) (by omega) hj8, and_pow, and2 (a := S) (by omega) hj8, and_pow0, or1 hS hj8, wrap_succ hj (by omega)]
              have hap : app 8 (iz M) [(j : Int)] = some (iz (M ++ [j])) := by rw [app_eq (by simp; omega) (by simp; omega)]; simp [iz]
              rw [hap]
              subst hvv
              cases hb1 : (fullP p).testBit j
              · rfl
              · cases hb2 : S.testBit j
                · have := (hs.or hb1).le
                  simp only [Bool.not_false, cond_true, elt_map (n := fullP p + 1) (S := S ||| 2 ^ j) (by omega), bnd_some, Bool.true_and]
                  cases compl p (S ||| 2 ^ j) <;> rfl
                · rfl
            have hrun : ∀ k, k ≤ i → loopM (τ := List Int × Int) (fun (s2 : List Int × Int × Int) => bif decide (s2.2.2 < (p.Now.length : Int)) then (bnd (shlM .i64 1 (IntKind.wrap .u64 s2.2.2)) fun q1 => bnd ((bif ((iAnd .i64 (fullP p : Int) q1) != 0) then (bif ((iAnd .i64 s2.2.1 q1) == 0) then (bnd (elt ((List.range (fullP p + 1)).map (compl p)) (iOr .i64 s2.2.1 q1)) fun x2 => some x2) else (some false)) else (some false) : Option Bool)) fun o3 => bif o3 then (bnd (app 8 s2.1 [s2.2.2]) fun l1 => some (.done (l1, iOr .i64 s2.2.1 q1))) else (some (.next (s2.1, s2.2.1, IntKind.wrap .i64 (s2.2.2 + 1))))) else (some (.done (s2.1, s2.2.1)))) (iz M, (S : Int), ((i - k : Nat) : Int)) = some (iz (M ++ [i]), ((S ||| 2 ^ i : Nat) : Int)) := by
              intro k
              induction k with
              | zero =>
                intro _
                refine loop_done ?_
                have d1 : decide (((i - 0 : Nat) : Int) < (p.Now.length : Int)) = true := decide_eq_true (by omega)
                simp only [d1, cond_true]
                have hval : true = ((fullP p).testBit i && (!S.testBit i && compl p (S ||| 2 ^ i))) := by
                  rw [hcan i hi, if_pos hst, h3]; rfl
                exact hstep i hi true hval
              | succ k ih =>
                intro hk
                have hj : i - (k + 1) < p.Now.length := by omega
                refine loop_next (s' := (iz M, (S : Int), ((i - k : Nat) : Int))) ?_ (ih (by omega))
                have d1 : decide (((i - (k + 1) : Nat) : Int) < (p.Now.length : Int)) = true := decide_eq_true (by omega)
                simp only [d1, cond_true]
                have hval : false = ((fullP p).testBit (i - (k + 1)) && (!S.testBit (i - (k + 1)) && compl p (S ||| 2 ^ (i - (k + 1))))) := by
                  rw [hcan _ hj, h2 _ (by omega)]; rfl
                have := hstep _ hj false hval
                rw [show i - (k + 1) + 1 = i - k by omega] at this
                exact this
            have := hrun i (Nat.le_refl i)
            rw [Nat.sub_self] at this
            exact this
          rw [hinner]
          refine ⟨_, rfl, ⟨M ++ [i], l'', S ||| 2 ^ i, rfl, ?_, hsub, h3⟩, ?_⟩
          · rw [hl, ← h4]; simp
          · show 300 - ((S ||| 2 ^ i : Nat) : Int).toNat < 300 - ((S : Nat) : Int).toNat
            omega
        · cases h1
  · have e : ((validN p : Int) != 0) = true := by rw [bne_iff_ne]; exact_mod_cast hv
    rw [e, if_neg hv]
    rfl

/-- What is marked behind the sets below s. -/
def markP (p : T_Plan) (s T : Nat) : Prop := T = 0 ∨ ∃ S i, S < s ∧ Reach (fullP p) (goodP p) S ∧ stepB (fullP p) (goodP p) S i = true ∧ T = S ||| 2 ^ i

theorem reach_mark {s : Nat} : Reach (fullP p) (goodP p) s ↔ markP p s s := by
  constructor
  · intro h
    cases h with
    | zero => exact .inl rfl
    | step h hs => exact .inr ⟨_, _, or_gt (step_parts hs).2.1, h, hs, rfl⟩
  · rintro (h | ⟨S, i, _, h1, h2, h3⟩)
    · rw [h]; exact .zero
    · rw [h3]; exact .step h1 h2

theorem reachable_ref (hv : validN p = 0) : ∃ R, m_ref31_Reachable p = some (iz R, 0) ∧ R.Pairwise (· < ·) ∧ ∀ S, S ∈ R ↔ Reach (fullP p) (goodP p) S := by
  have h := planOk.1 hv
  have h8 := h.le8
  have hF : fullP p < 256 := mask256 h.le8
  have hFn : fullP p < 2 ^ p.Now.length := mask_lt _ _
  unfold m_ref31_Reachable
  rw [valid_ref, all_ref hv]
  have e : ((validN p : Int) != 0) = false := by rw [hv]; rfl
  have hmk : mkS 1 false (IntKind.wrap .i64 ((fullP p : Int) + 1)) (IntKind.wrap .i64 ((fullP p : Int) + 1)) = some (List.replicate (fullP p + 1) false) := by
    rw [wrap_i64 (by omega) (by omega)]
    unfold mkS
    rw [if_pos ⟨by omega, by omega, by omega, by omega⟩]
    congr 1
  have hset : setE (List.replicate (fullP p + 1) false) 0 true = some ((List.replicate (fullP p + 1) false).set 0 true) := setE_nat (i := 0) (by simp)
  have hel : elt (List.replicate (fullP p + 1) false) 0 = some false := by
    have := elt_lt (xs := List.replicate (fullP p + 1) false) (i := 0) (by simp)
    simpa using this
  simp only [bnd_some, e, cond_false, hmk, hel, hset]
  suffices hk : ∃ r, bnd (loopM (τ := List Int) (fun (s1 : List Int × Int × List Bool) => bif decide (s1.2.1 ≤ (fullP p : Int)) then (bnd (elt s1.2.2 s1.2.1) fun x2 => bif !x2 then (some (.next (s1.1, IntKind.wrap .i64 (s1.2.1 + 1), s1.2.2))) else (bnd (app 8 s1.1 [s1.2.1]) fun l3 => bnd (loopM (τ := List Bool) (fun (s2 : Int × List Bool) => bif decide (s2.1 < (p.Now.length : Int)) then (bnd (shlM .i64 1 (IntKind.wrap .u64 s2.1)) fun q1 => bnd ((bif ((iAnd .i64 (fullP p : Int) q1) != 0) then (bif ((iAnd .i64 s1.2.1 q1) == 0) then (bnd (m_ref31_good p (iOr .i64 s1.2.1 q1)) fun r3 => some r3) else (some false)) else (some false) : Option Bool)) fun o3 => bif o3 then (bnd (elt s2.2 (iOr .i64 s1.2.1 q1)) fun x3 => bnd (setE s2.2 (iOr .i64 s1.2.1 q1) true) fun l4 => some (.next (IntKind.wrap .i64 (s2.1 + 1), l4))) else (some (.next (IntKind.wrap .i64 (s2.1 + 1), s2.2)))) else (some (.done s2.2))) (0, s1.2.2)) fun o2 => some (.next (l3, IntKind.wrap .i64 (s1.2.1 + 1), o2)))) else (some (.done s1.1))) ([], 0, (List.replicate (fullP p + 1) false).set 0 true))
      (fun o1 => some (o1, (0 : Int))) = some r ∧ ∃ R, r = (iz R, 0) ∧ R.Pairwise (· < ·) ∧ ∀ S, S ∈ R ↔ Reach (fullP p) (goodP p) S by
    obtain ⟨r, k1, R, rfl, k2, k3⟩ := hk
    exact ⟨R, k1, k2, k3⟩
  refine bnd_loop_ex (fun st => ∃ (L : List Nat) (s : Nat) (tb : List Bool), st = (iz L, (s : Int), tb) ∧ s ≤ fullP p + 1 ∧ tb.length = fullP p + 1 ∧ (∀ T (hT : T < tb.length), tb[T] = true ↔ markP p s T) ∧ L.Pairwise (· < ·) ∧ ∀ S, S ∈ L ↔ S < s ∧ Reach (fullP p) (goodP p) S)
    (fun st => 300 - st.2.1.toNat) (fun t => ∃ R, t = iz R ∧ R.Pairwise (· < ·) ∧ ∀ S, S ∈ R ↔ Reach (fullP p) (goodP p) S)
    ⟨[], 0, _, rfl, by omega, by simp, fun T hT => ?_, by simp, fun S => by simp⟩ (fun st hI => ?_) (fun t ht => ?_)
  · by_cases h0 : T = 0
    · subst h0
      simp [markP]
    · rw [List.getElem_set_ne (fun e => h0 e.symm)]
      simp only [List.getElem_replicate, Bool.false_eq_true, false_iff]
      rintro (hh | ⟨S, i, hS, _⟩)
      · exact h0 hh
      · omega
  · obtain ⟨L, s, tb, rfl, hs, htl, htb, hLp, hLm⟩ := hI
    by_cases hsF : s ≤ fullP p
    · have d0 : decide ((s : Int) ≤ (fullP p : Int)) = true := decide_eq_true (by omega)
      have hst : s < tb.length := by omega
      have hS : s < 256 := by omega
      have hw : IntKind.wrap .i64 ((s : Int) + 1) = ((s + 1 : Nat) : Int) := wrap_succ (n := 1000) (by omega) (by omega)
      have hmu : ∀ (l : List Int) (t : List Bool), 300 - (l, ((s + 1 : Nat) : Int), t).2.1.toNat < 300 - (iz L, (s : Int), tb).2.1.toNat := fun l t => by
        show 300 - ((s + 1 : Nat) : Int).toNat < 300 - ((s : Nat) : Int).toNat
        omega
      simp only [d0, cond_true, elt_lt hst, bnd_some, hw]
      cases hx : tb[s]
      · have hnr : ¬ Reach (fullP p) (goodP p) s := fun hr => by
          have := (htb s hst).2 (reach_mark.1 hr)
          rw [hx] at this
          cases this
        simp only [Bool.not_false, cond_true]
        refine ⟨_, rfl, ⟨L, s + 1, tb, rfl, by omega, htl, fun T hT => ?_, hLp, fun S => ?_⟩, hmu _ _⟩
        · rw [htb T hT]
          constructor
          · rintro (hh | ⟨S, i, h1, h2⟩)
            · exact .inl hh
            · exact .inr ⟨S, i, by omega, h2⟩
          · rintro (hh | ⟨S, i, h1, h2, h3⟩)
            · exact .inl hh
            · have : S ≠ s := fun e => hnr (e ▸ h2)
              exact .inr ⟨S, i, by omega, h2, h3⟩
        · rw [hLm]
          constructor
          · rintro ⟨h1, h2⟩; exact ⟨by omega, h2⟩
          · rintro ⟨h1, h2⟩
            have : S ≠ s := fun e => hnr (e ▸ h2)
            exact ⟨by omega, h2⟩
      · have hr : Reach (fullP p) (goodP p) s := reach_mark.2 ((htb s hst).1 hx)
        have hLl : L.length ≤ 256 := few256 (hLp.imp fun h => by omega) fun S hSL => by have := ((hLm S).1 hSL).1; omega
        simp only [Bool.not_true, cond_false]
        rw [app_eq (by simp; omega) (by simp; omega)]
        simp only [bnd_some]
        refine bnd_ex (P := fun tb' : List Bool => tb'.length = fullP p + 1 ∧ ∀ T (hT : T < tb'.length), tb'[T] = true ↔ markP p (s + 1) T) ?_ fun tb' ⟨g1, g2⟩ => ⟨_, rfl, ⟨L ++ [s], s + 1, tb', by simp [iz], by omega, g1, g2, ?_, fun S => ?_⟩, hmu _ _⟩
        · have h00 : ∀ T (hT : T < tb.length), tb[T] = true ↔ markP p s T ∨ ∃ j, j < 0 ∧ stepB (fullP p) (goodP p) s j = true ∧ T = s ||| 2 ^ j := fun T hT => by
            rw [htb T hT]
            constructor
            · exact .inl
            · rintro (hh | ⟨j, hj, _⟩)
              · exact hh
              · omega
          refine loop_inv (fun st => ∃ (i : Nat) (tb' : List Bool), st = ((i : Int), tb') ∧ i ≤ p.Now.length ∧ tb'.length = fullP p + 1 ∧ ∀ T (hT : T < tb'.length), tb'[T] = true ↔ markP p s T ∨ ∃ j, j < i ∧ stepB (fullP p) (goodP p) s j = true ∧ T = s ||| 2 ^ j) (fun st => p.Now.length - st.1.toNat) _ (fun st hI => ?_) _
            ⟨0, tb, rfl, by omega, htl, h00⟩
          obtain ⟨i, tb', rfl, hi, htl', htb'⟩ := hI
          by_cases hin : i < p.Now.length
          · have d1 : decide ((i : Int) < (p.Now.length : Int)) = true := decide_eq_true (by omega)
            have hi8 : i < 8 := by omega
            have hor := or256 hS hi8
            left
            have hmu2 : ∀ t : List Bool, p.Now.length - (((i + 1 : Nat) : Int), t).1.toNat < p.Now.length - ((i : Int), tb').1.toNat := fun t => by
              show p.Now.length - ((i + 1 : Nat) : Int).toNat < p.Now.length - ((i : Nat) : Int).toNat
              omega
            have stay : stepB (fullP p) (goodP p) s i = false → ∃ (i' : Nat) (tb'' : List Bool), (((i + 1 : Nat) : Int), tb') = ((i' : Int), tb'') ∧ i' ≤ p.Now.length ∧ tb''.length = fullP p + 1 ∧ ∀ T (hT : T < tb''.length), tb''[T] = true ↔ markP p s T ∨ ∃ j, j < i' ∧ stepB (fullP p) (goodP p) s j = true ∧ T = s ||| 2 ^ j := fun hno =>
              ⟨i + 1, tb', rfl, by omega, htl', fun T hT => by
                rw [htb' T hT]
                constructor
                · rintro (hh | ⟨j, hj, h1⟩)
                  · exact .inl hh
                  · exact .inr ⟨j, by omega, h1⟩
                · rintro (hh | ⟨j, hj, h1, h2⟩)
                  · exact .inl hh
                  · have : j ≠ i := fun e => by subst e; rw [hno] at h1; cases h1
                    exact .inr ⟨j, by omega, h1, h2⟩⟩
            simp only [d1, cond_true, wrap_u64n (n := i) (by omega), shl1 hi8, bnd_some, and2 (a := fullP p) (by omega) hi8, and_pow, and2 (a := s) (by omega) hi8, and_pow0, or1 hS hi8, wrap_succ hin (by omega), good_ref h hor]
            cases hb1 : (fullP p).testBit i
            · exact ⟨_, rfl, stay (by unfold stepB; rw [hb1]; rfl), hmu2 _⟩
            cases hb2 : s.testBit i
            · cases hg : goodP p (s ||| 2 ^ i)
              · exact ⟨_, rfl, stay (by unfold stepB; rw [hb1, hb2, hg]; rfl), hmu2 _⟩
              · have hst1 : stepB (fullP p) (goodP p) s i = true := by unfold stepB; rw [hb1, hb2, hg]; rfl
                have hle := (hr.sub.or hb1).le
                have hlt : s ||| 2 ^ i < tb'.length := by omega
                simp only [Bool.not_false, cond_true, elt_lt hlt, bnd_some, setE_nat hlt]
                refine ⟨_, rfl, ⟨i + 1, _, rfl, by omega, by simpa using htl', fun T hT => ?_⟩, hmu2 _⟩
                have hT' : T < tb'.length := by simpa using hT
                by_cases hTe : T = s ||| 2 ^ i
                · subst hTe
                  simp only [List.getElem_set_self, true_iff]
                  exact .inr ⟨i, by omega, hst1, rfl⟩
                · rw [List.getElem_set_ne (fun e => hTe e.symm), htb' T hT']
                  constructor
                  · rintro (hh | ⟨j, hj, h1⟩)
                    · exact .inl hh
                    · exact .inr ⟨j, by omega, h1⟩
                  · rintro (hh | ⟨j, hj, h1, h2⟩)
                    · exact .inl hh
                    · have : j ≠ i := fun e => hTe (e ▸ h2)
                      exact .inr ⟨j, by omega, h1, h2⟩
            · exact ⟨_, rfl, stay (by unfold stepB; rw [hb2]; simp), hmu2 _⟩
          · have d1 : decide ((i : Int) < (p.Now.length : Int)) = false := decide_eq_false (by omega)
            rw [d1]
            refine .inr ⟨_, rfl, htl', fun T hT => ?_⟩
            rw [htb' T hT]
            constructor
            · rintro ((hh | ⟨S, j, h1, h2⟩) | ⟨j, hj, h1, h2⟩)
              · exact .inl hh
              · exact .inr ⟨S, j, by omega, h2⟩
              · exact .inr ⟨s, j, by omega, hr, h1, h2⟩
            · rintro (hh | ⟨S, j, h1, h2, h3, h4⟩)
              · exact .inl (.inl hh)
              · by_cases hSs : S = s
                · subst hSs
                  exact .inr ⟨j, by have := bit_lt hFn (step_parts h3).1; omega, h3, h4⟩
                · exact .inl (.inr ⟨S, j, by omega, h2, h3, h4⟩)
        · refine asc_snoc hLp fun h0 => ?_
          exact ((hLm _).1 (List.getElem_mem (by omega : L.length - 1 < L.length))).1
        · rw [List.mem_append, List.mem_singleton, hLm]
          constructor
          · rintro (⟨h1, h2⟩ | rfl)
            · exact ⟨by omega, h2⟩
            · exact ⟨by omega, hr⟩
          · rintro ⟨h1, h2⟩
            by_cases hSs : S = s
            · exact .inr hSs
            · exact .inl ⟨by omega, h2⟩
    · have d0 : decide ((s : Int) ≤ (fullP p : Int)) = false := decide_eq_false (by omega)
      rw [d0]
      refine ⟨_, rfl, L, rfl, hLp, fun S => ?_⟩
      rw [hLm]
      constructor
      · exact fun hh => hh.2
      · intro hh
        have := hh.sub.le
        exact ⟨by omega, hh⟩
  · obtain ⟨R, rfl, k1, k2⟩ := ht
    exact ⟨_, rfl, R, rfl, k1, k2⟩

theorem reach_same (p : T_Plan) : ∃ R : List Nat, m_activation_Reachable p = some (iz R, if validN p = 0 then 0 else (validN p : Int)) ∧ m_ref31_Reachable p = some (iz R, if validN p = 0 then 0 else (validN p : Int)) ∧ (∀ S ∈ R, S < 256) ∧ R.length ≤ 256 := by
  by_cases hv : validN p = 0
  · obtain ⟨R1, a1, a2, a3⟩ := reach_eq hv
    obtain ⟨R2, b1, b2, b3⟩ := reachable_ref hv
    have : R1 = R2 := asc_eq a2 b2 fun S => by rw [a3, b3]
    subst this
    have hF : fullP p < 256 := mask256 (planOk.1 hv).le8
    have hlt : ∀ S ∈ R1, S < 256 := fun S hS => by have := ((a3 S).1 hS).sub.le; omega
    exact ⟨R1, by rw [a1, if_pos hv], by rw [b1, if_pos hv], hlt, few256 (a2.imp fun h => by omega) hlt⟩
  · refine ⟨[], by rw [reach_bad hv, if_neg hv]; rfl, ?_, by simp, by simp⟩
    unfold m_ref31_Reachable
    rw [valid_ref, if_neg hv]
    have e : ((validN p : Int) != 0) = true := by rw [bne_iff_ne]; exact_mod_cast hv
    simp only [bnd_some, e, cond_true]
    rfl
end
end Go.Proofs.Yteaoblglgcpdnaa
