/-
  Chapter 31: the reference's look at a proof that there is no order answers as the program's does.
  Conditions: none.
-/
import Derived.Test.YteaoblglgcpdnaaActA2
namespace Go.Proofs.Yteaoblglgcpdnaa
open Go
set_option linter.unusedSimpArgs false
set_option linter.unusedVariables false

theorem stuck_ref {p : T_Plan} {sets : List Int} (hk : ∀ x ∈ sets, inK .i64 x) (hl : sets.length ≤ 1000) : ∃ b, m_ref31_Stuck p sets = some b ∧ (b = true ↔ StuckP p sets) := by
  unfold m_ref31_Stuck
  rw [valid_ref]
  simp only [bnd_some]
  by_cases hv : validN p = 0
  rotate_left
  · have e : ((validN p : Int) != 0) = true := by rw [bne_iff_ne]; exact_mod_cast hv
    rw [e]
    exact ⟨false, rfl, by simp; exact fun h => hv h.1⟩
  have h := planOk.1 hv
  have h8 := h.le8
  have hF : fullP p < 256 := mask256 h.le8
  have hFn : fullP p < 2 ^ p.Now.length := mask_lt _ _
  have e : ((validN p : Int) != 0) = false := by rw [hv]; rfl
  rw [e]
  simp only [cond_false]
  by_cases hn : sets.length = 0
  · have e1 : ((sets.length : Int) == 0) = true := by rw [beq_iff_eq]; omega
    rw [e1]
    refine ⟨false, rfl, by
      simp only [Bool.false_eq_true, false_iff]
      rintro ⟨_, L, ⟨h1, _, _⟩, h0, _⟩
      have : sets = [] := List.eq_nil_of_length_eq_zero hn
      rw [this] at h1
      cases L with
      | nil => cases h0
      | cons x L => cases h1⟩
  have e1 : ((sets.length : Int) == 0) = false := by rw [beq_eq_false_iff_ne]; omega
  have h0l : 0 < sets.length := by omega
  rw [e1]
  have e2 : elt sets 0 = some sets[0] := elt_lt h0l
  rw [e2]
  simp only [cond_false, bnd_some]
  by_cases hz : sets[0] = 0
  rotate_left
  · have e3 : (sets[0] != 0) = true := by rw [bne_iff_ne]; exact hz
    rw [e3]
    refine ⟨false, rfl, by
      simp only [Bool.false_eq_true, false_iff]
      rintro ⟨_, L, ⟨rfl, _, _⟩, h0, _⟩
      apply hz
      have hL : 0 < L.length := by simpa using h0l
      rw [List.getElem?_eq_getElem hL] at h0
      injection h0 with h0
      simp [iz, h0]⟩
  have e3 : (sets[0] != 0) = false := by rw [hz]; rfl
  rw [e3]
  have hmk : mkS 1 false (IntKind.wrap .i64 ((fullP p : Int) + 1)) (IntKind.wrap .i64 ((fullP p : Int) + 1)) = some ((List.range (fullP p + 1)).map fun T => decide (T ∈ ([] : List Nat))) := by
    rw [wrap_i64 (by omega) (by omega)]
    unfold mkS
    rw [if_pos ⟨by omega, by omega, by omega, by omega⟩]
    congr 1
    apply List.ext_getElem (by simp)
    intro i h1 h2
    simp
  simp only [cond_false, all_ref hv, bnd_some, hmk]
  refine bnd_loop_ex (fun s => ∃ (i : Nat) (L : List Nat), s = ((i : Int), (List.range (fullP p + 1)).map fun T => decide (T ∈ L)) ∧ i ≤ sets.length ∧ AscP (fullP p) (sets.take i) L ∧ fullP p ∉ L)
    (fun s => sets.length - s.1.toNat)
    (fun t => match t with
      | .inl b => b = false ∧ ¬ ∃ L, AscP (fullP p) sets L ∧ fullP p ∉ L
      | .inr m => ∃ L, AscP (fullP p) sets L ∧ fullP p ∉ L ∧ m = (List.range (fullP p + 1)).map fun T => decide (T ∈ L))
    ⟨0, [], rfl, by omega, ⟨rfl, by simp, by simp⟩, by simp⟩ (fun s hI => ?_) (fun t ht => ?_)
  · obtain ⟨i, L, rfl, hi, hA, hFL⟩ := hI
    by_cases hin : i < sets.length
    · have d0 : decide ((i : Int) < (sets.length : Int)) = true := decide_eq_true (by omega)
      have hkx := okI64 (hk _ (List.getElem_mem hin))
      simp only [d0, cond_true, elt_lt hin, bnd_some, wrap_succ hin (by omega)]
      -- what the checks come to
      have chk : (bif decide (sets[i] < 0) then (some true) else (bif decide (sets[i] > (fullP p : Int)) then (some true) else (bif ((iAndNot .i64 sets[i] (fullP p : Int)) != 0) then (some true) else (some (sets[i] == (fullP p : Int))))) : Option Bool) = some (!(decide (0 ≤ sets[i]) && (decide (sets[i].toNat &&& fullP p = sets[i].toNat) && !decide (sets[i] = (fullP p : Int))))) := by
        by_cases hneg : sets[i] < 0
        · have d1 : decide (sets[i] < 0) = true := decide_eq_true hneg
          have d2 : decide (0 ≤ sets[i]) = false := decide_eq_false (by omega)
          rw [d1, d2]; rfl
        have d1 : decide (sets[i] < 0) = false := decide_eq_false hneg
        have d2 : decide (0 ≤ sets[i]) = true := decide_eq_true (by omega)
        rw [d1, d2]
        obtain ⟨x, hx⟩ : ∃ x : Nat, sets[i] = (x : Int) := ⟨sets[i].toNat, by omega⟩
        rw [hx]
        simp only [cond_false, Bool.true_and, Int.toNat_natCast]
        have hbeq : ((x : Int) == (fullP p : Int)) = decide ((x : Int) = (fullP p : Int)) := by rw [Bool.eq_iff_iff, beq_iff_eq, decide_eq_true_eq]
        rw [hbeq]
        by_cases hsub : sub2 x (fullP p)
        · have d3 : decide (x &&& fullP p = x) = true := sub_bit.2 hsub
          have hle := hsub.le
          have d4 : decide ((x : Int) > (fullP p : Int)) = false := decide_eq_false (by omega)
          have d5 : (iAndNot .i64 (x : Int) (fullP p : Int) != 0) = false := by
            cases hc : (iAndNot .i64 (x : Int) (fullP p : Int) != 0)
            · rfl
            · exact absurd hsub ((andNot_zero (by omega)).1 hc)
          rw [d3, d4, d5]
          cases decide ((x : Int) = (fullP p : Int)) <;> rfl
        · have d3 : decide (x &&& fullP p = x) = false := by
            cases hc : decide (x &&& fullP p = x)
            · rfl
            · exact absurd (sub_bit.1 hc) hsub
          have d5 : (iAndNot .i64 (x : Int) (fullP p : Int) != 0) = true := (andNot_zero (by omega)).2 hsub
          rw [d3, d5]
          cases decide ((x : Int) > (fullP p : Int)) <;> rfl
      have bad : (decide (0 ≤ sets[i]) && (decide (sets[i].toNat &&& fullP p = sets[i].toNat) && !decide (sets[i] = (fullP p : Int)))) = false → ¬ ∃ L, AscP (fullP p) sets L ∧ fullP p ∉ L := fun hb => by
        rintro ⟨L', hL', hF'⟩
        obtain ⟨q1, q2, _⟩ := asc_elem hL' hin
        have d2 : decide (0 ≤ sets[i]) = true := decide_eq_true q1
        have d3 := sub_bit.2 q2
        have d4 : decide (sets[i] = (fullP p : Int)) = false := by
          refine decide_eq_false fun hc => hF' ?_
          obtain ⟨rfl, _, _⟩ := hL'
          have hiL : i < L'.length := by simpa using hin
          have hge : (iz L')[i] = ((L'[i] : Nat) : Int) := by simp [iz]
          rw [hge] at hc
          have : L'[i] = fullP p := by exact_mod_cast hc
          rw [← this]
          exact List.getElem_mem hiL
        rw [d2, d3, d4] at hb
        cases hb
      have go : (decide (0 ≤ sets[i]) && (decide (sets[i].toNat &&& fullP p = sets[i].toNat) && !decide (sets[i] = (fullP p : Int)))) = true → (∀ (h0 : 0 < i), sets[i - 1] < sets[i]) →
          ∃ s', (bnd (elt ((List.range (fullP p + 1)).map fun T => decide (T ∈ L)) sets[i]) fun x6 => bnd (setE ((List.range (fullP p + 1)).map fun T => decide (T ∈ L)) sets[i] true) fun l2 => some (Step.next (τ := Bool ⊕ List Bool) (((i + 1 : Nat) : Int), l2))) = some (.next s') ∧
            (∃ (i : Nat) (L : List Nat), s' = ((i : Int), (List.range (fullP p + 1)).map fun T => decide (T ∈ L)) ∧ i ≤ sets.length ∧ AscP (fullP p) (sets.take i) L ∧ fullP p ∉ L) ∧ sets.length - s'.1.toNat < sets.length - (i : Int).toNat := fun hb hlt => by
        simp only [Bool.and_eq_true, decide_eq_true_eq, Bool.not_eq_true', decide_eq_false_iff_not] at hb
        obtain ⟨q1, q2, q3⟩ := hb
        obtain ⟨x, hx⟩ : ∃ x : Nat, sets[i] = (x : Int) := ⟨sets[i].toNat, by omega⟩
        have hsub : sub2 x (fullP p) := by rw [hx] at q2; exact sub_bit.1 (by simpa using q2)
        have hle := hsub.le
        have hT := take_asc hin hA q1 (by rw [hx]; simpa using hsub) hlt
        rw [hx] at hT q3
        simp only [Int.toNat_natCast] at hT
        rw [hx, elt_map (by omega), bnd_some, setE_map (by omega), bnd_some]
        refine ⟨_, rfl, ⟨i + 1, L ++ [x], ?_, by omega, hT, ?_⟩, ?_⟩
        · congr 1
          apply List.map_congr_left
          intro T _
          by_cases hTx : T = x
          · simp [hTx]
          · simp [hTx]
        · rw [List.mem_append, List.mem_singleton]
          rintro (hc | hc)
          · exact hFL hc
          · apply q3
            rw [hc]
        · show sets.length - ((i + 1 : Nat) : Int).toNat < sets.length - ((i : Nat) : Int).toNat
          omega
      by_cases hi0 : i = 0
      · have d3 : decide ((i : Int) > 0) = false := by subst hi0; rfl
        rw [d3]
        simp only [cond_false, chk]
        cases hb : (decide (0 ≤ sets[i]) && (decide (sets[i].toNat &&& fullP p = sets[i].toNat) && !decide (sets[i] = (fullP p : Int))))
        · exact ⟨_, rfl, rfl, bad hb⟩
        · obtain ⟨s', g1, g2⟩ := go hb (fun h0 => by omega)
          simp only [Bool.not_true, bnd_some, cond_false]
          rw [g1]
          exact ⟨_, rfl, g2⟩
      · have d3 : decide ((i : Int) > 0) = true := decide_eq_true (by omega)
        have hp : i - 1 < sets.length := by omega
        rw [d3, wrap_pred (n := sets.length) (by omega) hin (by omega), elt_lt hp]
        simp only [cond_true, bnd_some]
        by_cases hle : sets[i] ≤ sets[i - 1]
        · have d4 : decide (sets[i - 1] ≥ sets[i]) = true := decide_eq_true hle
          rw [d4]
          refine ⟨_, rfl, rfl, ?_⟩
          rintro ⟨L', hL', _⟩
          have := (asc_elem hL' hin).2.2 (by omega)
          omega
        · have d4 : decide (sets[i - 1] ≥ sets[i]) = false := decide_eq_false (by omega)
          rw [d4]
          simp only [cond_false, chk]
          cases hb : (decide (0 ≤ sets[i]) && (decide (sets[i].toNat &&& fullP p = sets[i].toNat) && !decide (sets[i] = (fullP p : Int))))
          · exact ⟨_, rfl, rfl, bad hb⟩
          · obtain ⟨s', g1, g2⟩ := go hb (fun h0 => by omega)
            simp only [Bool.not_true, bnd_some, cond_false]
            rw [g1]
            exact ⟨_, rfl, g2⟩
    · have d0 : decide ((i : Int) < (sets.length : Int)) = false := decide_eq_false (by omega)
      rw [d0]
      have ht : sets.take i = sets := List.take_of_length_le (by omega)
      rw [ht] at hA
      exact ⟨_, rfl, L, hA, hFL, rfl⟩
  · rcases t with b | m
    · obtain ⟨rfl, hno⟩ := ht
      exact ⟨false, rfl, by
        simp only [Bool.false_eq_true, false_iff]
        rintro ⟨_, L, hA, _, hF', _⟩
        exact hno ⟨L, hA, hF'⟩⟩
    · obtain ⟨L, hA, hFL, rfl⟩ := ht
      simp only [retOr_inr]
      have huniq : ∀ L', AscP (fullP p) sets L' → L' = L := fun L' hL' => iz_inj (hL'.1.symm.trans hA.1)
      have hsl : sets.length = L.length := by rw [hA.1]; simp
      have hL0 : L[0]? = some 0 := by
        have hL : 0 < L.length := by omega
        have : sets[0]? = (iz L)[0]? := by rw [hA.1]
        rw [List.getElem?_eq_getElem h0l, iz_get, List.getElem?_eq_getElem hL, hz] at this
        simp only [Option.map_some, Option.some.injEq] at this
        rw [List.getElem?_eq_getElem hL]
        congr 1
        omega
      refine ⟨!((List.range sets.length).any fun k => (List.range p.Now.length).any fun i => match L[k]? with | some S => (fullP p).testBit i && (!decide (S ||| 2 ^ i ∈ L) && goodP p (S ||| 2 ^ i)) | none => false), ?_, ?_⟩
      · refine bnd_loop_any (fun (i : Nat) => ((i : Int), (List.range (fullP p + 1)).map fun T => decide (T ∈ L))) sets.length (fun k => (List.range p.Now.length).any fun i => match L[k]? with | some S => (fullP p).testBit i && (!decide (S ||| 2 ^ i ∈ L) && goodP p (S ||| 2 ^ i)) | none => false) (.inl false) (.inr ()) rfl (fun k hk => ?_) ?_ ?_
        · have d0 : decide ((k : Int) < (sets.length : Int)) = true := decide_eq_true (by omega)
          have hkL : k < L.length := by omega
          have hsubk := hA.2.2 _ (List.getElem_mem hkL)
          have hS : L[k] < 256 := by have := hsubk.le; omega
          have hel : elt sets (k : Int) = some ((L[k] : Nat) : Int) := by rw [hA.1, elt_iz hkL]
          simp only [d0, cond_true, hel, bnd_some, wrap_succ hk (by omega)]
          refine bnd_loop_any (fun (i : Nat) => ((i : Int), (List.range (fullP p + 1)).map fun T => decide (T ∈ L))) p.Now.length (fun i => match L[k]? with | some S => (fullP p).testBit i && (!decide (S ||| 2 ^ i ∈ L) && goodP p (S ||| 2 ^ i)) | none => false) (.inl false) (.inr ((List.range (fullP p + 1)).map fun T => decide (T ∈ L))) rfl (fun i hi => ?_) ?_ ?_
          · have d1 : decide ((i : Int) < (p.Now.length : Int)) = true := decide_eq_true (by omega)
            have hi8 : i < 8 := by omega
            have hor := or256 hS hi8
            have hw := wrap_succ hi (by omega)
            simp only [d1, cond_true, wrap_u64n (n := i) (by omega), shl1 hi8, bnd_some, and2 (a := fullP p) (by omega) hi8, and_pow, and2 (a := L[k]) (by omega) hi8, and_pow0, or1 hS hi8, good_ref h hor, hw, List.getElem?_eq_getElem hkL]
            cases hb1 : (fullP p).testBit i
            · rfl
            · have hle := (hsubk.or hb1).le
              simp only [elt_map (f := fun T => decide (T ∈ L)) (n := fullP p + 1) (S := L[k] ||| 2 ^ i) (by omega), bnd_some]
              cases hb2 : (L[k]).testBit i
              · cases decide (L[k] ||| 2 ^ i ∈ L) <;> cases goodP p (L[k] ||| 2 ^ i) <;> rfl
              · have hsame : L[k] ||| 2 ^ i = L[k] := by
                  have := or_same L[k] i
                  rw [hb2, beq_iff_eq] at this
                  exact_mod_cast this
                have hmem : decide (L[k] ||| 2 ^ i ∈ L) = true := by rw [hsame]; exact decide_eq_true (List.getElem_mem hkL)
                rw [hmem]
                rfl
          · have d1 : decide ((p.Now.length : Int) < (p.Now.length : Int)) = false := by simp
            simp only [d1, cond_false]
          · cases (List.range p.Now.length).any (fun i => match L[k]? with | some S => (fullP p).testBit i && (!decide (S ||| 2 ^ i ∈ L) && goodP p (S ||| 2 ^ i)) | none => false) <;> rfl
        · have d1 : decide ((sets.length : Int) < (sets.length : Int)) = false := by simp
          simp only [d1, cond_false]
        · cases (List.range sets.length).any (fun k => (List.range p.Now.length).any fun i => match L[k]? with | some S => (fullP p).testBit i && (!decide (S ||| 2 ^ i ∈ L) && goodP p (S ||| 2 ^ i)) | none => false) <;> rfl
      · constructor
        · intro hb
          refine ⟨hv, L, hA, hL0, hFL, fun S hS i hi hFi hno => ?_⟩
          obtain ⟨k, hk, rfl⟩ := List.getElem_of_mem hS
          cases hg : goodP p (L[k] ||| 2 ^ i)
          · rfl
          · exfalso
            have : ((List.range sets.length).any fun k => (List.range p.Now.length).any fun i => match L[k]? with | some S => (fullP p).testBit i && (!decide (S ||| 2 ^ i ∈ L) && goodP p (S ||| 2 ^ i)) | none => false) = true := by
              refine List.any_eq_true.2 ⟨k, by simp; omega, List.any_eq_true.2 ⟨i, by simpa using hi, ?_⟩⟩
              simp only [List.getElem?_eq_getElem hk, hFi, hg, hno, decide_false, Bool.not_false, Bool.and_self]
            rw [this] at hb
            cases hb
        · rintro ⟨_, L', hA', _, _, hc⟩
          have := huniq L' hA'
          subst this
          rw [Bool.not_eq_true']
          cases hany : ((List.range sets.length).any fun k => (List.range p.Now.length).any fun i => match L'[k]? with | some S => (fullP p).testBit i && (!decide (S ||| 2 ^ i ∈ L') && goodP p (S ||| 2 ^ i)) | none => false)
          · rfl
          · exfalso
            obtain ⟨k, hk, h1⟩ := List.any_eq_true.1 hany
            obtain ⟨i, hi, h2⟩ := List.any_eq_true.1 h1
            have hkL : k < L'.length := by simp at hk; omega
            rw [List.getElem?_eq_getElem hkL] at h2
            simp only [Bool.and_eq_true, Bool.not_eq_true', decide_eq_false_iff_not] at h2
            have := hc _ (List.getElem_mem hkL) i (by simpa using hi) h2.1 h2.2.1
            rw [h2.2.2] at this
            cases this

theorem stuck_same {p : T_Plan} {sets : List Int} (hk : ∀ x ∈ sets, inK .i64 x) (hl : sets.length ≤ 1000) : ∃ b, m_activation_Stuck p sets = some b ∧ m_ref31_Stuck p sets = some b := by
  obtain ⟨b1, a1, a2⟩ := stuck_eq (p := p) hk hl
  obtain ⟨b2, c1, c2⟩ := stuck_ref (p := p) hk hl
  have : b1 = b2 := by rw [Bool.eq_iff_iff, a2, c2]
  subst this
  exact ⟨b1, a1, c1⟩
end Go.Proofs.Yteaoblglgcpdnaa
