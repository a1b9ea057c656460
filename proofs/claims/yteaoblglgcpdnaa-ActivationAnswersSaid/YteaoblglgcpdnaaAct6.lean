/-
  Chapter 31: which lists of sets prove that there is no order.
  Conditions: none.
-/
import Derived.Test.YteaoblglgcpdnaaAct5
namespace Go.Proofs.Yteaoblglgcpdnaa
open Go
set_option linter.unusedSimpArgs false
set_option linter.unusedVariables false

/-- Ascending sets of steps. -/
def AscP (F : Nat) (sets : List Int) (L : List Nat) : Prop := sets = iz L ∧ L.Pairwise (· < ·) ∧ ∀ S ∈ L, sub2 S F
/-- No good step leads out of the sets. -/
def ClosedP (n F : Nat) (G : Nat → Bool) (L : List Nat) : Prop := ∀ S ∈ L, ∀ i, i < n → F.testBit i = true → S ||| 2 ^ i ∉ L → G (S ||| 2 ^ i) = false
def StuckP (p : T_Plan) (sets : List Int) : Prop := validN p = 0 ∧ ∃ L, AscP (fullP p) sets L ∧ L[0]? = some 0 ∧ fullP p ∉ L ∧ ClosedP p.Now.length (fullP p) (goodP p) L

theorem okI64 {x : Int} (h : inK .i64 x) : -9223372036854775808 ≤ x ∧ x ≤ 9223372036854775807 := h

theorem take_asc {F : Nat} {sets : List Int} {i : Nat} (hi : i < sets.length) {L : List Nat} (h : AscP F (sets.take i) L) (hx : 0 ≤ sets[i]) (hs : sub2 sets[i].toNat F) (hl : ∀ (h0 : 0 < i), sets[i - 1] < sets[i]) :
    AscP F (sets.take (i + 1)) (L ++ [sets[i].toNat]) := by
  obtain ⟨h1, h2, h3⟩ := h
  have hlen : L.length = i := by have := congrArg List.length h1; simp at this; omega
  refine ⟨?_, asc_snoc h2 fun h0 => ?_, fun S hS => ?_⟩
  · rw [take_succ_get hi, h1]
    simp [iz]
    omega
  · have hp : i - 1 < sets.length := by omega
    have e1 : (sets.take i)[i - 1]? = (iz L)[i - 1]? := by rw [h1]
    rw [List.getElem?_take, if_pos (by omega), List.getElem?_eq_getElem hp, iz_get, List.getElem?_eq_getElem (by omega : i - 1 < L.length)] at e1
    simp only [Option.map_some, Option.some.injEq] at e1
    have := hl (by omega)
    simp only [hlen]
    omega
  · rcases List.mem_append.1 hS with hS | hS
    · exact h3 S hS
    · simp only [List.mem_singleton] at hS
      subst hS
      exact hs

theorem asc_elem {F : Nat} {sets : List Int} {L : List Nat} (h : AscP F sets L) {i : Nat} (hi : i < sets.length) : 0 ≤ sets[i] ∧ sub2 sets[i].toNat F ∧ ∀ (h0 : 0 < i), sets[i - 1] < sets[i] := by
  obtain ⟨rfl, h2, h3⟩ := h
  have hiL : i < L.length := by simpa using hi
  have e : ∀ j (hj : j < (iz L).length), (iz L)[j] = ((L[j]'(by simpa using hj) : Nat) : Int) := fun j hj => by simp [iz]
  refine ⟨by rw [e]; omega, by rw [e]; simpa using h3 _ (List.getElem_mem hiL), fun h0 => ?_⟩
  rw [e, e]
  have := asc_get h2 (i := i - 1) (j := i) (by omega) hiL
  omega

theorem stuck_eq {p : T_Plan} {sets : List Int} (hk : ∀ x ∈ sets, inK .i64 x) (hl : sets.length ≤ 1000) : ∃ b, m_activation_Stuck p sets = some b ∧ (b = true ↔ StuckP p sets) := by
  unfold m_activation_Stuck
  rw [valid_eq]
  simp only [bnd_some]
  by_cases hv : validN p = 0
  rotate_left
  · have e : ((validN p : Int) != 0) = true := by
      rw [bne_iff_ne]; exact_mod_cast hv
    rw [e]
    exact ⟨false, rfl, by simp; exact fun h => hv h.1⟩
  have h := planOk.1 hv
  have hF : fullP p < 256 := mask256 h.le8
  have hFn : fullP p < 2 ^ p.Now.length := mask_lt _ _
  have e : ((validN p : Int) != 0) = false := by rw [hv]; rfl
  rw [e]
  simp only [cond_false]
  by_cases hn : sets.length = 0
  · have e1 : ((sets.length : Int) == 0) = true := by rw [beq_iff_eq]; omega
    rw [e1]
    refine ⟨false, rfl, by
      simp only [Bool.false_eq_true, false_iff]
      rintro ⟨_, L, ⟨h1, _, _⟩, h0, _⟩
      have : sets = [] := List.eq_nil_of_length_eq_zero hn
      rw [this] at h1
      cases L with
      | nil => cases h0
      | cons x L => cases h1⟩
  have e1 : ((sets.length : Int) == 0) = false := by rw [beq_eq_false_iff_ne]; omega
  have h0l : 0 < sets.length := by omega
  rw [e1]
  have e2 : elt sets 0 = some sets[0] := elt_lt h0l
  rw [e2]
  simp only [cond_false, bnd_some]
  by_cases hz : sets[0] = 0
  rotate_left
  · have e3 : (sets[0] != 0) = true := by rw [bne_iff_ne]; exact hz
    rw [e3]
    refine ⟨false, rfl, by
      simp only [Bool.false_eq_true, false_iff]
      rintro ⟨_, L, ⟨rfl, _, _⟩, h0, _⟩
      apply hz
      have hL : 0 < L.length := by simpa using h0l
      rw [List.getElem?_eq_getElem hL] at h0
      injection h0 with h0
      simp [iz, h0]⟩
  have e3 : (sets[0] != 0) = false := by rw [hz]; rfl
  rw [e3]
  simp only [cond_false, all_eq h.le8 h.len, bnd_some]
  refine bnd_loop_inv (fun s => ∃ (i : Nat) (L : List Nat), s.1 = (i : Int) ∧ i ≤ sets.length ∧ AscP (fullP p) (sets.take i) L ∧ ∀ T : Nat, (mget (kint .i64).eq s.2 (T : Int)).getD false = true ↔ T ∈ L)
    (fun s => sets.length - s.1.toNat)
    (fun t => match t with
      | .inl b => b = false ∧ ¬ ∃ L, AscP (fullP p) sets L
      | .inr m => ∃ L, AscP (fullP p) sets L ∧ ∀ T : Nat, (mget (kint .i64).eq m (T : Int)).getD false = true ↔ T ∈ L)
    ⟨0, [], rfl, by omega, ⟨rfl, by simp, by simp⟩, fun T => by simp [mget]⟩ (fun s hI => ?_) (fun t ht => ?_)
  · obtain ⟨i, L, hs1, hi, hA, hm⟩ := hI
    obtain ⟨s1, m⟩ := s
    simp only at hs1 hm ⊢
    subst hs1
    by_cases hin : i < sets.length
    · have d0 : decide ((i : Int) < (sets.length : Int)) = true := by simp; omega
      have hkx := okI64 (hk _ (List.getElem_mem hin))
      simp only [d0, cond_true, elt_lt hin, bnd_some, wrap_succ hin (by omega)]
      by_cases hneg : sets[i] < 0
      · have d1 : decide (sets[i] < 0) = true := by simpa using hneg
        rw [d1]
        refine .inr ⟨_, rfl, rfl, ?_⟩
        rintro ⟨L', hL'⟩
        have := (asc_elem hL' hin).1
        omega
      have d1 : decide (sets[i] < 0) = false := by simpa using hneg
      rw [d1]
      simp only [cond_false]
      obtain ⟨x, hx⟩ : ∃ x : Nat, sets[i] = (x : Int) := ⟨sets[i].toNat, by omega⟩
      by_cases hsub : sub2 x (fullP p)
      rotate_left
      · have d2 : (iAndNot .i64 sets[i] (fullP p : Int) != 0) = true := by rw [hx]; exact (andNot_zero (by omega)).2 hsub
        rw [d2]
        refine .inr ⟨_, rfl, rfl, ?_⟩
        rintro ⟨L', hL'⟩
        have := (asc_elem hL' hin).2.1
        rw [hx] at this
        exact hsub (by simpa using this)
      have d2 : (iAndNot .i64 sets[i] (fullP p : Int) != 0) = false := by
        cases hc : (iAndNot .i64 sets[i] (fullP p : Int) != 0)
        · rfl
        · rw [hx] at hc; exact absurd hsub ((andNot_zero (by omega)).1 hc)
      rw [d2]
      simp only [cond_false]
      have hxs : sub2 sets[i].toNat (fullP p) := by rw [hx]; simpa using hsub
      have go : ∀ (hl : ∀ (h0 : 0 < i), sets[i - 1] < sets[i]), ∃ (i' : Nat) (L' : List Nat), (((i + 1 : Nat) : Int), mset (kint .i64).eq m sets[i] true).1 = (i' : Int) ∧ i' ≤ sets.length ∧ AscP (fullP p) (sets.take i') L' ∧ ∀ T : Nat, (mget (kint .i64).eq (((i + 1 : Nat) : Int), mset (kint .i64).eq m sets[i] true).2 (T : Int)).getD false = true ↔ T ∈ L' := fun hl => by
        refine ⟨i + 1, L ++ [sets[i].toNat], rfl, by omega, take_asc hin hA (by omega) hxs hl, fun T => ?_⟩
        show (mget (kint .i64).eq (mset (kint .i64).eq m sets[i] true) (T : Int)).getD false = true ↔ _
        rw [mget_mset (kint_iff .i64), hx]
        by_cases hT : (T : Int) = (x : Int)
        · have : T = x := by exact_mod_cast hT
          subst this
          simp
        · rw [if_neg hT, hm T]
          have : T ≠ x := fun h => hT (by rw [h])
          simp [this]
      have hmu : ∀ m' : List (Int × Bool), sets.length - (((i + 1 : Nat) : Int), m').1.toNat < sets.length - ((i : Int), m).1.toNat := fun m' => by
        show sets.length - ((i + 1 : Nat) : Int).toNat < sets.length - ((i : Nat) : Int).toNat
        omega
      by_cases hi0 : i = 0
      · have d3 : decide ((i : Int) > 0) = false := by subst hi0; rfl
        rw [d3]
        exact .inl ⟨_, rfl, go (fun h0 => by omega), hmu _⟩
      · have d3 : decide ((i : Int) > 0) = true := by simp; omega
        have hp : i - 1 < sets.length := by omega
        rw [d3, wrap_pred (n := sets.length) (by omega) hin (by omega), elt_lt hp]
        simp only [cond_true, bnd_some]
        by_cases hle : sets[i] ≤ sets[i - 1]
        · have d4 : decide (sets[i] ≤ sets[i - 1]) = true := by simpa using hle
          rw [d4]
          refine .inr ⟨_, rfl, rfl, ?_⟩
          rintro ⟨L', hL'⟩
          have := (asc_elem hL' hin).2.2 (by omega)
          omega
        · have d4 : decide (sets[i] ≤ sets[i - 1]) = false := by simpa using hle
          rw [d4]
          exact .inl ⟨_, rfl, go (fun h0 => by omega), hmu _⟩
    · have d0 : decide ((i : Int) < (sets.length : Int)) = false := by simp; omega
      rw [d0]
      have ht : sets.take i = sets := List.take_of_length_le (by omega)
      rw [ht] at hA
      exact .inr ⟨_, rfl, L, hA, hm⟩
  · rcases t with b | m
    · obtain ⟨rfl, hno⟩ := ht
      exact ⟨false, rfl, by
        simp only [Bool.false_eq_true, false_iff]
        rintro ⟨_, L, hA, _⟩
        exact hno ⟨L, hA⟩⟩
    · obtain ⟨L, hA, hm⟩ := ht
      simp only [retOr_inr]
      have huniq : ∀ L', AscP (fullP p) sets L' → L' = L := fun L' hL' => iz_inj (hL'.1.symm.trans hA.1)
      have hsl : sets.length = L.length := by rw [hA.1]; simp
      cases hfull : (mget (kint .i64).eq m (fullP p : Int)).getD false
      rotate_left
      · refine ⟨false, rfl, by
          simp only [Bool.false_eq_true, false_iff]
          rintro ⟨_, L', hA', _, hF', _⟩
          rw [huniq L' hA'] at hF'
          exact hF' ((hm _).1 hfull)⟩
      have hFL : fullP p ∉ L := fun hc => by rw [(hm _).2 hc] at hfull; cases hfull
      simp only [cond_false]
      have hL0 : L[0]? = some 0 := by
        have hL : 0 < L.length := by omega
        have : sets[0]? = (iz L)[0]? := by rw [hA.1]
        rw [List.getElem?_eq_getElem h0l, iz_get, List.getElem?_eq_getElem hL, hz] at this
        simp only [Option.map_some, Option.some.injEq] at this
        rw [List.getElem?_eq_getElem hL]
        congr 1
        omega
      refine ⟨!((List.range sets.length).any fun k => (List.range p.Now.length).any fun i => match L[k]? with | some S => (fullP p).testBit i && (!decide (S ||| 2 ^ i ∈ L) && goodP p (S ||| 2 ^ i)) | none => false), ?_, ?_⟩
      · refine bnd_loop_any (fun (i : Nat) => (i : Int)) sets.length (fun k => (List.range p.Now.length).any fun i => match L[k]? with | some S => (fullP p).testBit i && (!decide (S ||| 2 ^ i ∈ L) && goodP p (S ||| 2 ^ i)) | none => false) (.inl false) (.inr ()) rfl (fun k hk => ?_) ?_ ?_
        · have d0 : decide ((k : Int) < (sets.length : Int)) = true := by simp; omega
          have hkL : k < L.length := by omega
          have hS : L[k] < 256 := by have := (hA.2.2 _ (List.getElem_mem hkL)).le; omega
          have hel : elt sets (k : Int) = some ((L[k] : Nat) : Int) := by rw [hA.1, elt_iz hkL]
          simp only [d0, cond_true, hel, bnd_some, wrap_succ hk (by omega)]
          refine bnd_loop_any (fun (i : Nat) => (i : Int)) p.Now.length (fun i => match L[k]? with | some S => (fullP p).testBit i && (!decide (S ||| 2 ^ i ∈ L) && goodP p (S ||| 2 ^ i)) | none => false) (.inl false) (.inr ()) rfl (fun i hi => ?_) ?_ ?_
          · have d1 : decide ((i : Int) < (p.Now.length : Int)) = true := by simp; omega
            have hi8 : i < 8 := by have := h.le8; omega
            have hdv : fullP p / 2 ^ i < 4611686018427387904 := Nat.lt_of_le_of_lt (Nat.div_le_self _ _) (by omega)
            have hor := or256 hS hi8
            have hmg : (mget (kint .i64).eq m ((L[k] ||| 2 ^ i : Nat) : Int)).getD false = decide (L[k] ||| 2 ^ i ∈ L) := by
              rw [Bool.eq_iff_iff, hm]; simp
            have hw := wrap_succ hi (by have := h.le8; omega)
            simp only [d1, cond_true, shl1 hi8, shr1 (a := fullP p) (i := i) (by omega), bnd_some, and1 hdv, bit_is1, or1 hS hi8, hmg, good_eq h hor, hw, List.getElem?_eq_getElem hkL]
            cases (fullP p).testBit i <;> cases decide (L[k] ||| 2 ^ i ∈ L) <;> cases goodP p (L[k] ||| 2 ^ i) <;> rfl
          · have d1 : decide ((p.Now.length : Int) < (p.Now.length : Int)) = false := by simp
            simp only [d1, cond_false]
          · cases (List.range p.Now.length).any (fun i => match L[k]? with | some S => (fullP p).testBit i && (!decide (S ||| 2 ^ i ∈ L) && goodP p (S ||| 2 ^ i)) | none => false) <;> rfl
        · have d1 : decide ((sets.length : Int) < (sets.length : Int)) = false := by simp
          simp only [d1, cond_false]
        · cases (List.range sets.length).any (fun k => (List.range p.Now.length).any fun i => match L[k]? with | some S => (fullP p).testBit i && (!decide (S ||| 2 ^ i ∈ L) && goodP p (S ||| 2 ^ i)) | none => false) <;> rfl
      · constructor
        · intro hb
          refine ⟨hv, L, hA, hL0, hFL, fun S hS i hi hFi hno => ?_⟩
          obtain ⟨k, hk, rfl⟩ := List.getElem_of_mem hS
          cases hg : goodP p (L[k] ||| 2 ^ i)
          · rfl
          · exfalso
            have : ((List.range sets.length).any fun k => (List.range p.Now.length).any fun i => match L[k]? with | some S => (fullP p).testBit i && (!decide (S ||| 2 ^ i ∈ L) && goodP p (S ||| 2 ^ i)) | none => false) = true := by
              refine List.any_eq_true.2 ⟨k, by simp; omega, List.any_eq_true.2 ⟨i, by simpa using hi, ?_⟩⟩
              simp only [List.getElem?_eq_getElem hk, hFi, hg, hno, decide_false, Bool.not_false, Bool.and_self]
            rw [this] at hb
            cases hb
        · rintro ⟨_, L', hA', _, _, hc⟩
          have := huniq L' hA'
          subst this
          rw [Bool.not_eq_true']
          cases hany : ((List.range sets.length).any fun k => (List.range p.Now.length).any fun i => match L'[k]? with | some S => (fullP p).testBit i && (!decide (S ||| 2 ^ i ∈ L') && goodP p (S ||| 2 ^ i)) | none => false)
          · rfl
          · exfalso
            obtain ⟨k, hk, h1⟩ := List.any_eq_true.1 hany
            obtain ⟨i, hi, h2⟩ := List.any_eq_true.1 h1
            have hkL : k < L'.length := by simp at hk; omega
            rw [List.getElem?_eq_getElem hkL] at h2
            simp only [Bool.and_eq_true, Bool.not_eq_true', decide_eq_false_iff_not] at h2
            have := hc _ (List.getElem_mem hkL) i (by simpa using hi) h2.1 h2.2.1
            rw [h2.2.2] at this
            cases this
end Go.Proofs.Yteaoblglgcpdnaa
