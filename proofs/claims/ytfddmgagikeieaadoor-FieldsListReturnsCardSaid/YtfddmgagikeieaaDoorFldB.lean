/-
  The field of a text with the shortest encoding; the sanity check with which each statement begins.
  Conditions: none.
-/
import Derived.Test.YtfddmgagikeieaaDoorFld3
namespace Go.Proofs.YtfddmgagikeieaaDoor
open Go
set_option linter.unusedSimpArgs false
set_option linter.unusedVariables false

/-- The best of the first i kinds: its length and the kind. -/
def bestN (v : List Nat) : Nat → Option (Nat × Nat)
  | 0 => none
  | i + 1 => if validF ((i + 1 : Nat) : Int) v = true then
      match bestN v i with
      | none => some ((dataF ((i + 1 : Nat) : Int) v).length, i + 1)
      | some (l, k) => if (dataF ((i + 1 : Nat) : Int) v).length < l then some ((dataF ((i + 1 : Nat) : Int) v).length, i + 1) else some (l, k)
    else bestN v i

def bestF (s : ByteArray) : T_Field × Int := match bestN (bs s) 3 with
  | none => (⟨0, ⟨#[]⟩⟩, 6)
  | some (_, k) => (⟨(k : Int), s⟩, 0)

def stP (s : ByteArray) (i : Nat) : Int × Int × Int × ByteArray := match bestN (bs s) i with
  | none => (0, ((i + 1 : Nat) : Int), 0, ⟨#[]⟩)
  | some (l, k) => (((l + 1 : Nat) : Int), ((i + 1 : Nat) : Int), (k : Int), s)
def stR (s : ByteArray) (i : Nat) : Int × Int × Int × ByteArray := match bestN (bs s) i with
  | none => (-1, ((i + 1 : Nat) : Int), 0, ⟨#[]⟩)
  | some (l, k) => ((l : Int), ((i + 1 : Nat) : Int), (k : Int), s)

theorem Best_prog (s : ByteArray) (h : s.size ≤ 1000000) : m_fields_Best s = some (bestF s) := by
  unfold m_fields_Best
  refine bnd_loop (stP s) 3 (match bestN (bs s) 3 with | none => (0, 0, ⟨#[]⟩) | some (l, k) => (((l + 1 : Nat) : Int), (k : Int), s)) rfl (fun i hi => ?_) ?_ ?_
  · have h1 : decide (((i + 1 : Nat) : Int) ≤ 3) = true := decide_eq_true (by omega)
    have h2 : IntKind.wrap .i64 (((i + 1 : Nat) : Int) + 1) = ((i + 1 + 1 : Nat) : Int) := wrap_succ (n := 5) (by omega) (by omega)
    unfold stP
    cases hv : validF ((i + 1 : Nat) : Int) (bs s)
    · have hb : bestN (bs s) (i + 1) = bestN (bs s) i := by rw [bestN, if_neg (by rw [hv]; simp)]
      rw [hb]
      cases bestN (bs s) i with
      | none => simp only [h1, cond_true, valid_prog ⟨_, s⟩ h, hv, bnd_some, Bool.not_false, h2]
      | some x => simp only [h1, cond_true, valid_prog ⟨_, s⟩ h, hv, bnd_some, Bool.not_false, h2]
    · have he := encode_prog ⟨((i + 1 : Nat) : Int), s⟩ hv
      have hl : ((iz (encF ((i + 1 : Nat) : Int) (bs s))).length : Int) = (((dataF ((i + 1 : Nat) : Int) (bs s)).length + 1 : Nat) : Int) := by rw [iz_len]; rfl
      rw [bestN, if_pos hv]
      simp only at he
      cases bestN (bs s) i with
      | none => simp only [h1, cond_true, valid_prog ⟨_, s⟩ h, hv, bnd_some, Bool.not_true, cond_false, he, hl, h2, show ((0 : Int) == 0) = true from rfl]
      | some x =>
        have h3 : (((x.1 + 1 : Nat) : Int) == 0) = false := by simp; omega
        have h4 : decide ((((dataF ((i + 1 : Nat) : Int) (bs s)).length + 1 : Nat) : Int) < ((x.1 + 1 : Nat) : Int)) = decide ((dataF ((i + 1 : Nat) : Int) (bs s)).length < x.1) := by rw [Bool.eq_iff_iff]; simp
        simp only [h1, cond_true, valid_prog ⟨_, s⟩ h, hv, bnd_some, Bool.not_true, cond_false, he, hl, h2, h3, h4]
        by_cases hlt : (dataF ((i + 1 : Nat) : Int) (bs s)).length < x.1
        · rw [decide_eq_true hlt, cond_true, if_pos hlt]
        · rw [decide_eq_false hlt, cond_false, if_neg hlt]
  · unfold stP
    cases bestN (bs s) 3 with
    | none => rfl
    | some x => rfl
  · unfold bestF
    cases bestN (bs s) 3 with
    | none => rfl
    | some x =>
      have h3 : (((x.1 + 1 : Nat) : Int) == 0) = false := by simp; omega
      simp only [h3, cond_false]

theorem Best_ref' (s : ByteArray) (h : s.size ≤ 1000000) (m : Int × Int × Int × ByteArray → Option (Step (Int × Int × Int × ByteArray) (Int × Int × ByteArray)))
    (hm : ∀ s1, m s1 = bif decide (s1.2.1 ≤ 3) then (bnd (m_ref02_Valid (⟨s1.2.1, s⟩ : T_Field)) fun r1 => bif !r1 then (some (.next (s1.1, IntKind.wrap .i64 (s1.2.1 + 1), s1.2.2.1, s1.2.2.2))) else (bnd (m_ref02_data (⟨s1.2.1, s⟩ : T_Field)) fun r2 => bnd ((bif decide (s1.1 < 0) then (some true) else (some (decide ((r2.length : Int) < s1.1))) : Option Bool)) fun o2 => bif o2 then (some (.next ((r2.length : Int), IntKind.wrap .i64 (s1.2.1 + 1), s1.2.1, s))) else (some (.next (s1.1, IntKind.wrap .i64 (s1.2.1 + 1), s1.2.2.1, s1.2.2.2))))) else (some (.done (s1.1, s1.2.2.1, s1.2.2.2)))) :
    (bnd (loopM m ((-1), 1, 0, ⟨#[]⟩)) fun o1 => bif decide (o1.1 < 0) then (some ((⟨0, ⟨#[]⟩⟩ : T_Field), (6 : Int))) else (some ((⟨o1.2.1, o1.2.2⟩ : T_Field), 0))) = some (bestF s) := by
  refine bnd_loop (stR s) 3 (match bestN (bs s) 3 with | none => (-1, 0, ⟨#[]⟩) | some (l, k) => ((l : Int), (k : Int), s)) rfl (fun i hi => ?_) ?_ ?_
  · have h1 : decide (((i + 1 : Nat) : Int) ≤ 3) = true := decide_eq_true (by omega)
    have h2 : IntKind.wrap .i64 (((i + 1 : Nat) : Int) + 1) = ((i + 1 + 1 : Nat) : Int) := wrap_succ (n := 5) (by omega) (by omega)
    rw [hm]
    unfold stR
    cases hv : validF ((i + 1 : Nat) : Int) (bs s)
    · have hb : bestN (bs s) (i + 1) = bestN (bs s) i := by rw [bestN, if_neg (by rw [hv]; simp)]
      rw [hb]
      cases bestN (bs s) i with
      | none => simp only [h1, cond_true, valid_ref ⟨_, s⟩ h, hv, bnd_some, Bool.not_false, h2]
      | some x => simp only [h1, cond_true, valid_ref ⟨_, s⟩ h, hv, bnd_some, Bool.not_false, h2]
    · have he := data_ref ⟨((i + 1 : Nat) : Int), s⟩ hv
      rw [bestN, if_pos hv]
      simp only at he
      cases bestN (bs s) i with
      | none => simp only [h1, cond_true, valid_ref ⟨_, s⟩ h, hv, bnd_some, Bool.not_true, cond_false, he, iz_len, h2, show decide ((-1 : Int) < 0) = true from rfl]
      | some x =>
        have h3 : decide (((x.1 : Nat) : Int) < 0) = false := by simp
        have h4 : decide (((dataF ((i + 1 : Nat) : Int) (bs s)).length : Int) < ((x.1 : Nat) : Int)) = decide ((dataF ((i + 1 : Nat) : Int) (bs s)).length < x.1) := by rw [Bool.eq_iff_iff]; simp
        simp only [h1, cond_true, valid_ref ⟨_, s⟩ h, hv, bnd_some, Bool.not_true, cond_false, he, iz_len, h2, h3, h4]
        by_cases hlt : (dataF ((i + 1 : Nat) : Int) (bs s)).length < x.1
        · rw [decide_eq_true hlt, cond_true, if_pos hlt]
        · rw [decide_eq_false hlt, cond_false, if_neg hlt]
  · rw [hm]
    unfold stR
    cases bestN (bs s) 3 with
    | none => rfl
    | some x => rfl
  · unfold bestF
    cases bestN (bs s) 3 with
    | none => rfl
    | some x =>
      have h3 : decide (((x.1 : Nat) : Int) < 0) = false := by simp
      simp only [h3, cond_false]

/-- The best one is no longer than any valid one. -/
theorem bestN_least (v : List Nat) : ∀ i, (bestN v i = none → ∀ k, 1 ≤ k → k ≤ i → validF ((k : Nat) : Int) v = false) ∧
    ∀ l k, bestN v i = some (l, k) → 1 ≤ k ∧ k ≤ i ∧ validF ((k : Nat) : Int) v = true ∧ l = (dataF ((k : Nat) : Int) v).length ∧ ∀ j, 1 ≤ j → j ≤ i → validF ((j : Nat) : Int) v = true → l ≤ (dataF ((j : Nat) : Int) v).length
  | 0 => ⟨fun _ k h1 h2 => by omega, fun l k h => by cases h⟩
  | i + 1 => by
    obtain ⟨a, b⟩ := bestN_least v i
    rw [bestN]
    cases hv : validF ((i + 1 : Nat) : Int) v
    · rw [if_neg (by simp)]
      refine ⟨fun h k h1 h2 => ?_, fun l k h => ?_⟩
      · rcases Nat.lt_or_ge k (i + 1) with g | g
        · exact a h k h1 (by omega)
        · obtain rfl : k = i + 1 := by omega
          exact hv
      · obtain ⟨c1, c2, c3, c4, c5⟩ := b l k h
        refine ⟨c1, by omega, c3, c4, fun j j1 j2 j3 => ?_⟩
        rcases Nat.lt_or_ge j (i + 1) with g | g
        · exact c5 j j1 (by omega) j3
        · obtain rfl : j = i + 1 := by omega
          rw [hv] at j3
          cases j3
    · rw [if_pos rfl]
      cases hb : bestN v i with
      | none =>
        have a' := a hb
        refine ⟨fun h => by simp at h, fun l k h => ?_⟩
        simp only [Option.some.injEq, Prod.mk.injEq] at h
        obtain ⟨rfl, rfl⟩ := h
        refine ⟨by omega, by omega, hv, rfl, fun j j1 j2 j3 => ?_⟩
        rcases Nat.lt_or_ge j (i + 1) with g | g
        · rw [a' j j1 (by omega)] at j3
          cases j3
        · obtain rfl : j = i + 1 := by omega
          exact Nat.le_refl _
      | some x =>
        obtain ⟨l0, k0⟩ := x
        obtain ⟨c1, c2, c3, c4, c5⟩ := b l0 k0 hb
        simp only
        split
        · rename_i hlt
          refine ⟨fun h => by simp at h, fun l k h => ?_⟩
          simp only [Option.some.injEq, Prod.mk.injEq] at h
          obtain ⟨rfl, rfl⟩ := h
          refine ⟨by omega, by omega, hv, rfl, fun j j1 j2 j3 => ?_⟩
          rcases Nat.lt_or_ge j (i + 1) with g | g
          · have := c5 j j1 (by omega) j3
            omega
          · obtain rfl : j = i + 1 := by omega
            exact Nat.le_refl _
        · rename_i hlt
          refine ⟨fun h => by simp at h, fun l k h => ?_⟩
          simp only [Option.some.injEq, Prod.mk.injEq] at h
          obtain ⟨rfl, rfl⟩ := h
          refine ⟨c1, by omega, c3, c4, fun j j1 j2 j3 => ?_⟩
          rcases Nat.lt_or_ge j (i + 1) with g | g
          · exact c5 j j1 (by omega) j3
          · obtain rfl : j = i + 1 := by omega
            omega

/-! ## Sameness -/

theorem same_nat (a b : List Nat) (hbig : a.length ≤ 140737488355328) : m_ref01_Same (iz a) (iz b) = some (decide (a = b)) := by
  unfold m_ref01_Same
  by_cases hl : a.length = b.length
  · have h0 : (((iz a).length : Int) != ((iz b).length : Int)) = false := by rw [iz_len, iz_len, hl]; simp
    rw [h0, cond_false]
    refine bnd_loop_any (fun i => (i : Int)) a.length (fun i => !decide (a[i]? = b[i]?)) (.inl false) (.inr ()) rfl (fun i hi => ?_) ?_ ?_
    · have h1 : decide ((i : Int) < ((iz a).length : Int)) = true := decide_eq_true (by rw [iz_len]; omega)
      rw [h1, cond_true]
      refine bnd_eq (elt_iz hi) ?_
      refine bnd_eq (elt_iz (by omega)) ?_
      rw [List.getElem?_eq_getElem hi, List.getElem?_eq_getElem (show i < b.length by omega), wrap_succ hi hbig]
      by_cases he : a[i] = b[i]
      · simp [he]
      · have : ((((a[i] : Nat) : Int)) != ((b[i] : Nat) : Int)) = true := by simp; omega
        rw [this, cond_true]
        simp [he]
    · have h1 : decide ((a.length : Int) < ((iz a).length : Int)) = false := decide_eq_false (by rw [iz_len]; omega)
      rw [h1, cond_false]
    · by_cases he : a = b
      · subst he
        have : (List.range a.length).any (fun i => !decide (a[i]? = a[i]?)) = false := by simp
        rw [this]
        simp [retOr_inr]
      · have : (List.range a.length).any (fun i => !decide (a[i]? = b[i]?)) = true := by
          rw [List.any_eq_true]
          have hne : ∃ i, i < a.length ∧ a[i]? ≠ b[i]? := by
            rcases Classical.em (∃ i, i < a.length ∧ a[i]? ≠ b[i]?) with h | h
            · exact h
            · exfalso
              apply he
              apply List.ext_getElem? fun i => ?_
              rcases Nat.lt_or_ge i a.length with g | g
              · rcases Classical.em (a[i]? = b[i]?) with e | e
                · exact e
                · exact absurd ⟨i, g, e⟩ h
              · rw [List.getElem?_eq_none g, List.getElem?_eq_none (by omega)]
          obtain ⟨i, hi, hne⟩ := hne
          exact ⟨i, List.mem_range.2 hi, by simpa using hne⟩
        rw [this]
        simp [retOr_inl, he]
  · have h0 : (((iz a).length : Int) != ((iz b).length : Int)) = true := by rw [iz_len, iz_len]; simp; omega
    rw [h0, cond_true]
    have : a ≠ b := fun e => hl (by rw [e])
    simp [this]

theorem sameF_self (f : T_Field) : m_ref02_Same f f = some true := by
  unfold m_ref02_Same
  simp

/-! ## awake -/

theorem awake_ok : m_law02_awake = some true := by
  unfold m_law02_awake
  rw [Encode_prog _ (by decide), Best_prog _ (by decide), Best_prog _ (by decide)]
  have e1 : (if validF 2 (bs ⟨#[73, 80, 77, 73]⟩) = true then (iz (encF 2 (bs ⟨#[73, 80, 77, 73]⟩)), (0 : Int)) else ([], 1)) = (iz [131, 41, 220, 166], 0) := by decide +kernel
  have e2 : bestF ⟨#[49, 50, 46, 53]⟩ = (⟨1, ⟨#[49, 50, 46, 53]⟩⟩, 0) := rfl
  have e3 : bestF ⟨#[97]⟩ = (⟨0, ⟨#[]⟩⟩, 6) := rfl
  have e4 : m_ref01_Same (iz [131, 41, 220, 166]) [131, 41, 220, 166] = some true := same_nat [131, 41, 220, 166] [131, 41, 220, 166] (by decide)
  simp only [bnd_some]
  rw [e1, e2, e3]
  simp only [show ((0 : Int) == 0) = true from rfl, cond_true, e4, bnd_some, show ((1 : Int) == 1) = true from rfl, show ((6 : Int) == 6) = true from rfl]

end Go.Proofs.YtfddmgagikeieaaDoor
