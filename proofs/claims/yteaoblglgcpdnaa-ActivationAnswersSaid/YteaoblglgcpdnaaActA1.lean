/-
  Chapter 31: the reference's plans, states and checks answer as the program's do.
  Conditions: none.
-/
import Derived.Test.YteaoblglgcpdnaaAct4
import Derived.Test.YteaoblglgcpdnaaAct6
import Derived.Test.YteaoblglgcpdnaaGenActivationAnswers
namespace Go.Proofs.Yteaoblglgcpdnaa
open Go
set_option linter.unusedSimpArgs false
set_option linter.unusedVariables false

theorem name_ref (s : ByteArray) : m_ref27_Name s = some (nameOk s) := by
  unfold m_ref27_Name
  have hl : (bs s).length = s.size := bs_len s
  by_cases h : (s.size < 1) ∨ (16 < s.size)
  · have : nameOk s = false := by
      unfold nameOk
      rw [hl]
      rcases h with h | h
      · have : decide (1 ≤ s.size) = false := decide_eq_false (by omega)
        rw [this]; rfl
      · have : decide (s.size ≤ 16) = false := decide_eq_false (by omega)
        rw [this]; simp
    rw [this]
    rcases h with h | h
    · have d1 : decide ((s.size : Int) < 1) = true := decide_eq_true (by omega)
      rw [d1]; rfl
    · have d1 : decide ((s.size : Int) > 16) = true := decide_eq_true (by omega)
      rw [d1]
      cases decide ((s.size : Int) < 1) <;> rfl
  · have h1 : decide ((s.size : Int) < 1) = false := decide_eq_false (by omega)
    have h2 : decide ((s.size : Int) > 16) = false := decide_eq_false (by omega)
    have h0 : 0 < s.size := by omega
    have h0b : 0 < (bs s).length := by omega
    have e0 : eltS s 0 = some (((bs s)[0] : Nat) : Int) := eltS_bs h0
    have hhead : nameOk s = (chLo (bs s)[0] && (List.range s.size).all fun i => match (bs s)[i]? with | some x => chLo x || chOth x | none => true) := by
      unfold nameOk
      have b1 : decide (1 ≤ (bs s).length) = true := decide_eq_true (by omega)
      have b2 : decide ((bs s).length ≤ 16) = true := decide_eq_true (by omega)
      rw [b1, b2, hl]
      simp only [Bool.true_and]
      rw [Bool.eq_iff_iff, Bool.and_eq_true, List.all_eq_true, List.all_eq_true]
      constructor
      · intro hh
        refine ⟨?_, fun i hi => ?_⟩
        · have := hh 0 (by simpa using h0)
          rw [List.getElem?_eq_getElem h0b] at this
          simpa using this
        · have := hh i hi
          cases hg : (bs s)[i]? with
          | none => rfl
          | some x =>
            rw [hg] at this
            simp only [Bool.or_eq_true, Bool.and_eq_true] at this ⊢
            rcases this with g | g
            · exact .inl g
            · exact .inr g.2
      · rintro ⟨g0, gh⟩ i hi
        have := gh i hi
        cases hg : (bs s)[i]? with
        | none => rfl
        | some x =>
          rw [hg] at this
          by_cases hi0 : i = 0
          · subst hi0
            rw [List.getElem?_eq_getElem h0b] at hg
            injection hg with hg
            rw [← hg]
            simp [g0]
          · simp only [Bool.or_eq_true, Bool.and_eq_true] at this ⊢
            rcases this with g | g
            · exact .inl g
            · exact .inr ⟨by simp [hi0], g⟩
    rw [hhead]
    simp only [h1, h2, cond_false, e0, bnd_some]
    have a1 : ∀ x : Nat, decide ((x : Int) ≥ 97) = decide (97 ≤ x) := fun x => by congr 1; simp; omega
    have a2 : ∀ x : Nat, decide ((x : Int) ≤ 122) = decide (x ≤ 122) := fun x => by congr 1; simp; omega
    have a3 : ∀ x : Nat, decide ((x : Int) ≥ 48) = decide (48 ≤ x) := fun x => by congr 1; simp; omega
    have a4 : ∀ x : Nat, decide ((x : Int) ≤ 57) = decide (x ≤ 57) := fun x => by congr 1; simp; omega
    have a5 : ∀ x : Nat, ((x : Int) == 45) = (x == 45) := fun x => by rw [Bool.eq_iff_iff, beq_iff_eq, beq_iff_eq]; omega
    have a6 : ∀ x : Nat, decide ((x : Int) < 97) = !decide (97 ≤ x) := fun x => by rw [← decide_not]; congr 1; simp; omega
    have a7 : ∀ x : Nat, decide ((x : Int) > 122) = !decide (x ≤ 122) := fun x => by rw [← decide_not]; congr 1; simp; omega
    rw [a6, a7]
    cases hlo : chLo (bs s)[0]
    · have : (bif !decide (97 ≤ (bs s)[0]) then some true else some (!decide ((bs s)[0] ≤ 122)) : Option Bool) = some true := by
        unfold chLo at hlo
        revert hlo
        cases decide (97 ≤ (bs s)[0]) <;> cases decide ((bs s)[0] ≤ 122) <;> simp
      rw [this]
      rfl
    · have : (bif !decide (97 ≤ (bs s)[0]) then some true else some (!decide ((bs s)[0] ≤ 122)) : Option Bool) = some false := by
        unfold chLo at hlo
        revert hlo
        cases decide (97 ≤ (bs s)[0]) <;> cases decide ((bs s)[0] ≤ 122) <;> simp
      rw [this]
      simp only [bnd_some, cond_false, Bool.true_and]
      refine bnd_loop_any (fun (i : Nat) => (i : Int)) s.size (fun i => match (bs s)[i]? with | some x => !(chLo x || chOth x) | none => false) (.inl false) (.inr ()) rfl (fun i hi => ?_) ?_ ?_
      · have hib : i < (bs s).length := by omega
        have d0 : decide ((i : Int) < (s.size : Int)) = true := decide_eq_true (by omega)
        simp only [d0, cond_true, eltS_bs hi, bnd_some, wrap_succ hi (by omega), a1, a2, a3, a4, a5]
        rw [List.getElem?_eq_getElem hib]
        generalize (bs s)[i] = x
        simp only [chLo, chOth]
        cases decide (97 ≤ x) <;> cases decide (x ≤ 122) <;> cases decide (48 ≤ x) <;> cases decide (x ≤ 57) <;> cases x == 45 <;> rfl
      · have d0 : decide ((s.size : Int) < (s.size : Int)) = false := by simp
        simp only [d0, cond_false]
      · have e2 : (List.range s.size).any (fun i => match (bs s)[i]? with | some x => !(chLo x || chOth x) | none => false) = !((List.range s.size).all fun i => match (bs s)[i]? with | some x => chLo x || chOth x | none => true) := by
          rw [← not_all_any]
          congr 1
          funext i
          cases (bs s)[i]? <;> rfl
        rw [e2]
        cases (List.range s.size).all fun i => match (bs s)[i]? with | some x => chLo x || chOth x | none => true <;> rfl

theorem ver_ref (v : T_Version) : m_ref27_Valid v = some (verOk v) := by
  unfold m_ref27_Valid verOk
  simp only [ge_iff_le]
  cases decide (0 ≤ v.Major) <;> cases decide (v.Major ≤ 999) <;> cases decide (0 ≤ v.Minor) <;> cases decide (v.Minor ≤ 999) <;> cases decide (0 ≤ v.Patch) <;> cases decide (v.Patch ≤ 999) <;> rfl

theorem right_ref (l : List T_Installed) : m_ref27_Right l = some (compsOk l) := by
  unfold m_ref27_Right compsOk
  by_cases h : 8 < l.length
  · have d1 : decide ((l.length : Int) > 8) = true := decide_eq_true (by omega)
    have d2 : decide (l.length ≤ 8) = false := decide_eq_false (by omega)
    rw [d1, d2]; rfl
  · have d1 : decide ((l.length : Int) > 8) = false := decide_eq_false (by omega)
    have d2 : decide (l.length ≤ 8) = true := decide_eq_true (by omega)
    rw [d1, d2]
    simp only [cond_false, Bool.true_and]
    refine bnd_loop_any (fun (i : Nat) => (i : Int)) l.length (fun i => !cOk l i) (.inl false) (.inr ()) rfl (fun i hi => ?_) ?_ ?_
    · have d0 : decide ((i : Int) < (l.length : Int)) = true := decide_eq_true (by omega)
      simp only [d0, cond_true, elt_lt hi, bnd_some, name_ref, ver_ref, wrap_succ hi (by omega), cOk, List.getElem?_eq_getElem hi]
      by_cases h0 : i = 0
      · subst h0
        have e : decide (((0 : Nat) : Int) > 0) = false := by simp
        rw [e]
        cases nameOk l[0].Name <;> cases verOk l[0].Version <;> rfl
      · have e : decide ((i : Int) > 0) = true := decide_eq_true (by omega)
        have e2 : (i == 0) = false := by simp [h0]
        have hp : i - 1 < l.length := by omega
        rw [e, e2, wrap_pred (n := l.length) (by omega) hi (by omega), elt_lt hp, List.getElem?_eq_getElem hp]
        simp only [bnd_some, Bool.false_or, cond_true, blt_eq]
        cases nameOk l[i].Name <;> cases verOk l[i].Version <;> cases blt l[i - 1].Name l[i].Name <;> rfl
    · have d0 : decide ((l.length : Int) < (l.length : Int)) = false := by simp
      simp only [d0, cond_false]
    · rw [not_all_any]
      cases (List.range l.length).all (cOk l) <;> rfl

theorem needs_ref (l : List T_Need) : m_ref27_Needs l = some (needsOk l) := by
  unfold m_ref27_Needs needsOk
  by_cases h : 16 < l.length
  · have d1 : decide ((l.length : Int) > 16) = true := decide_eq_true (by omega)
    have d2 : decide (l.length ≤ 16) = false := decide_eq_false (by omega)
    rw [d1, d2]; rfl
  · have d1 : decide ((l.length : Int) > 16) = false := decide_eq_false (by omega)
    have d2 : decide (l.length ≤ 16) = true := decide_eq_true (by omega)
    rw [d1, d2]
    simp only [cond_false, Bool.true_and]
    refine bnd_loop_any (fun (i : Nat) => (i : Int)) l.length (fun i => match l[i]? with | some x => !nOk x | none => false) (.inl false) (.inr ()) rfl (fun i hi => ?_) ?_ ?_
    · have d0 : decide ((i : Int) < (l.length : Int)) = true := decide_eq_true (by omega)
      simp only [d0, cond_true, elt_lt hi, bnd_some, name_ref, ver_ref, wrap_succ hi (by omega), List.getElem?_eq_getElem hi, str_beq', nOk]
      generalize l[i] = x
      cases nameOk x.Component <;> cases nameOk x.On <;> cases decide (bs x.Component = bs x.On) <;> cases verOk x.From <;> cases verOk x.At <;> rfl
    · have d0 : decide ((l.length : Int) < (l.length : Int)) = false := by simp
      simp only [d0, cond_false]
    · rw [any_range l (fun x => !nOk x) _ (fun i hi => by rw [List.getElem?_eq_getElem hi]), not_all_any]
      cases l.all nOk <;> rfl

theorem find_ref {l : List T_Installed} (hl : l.length ≤ 1000) (name : ByteArray) : m_ref27_find l name = some (match findV l name with | some v => (v, true) | none => (⟨0, 0, 0⟩, false)) := findV_eq hl name

theorem cmp_ref (x y : Int) : m_ref27_order x y = some (if x < y then -1 else if y < x then 1 else 0) := by
  unfold m_ref27_order
  by_cases h1 : x < y
  · simp [h1]
  · by_cases h2 : y < x
    · simp [h1, h2]
    · simp [h1, h2]

theorem compare_ref (a b : T_Version) : ∃ r, m_ref27_Compare a b = some r ∧ decide (r < 0) = vlt a b := by
  unfold m_ref27_Compare vlt
  simp only [bnd_some, cmp_ref]
  by_cases h1 : a.Major < b.Major
  · exact ⟨-1, by simp [h1], by simp [h1]⟩
  · by_cases h2 : b.Major < a.Major
    · have : ¬ a.Major = b.Major := by omega
      exact ⟨1, by simp [h1, h2], by simp [h1, this]⟩
    · have e : a.Major = b.Major := by omega
      by_cases h3 : a.Minor < b.Minor
      · exact ⟨-1, by simp [h1, h2, h3], by simp [e, h3]⟩
      · by_cases h4 : b.Minor < a.Minor
        · have : ¬ a.Minor = b.Minor := by omega
          exact ⟨1, by simp [h1, h2, h3, h4], by simp [e, h3, this]⟩
        · have e2 : a.Minor = b.Minor := by omega
          by_cases h5 : a.Patch < b.Patch
          · exact ⟨-1, by simp [h1, h2, h3, h4, h5], by simp [e, e2, h5]⟩
          · by_cases h6 : b.Patch < a.Patch
            · exact ⟨1, by simp [h1, h2, h3, h4, h5, h6], by simp [e, e2, h5]⟩
            · exact ⟨0, by simp [h1, h2, h3, h4, h5, h6], by simp [e, e2, h5]⟩

theorem met_ref {l : List T_Installed} (hl : l.length ≤ 1000) (n : T_Need) : m_ref27_Met l n = some (metB l n) := by
  unfold m_ref27_Met metB
  rw [find_ref hl, find_ref hl]
  cases h1 : findV l n.Component with
  | none => rfl
  | some v =>
    obtain ⟨r, e1, e2⟩ := compare_ref v n.From
    simp only [bnd_some, Bool.not_true, cond_false, e1, e2]
    cases h2 : vlt v n.From
    · simp only [cond_false, Bool.false_or]
      cases h3 : findV l n.On with
      | none => rfl
      | some u =>
        obtain ⟨r', e3, e4⟩ := compare_ref u n.At
        simp only [bnd_some, cond_true, e3]
        have : decide (r' ≥ 0) = !vlt u n.At := by rw [← e4, ← decide_not]; congr 1; simp
        rw [this]
    · rfl

theorem first_ref {l : List T_Installed} (hl : l.length ≤ 1000) {needs : List T_Need} (hn : needs.length ≤ 1000) : ∃ r, m_ref27_First l needs = some r ∧ decide (r < 0) = needs.all (metB l) := by
  unfold m_ref27_First
  rcases find_range needs (fun x => !metB l x) (fun i _ => (.inl (i : Int) : Int ⊕ Unit)) (fun i => match needs[i]? with | some x => if (!metB l x) = true then some (.inl (i : Int)) else none | none => none) (fun i hi => by rw [List.getElem?_eq_getElem hi]) with ⟨i, hi, g1, g2, g3⟩ | ⟨g1, g2, g3⟩
  · refine ⟨(i : Int), ?_, ?_⟩
    · refine bnd_loop_find (fun (i : Nat) => (i : Int)) needs.length (fun i => match needs[i]? with | some x => if (!metB l x) = true then some (.inl (i : Int)) else none | none => none) (.inr ()) rfl (fun i hi => ?_) ?_ (by rw [g3]; rfl)
      · have d0 : decide ((i : Int) < (needs.length : Int)) = true := decide_eq_true (by omega)
        simp only [d0, cond_true, elt_lt hi, bnd_some, wrap_succ hi (by omega), List.getElem?_eq_getElem hi, met_ref hl]
        cases metB l needs[i] <;> rfl
      · have d0 : decide ((needs.length : Int) < (needs.length : Int)) = false := by simp
        simp only [d0, cond_false]
    · have : needs.all (metB l) = false := by
        cases hc : needs.all (metB l)
        · rfl
        · have := List.all_eq_true.1 hc _ (List.getElem_mem hi)
          rw [this] at g1; cases g1
      rw [this]
      simp
  · refine ⟨-1, ?_, ?_⟩
    · refine bnd_loop_find (fun (i : Nat) => (i : Int)) needs.length (fun i => match needs[i]? with | some x => if (!metB l x) = true then some (.inl (i : Int)) else none | none => none) (.inr ()) rfl (fun i hi => ?_) ?_ (by rw [g3]; rfl)
      · have d0 : decide ((i : Int) < (needs.length : Int)) = true := decide_eq_true (by omega)
        simp only [d0, cond_true, elt_lt hi, bnd_some, wrap_succ hi (by omega), List.getElem?_eq_getElem hi, met_ref hl]
        cases metB l needs[i] <;> rfl
      · have d0 : decide ((needs.length : Int) < (needs.length : Int)) = false := by simp
        simp only [d0, cond_false]
    · have : needs.all (metB l) = true := List.all_eq_true.2 fun x hx => by simpa using g2 x hx
      rw [this]
      rfl

theorem valid_ref (p : T_Plan) : m_ref31_Valid p = some (validN p : Int) := by
  unfold m_ref31_Valid validN
  rw [right_ref, right_ref, needs_ref]
  cases h1 : compsOk p.Now
  · rfl
  cases h2 : compsOk p.Next
  · rfl
  simp only [bnd_some, Bool.not_true, cond_false, Bool.and_self, Bool.true_eq_false, if_false]
  cases h3 : needsOk p.Needs
  · rfl
  simp only [Bool.not_true, cond_false, Bool.true_eq_false, if_false]
  have hl1 := compsOk_len h1
  have hl2 := compsOk_len h2
  have hl3 := needsOk_len h3
  by_cases hl : p.Now.length = p.Next.length
  · have d1 : ((p.Now.length : Int) != (p.Next.length : Int)) = false := by simp [hl]
    rw [d1]
    simp only [cond_false]
    obtain ⟨r4, a4, b4⟩ := first_ref (l := p.Now) (by omega) (needs := p.Needs) (by omega)
    obtain ⟨r5, a5, b5⟩ := first_ref (l := p.Next) (by omega) (needs := p.Needs) (by omega)
    have e4 : decide (r4 ≥ 0) = !p.Needs.all (metB p.Now) := by rw [← b4, ← decide_not]; congr 1; simp
    have e5 : decide (r5 ≥ 0) = !p.Needs.all (metB p.Next) := by rw [← b5, ← decide_not]; congr 1; simp
    refine bnd_loop_any (fun (i : Nat) => (i : Int)) p.Now.length (fun i => match p.Now[i]?, p.Next[i]? with | some x, some y => !decide (bs x.Name = bs y.Name) | _, _ => false) (.inl 8) (.inr ()) rfl (fun i hi => ?_) ?_ ?_
    · have d0 : decide ((i : Int) < (p.Now.length : Int)) = true := decide_eq_true (by omega)
      have hb : i < p.Next.length := by omega
      simp only [d0, cond_true, elt_lt hi, elt_lt hb, bnd_some, wrap_succ hi (by omega), List.getElem?_eq_getElem hi, List.getElem?_eq_getElem hb, str_beq']
      cases decide (bs p.Now[i].Name = bs p.Next[i].Name) <;> rfl
    · have d0 : decide ((p.Now.length : Int) < (p.Now.length : Int)) = false := by simp
      simp only [d0, cond_false]
    · have hany : (List.range p.Now.length).any (fun i => match p.Now[i]?, p.Next[i]? with | some x, some y => !decide (bs x.Name = bs y.Name) | _, _ => false) = !decide (namesOf p.Now = namesOf p.Next) := by
        rw [Bool.eq_iff_iff]
        simp only [List.any_eq_true, List.mem_range, Bool.not_eq_true', decide_eq_false_iff_not]
        constructor
        · rintro ⟨i, hi, h⟩ he
          have hb : i < p.Next.length := by omega
          rw [List.getElem?_eq_getElem hi, List.getElem?_eq_getElem hb] at h
          simp only [Bool.not_eq_true', decide_eq_false_iff_not] at h
          apply h
          have : (namesOf p.Now)[i]? = (namesOf p.Next)[i]? := by rw [he]
          simpa [namesOf, hi, hb] using this
        · intro h
          refine Classical.byContradiction fun hn => h ?_
          apply List.ext_getElem?
          intro i
          by_cases hi : i < p.Now.length
          · have hb : i < p.Next.length := by omega
            refine Classical.byContradiction fun hne => hn ⟨i, hi, ?_⟩
            rw [List.getElem?_eq_getElem hi, List.getElem?_eq_getElem hb]
            simp only [Bool.not_eq_true', decide_eq_false_iff_not]
            intro e
            apply hne
            simp [namesOf, hi, hb, e]
          · rw [List.getElem?_eq_none (by simp [namesOf]; omega), List.getElem?_eq_none (by simp [namesOf]; omega)]
      rw [hany]
      by_cases h4 : namesOf p.Now = namesOf p.Next
      · simp only [h4, decide_true, Bool.not_true, cond_false, retOr_inr, ne_eq, not_true_eq_false, if_false, a4, a5, bnd_some, e4, e5]
        cases p.Needs.all (metB p.Now) <;> cases p.Needs.all (metB p.Next) <;> rfl
      · simp only [h4, decide_false, Bool.not_false, cond_true, retOr_inl, ne_eq, not_false_eq_true, if_true]
        rfl
  · have d1 : ((p.Now.length : Int) != (p.Next.length : Int)) = true := by rw [bne_iff_ne]; omega
    rw [d1]
    have : namesOf p.Now ≠ namesOf p.Next := fun h => by
      have := congrArg List.length h
      simp [namesOf] at this
      exact hl this
    rw [if_pos this]
    rfl

theorem steps_ref (p : T_Plan) : m_ref31_Steps p = some (if validN p = 0 then iz (stepsOf p.Now.length (fullP p)) else []) := by
  unfold m_ref31_Steps
  rw [valid_ref]
  simp only [bnd_some]
  by_cases hv : validN p = 0
  · have h := planOk.1 hv
    have e : ((validN p : Int) != 0) = false := by rw [hv]; rfl
    rw [e, if_pos hv]
    simp only [cond_false]
    have hlen := h.le8
    refine bnd_loop (fun (i : Nat) => (iz (stepsOf i (fullP p)), (i : Int))) p.Now.length _ (by simp [stepsOf]) (fun i hi => ?_) ?_ rfl
    · have d0 : decide ((i : Int) < (p.Now.length : Int)) = true := decide_eq_true (by omega)
      have hb : i < p.Next.length := by rw [h.len]; exact hi
      have hsl : (stepsOf i (fullP p)).length ≤ 8 := Nat.le_trans (List.length_filter_le _ _) (by simp; omega)
      have hnm := h.name hi
      have hbit : (fullP p).testBit i = !((p.Now[i].Version.Major == p.Next[i].Version.Major) && ((p.Now[i].Version.Minor == p.Next[i].Version.Minor) && ((p.Now[i].Version.Patch == p.Next[i].Version.Patch) && true))) := by
        rw [full_bit]
        unfold diffAt
        rw [List.getElem?_eq_getElem hi, List.getElem?_eq_getElem hb]
        simp [hi]
      have hcond : (!((p.Now[i].Name.toList == p.Next[i].Name.toList) && (((p.Now[i].Version.Major == p.Next[i].Version.Major) && ((p.Now[i].Version.Minor == p.Next[i].Version.Minor) && ((p.Now[i].Version.Patch == p.Next[i].Version.Patch) && true))) && true))) = (fullP p).testBit i := by
        rw [hbit, hnm]
        simp
      simp only [d0, cond_true, elt_lt hi, elt_lt hb, bnd_some, wrap_succ hi (by omega), hcond]
      rw [stepsOf_succ]
      cases (fullP p).testBit i
      · rfl
      · simp only [cond_true]
        rw [app_eq (by simp; omega) (by simp; omega)]
        simp [iz]
    · have d0 : decide ((p.Now.length : Int) < (p.Now.length : Int)) = false := by simp
      simp only [d0, cond_false]
  · have e : ((validN p : Int) != 0) = true := by rw [bne_iff_ne]; exact_mod_cast hv
    rw [e, if_neg hv]
    rfl

theorem all_ref {p : T_Plan} (hv : validN p = 0) : m_ref31_all p = some (fullP p : Int) := by
  unfold m_ref31_all
  have h := planOk.1 hv
  have hFn : fullP p < 2 ^ p.Now.length := mask_lt _ _
  rw [steps_ref, if_pos hv]
  simp only [bnd_some]
  have hsl : (stepsOf p.Now.length (fullP p)).length ≤ 8 := Nat.le_trans (List.length_filter_le _ _) (by simp; exact h.le8)
  generalize hs : stepsOf p.Now.length (fullP p) = steps at hsl
  have hsm : ∀ i, i ∈ steps ↔ (fullP p).testBit i = true := fun i => by
    rw [← hs]
    unfold stepsOf
    rw [List.mem_filter]
    exact ⟨fun hh => hh.2, fun hh => ⟨by simpa using bit_lt hFn hh, hh⟩⟩
  suffices hk : ∃ r, bnd (loopM (τ := Int) (fun (s1 : Int × Int) => bif decide (s1.2 < ((iz steps).length : Int)) then (bnd (elt (iz steps) s1.2) fun x1 => bnd (shlM .i64 1 (IntKind.wrap .u64 x1)) fun q1 => some (.next (iOr .i64 s1.1 q1, IntKind.wrap .i64 (s1.2 + 1)))) else (some (.done s1.1))) (0, 0)) (fun o1 => some o1) = some r ∧ r = (fullP p : Int) by
    obtain ⟨r, g1, g2⟩ := hk
    rw [g1, g2]
  refine bnd_loop_ex (fun s => ∃ T i : Nat, s = ((T : Int), (i : Int)) ∧ i ≤ steps.length ∧ T < 256 ∧ ∀ j, T.testBit j = decide (j ∈ steps.take i)) (fun s => steps.length - s.2.toNat) (fun t => t = (fullP p : Int)) ⟨0, 0, rfl, by omega, by omega, fun j => by simp⟩ (fun s hI => ?_) (fun t ht => ⟨t, rfl, ht⟩)
  obtain ⟨T, i, rfl, hi, hT, hTb⟩ := hI
  by_cases hil : i < steps.length
  · have d1 : decide ((i : Int) < ((iz steps).length : Int)) = true := decide_eq_true (by simp; omega)
    have hk8 : steps[i] < 8 := by have := bit_lt hFn ((hsm _).1 (List.getElem_mem hil)); have := h.le8; omega
    simp only [d1, cond_true, elt_iz hil, bnd_some, wrap_u64n (n := steps[i]) (by omega), shl1 hk8, or1 hT hk8, wrap_succ hil (by omega)]
    refine ⟨_, rfl, ⟨T ||| 2 ^ steps[i], i + 1, rfl, by omega, or256 hT hk8, fun j => ?_⟩, ?_⟩
    · rw [Bool.eq_iff_iff]
      simp only [or_bit, hTb, Bool.or_eq_true, decide_eq_true_eq]
      have : j ∈ steps.take (i + 1) ↔ j ∈ steps.take i ∨ j = steps[i] := by rw [take_succ_get hil, List.mem_append, List.mem_singleton]
      rw [this]
      exact or_congr Iff.rfl ⟨Eq.symm, Eq.symm⟩
    · show steps.length - ((i + 1 : Nat) : Int).toNat < steps.length - ((i : Nat) : Int).toNat
      omega
  · have d1 : decide ((i : Int) < ((iz steps).length : Int)) = false := decide_eq_false (by simp; omega)
    rw [d1]
    refine ⟨_, rfl, ?_⟩
    have : T = fullP p := by
      apply Nat.eq_of_testBit_eq
      intro j
      rw [hTb, List.take_of_length_le (by omega), Bool.eq_iff_iff, decide_eq_true_eq, hsm]
    rw [this]

theorem after_ref {p : T_Plan} (h : PlanOk p) {S : Nat} (hS : S < 256) : m_ref31_after p (S : Int) = some (stateP p S) := by
  unfold m_ref31_after
  have hl := h.len
  have h8 := h.le8
  rw [app_eq (by simp; omega) (by simp; omega)]
  simp only [List.nil_append, bnd_some]
  refine bnd_loop (fun (i : Nat) => ((i : Int), stU p S i)) p.Now.length _ (by rw [stU_zero]; rfl) (fun i hi => ?_) ?_ rfl
  · have d0 : decide ((i : Int) < ((stU p S i).length : Int)) = true := decide_eq_true (by simp; omega)
    have hb : i < p.Next.length := by omega
    have hst : i < (stU p S i).length := by simpa using hi
    have hd : S / 2 ^ i < 4611686018427387904 := Nat.lt_of_le_of_lt (Nat.div_le_self _ _) (by omega)
    simp only [d0, cond_true, wrap_u64n (n := i) (by omega), shr1 (a := S) (i := i) (by omega), bnd_some, and1 hd, bit_is1, elt_lt hb, elt_lt hst, setE_nat hst, wrap_succ hi (by omega), stU_succ hl hi]
    cases S.testBit i <;> rfl
  · have d0 : decide ((p.Now.length : Int) < ((stU p S p.Now.length).length : Int)) = false := decide_eq_false (by simp)
    simp only [d0, cond_false, stateP]

theorem good_ref {p : T_Plan} (h : PlanOk p) {S : Nat} (hS : S < 256) : m_ref31_good p (S : Int) = some (goodP p S) := by
  unfold m_ref31_good
  obtain ⟨r, a, b⟩ := first_ref (l := stateP p S) (by have := h.le8; simp [stateP]; omega) (needs := p.Needs) (by have := needsOk_len h.needs; omega)
  rw [after_ref h hS]
  simp only [bnd_some, a, b]
  rfl

theorem State_ref {p : T_Plan} {l : List Int} (hl : l.length ≤ 100000) : m_ref31_State p l = some (match gathP p l with | .inl e => ([], (e : Int)) | .inr S => (stateP p S, 0)) := by
  unfold m_ref31_State gathP
  rw [valid_ref]
  simp only [bnd_some]
  by_cases hv : validN p = 0
  · have h := planOk.1 hv
    have e : ((validN p : Int) != 0) = false := by rw [hv]; rfl
    rw [e, if_pos hv, all_ref hv]
    simp only [cond_false, bnd_some]
    have hF : fullP p < 256 := mask256 h.le8
    have h8 := h.le8
    suffices hk : ∃ r, bnd (loopM (τ := ((List T_Installed) × Int) ⊕ Int) (fun (s1 : Int × Int) => bif decide (s1.2 < (l.length : Int)) then (bnd ((bnd (elt l s1.2) fun x1 => bif decide (x1 < 0) then (some true) else (bif decide (x1 ≥ (p.Now.length : Int)) then (some true) else (bnd (shrM .i64 (fullP p : Int) (IntKind.wrap .u64 x1)) fun q1 => some ((iAnd .i64 q1 1) == 0))) : Option Bool)) fun o3 => bif o3 then (some (.done (.inl ([], 2)))) else (bnd (elt l s1.2) fun x2 => bnd (shrM .i64 s1.1 (IntKind.wrap .u64 x2)) fun q2 => bif ((iAnd .i64 q2 1) == 1) then (some (.done (.inl ([], 7)))) else (bnd (shlM .i64 1 (IntKind.wrap .u64 x2)) fun q3 => some (.next (iOr .i64 s1.1 q3, IntKind.wrap .i64 (s1.2 + 1)))))) else (some (.done (.inr s1.1)))) (0, 0)) (fun o1 => retOr o1 fun o2 => bnd (m_ref31_after p o2) fun r3 => some (r3, 0)) = some r ∧ r = (match gath p.Now.length (fullP p) 0 l with | .inl e => ([], (e : Int)) | .inr S => (stateP p S, 0)) by
      obtain ⟨r, g1, g2⟩ := hk
      rw [g1, g2]
    refine bnd_loop_ex (fun s => ∃ (S i : Nat), s = ((S : Int), (i : Int)) ∧ i ≤ l.length ∧ sub2 S (fullP p) ∧ gath p.Now.length (fullP p) S (l.drop i) = gath p.Now.length (fullP p) 0 l)
      (fun s => l.length - s.2.toNat)
      (fun t => match t with
        | .inl r => r = (match gath p.Now.length (fullP p) 0 l with | .inl e => ([], (e : Int)) | .inr S => (stateP p S, 0))
        | .inr x => ∃ S : Nat, x = (S : Int) ∧ gath p.Now.length (fullP p) 0 l = .inr S ∧ sub2 S (fullP p)) ⟨0, 0, rfl, by omega, sub2.zero _, by simp⟩ (fun s hI => ?_) (fun t ht => ?_)
    · obtain ⟨S, i, rfl, hi, hs, hg⟩ := hI
      have hS : S < 256 := by have := hs.le; omega
      by_cases hin : i < l.length
      · have d0 : decide ((i : Int) < (l.length : Int)) = true := decide_eq_true (by omega)
        have hdrop : l.drop i = l[i] :: l.drop (i + 1) := by rw [List.drop_eq_getElem_cons hin]
        rw [hdrop] at hg
        simp only [d0, cond_true, elt_lt hin, bnd_some, wrap_succ hin (by omega)]
        generalize l[i] = x at hg
        rw [gath_cons] at hg
        by_cases h1 : x < 0
        · have e1 : decide (x < 0) = true := decide_eq_true h1
          rw [if_pos (.inl h1)] at hg
          refine ⟨_, by rw [e1]; rfl, ?_⟩
          show _ = _
          rw [← hg]
          rfl
        have e1 : decide (x < 0) = false := decide_eq_false h1
        by_cases h2 : (p.Now.length : Int) ≤ x
        · have e2 : decide (x ≥ (p.Now.length : Int)) = true := decide_eq_true h2
          rw [if_pos (.inr (.inl h2))] at hg
          refine ⟨_, by rw [e1, e2]; rfl, ?_⟩
          show _ = _
          rw [← hg]
          rfl
        have e2 : decide (x ≥ (p.Now.length : Int)) = false := decide_eq_false h2
        obtain ⟨k, rfl⟩ : ∃ k : Nat, x = (k : Int) := ⟨x.toNat, by omega⟩
        have hk8 : k < 8 := by omega
        have hd1 : fullP p / 2 ^ k < 4611686018427387904 := Nat.lt_of_le_of_lt (Nat.div_le_self _ _) (by omega)
        have hd2 : S / 2 ^ k < 4611686018427387904 := Nat.lt_of_le_of_lt (Nat.div_le_self _ _) (by omega)
        simp only [Int.toNat_natCast] at hg
        simp only [e1, e2, cond_false, wrap_u64n (n := k) (by omega), shr1 (a := fullP p) (i := k) (by omega), bnd_some, and1 hd1, bit_is0, shr1 (a := S) (i := k) (by omega), and1 hd2, bit_is1, shl1 hk8, or1 hS hk8]
        cases hb : (fullP p).testBit k
        · rw [if_pos (.inr (.inr hb))] at hg
          refine ⟨_, rfl, ?_⟩
          show _ = _
          rw [← hg]
          rfl
        rw [if_neg (by rw [hb]; simp; omega)] at hg
        cases hb2 : S.testBit k
        · rw [if_neg (by rw [hb2]; simp)] at hg
          refine ⟨_, rfl, ⟨S ||| 2 ^ k, i + 1, rfl, by omega, hs.or hb, hg⟩, ?_⟩
          show l.length - ((i + 1 : Nat) : Int).toNat < l.length - ((i : Nat) : Int).toNat
          omega
        · rw [if_pos hb2] at hg
          refine ⟨_, rfl, ?_⟩
          show _ = _
          rw [← hg]
          rfl
      · have d0 : decide ((i : Int) < (l.length : Int)) = false := decide_eq_false (by omega)
        rw [d0]
        have : l.drop i = [] := List.drop_eq_nil_of_le (by omega)
        rw [this] at hg
        exact ⟨_, rfl, S, rfl, hg.symm, hs⟩
    · rcases t with r | x
      · exact ⟨r, rfl, ht⟩
      · obtain ⟨S, rfl, h2, h3⟩ := ht
        have := h3.le
        simp only [retOr_inr, after_ref h (S := S) (by omega), bnd_some]
        refine ⟨_, rfl, ?_⟩
        rw [h2]
  · have e : ((validN p : Int) != 0) = true := by rw [bne_iff_ne]; exact_mod_cast hv
    rw [e, if_neg hv]
    rfl

theorem gathP_zero {p : T_Plan} {l : List Int} {e : Nat} (h : gathP p l = .inl e) : e ≠ 0 := by
  unfold gathP at h
  split at h
  · intro he
    subst he
    have : ∀ (l : List Int) (S : Nat), gath p.Now.length (fullP p) S l ≠ .inl 0 := by
      intro l
      induction l with
      | nil => intro S hc; cases hc
      | cons x r ih =>
        intro S
        rw [gath_cons]
        split
        · intro hc; cases hc
        · split
          · intro hc; cases hc
          · exact ih _
    exact this l 0 h
  · rename_i hv
    injection h with h
    rw [← h]
    exact hv

theorem check_ref {p : T_Plan} {l : List Int} (hl : l.length ≤ 100000) : m_ref31_Check p l = some (match gathP p l with | .inl e => (0, (e : Int)) | .inr _ => (chkI (goodP p) 0 l 0, 0)) := by
  unfold m_ref31_Check
  rw [State_ref hl]
  simp only [bnd_some]
  cases hg : gathP p l with
  | inl e =>
    have hne := gathP_zero hg
    have : ((e : Int) != 0) = true := by rw [bne_iff_ne]; exact_mod_cast hne
    simp only [this, cond_true]
  | inr T =>
    have hv : validN p = 0 := by
      unfold gathP at hg
      split at hg
      · assumption
      · cases hg
    have h := planOk.1 hv
    have h8 := h.le8
    simp only [bne_self_eq_false, cond_false]
    have hm : ∀ x ∈ l, 0 ≤ x ∧ x < (p.Now.length : Int) ∧ (fullP p).testBit x.toNat = true := by
      unfold gathP at hg
      rw [if_pos hv] at hg
      exact gath_mem hg
    suffices hk : ∃ r, bnd (loopM (τ := (Int × Int) ⊕ Unit) (fun (s1 : Int × Int) => bif decide (s1.2 ≤ (l.length : Int)) then (bnd ((bif decide (s1.2 > 0) then (bnd (elt l (IntKind.wrap .i64 (s1.2 - 1))) fun x1 => bnd (shlM .i64 1 (IntKind.wrap .u64 x1)) fun q1 => some (iOr .i64 s1.1 q1)) else (some s1.1) : Option Int)) fun o3 => bnd (m_ref31_good p o3) fun r2 => bif !r2 then (some (.done (.inl (s1.2, 0)))) else (some (.next (o3, IntKind.wrap .i64 (s1.2 + 1))))) else (some (.done (.inr ())))) (0, 0)) (fun o1 => retOr o1 fun o2 => some ((-1), (0 : Int))) = some r ∧ r = (chkI (goodP p) 0 l 0, 0) by
      obtain ⟨r, g1, g2⟩ := hk
      rw [g1, g2]
    -- the state ahead of round i: the set of the first i - 1 steps
    refine bnd_loop_ex (fun s => (s = (0, 0) ∧ True) ∨ ∃ (S i : Nat), s = ((S : Int), ((i + 1 : Nat) : Int)) ∧ i ≤ l.length ∧ S < 256 ∧ goodP p S = true ∧ chkI (goodP p) S (l.drop i) i = chkI (goodP p) 0 l 0)
      (fun s => l.length + 2 - s.2.toNat) (fun t => (t = .inl (chkI (goodP p) 0 l 0, 0)) ∨ (t = .inr () ∧ chkI (goodP p) 0 l 0 = -1)) (.inl ⟨rfl, trivial⟩) (fun s hI => ?_) (fun t ht => ?_)
    · rcases hI with ⟨rfl, _⟩ | ⟨S, i, rfl, hi, hS, hgd, hc⟩
      · have d0 : decide ((0 : Int) ≤ (l.length : Int)) = true := decide_eq_true (by omega)
        have d1 : decide ((0 : Int) > 0) = false := by decide
        have g0 := good_ref h (S := 0) (by omega)
        rw [show ((0 : Nat) : Int) = 0 from rfl] at g0
        simp only [d0, cond_true, d1, cond_false, bnd_some, g0]
        cases hb : goodP p 0
        · refine ⟨_, rfl, .inl ?_⟩
          cases l with
          | nil => rw [chkI_nil, hb]; rfl
          | cons x r => rw [chkI_cons, hb]; rfl
        · refine ⟨_, rfl, .inr ⟨0, 0, rfl, by omega, by omega, hb, by simp⟩, ?_⟩
          show l.length + 2 - (IntKind.wrap .i64 (0 + 1)).toNat < l.length + 2 - (0 : Int).toNat
          rw [wrap_i64 (by omega) (by omega)]
          omega
      · by_cases hin : i < l.length
        · have d0 : decide (((i + 1 : Nat) : Int) ≤ (l.length : Int)) = true := decide_eq_true (by omega)
          have d1 : decide (((i + 1 : Nat) : Int) > 0) = true := decide_eq_true (by omega)
          have hw : IntKind.wrap .i64 (((i + 1 : Nat) : Int) - 1) = (i : Int) := by rw [wrap_i64 (by omega) (by omega)]; omega
          have hx := hm _ (List.getElem_mem hin)
          have hdrop : l.drop i = l[i] :: l.drop (i + 1) := by rw [List.drop_eq_getElem_cons hin]
          rw [hdrop, chkI_cons, if_pos hgd] at hc
          simp only [d0, cond_true, d1, hw, elt_lt hin, bnd_some]
          generalize l[i] = x at hx hc
          obtain ⟨k, rfl⟩ : ∃ k : Nat, x = (k : Int) := ⟨x.toNat, by omega⟩
          have hk8 : k < 8 := by omega
          simp only [Int.toNat_natCast] at hc
          simp only [wrap_u64n (n := k) (by omega), shl1 hk8, bnd_some, or1 hS hk8, good_ref h (or256 hS hk8)]
          cases hb : goodP p (S ||| 2 ^ k)
          · refine ⟨_, rfl, .inl ?_⟩
            rw [← hc]
            cases hd : l.drop (i + 1) with
            | nil => rw [chkI_nil, hb]; rfl
            | cons y r => rw [chkI_cons, hb]; rfl
          · refine ⟨_, rfl, .inr ⟨S ||| 2 ^ k, i + 1, ?_, by omega, or256 hS hk8, hb, hc⟩, ?_⟩
            · rw [wrap_i64 (by omega) (by omega)]
              rfl
            · show l.length + 2 - (IntKind.wrap .i64 (((i + 1 : Nat) : Int) + 1)).toNat < l.length + 2 - ((i + 1 : Nat) : Int).toNat
              rw [wrap_i64 (by omega) (by omega)]
              omega
        · have d0 : decide (((i + 1 : Nat) : Int) ≤ (l.length : Int)) = false := decide_eq_false (by omega)
          rw [d0]
          have hd : l.drop i = [] := List.drop_eq_nil_of_le (by omega)
          rw [hd, chkI_nil, if_pos hgd] at hc
          exact ⟨_, rfl, .inr ⟨rfl, hc.symm⟩⟩
    · rcases ht with rfl | ⟨rfl, he⟩
      · exact ⟨_, rfl, rfl⟩
      · exact ⟨_, rfl, by rw [he]⟩
end Go.Proofs.Yteaoblglgcpdnaa
