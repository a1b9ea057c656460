/-
  Chapter 31: what components, needs and plans are, in plain words, and that the program's models answer so.
  Conditions: none.
-/
import Derived.Test.YteaoblglgcpdnaaPureC
import Derived.Test.YteaoblglgcpdnaaGen
namespace Go.Proofs.Yteaoblglgcpdnaa
open Go
set_option linter.unusedSimpArgs false
set_option linter.unusedVariables false

theorem act_bl_total : ∀ (x y : List UInt8), (Op.bytesLess x y || (x == y)) = !Op.bytesLess y x
  | [], [] => rfl
  | [], _ :: _ => rfl
  | _ :: _, [] => rfl
  | a :: x, b :: y => by
    have ih := act_bl_total x y
    simp only [Op.bytesLess, List.cons_beq_cons]
    by_cases h : a = b
    · subst h
      have : ¬ a < a := UInt8.lt_irrefl a
      simp [this]
      simpa using ih
    · have h1 : (a == b) = false := by simpa using h
      have h2 : (b == a) = false := by simpa using fun e => h e.symm
      rw [h1, h2]
      simp only [Bool.false_and, Bool.or_false]
      by_cases hl : a < b
      · have : ¬ b < a := UInt8.lt_asymm hl
        simp [hl, this]
      · have : b < a := by
          rcases UInt8.lt_or_lt_of_ne h with g | g
          · exact absurd g hl
          · exact g
        simp [hl, this]

/-! ## Names and versions -/

def chLo (x : Nat) : Bool := decide (97 ≤ x) && decide (x ≤ 122)
def chOth (x : Nat) : Bool := (decide (48 ≤ x) && decide (x ≤ 57)) || x == 45
def nameOk (s : ByteArray) : Bool := decide (1 ≤ (bs s).length) && decide ((bs s).length ≤ 16) && (List.range (bs s).length).all fun i => match (bs s)[i]? with | some x => chLo x || (i != 0 && chOth x) | none => true
def verOk (v : T_Version) : Bool := decide (0 ≤ v.Major) && decide (v.Major ≤ 999) && (decide (0 ≤ v.Minor) && decide (v.Minor ≤ 999)) && (decide (0 ≤ v.Patch) && decide (v.Patch ≤ 999))

theorem not_all_any {α : Type} (l : List α) (p : α → Bool) : (l.any fun x => !p x) = !l.all p := by
  induction l with
  | nil => rfl
  | cons x r ih => simp [ih, Bool.not_and]

theorem name_eq (s : ByteArray) : m_version_Name s = some (nameOk s) := by
  unfold m_version_Name
  have hl : (bs s).length = s.size := bs_len s
  by_cases h : (s.size < 1) ∨ (16 < s.size)
  · have e1 : (bif decide ((s.size : Int) < 1) then some true else some (decide ((s.size : Int) > 16)) : Option Bool) = some true := by
      by_cases h1 : s.size < 1
      · have : decide ((s.size : Int) < 1) = true := by simp; omega
        rw [this]; rfl
      · have : decide ((s.size : Int) < 1) = false := by simp; omega
        rw [this]; simp; omega
    rw [e1]
    have : nameOk s = false := by
      unfold nameOk
      rw [hl]
      rcases h with h | h
      · have : decide (1 ≤ s.size) = false := decide_eq_false (by omega)
        rw [this]; rfl
      · have : decide (s.size ≤ 16) = false := decide_eq_false (by omega)
        rw [this]; simp
    rw [this]
    rfl
  · have h1 : decide ((s.size : Int) < 1) = false := by simp; omega
    have h2 : decide ((s.size : Int) > 16) = false := by simp; omega
    simp only [h1, h2, cond_false, bnd_some]
    refine bnd_loop_any (fun (i : Nat) => (i : Int)) s.size (fun i => match (bs s)[i]? with | some x => !(chLo x || (i != 0 && chOth x)) | none => false) (.inl false) (.inr ()) rfl (fun i hi => ?_) ?_ ?_
    · have hib : i < (bs s).length := by omega
      have d0 : decide ((i : Int) < (s.size : Int)) = true := by simp; omega
      simp only [d0, cond_true, eltS_bs hi, bnd_some, wrap_succ hi (by omega)]
      rw [List.getElem?_eq_getElem hib]
      generalize (bs s)[i] = x
      have a1 : decide ((x : Int) ≥ 97) = decide (97 ≤ x) := by congr 1; simp; omega
      have a2 : decide ((x : Int) ≤ 122) = decide (x ≤ 122) := by congr 1; simp; omega
      have a3 : decide ((x : Int) ≥ 48) = decide (48 ≤ x) := by congr 1; simp; omega
      have a4 : decide ((x : Int) ≤ 57) = decide (x ≤ 57) := by congr 1; simp; omega
      have a5 : ((x : Int) == 45) = (x == 45) := by
        rw [Bool.eq_iff_iff, beq_iff_eq, beq_iff_eq]
        omega
      have a6 : ((i : Int) == 0) = (i == 0) := by rw [Bool.eq_iff_iff]; simp
      rw [a1, a2, a3, a4, a5, a6]
      simp only [chLo, chOth, bne]
      cases decide (97 ≤ x) <;> cases decide (x ≤ 122) <;> cases decide (48 ≤ x) <;> cases decide (x ≤ 57) <;> cases x == 45 <;> cases i == 0 <;> rfl
    · have d0 : decide ((s.size : Int) < (s.size : Int)) = false := by simp
      simp only [d0, cond_false]
    · have e2 : (List.range s.size).any (fun i => match (bs s)[i]? with | some x => !(chLo x || (i != 0 && chOth x)) | none => false) = !((List.range (bs s).length).all fun i => match (bs s)[i]? with | some x => chLo x || (i != 0 && chOth x) | none => true) := by
        rw [← not_all_any, hl]
        congr 1
        funext i
        cases (bs s)[i]? <;> rfl
      rw [e2]
      unfold nameOk
      have b1 : decide (1 ≤ (bs s).length) = true := by rw [hl]; simp; omega
      have b2 : decide ((bs s).length ≤ 16) = true := by rw [hl]; simp; omega
      rw [b1, b2]
      cases (List.range (bs s).length).all fun i => match (bs s)[i]? with | some x => chLo x || (i != 0 && chOth x) | none => true <;> rfl

theorem ver_eq (v : T_Version) : m_version_Valid v = some (verOk v) := by
  unfold m_version_Valid m_version_numbers verOk
  simp only [bnd_some]
  have h1 : ∀ x : Int, decide (x < 0) = !decide (0 ≤ x) := fun x => by rw [← decide_not]; congr 1; simp
  have h2 : ∀ x : Int, decide (x > 999) = !decide (x ≤ 999) := fun x => by rw [← decide_not]; congr 1; simp
  simp only [h1, h2]
  cases decide (0 ≤ v.Major) <;> cases decide (v.Major ≤ 999) <;> cases decide (0 ≤ v.Minor) <;> cases decide (v.Minor ≤ 999) <;> cases decide (0 ≤ v.Patch) <;> cases decide (v.Patch ≤ 999) <;> rfl

/-! ## Components -/

/-- Less, as texts. -/
def blt (a b : ByteArray) : Bool := Op.bytesLess a.data.toList b.data.toList
theorem blt_eq (a b : ByteArray) : Op.bytesLess a.toList b.toList = blt a b := by rw [ByteArray.toList_eq, ByteArray.toList_eq]; rfl
def cOk (l : List T_Installed) (i : Nat) : Bool := match l[i]? with
  | some x => nameOk x.Name && verOk x.Version && (i == 0 || match l[i - 1]? with | some y => blt y.Name x.Name | none => true)
  | none => true
def compsOk (l : List T_Installed) : Bool := decide (l.length ≤ 8) && (List.range l.length).all (cOk l)

theorem comps_eq (l : List T_Installed) : m_version_components l = some (compsOk l) := by
  unfold m_version_components compsOk
  by_cases h : 8 < l.length
  · have d1 : decide ((l.length : Int) > 8) = true := by simp; omega
    have d2 : decide (l.length ≤ 8) = false := by simp; omega
    rw [d1, d2]; rfl
  · have d1 : decide ((l.length : Int) > 8) = false := by simp; omega
    have d2 : decide (l.length ≤ 8) = true := by simp; omega
    rw [d1, d2]
    simp only [cond_false, Bool.true_and]
    refine bnd_loop_any (fun (i : Nat) => (i : Int)) l.length (fun i => !cOk l i) (.inl false) (.inr ()) rfl (fun i hi => ?_) ?_ ?_
    · have d0 : decide ((i : Int) < (l.length : Int)) = true := by simp; omega
      simp only [d0, cond_true, elt_lt hi, bnd_some, name_eq, ver_eq, wrap_succ hi (by omega), cOk, List.getElem?_eq_getElem hi]
      by_cases h0 : i = 0
      · subst h0
        have e : decide (((0 : Nat) : Int) > 0) = false := by simp
        rw [e]
        cases nameOk l[0].Name <;> cases verOk l[0].Version <;> rfl
      · have e : decide ((i : Int) > 0) = true := by simp; omega
        have e2 : (i == 0) = false := by simp [h0]
        have hp : i - 1 < l.length := by omega
        rw [e, e2, wrap_pred (n := l.length) (by omega) hi (by omega), elt_lt hp, List.getElem?_eq_getElem hp]
        simp only [bnd_some, act_bl_total, Bool.false_or, cond_true]
        simp only [blt_eq]
        cases nameOk l[i].Name <;> cases verOk l[i].Version <;> cases blt l[i - 1].Name l[i].Name <;> rfl
    · have d0 : decide ((l.length : Int) < (l.length : Int)) = false := by simp
      simp only [d0, cond_false]
    · rw [not_all_any]
      cases (List.range l.length).all (cOk l) <;> rfl

/-! ## Needs -/

def nOk (x : T_Need) : Bool := nameOk x.Component && nameOk x.On && !decide (bs x.Component = bs x.On) && verOk x.From && verOk x.At
def needsOk (l : List T_Need) : Bool := decide (l.length ≤ 16) && l.all nOk

theorem needs_eq (l : List T_Need) : m_version_right l = some (needsOk l) := by
  unfold m_version_right needsOk
  by_cases h : 16 < l.length
  · have d1 : decide ((l.length : Int) > 16) = true := by simp; omega
    have d2 : decide (l.length ≤ 16) = false := by simp; omega
    rw [d1, d2]; rfl
  · have d1 : decide ((l.length : Int) > 16) = false := by simp; omega
    have d2 : decide (l.length ≤ 16) = true := by simp; omega
    rw [d1, d2]
    simp only [cond_false, Bool.true_and]
    refine bnd_loop_any (fun (i : Nat) => (i : Int)) l.length (fun i => match l[i]? with | some x => !nOk x | none => false) (.inl false) (.inr ()) rfl (fun i hi => ?_) ?_ ?_
    · have d0 : decide ((i : Int) < (l.length : Int)) = true := by simp; omega
      simp only [d0, cond_true, elt_lt hi, bnd_some, name_eq, ver_eq, wrap_succ hi (by omega), List.getElem?_eq_getElem hi, str_beq', nOk]
      generalize l[i] = x
      cases nameOk x.Component <;> cases nameOk x.On <;> cases decide (bs x.Component = bs x.On) <;> cases verOk x.From <;> cases verOk x.At <;> rfl
    · have d0 : decide ((l.length : Int) < (l.length : Int)) = false := by simp
      simp only [d0, cond_false]
    · rw [any_range l (fun x => !nOk x) _ (fun i hi => by rw [List.getElem?_eq_getElem hi]), not_all_any]
      cases l.all nOk <;> rfl

/-! ## Whether a need is met -/

def findV (l : List T_Installed) (name : ByteArray) : Option T_Version := (l.find? fun x => decide (bs x.Name = bs name)).map (·.Version)
def vlt (a b : T_Version) : Bool := decide (a.Major < b.Major) || (decide (a.Major = b.Major) && (decide (a.Minor < b.Minor) || (decide (a.Minor = b.Minor) && decide (a.Patch < b.Patch))))
def metB (l : List T_Installed) (n : T_Need) : Bool := match findV l n.Component with
  | none => true
  | some v => vlt v n.From || match findV l n.On with | none => false | some u => !vlt u n.At

theorem findV_eq {l : List T_Installed} (hl : l.length ≤ 1000) (name : ByteArray) : m_version_find l name = some (match findV l name with | some v => (v, true) | none => (⟨0, 0, 0⟩, false)) := by
  unfold m_version_find
  refine bnd_loop_find (fun (i : Nat) => (i : Int)) l.length (fun i => match l[i]? with | some x => if decide (bs x.Name = bs name) = true then some (.inl (x.Version, true)) else none | none => none) (.inr ()) rfl (fun i hi => ?_) ?_ ?_
  · have d0 : decide ((i : Int) < (l.length : Int)) = true := by simp; omega
    simp only [d0, cond_true, elt_lt hi, bnd_some, wrap_succ hi (by omega), List.getElem?_eq_getElem hi, str_beq']
    cases decide (bs l[i].Name = bs name) <;> rfl
  · have d0 : decide ((l.length : Int) < (l.length : Int)) = false := by simp
    simp only [d0, cond_false]
  · rcases find_range l (fun x => decide (bs x.Name = bs name)) (fun _ x => (.inl (x.Version, true) : (T_Version × Bool) ⊕ Unit)) (fun i => match l[i]? with | some x => if decide (bs x.Name = bs name) = true then some (.inl (x.Version, true)) else none | none => none) (fun i hi => by rw [List.getElem?_eq_getElem hi]) with ⟨i, hi, h1, h2, h3⟩ | ⟨h1, h2, h3⟩
    · rw [h3]
      simp only [findV, h2]
      rfl
    · rw [h3]
      simp only [findV, h1]
      rfl

theorem cmp_eq (x y : Int) : m_cmp_Compare_int x y = some (if x < y then -1 else if y < x then 1 else 0) := by
  unfold m_cmp_Compare_int m_cmp_isNaN_int
  simp only [bnd_some, bne_self_eq_false, cond_false]
  by_cases h1 : x < y
  · simp [h1]
  · by_cases h2 : y < x
    · simp [h1, h2]
    · simp [h1, h2]

theorem compare_eq (a b : T_Version) : ∃ r, m_version_Compare a b = some r ∧ decide (r < 0) = vlt a b := by
  unfold m_version_Compare m_version_numbers m_version_compare_int vlt
  simp only [bnd_some, cmp_eq]
  by_cases h1 : a.Major < b.Major
  · exact ⟨-1, by simp [h1], by simp [h1]⟩
  · by_cases h2 : b.Major < a.Major
    · have : ¬ a.Major = b.Major := by omega
      exact ⟨1, by simp [h1, h2], by simp [h1, this]⟩
    · have e : a.Major = b.Major := by omega
      by_cases h3 : a.Minor < b.Minor
      · exact ⟨-1, by simp [h1, h2, h3], by simp [e, h3]⟩
      · by_cases h4 : b.Minor < a.Minor
        · have : ¬ a.Minor = b.Minor := by omega
          exact ⟨1, by simp [h1, h2, h3, h4], by simp [e, h3, this]⟩
        · have e2 : a.Minor = b.Minor := by omega
          by_cases h5 : a.Patch < b.Patch
          · exact ⟨-1, by simp [h1, h2, h3, h4, h5], by simp [e, e2, h5]⟩
          · by_cases h6 : b.Patch < a.Patch
            · exact ⟨1, by simp [h1, h2, h3, h4, h5, h6], by simp [e, e2, h5]⟩
            · exact ⟨0, by simp [h1, h2, h3, h4, h5, h6], by simp [e, e2, h5]⟩

theorem met_eq {l : List T_Installed} (hl : l.length ≤ 1000) (n : T_Need) : m_version_Met l n = some (metB l n) := by
  unfold m_version_Met metB
  rw [findV_eq hl, findV_eq hl]
  cases h1 : findV l n.Component with
  | none => rfl
  | some v =>
    obtain ⟨r, e1, e2⟩ := compare_eq v n.From
    simp only [bnd_some, Bool.not_true, cond_false, e1, e2]
    cases h2 : vlt v n.From
    · simp only [cond_false, Bool.false_or]
      cases h3 : findV l n.On with
      | none => rfl
      | some u =>
        obtain ⟨r', e3, e4⟩ := compare_eq u n.At
        simp only [bnd_some, cond_true, e3]
        have : decide (r' ≥ 0) = !vlt u n.At := by rw [← e4, ← decide_not]; congr 1; simp
        rw [this]
    · rfl

/-- What Check answers: the first need that is not met, and the error. -/
def chkAns (l : List T_Installed) (needs : List T_Need) (r : Int × Int) : Prop :=
  if compsOk l = false then r = (0, 1) else if needsOk needs = false then r = (0, 2) else r.2 = 0 ∧ decide (r.1 < 0) = needs.all (metB l)

theorem check_eq (l : List T_Installed) (needs : List T_Need) : ∃ r, m_version_Check l needs = some r ∧ chkAns l needs r := by
  unfold m_version_Check chkAns
  rw [comps_eq, needs_eq]
  cases h1 : compsOk l
  · exact ⟨(0, 1), rfl, by simp⟩
  simp only [bnd_some, Bool.not_true, cond_false, Bool.true_eq_false, if_false]
  cases h2 : needsOk needs
  · exact ⟨(0, 2), rfl, by simp⟩
  simp only [bnd_some, Bool.not_true, cond_false, Bool.true_eq_false, if_false]
  have hl : l.length ≤ 8 := by
    unfold compsOk at h1
    have := (Bool.and_eq_true_iff.1 h1).1
    simpa using this
  have hn : needs.length ≤ 16 := by
    unfold needsOk at h2
    have := (Bool.and_eq_true_iff.1 h2).1
    simpa using this
  rcases find_range needs (fun x => !metB l x) (fun i _ => (.inl ((i : Int), 0) : (Int × Int) ⊕ Unit)) (fun i => match needs[i]? with | some x => if (!metB l x) = true then some (.inl ((i : Int), 0)) else none | none => none) (fun i hi => by rw [List.getElem?_eq_getElem hi]) with ⟨i, hi, g1, g2, g3⟩ | ⟨g1, g2, g3⟩
  · refine ⟨((i : Int), 0), ?_, rfl, ?_⟩
    · refine bnd_loop_find (fun (i : Nat) => (i : Int)) needs.length (fun i => match needs[i]? with | some x => if (!metB l x) = true then some (.inl ((i : Int), 0)) else none | none => none) (.inr ()) rfl (fun i hi => ?_) ?_ ?_
      · have d0 : decide ((i : Int) < (needs.length : Int)) = true := by simp; omega
        simp only [d0, cond_true, elt_lt hi, bnd_some, wrap_succ hi (by omega), List.getElem?_eq_getElem hi, met_eq (l := l) (by omega)]
        cases metB l needs[i] <;> rfl
      · have d0 : decide ((needs.length : Int) < (needs.length : Int)) = false := by simp
        simp only [d0, cond_false]
      · rw [g3]; rfl
    · have : needs.all (metB l) = false := by
        cases hc : needs.all (metB l)
        · rfl
        · have := List.all_eq_true.1 hc _ (List.getElem_mem hi)
          rw [this] at g1; cases g1
      rw [this]
      simp
  · refine ⟨(-1, 0), ?_, rfl, ?_⟩
    · refine bnd_loop_find (fun (i : Nat) => (i : Int)) needs.length (fun i => match needs[i]? with | some x => if (!metB l x) = true then some (.inl ((i : Int), 0)) else none | none => none) (.inr ()) rfl (fun i hi => ?_) ?_ ?_
      · have d0 : decide ((i : Int) < (needs.length : Int)) = true := by simp; omega
        simp only [d0, cond_true, elt_lt hi, bnd_some, wrap_succ hi (by omega), List.getElem?_eq_getElem hi, met_eq (l := l) (by omega)]
        cases metB l needs[i] <;> rfl
      · have d0 : decide ((needs.length : Int) < (needs.length : Int)) = false := by simp
        simp only [d0, cond_false]
      · rw [g3]; rfl
    · have : needs.all (metB l) = true := List.all_eq_true.2 fun x hx => by simpa using g2 x hx
      rw [this]
      rfl

/-! ## Plans -/

def namesOf (l : List T_Installed) : List (List Nat) := l.map fun x => bs x.Name
def validN (p : T_Plan) : Nat :=
  if (compsOk p.Now && compsOk p.Next) = false then 1 else if needsOk p.Needs = false then 2 else if namesOf p.Now ≠ namesOf p.Next then 8 else
    if (p.Needs.all (metB p.Now) && p.Needs.all (metB p.Next)) = false then 42 else 0

theorem compsOk_nil : compsOk [] = true := rfl
theorem needsOk_nil : needsOk [] = true := rfl
theorem compsOk_len {l : List T_Installed} (h : compsOk l = true) : l.length ≤ 8 := by
  unfold compsOk at h
  have := (Bool.and_eq_true_iff.1 h).1
  simpa using this
theorem needsOk_len {l : List T_Need} (h : needsOk l = true) : l.length ≤ 16 := by
  unfold needsOk at h
  have := (Bool.and_eq_true_iff.1 h).1
  simpa using this

theorem equal_names {a b : List T_Installed} (ha : a.length ≤ 1000) : m_slices_EqualFunc__api_Installed__api_Installed_api_Installed_api_Installed_f44 a b = some (decide (namesOf a = namesOf b)) := by
  unfold m_slices_EqualFunc__api_Installed__api_Installed_api_Installed_api_Installed_f44
  by_cases hl : a.length = b.length
  · have d1 : ((a.length : Int) != (b.length : Int)) = false := by simp [hl]
    rw [d1]
    simp only [cond_false]
    refine bnd_loop_any (fun (i : Nat) => (i : Int)) a.length (fun i => match a[i]?, b[i]? with | some x, some y => !decide (bs x.Name = bs y.Name) | _, _ => false) (.inl false) (.inr ()) rfl (fun i hi => ?_) ?_ ?_
    · have d0 : decide ((i : Int) < (a.length : Int)) = true := by simp; omega
      have hb : i < b.length := by omega
      simp only [d0, cond_true, elt_lt hi, elt_lt hb, bnd_some, wrap_succ hi (by omega), List.getElem?_eq_getElem hi, List.getElem?_eq_getElem hb, m_activation_Valid_1, str_beq']
      cases decide (bs a[i].Name = bs b[i].Name) <;> rfl
    · have d0 : decide ((a.length : Int) < (a.length : Int)) = false := by simp
      simp only [d0, cond_false]
    · have : (List.range a.length).any (fun i => match a[i]?, b[i]? with | some x, some y => !decide (bs x.Name = bs y.Name) | _, _ => false) = !decide (namesOf a = namesOf b) := by
        rw [Bool.eq_iff_iff]
        simp only [List.any_eq_true, List.mem_range, Bool.not_eq_true', decide_eq_false_iff_not]
        constructor
        · rintro ⟨i, hi, h⟩ he
          have hb : i < b.length := by omega
          rw [List.getElem?_eq_getElem hi, List.getElem?_eq_getElem hb] at h
          simp only [Bool.not_eq_true', decide_eq_false_iff_not] at h
          apply h
          have : (namesOf a)[i]? = (namesOf b)[i]? := by rw [he]
          simpa [namesOf, hi, hb] using this
        · intro h
          refine Classical.byContradiction fun hn => h ?_
          apply List.ext_getElem?
          intro i
          by_cases hi : i < a.length
          · have hb : i < b.length := by omega
            refine Classical.byContradiction fun hne => hn ⟨i, hi, ?_⟩
            rw [List.getElem?_eq_getElem hi, List.getElem?_eq_getElem hb]
            simp only [Bool.not_eq_true', decide_eq_false_iff_not]
            intro e
            apply hne
            simp [namesOf, hi, hb, e]
          · rw [List.getElem?_eq_none (by simp [namesOf]; omega), List.getElem?_eq_none (by simp [namesOf]; omega)]
      rw [this]
      cases decide (namesOf a = namesOf b) <;> rfl
  · have d1 : ((a.length : Int) != (b.length : Int)) = true := by
      rw [bne_iff_ne]; omega
    rw [d1]
    have : decide (namesOf a = namesOf b) = false := by
      simp only [decide_eq_false_iff_not]
      intro h
      have := congrArg List.length h
      simp [namesOf] at this
      exact hl this
    rw [this]
    rfl

theorem valid_eq (p : T_Plan) : m_activation_Valid p = some (validN p : Int) := by
  unfold m_activation_Valid validN
  obtain ⟨r1, a1, b1⟩ := check_eq p.Now []
  obtain ⟨r2, a2, b2⟩ := check_eq p.Next []
  obtain ⟨r3, a3, b3⟩ := check_eq [] p.Needs
  obtain ⟨r5, a5, b5⟩ := check_eq p.Now p.Needs
  obtain ⟨r6, a6, b6⟩ := check_eq p.Next p.Needs
  simp only [a1, a2, a3, a5, a6, bnd_some]
  unfold chkAns at b1 b2 b3 b5 b6
  rw [needsOk_nil] at b1 b2
  rw [compsOk_nil] at b3
  cases h1 : compsOk p.Now
  · rw [if_pos h1] at b1
    subst b1
    rfl
  rw [if_neg (by rw [h1]; simp)] at b1
  simp only [Bool.true_eq_false, if_false] at b1
  have c1 : (r1.2 != 0) = false := by rw [b1.1]; rfl
  rw [c1]
  cases h2 : compsOk p.Next
  · rw [if_pos h2] at b2
    subst b2
    rfl
  rw [if_neg (by rw [h2]; simp)] at b2
  simp only [Bool.true_eq_false, if_false] at b2
  have c2 : (r2.2 != 0) = false := by rw [b2.1]; rfl
  rw [c2]
  simp only [cond_false, bnd_some, Bool.and_self, Bool.true_eq_false, if_false] at b3 ⊢
  cases h3 : needsOk p.Needs
  · rw [if_pos h3] at b3
    subst b3
    rfl
  rw [if_neg (by rw [h3]; simp)] at b3
  have c3 : (r3.2 != 0) = false := by rw [b3.1]; rfl
  rw [c3]
  simp only [cond_false, Bool.true_eq_false, if_false]
  rw [equal_names (by have := compsOk_len h1; omega)]
  by_cases h4 : namesOf p.Now = namesOf p.Next
  · simp only [h4, decide_true, bnd_some, Bool.not_true, cond_false, ne_eq, not_true_eq_false, if_false]
    rw [if_neg (by rw [h1]; simp), if_neg (by rw [h3]; simp)] at b5
    rw [if_neg (by rw [h2]; simp), if_neg (by rw [h3]; simp)] at b6
    have e5 : decide (r5.1 ≥ 0) = !p.Needs.all (metB p.Now) := by rw [← b5.2, ← decide_not]; congr 1; simp
    have e6 : decide (r6.1 ≥ 0) = !p.Needs.all (metB p.Next) := by rw [← b6.2, ← decide_not]; congr 1; simp
    rw [e5, e6]
    cases p.Needs.all (metB p.Now) <;> cases p.Needs.all (metB p.Next) <;> rfl
  · simp only [h4, decide_false, bnd_some, Bool.not_false, cond_true, ne_eq, not_false_eq_true, if_true]
    rfl

structure PlanOk (p : T_Plan) : Prop where
  now : compsOk p.Now = true
  next : compsOk p.Next = true
  needs : needsOk p.Needs = true
  names : namesOf p.Now = namesOf p.Next
  met0 : p.Needs.all (metB p.Now) = true
  met1 : p.Needs.all (metB p.Next) = true

theorem planOk {p : T_Plan} : validN p = 0 ↔ PlanOk p := by
  unfold validN
  constructor
  · intro h
    split at h
    · cases h
    · rename_i h1
      split at h
      · cases h
      · rename_i h2
        split at h
        · cases h
        · rename_i h3
          split at h
          · cases h
          · rename_i h4
            simp only [Bool.and_eq_false_iff, not_or, Bool.not_eq_false] at h1 h4
            exact ⟨h1.1, h1.2, by simpa using h2, Classical.not_not.1 h3, h4.1, h4.2⟩
  · intro h
    rw [if_neg (by rw [h.now, h.next]; simp), if_neg (by rw [h.needs]; simp), if_neg (by simp [h.names]), if_neg (by rw [h.met0, h.met1]; simp)]

theorem PlanOk.len {p : T_Plan} (h : PlanOk p) : p.Next.length = p.Now.length := by
  have := congrArg List.length h.names
  simpa [namesOf] using this.symm
theorem PlanOk.le8 {p : T_Plan} (h : PlanOk p) : p.Now.length ≤ 8 := compsOk_len h.now
end Go.Proofs.Yteaoblglgcpdnaa
