/-
  Bundles: which are valid, their bytes, the index of a name: the program's and the reference's answers are one.
  Conditions: none.
-/
import Derived.Test.YtgnmhmnglbbamaaBun1
import Derived.Test.YtgnmhmnglbbamaaPureC
namespace Go.Proofs.Ytgnmhmnglbbamaa
open Go
set_option linter.unusedSimpArgs false
set_option linter.unusedVariables false

theorem bl_total : ∀ (x y : List UInt8), (Op.bytesLess x y || (x == y)) = !Op.bytesLess y x
  | [], [] => rfl
  | [], _ :: _ => rfl
  | _ :: _, [] => rfl
  | a :: x, b :: y => by
    have ih := bl_total x y
    simp only [Op.bytesLess, List.cons_beq_cons]
    by_cases h : a = b
    · subst h
      have : ¬ a < a := UInt8.lt_irrefl a
      simp [this]
      simpa using ih
    · have h1 : (a == b) = false := by simpa using h
      have h2 : (b == a) = false := by simpa using fun e => h e.symm
      rw [h1, h2]
      simp only [Bool.false_and, Bool.or_false]
      by_cases hl : a < b
      · have : ¬ b < a := UInt8.lt_asymm hl
        simp [hl, this]
      · have : b < a := by
          rcases UInt8.lt_or_lt_of_ne h with g | g
          · exact absurd g hl
          · exact g
        simp [hl, this]

/-! ## Needs -/

def needB (n : T_Need) : Bool := nameB n.Component && (nameB n.On && (!decide (n.Component = n.On) && (verB n.From && verB n.At)))
def needsB (l : List T_Need) : Bool := decide (l.length ≤ 16) && l.all needB

theorem needs_loop (l : List T_Need) (m : Int → Option (Step Int (Bool ⊕ Unit))) (hm : ∀ i (h : i < l.length), m (i : Int) = some (bif !needB l[i] then .done (.inl false) else .next (IntKind.wrap .i64 ((i : Int) + 1)))) (hd : m (l.length : Int) = some (.done (.inr ()))) (hn : l.length ≤ 1000000) :
    bnd (loopM m 0) (fun o1 => retOr o1 fun _ => some true) = some (l.all needB) := by
  refine bnd_loop_any (fun i => (i : Int)) l.length (fun i => !((l[i]?.map needB).getD true)) (.inl false) (.inr ()) rfl (fun i hi => ?_) hd ?_
  · rw [hm i hi, List.getElem?_eq_getElem hi, wrap_succ hi (by omega)]
    rfl
  · have : (List.range l.length).any (fun i => !((l[i]?.map needB).getD true)) = !l.all needB := by
      rw [List.all_eq_not_any_not]
      simp only [Bool.not_not]
      exact any_range l (fun x => !needB x) _ fun i h => by simp [h]
    rw [this]
    cases l.all needB <;> rfl

theorem needs_prog (l : List T_Need) : m_version_right l = some (needsB l) := by
  unfold m_version_right needsB
  by_cases h : l.length ≤ 16
  · rw [show decide ((l.length : Int) > 16) = false from decide_eq_false (by omega), cond_false, decide_eq_true h, Bool.true_and]
    refine needs_loop l _ (fun i hi => ?_) ?_ (by omega)
    · rw [show decide ((i : Int) < (l.length : Int)) = true from decide_eq_true (by omega), cond_true]
      refine bnd_eq (elt_lt hi) ?_
      generalize l[i] = n
      unfold needB
      simp only [name_prog, ver_prog, bnd_some, str_beq]
      cases nameB n.Component <;> cases nameB n.On <;> cases decide (n.Component = n.On) <;> cases verB n.From <;> cases verB n.At <;> rfl
    · simp
  · rw [show decide ((l.length : Int) > 16) = true from decide_eq_true (by omega), decide_eq_false h]
    rfl
theorem needs_ref (l : List T_Need) : m_ref27_Needs l = some (needsB l) := by
  unfold m_ref27_Needs needsB
  by_cases h : l.length ≤ 16
  · rw [show decide ((l.length : Int) > 16) = false from decide_eq_false (by omega), cond_false, decide_eq_true h, Bool.true_and]
    refine needs_loop l _ (fun i hi => ?_) ?_ (by omega)
    · rw [show decide ((i : Int) < (l.length : Int)) = true from decide_eq_true (by omega), cond_true, elt_lt hi]
      generalize l[i] = n
      unfold needB
      simp only [name_ref, ver_ref, bnd_some, str_beq]
      cases nameB n.Component <;> cases nameB n.On <;> cases decide (n.Component = n.On) <;> cases verB n.From <;> cases verB n.At <;> rfl
    · simp
  · rw [show decide ((l.length : Int) > 16) = true from decide_eq_true (by omega), decide_eq_false h]
    rfl

theorem check_nil (l : List T_Need) : m_version_Check [] l = some (if needsB l = true then (-1, 0) else (0, 2)) := by
  unfold m_version_Check
  have hc : m_version_components [] = some true := by
    unfold m_version_components
    refine bnd_loop (fun i => (i : Int)) 0 (.inr ()) rfl (fun i hi => by omega) rfl rfl
  rw [hc, bnd_some, needs_prog, bnd_some]
  cases hn : needsB l
  · rfl
  · simp only [Bool.not_true, cond_false, if_true]
    have hlen : l.length ≤ 16 := by
      simp only [needsB, Bool.and_eq_true, decide_eq_true_eq] at hn
      exact hn.1
    refine bnd_loop (fun i => (i : Int)) l.length (.inr ()) rfl (fun i hi => ?_) (by simp) rfl
    rw [show decide ((i : Int) < (l.length : Int)) = true from decide_eq_true (by omega), cond_true]
    refine bnd_eq (elt_lt hi) ?_
    have hm : ∀ n, m_version_Met [] n = some true := fun n => by
      unfold m_version_Met m_version_find
      have : ∀ (s : ByteArray), (bnd (loopM (τ := (T_Version × Bool) ⊕ Unit) (fun (s1 : Int) => bif decide (s1 < (([] : List T_Installed).length : Int)) then (bnd (elt ([] : List T_Installed) s1) fun x1 => bif (x1.Name.toList == s.toList) then (some (.done (.inl (x1.Version, true)))) else (some (.next (IntKind.wrap .i64 (s1 + 1))))) else (some (.done (.inr ())))) 0) fun o1 => retOr o1 fun o2 => some ((⟨0, 0, 0⟩ : T_Version), false)) = some (⟨0, 0, 0⟩, false) := fun s =>
        bnd_loop (fun i => (i : Int)) 0 (.inr ()) rfl (fun i hi => by omega) rfl rfl
      rw [this]
      rfl
    rw [hm, bnd_some, wrap_succ hi (by omega)]
    rfl

/-! ## Valid -/

/-- The first error among the images from the i-th one on. -/
def imgErr (l : List T_Image) (i : Nat) : Option Int :=
  match l[i]? with
  | none => none
  | some x => if rightB x = false then some 1 else if i > 0 ∧ (Op.bytesLess ((l[i - 1]?.map T_Image.Name).getD ⟨#[]⟩).toList x.Name.toList) = false then some 7 else none
def validB (b : T_Bundle) : Int :=
  if b.Images.length < 1 ∨ 8 < b.Images.length then 2
  else match (List.range b.Images.length).findSome? (imgErr b.Images) with
    | some e => e
    | none => if 16 < b.Needs.length then 3 else if needsB b.Needs = true then 0 else 1

theorem valid_both (b : T_Bundle) (m : Int → Option (Step Int (Int ⊕ Unit))) (k : Option Int) (hk : k = some (if 16 < b.Needs.length then 3 else if needsB b.Needs = true then 0 else 1)) (hn : b.Images.length ≤ 8)
    (hm : ∀ i (h : i < b.Images.length), m (i : Int) = some (match imgErr b.Images i with | some e => .done (.inl e) | none => .next (IntKind.wrap .i64 ((i : Int) + 1)))) (hd : m (b.Images.length : Int) = some (.done (.inr ()))) (h1 : ¬ (b.Images.length < 1 ∨ 8 < b.Images.length)) :
    bnd (loopM m 0) (fun o2 => retOr o2 fun _ => k) = some (validB b) := by
  refine bnd_loop_find (fun i => (i : Int)) b.Images.length (fun i => (imgErr b.Images i).map .inl) (.inr ()) rfl (fun i hi => ?_) hd ?_
  · rw [hm i hi, wrap_succ hi (by omega)]
    cases imgErr b.Images i <;> rfl
  · unfold validB
    rw [if_neg h1]
    have : (List.range b.Images.length).findSome? (fun i => (imgErr b.Images i).map (Sum.inl : Int → Int ⊕ Unit)) = ((List.range b.Images.length).findSome? (imgErr b.Images)).map .inl := by
      generalize List.range b.Images.length = r
      induction r with
      | nil => rfl
      | cons x r ih =>
        rw [List.findSome?_cons, List.findSome?_cons]
        cases imgErr b.Images x
        · exact ih
        · rfl
    rw [this]
    cases (List.range b.Images.length).findSome? (imgErr b.Images) with
    | none => exact hk
    | some e => rfl

theorem Valid_prog (b : T_Bundle) : m_bundle_Valid b = some (validB b) := by
  unfold m_bundle_Valid
  by_cases h : b.Images.length < 1 ∨ 8 < b.Images.length
  · have : (bif decide ((b.Images.length : Int) < 1) then (some true) else (some (decide ((b.Images.length : Int) > 8))) : Option Bool) = some true := by
      rcases h with h | h
      · rw [decide_eq_true (by omega : (b.Images.length : Int) < 1)]
        rfl
      · rw [decide_eq_false (by omega : ¬ (b.Images.length : Int) < 1), decide_eq_true (by omega : (b.Images.length : Int) > 8)]
        rfl
    rw [this]
    unfold validB
    rw [if_pos h]
    rfl
  · have : (bif decide ((b.Images.length : Int) < 1) then (some true) else (some (decide ((b.Images.length : Int) > 8))) : Option Bool) = some false := by
      rw [decide_eq_false (by omega : ¬ (b.Images.length : Int) < 1), decide_eq_false (by omega : ¬ (b.Images.length : Int) > 8)]
      rfl
    rw [this, bnd_some, cond_false]
    refine valid_both b _ _ ?_ (by omega) (fun i hi => ?_) (by simp) h
    · rw [check_nil]
      by_cases hn : 16 < b.Needs.length
      · rw [decide_eq_true (by omega : (b.Needs.length : Int) > 16), if_pos hn]
        rfl
      · rw [decide_eq_false (by omega : ¬ (b.Needs.length : Int) > 16), if_neg hn]
        cases needsB b.Needs <;> rfl
    · rw [show decide ((i : Int) < (b.Images.length : Int)) = true from decide_eq_true (by omega), cond_true]
      refine bnd_eq (elt_lt hi) ?_
      rw [right_prog, bnd_some]
      unfold imgErr
      rw [List.getElem?_eq_getElem hi]
      simp only
      cases hr : rightB b.Images[i]
      · rfl
      · simp only [Bool.not_true, cond_false, Bool.true_eq_false, if_false]
        by_cases h0 : i > 0
        · have hp : IntKind.wrap .i64 ((i : Int) - 1) = ((i - 1 : Nat) : Int) := wrap_pred h0 hi (by omega)
          have hi1 : i - 1 < b.Images.length := by omega
          rw [decide_eq_true (by omega : (i : Int) > 0), cond_true, hp, elt_lt hi1, bnd_some, bl_total, bnd_some, List.getElem?_eq_getElem hi1]
          simp only [Option.map_some, Option.getD_some]
          by_cases hb : Op.bytesLess b.Images[i - 1].Name.toList b.Images[i].Name.toList = false
          · simp [h0, hb]
          · simp [hb]
        · rw [decide_eq_false (by omega : ¬ (i : Int) > 0), cond_false, bnd_some]
          simp [h0]
theorem Valid_ref (b : T_Bundle) : m_ref28_Valid b = some (validB b) := by
  unfold m_ref28_Valid
  by_cases h : b.Images.length < 1 ∨ 8 < b.Images.length
  · have : (bif decide ((b.Images.length : Int) < 1) then (some true) else (some (decide ((b.Images.length : Int) > 8))) : Option Bool) = some true := by
      rcases h with h | h
      · rw [decide_eq_true (by omega : (b.Images.length : Int) < 1)]
        rfl
      · rw [decide_eq_false (by omega : ¬ (b.Images.length : Int) < 1), decide_eq_true (by omega : (b.Images.length : Int) > 8)]
        rfl
    rw [this]
    unfold validB
    rw [if_pos h]
    rfl
  · have : (bif decide ((b.Images.length : Int) < 1) then (some true) else (some (decide ((b.Images.length : Int) > 8))) : Option Bool) = some false := by
      rw [decide_eq_false (by omega : ¬ (b.Images.length : Int) < 1), decide_eq_false (by omega : ¬ (b.Images.length : Int) > 8)]
      rfl
    rw [this, bnd_some, cond_false]
    refine valid_both b _ _ ?_ (by omega) (fun i hi => ?_) (by simp) h
    · rw [needs_ref]
      by_cases hn : 16 < b.Needs.length
      · rw [decide_eq_true (by omega : (b.Needs.length : Int) > 16), if_pos hn]
        rfl
      · rw [decide_eq_false (by omega : ¬ (b.Needs.length : Int) > 16), if_neg hn]
        cases needsB b.Needs <;> rfl
    · rw [show decide ((i : Int) < (b.Images.length : Int)) = true from decide_eq_true (by omega), cond_true]
      refine bnd_eq (elt_lt hi) ?_
      rw [right_ref, bnd_some]
      unfold imgErr
      rw [List.getElem?_eq_getElem hi]
      simp only
      cases hr : rightB b.Images[i]
      · rfl
      · simp only [Bool.not_true, cond_false, Bool.true_eq_false, if_false]
        by_cases h0 : i > 0
        · have hp : IntKind.wrap .i64 ((i : Int) - 1) = ((i - 1 : Nat) : Int) := wrap_pred h0 hi (by omega)
          have hi1 : i - 1 < b.Images.length := by omega
          rw [decide_eq_true (by omega : (i : Int) > 0), cond_true, hp, elt_lt hi1, bnd_some, bnd_some, List.getElem?_eq_getElem hi1]
          simp only [Option.map_some, Option.getD_some]
          by_cases hb : Op.bytesLess b.Images[i - 1].Name.toList b.Images[i].Name.toList = false
          · simp [h0, hb]
          · simp [hb]
        · rw [decide_eq_false (by omega : ¬ (i : Int) > 0), cond_false, bnd_some]
          simp [h0]

/-- What a valid bundle is. -/
theorem valid0 {b : T_Bundle} (h : validB b = 0) : 1 ≤ b.Images.length ∧ b.Images.length ≤ 8 ∧ (∀ i ∈ b.Images, rightB i = true) ∧ b.Needs.length ≤ 16 ∧ (∀ n ∈ b.Needs, needB n = true) := by
  unfold validB at h
  split at h
  · cases h
  · rename_i h1
    split at h
    · rename_i e he
      exfalso
      obtain ⟨i, _, hi⟩ := List.exists_of_findSome?_eq_some he
      unfold imgErr at hi
      subst h
      split at hi
      · cases hi
      · split at hi
        · cases hi
        · split at hi
          · cases hi
          · cases hi
    · rename_i he
      split at h
      · cases h
      · rename_i hn
        split at h
        · rename_i hnb
          refine ⟨by omega, by omega, fun x hx => ?_, by omega, ?_⟩
          · obtain ⟨i, hi, rfl⟩ := List.getElem_of_mem hx
            have := List.findSome?_eq_none_iff.1 he i (List.mem_range.2 hi)
            unfold imgErr at this
            rw [List.getElem?_eq_getElem hi] at this
            simp only at this
            cases hr : rightB b.Images[i]
            · rw [hr] at this
              simp at this
            · rfl
          · simp only [needsB, Bool.and_eq_true, List.all_eq_true] at hnb
            exact hnb.2
        · cases h

/-! ## Find -/

def findB (l : List T_Image) (s : ByteArray) : Int := match (List.range l.length).findSome? (fun (i : Nat) => if (l[i]?.map T_Image.Name) = some s then some (i : Int) else none) with
  | some i => i
  | none => -1

theorem find_both (l : List T_Image) (s : ByteArray) (hn : l.length ≤ 1000000) (m : Int → Option (Step Int (Int ⊕ Unit))) (hm : ∀ i (h : i < l.length), m (i : Int) = some (bif (l[i].Name.toList == s.toList) then .done (.inl (i : Int)) else .next (IntKind.wrap .i64 ((i : Int) + 1)))) (hd : m (l.length : Int) = some (.done (.inr ()))) :
    bnd (loopM m 0) (fun o1 => retOr o1 fun _ => some (-1)) = some (findB l s) := by
  refine bnd_loop_find (fun i => (i : Int)) l.length (fun (i : Nat) => (if (l[i]?.map T_Image.Name) = some s then some (i : Int) else none).map .inl) (.inr ()) rfl (fun i hi => ?_) hd ?_
  · rw [hm i hi, List.getElem?_eq_getElem hi, str_beq, wrap_succ hi (by omega)]
    by_cases h : l[i].Name = s
    · simp [h]
    · simp [h]
  · unfold findB
    have : (List.range l.length).findSome? (fun (i : Nat) => (if (l[i]?.map T_Image.Name) = some s then some (i : Int) else none).map (Sum.inl : Int → Int ⊕ Unit)) = ((List.range l.length).findSome? (fun (i : Nat) => if (l[i]?.map T_Image.Name) = some s then some (i : Int) else none)).map .inl := by
      generalize List.range l.length = r
      induction r with
      | nil => rfl
      | cons x r ih =>
        rw [List.findSome?_cons, List.findSome?_cons]
        by_cases h : (l[x]?.map T_Image.Name) = some s
        · rw [if_pos h]; rfl
        · rw [if_neg h]; exact ih
    rw [this]
    cases (List.range l.length).findSome? (fun (i : Nat) => if (l[i]?.map T_Image.Name) = some s then some (i : Int) else none) <;> rfl

theorem Find_prog (b : T_Bundle) (s : ByteArray) (hn : b.Images.length ≤ 1000000) : m_bundle_Find b s = some (findB b.Images s) := by
  unfold m_bundle_Find m_slices_IndexFunc__api_Image_api_Image_f42 m_bundle_Find_1
  rw [find_both b.Images s hn _ (fun i hi => ?_) (by simp)]
  · rfl
  · rw [show decide ((i : Int) < (b.Images.length : Int)) = true from decide_eq_true (by omega), cond_true]
    refine bnd_eq (elt_lt hi) ?_
    rw [bnd_some]
    cases (b.Images[i].Name.toList == s.toList) <;> rfl
end Go.Proofs.Ytgnmhmnglbbamaa
