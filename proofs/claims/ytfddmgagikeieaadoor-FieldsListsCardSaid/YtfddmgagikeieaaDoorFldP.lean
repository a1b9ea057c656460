/-
  The laws of lists: FieldsLists.
  Conditions: none.
-/
import Derived.Test.YtfddmgagikeieaaDoorGenFieldsLists
import Derived.Test.YtfddmgagikeieaaDoorFldL
namespace Go.Proofs.YtfddmgagikeieaaDoor
open Go
set_option linter.unusedSimpArgs false
set_option linter.unusedVariables false

theorem encT_len (f : T_Field) (h : f.Value.size ≤ 200) : (encT f).length ≤ 202 := by
  unfold encT encF dataF
  rw [← bs_len] at h
  split
  · rw [List.length_cons, bcd_len]; omega
  · split
    · rw [List.length_cons, rep_len]; unfold sixN; omega
    · rw [List.length_cons]; omega
theorem encL_len' : ∀ (fs : List T_Field), (∀ f ∈ fs, f.Value.size ≤ 200) → (encL fs).length ≤ 202 * fs.length
  | [], _ => by simp [encL]
  | f :: r, h => by
    have h1 := encL_len' r fun x hx => h x (by simp [hx])
    have h2 := encT_len f (h f (by simp))
    unfold encL at *
    simp only [List.flatMap_cons, List.length_append, List.length_cons]
    omega

theorem EncodeList_ref (fs : List T_Field) (hs : ∀ f ∈ fs, f.Value.size ≤ 200) : m_ref02_EncodeList fs = some (if 16 < fs.length then ([], 3) else if fs.all valT = true then (iz (encL fs ++ [193]), 0) else ([], 1)) := by
  unfold m_ref02_EncodeList
  by_cases h16 : 16 < fs.length
  · rw [show decide ((fs.length : Int) > 16) = true from decide_eq_true (by omega), if_pos h16]
    rfl
  rw [show decide ((fs.length : Int) > 16) = false from decide_eq_false (by omega), if_neg h16, cond_false]
  have hcl : ∀ i, (encL (fs.take i)).length ≤ 3300 := fun i => by
    have := encL_len' (fs.take i) fun f hf => hs f (List.mem_of_mem_take hf)
    rw [List.length_take] at this
    omega
  refine bnd_loop_any (fun i => (iz (encL (fs.take i)), (i : Int))) fs.length (fun i => !((fs[i]?.map valT).getD true)) (.inl ([], 1)) (.inr (iz (encL fs))) rfl (fun i hi => ?_) ?_ ?_
  · have h1 : decide ((i : Int) < (fs.length : Int)) = true := decide_eq_true (by omega)
    have hsi := hs _ (List.getElem_mem hi)
    dsimp only
    rw [h1, cond_true]
    refine bnd_eq (elt_lt hi) ?_
    refine bnd_eq (Encode_ref _ (by omega)) ?_
    rw [List.getElem?_eq_getElem hi]
    simp only [Option.map_some, Option.getD_some]
    have hv : validF fs[i].Kind (bs fs[i].Value) = valT fs[i] := rfl
    rw [hv]
    cases valT fs[i]
    · rfl
    · simp only [if_true, show ((0 : Int) != 0) = false from rfl, cond_false, Bool.not_true]
      refine bnd_eq (app16 (l := encL (fs.take i)) (m := encF fs[i].Kind (bs fs[i].Value)) ?_) ?_
      · have h1 := hcl i
        have h2 := encT_len fs[i] hsi
        unfold encT at h2
        omega
      · rw [wrap_succ hi (by omega), encL_succ hi]
        rfl
  · have h1 : decide ((fs.length : Int) < (fs.length : Int)) = false := decide_eq_false (by omega)
    dsimp only
    rw [h1, cond_false, List.take_length]
  · have : (List.range fs.length).any (fun i => !((fs[i]?.map valT).getD true)) = !fs.all valT := by
      rw [List.all_eq_not_any_not]
      simp only [Bool.not_not]
      exact any_range fs (fun x => !valT x) _ fun i h => by simp [h]
    rw [this]
    have hl := hcl fs.length
    rw [List.take_length] at hl
    cases fs.all valT
    · rfl
    · exact bnd_eq (app2 (by omega) 193) rfl

theorem DecodeList_ref (b : List Nat) (hb : lt256 b) (hn : b.length ≤ 1000000) : m_ref02_DecodeList (iz b) = some (decL b) := by
  unfold m_ref02_DecodeList
  exact bnd_eq (decL_loop b hb hn m_ref02_Decode Decode_ref _ (fun _ => rfl) 17 [] 0 rfl (by omega) (by omega)) rfl

theorem fieldsLists_true (l : List T_Field) (b : List Int) (hl : okL ok_T_Field l) (hb : okL (inK .u8) b) : m_law02_FieldsLists l b = some true := by
  obtain ⟨c, hc, rfl⟩ := okL_iz hb
  unfold m_law02_FieldsLists
  simp only [awake_ok, bnd_some]
  by_cases h1 : l.length ≤ 30
  · rw [show decide ((l.length : Int) > 30) = false from decide_eq_false (by omega), cond_false, bnd_some]
    by_cases h2 : c.length ≤ 600
    · rw [show decide (((iz c).length : Int) > 600) = false from decide_eq_false (by rw [iz_len]; omega), cond_false]
      refine bnd_loop_any (fun i => (i : Int)) l.length (fun i => !((l[i]?.map fun f => decide (f.Value.size ≤ 200)).getD true)) (.inl true) (.inr ()) rfl (fun i hi => ?_) ?_ ?_
      · have g1 : decide ((i : Int) < (l.length : Int)) = true := decide_eq_true (by omega)
        rw [g1, cond_true]
        refine bnd_eq (elt_lt hi) ?_
        rw [List.getElem?_eq_getElem hi]
        simp only [Option.map_some, Option.getD_some]
        by_cases g : l[i].Value.size ≤ 200
        · rw [show decide ((l[i].Value.size : Int) > 200) = false from decide_eq_false (by omega), decide_eq_true g, cond_false, wrap_succ hi (by omega)]
          rfl
        · rw [show decide ((l[i].Value.size : Int) > 200) = true from decide_eq_true (by omega), decide_eq_false g, cond_true]
          rfl
      · simp
      · have : (List.range l.length).any (fun i => !((l[i]?.map fun f => decide (f.Value.size ≤ 200)).getD true)) = !l.all fun f => decide (f.Value.size ≤ 200) := by
          rw [List.all_eq_not_any_not]
          simp only [Bool.not_not]
          exact any_range l (fun x => !decide (x.Value.size ≤ 200)) _ fun i h => by simp [h]
        rw [this]
        cases hall : l.all fun f => decide (f.Value.size ≤ 200)
        · rfl
        · have hs : ∀ f ∈ l, f.Value.size ≤ 200 := fun f hf => by
            have := List.all_eq_true.1 hall f hf
            simpa using this
          simp only [Bool.not_true, cond_false, retOr_inr]
          rw [EncodeList_prog l (fun f hf => by have := hs f hf; omega) (by omega), bnd_some, EncodeList_ref l hs, bnd_some, DecodeList_prog c hc (by omega), bnd_some, DecodeList_ref c hc (by omega), bnd_some]
          have hd : (decL c).1.length ≤ 17 := decLf_len c 17 [] 0 (by simp)
          have he : m_ref01_Same (if 16 < l.length then (([] : List Int), (3 : Int)) else if l.all valT = true then (iz (encL l ++ [193]), 0) else ([], 1)).1 (if 16 < l.length then (([] : List Int), (3 : Int)) else if l.all valT = true then (iz (encL l ++ [193]), 0) else ([], 1)).1 = some true := by
            have hnil : m_ref01_Same [] [] = some true := same_nat [] [] (by decide)
            split
            · exact hnil
            · split
              · have := encL_len' l hs
                rw [same_nat _ _ (by simp; omega)]
                simp
              · exact hnil
          rw [he, sameL_self _ (by omega)]
          simp only [beq_self_eq_true, cond_true, bnd_some]
    · rw [show decide (((iz c).length : Int) > 600) = true from decide_eq_true (by rw [iz_len]; omega)]
      rfl
  · rw [show decide ((l.length : Int) > 30) = true from decide_eq_true (by omega)]
    rfl

end Go.Proofs.YtfddmgagikeieaaDoor
