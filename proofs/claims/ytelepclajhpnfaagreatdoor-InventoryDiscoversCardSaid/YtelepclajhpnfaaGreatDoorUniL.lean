/-
  Lists of fields: their bytes, and what bytes are decoded to.
  Conditions: none.
-/
import Derived.Test.YtelepclajhpnfaaGreatDoorUniS
namespace Go.Proofs.YtelepclajhpnfaaGreatDoor
open Go
set_option linter.unusedSimpArgs false
set_option linter.unusedVariables false
def encT (f : T_Field) : List Nat := encF f.Kind (bs f.Value)
def encL (fs : List T_Field) : List Nat := fs.flatMap encT
def valT (f : T_Field) : Bool := validF f.Kind (bs f.Value)
theorem encL_succ {fs : List T_Field} {i : Nat} (h : i < fs.length) : encL (fs.take (i + 1)) = encL (fs.take i) ++ encT fs[i] := by
  unfold encL
  rw [take_succ_get h, List.flatMap_append]
  simp only [List.flatMap_cons, List.flatMap_nil, List.append_nil]
theorem encL_len : ∀ (fs : List T_Field), (∀ f ∈ fs, valT f = true) → (encL fs).length ≤ 64 * fs.length
  | [], _ => by simp [encL]
  | f :: r, h => by
    have h1 := encL_len r fun x hx => h x (by simp [hx])
    have h2 := encF_len (h f (by simp))
    unfold encL encT at *
    simp only [List.flatMap_cons, List.length_append, List.length_cons]
    omega
theorem encL_lt : ∀ (fs : List T_Field), (∀ f ∈ fs, valT f = true) → lt256 (encL fs)
  | [], _ => lt256.nil
  | f :: r, h => by
    have h1 := encL_lt r fun x hx => h x (by simp [hx])
    unfold encL at *
    rw [List.flatMap_cons]
    exact (encF_lt (h f (by simp)) (bs_lt _)).app h1
theorem contains_prog (fs : List T_Field) (hs : ∀ f ∈ fs, f.Value.size ≤ 1000000) (hn : fs.length ≤ 1000000) : m_slices_ContainsFunc__api_Field_api_Field_f95 fs = some (!fs.all valT) := by
  unfold m_slices_ContainsFunc__api_Field_api_Field_f95 m_slices_IndexFunc__api_Field_api_Field_f95
  have hstep : ∀ i (h : i < fs.length), m_fields_EncodeList_1 fs[i] = some (!valT fs[i]) := fun i h => by
    unfold m_fields_EncodeList_1
    rw [valid_prog _ (hs _ (List.getElem_mem h))]
    rfl
  have key : ∀ (m : Int → Option (Step Int (Int ⊕ Unit))), (∀ s1, m s1 = bif decide (s1 < (fs.length : Int)) then (bnd (elt fs s1) fun x1 => bnd (m_fields_EncodeList_1 x1) fun r1 => bif r1 then (some (.done (.inl s1))) else (some (.next (IntKind.wrap .i64 (s1 + 1))))) else (some (.done (.inr ())))) →
      ∃ r : Int, (bnd (loopM m 0) fun o1 => retOr o1 fun o2 => some (-1)) = some r ∧ decide (r ≥ 0) = !fs.all valT := by
    intro m hm
    have hl := loop_find (m := m) (fun i => (i : Int)) fs.length (fun i => if h : i < fs.length then (if (!valT fs[i]) = true then some (.inl (i : Int)) else none) else none) (t := .inr ()) (fun i hi => by
      have h1 : decide ((i : Int) < (fs.length : Int)) = true := decide_eq_true (by omega)
      rw [hm]
      simp only [h1, cond_true, elt_lt hi, bnd_some, hstep i hi, hi, dif_pos, wrap_succ hi (by omega)]
      cases valT fs[i] <;> rfl) (by
      rw [hm]
      simp)
    rw [show ((0 : Nat) : Int) = 0 from rfl] at hl
    rw [hl, bnd_some]
    rcases find_range fs (fun f => !valT f) (fun i _ => (Sum.inl (i : Int) : Int ⊕ Unit)) (fun i => if h : i < fs.length then (if (!valT fs[i]) = true then some (.inl (i : Int)) else none) else none) (fun i h => by simp only [h, dif_pos]) with ⟨i, hi, h1, h2, h3⟩ | ⟨h1, h2, h3⟩
    · rw [h3]
      refine ⟨(i : Int), rfl, ?_⟩
      have : fs.all valT = false := by
        rw [List.all_eq_false]
        exact ⟨fs[i], List.getElem_mem hi, by simpa using h1⟩
      rw [this]
      simp
    · rw [h3]
      refine ⟨-1, rfl, ?_⟩
      have : fs.all valT = true := List.all_eq_true.2 fun x hx => by simpa using h2 x hx
      rw [this]
      rfl
  obtain ⟨r, h1, h2⟩ := key _ fun s1 => rfl
  rw [h1, bnd_some, h2]
theorem app16 {l m : List Nat} (h : l.length + m.length ≤ 1000000) : app 1 (iz l) (iz m) = some (iz (l ++ m)) := app_iz (by omega) (by omega)
theorem EncodeList_prog (fs : List T_Field) (hs : ∀ f ∈ fs, f.Value.size ≤ 1000000) (hn : fs.length ≤ 1000000) :
    m_fields_EncodeList fs = some (if 16 < fs.length then ([], 3) else if fs.all valT = true then (iz (encL fs ++ [193]), 0) else ([], 1)) := by
  unfold m_fields_EncodeList
  by_cases h16 : 16 < fs.length
  · rw [show decide ((fs.length : Int) > 16) = true from decide_eq_true (by omega), if_pos h16]
    rfl
  rw [show decide ((fs.length : Int) > 16) = false from decide_eq_false (by omega), if_neg h16, cond_false, contains_prog fs hs hn, bnd_some]
  cases hv : fs.all valT
  · rfl
  · simp only [Bool.not_true, cond_false, if_true]
    have hv' := List.all_eq_true.1 hv
    refine bnd_loop (fun i => (iz (encL (fs.take i)), (i : Int))) fs.length (iz (encL fs)) rfl (fun i hi => ?_) ?_ ?_
    · have h1 : decide ((i : Int) < (fs.length : Int)) = true := decide_eq_true (by omega)
      have hvi := hv' _ (List.getElem_mem hi)
      have hl1 := encL_len (fs.take i) fun f hf => hv' f (List.mem_of_mem_take hf)
      rw [List.length_take] at hl1
      have hl2 := encF_len hvi
      dsimp only
      rw [h1, cond_true]
      refine bnd_eq (elt_lt hi) ?_
      refine bnd_eq (encode_prog _ hvi) ?_
      refine bnd_eq (app16 (by omega)) ?_
      rw [wrap_succ hi (by omega), encL_succ hi]
      rfl
    · have h1 : decide ((fs.length : Int) < (fs.length : Int)) = false := decide_eq_false (by omega)
      dsimp only
      rw [h1, cond_false, List.take_length]
    · have hl := encL_len fs hv'
      refine bnd_eq (app2 (by omega) 193) rfl
end Go.Proofs.YtelepclajhpnfaaGreatDoor
