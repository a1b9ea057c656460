/-
  The laws of lists: FieldsListReturns.
  Conditions: none.
-/
import Derived.Test.YtfddmgagikeieaaDoorFldE
import Derived.Test.YtfddmgagikeieaaDoorFldL
namespace Go.Proofs.YtfddmgagikeieaaDoor
open Go
set_option linter.unusedSimpArgs false
set_option linter.unusedVariables false

/-- A whole list is decoded. -/
theorem decL_enc (fs : List T_Field) (hv : ∀ f ∈ fs, valT f = true) (hl : fs.length ≤ 16) (rest : List Nat) : decL ((encL fs ++ [193]) ++ rest) = (fs, (((encL fs ++ [193]).length : Nat) : Int), 0) := by
  unfold decL
  have h := decLf_enc fs hv [] [] ([193] ++ rest) fs (17 - fs.length) 0 [] ((encL fs ++ [193]) ++ rest) hv (by rw [List.drop_zero, List.append_assoc]) (by simp; omega) (by simp; omega)
  rw [show 17 - fs.length + fs.length = 17 by omega] at h
  rw [h]
  obtain ⟨k, hk⟩ : ∃ k, 17 - fs.length = k + 1 := ⟨16 - fs.length, by omega⟩
  rw [hk, decLf, Nat.zero_add, List.append_assoc, List.drop_left]
  have hd : decF ([193] ++ rest) = (fNone, 1, true, 0) := by simp [decF]
  rw [hd, if_neg (by simp), if_pos rfl]
  simp

theorem encL_nil : (encL []).length = 0 := rfl

/-- A list that is cut off is truncated. -/
theorem decL_cut (fs : List T_Field) (hv : ∀ f ∈ fs, valT f = true) (hl : fs.length ≤ 16) (c : Nat) (hc : c < (encL fs ++ [193]).length) : decL ((encL fs ++ [193]).take c) = ([], 0, 4) := by
  have key : ∀ (rest pre : List T_Field), fs = pre ++ rest → (encL pre).length ≤ c → c ≤ (encL pre).length + (encL rest).length → ∃ p f q, fs = p ++ f :: q ∧ (encL p).length ≤ c ∧ c < (encL p).length + (encT f).length ∨ fs = p ∧ c = (encL p).length := by
    intro rest
    induction rest with
    | nil =>
      intro pre h1 h2 h3
      rw [encL_nil] at h3
      exact ⟨pre, ⟨0, ⟨#[]⟩⟩, [], .inr ⟨by simpa using h1, by omega⟩⟩
    | cons f r ih =>
      intro pre h1 h2 h3
      by_cases g : c < (encL pre).length + (encT f).length
      · exact ⟨pre, f, r, .inl ⟨h1, h2, g⟩⟩
      · have e1 : (encL (pre ++ [f])).length = (encL pre).length + (encT f).length := by unfold encL; simp
        have e2 : (encL (f :: r)).length = (encT f).length + (encL r).length := by unfold encL; simp
        exact ih (pre ++ [f]) (by rw [h1]; simp) (by omega) (by omega)
  have hlen : (encL fs ++ [193]).length = (encL fs).length + 1 := by simp
  obtain ⟨p, f, q, h⟩ := key fs [] rfl (by rw [encL_nil]; omega) (by rw [encL_nil]; omega)
  rcases h with ⟨h1, h2, h3⟩ | ⟨h1, h2⟩
  · have hvp : ∀ x ∈ p, valT x = true := fun x hx => hv x (by rw [h1]; simp [hx])
    have hvf : valT f = true := hv f (by rw [h1]; simp)
    have hpl : p.length + 1 ≤ 16 := by rw [h1] at hl; simp at hl; omega
    have hb : (encL fs ++ [193]).take c = encL p ++ (encT f).take (c - (encL p).length) := by
      have e : encL fs = encL p ++ (encT f ++ encL q) := by rw [h1]; unfold encL; simp
      rw [e, List.append_assoc, List.append_assoc, List.take_append, List.take_of_length_le h2, List.take_append, show c - (encL p).length - (encT f).length = 0 by omega, List.take_zero, List.append_nil]
    unfold decL
    have h := decLf_enc fs hv [] [] ((encT f).take (c - (encL p).length)) p (17 - p.length) 0 [] ((encL fs ++ [193]).take c) hvp (by rw [List.drop_zero, hb]) (by simp; omega) (by simp; omega)
    rw [show 17 - p.length + p.length = 17 by omega] at h
    rw [h]
    obtain ⟨k, hk⟩ : ∃ k, 17 - p.length = k + 1 := ⟨16 - p.length, by omega⟩
    rw [hk, decLf, Nat.zero_add, hb, List.drop_left]
    have hd := dec_cut hvf (c := c - (encL p).length) (by unfold encT at h3; omega)
    unfold encT
    rw [hd, if_pos (by simp)]
  · have hb : (encL fs ++ [193]).take c = encL fs ++ [] := by
      rw [h2, ← h1, List.take_left, List.append_nil]
    unfold decL
    have h := decLf_enc fs hv [] [] [] fs (17 - fs.length) 0 [] ((encL fs ++ [193]).take c) hv (by rw [List.drop_zero, hb]) (by simp; omega) (by simp; omega)
    rw [show 17 - fs.length + fs.length = 17 by omega] at h
    rw [h]
    obtain ⟨k, hk⟩ : ∃ k, 17 - fs.length = k + 1 := ⟨16 - fs.length, by omega⟩
    rw [hk, decLf, Nat.zero_add, hb, List.drop_left]
    rfl

theorem fieldsListReturns_true (l rest : List Int) (cut : Int) (hl : okL (inK .i64) l) (hr : okL (inK .u8) rest) (hc : inK .i64 cut) : m_law02_FieldsListReturns l rest cut = some true := by
  obtain ⟨r, hr8, rfl⟩ := okL_iz hr
  unfold m_law02_FieldsListReturns
  simp only [light_ok, roll_ok, bnd_some, awake_ok]
  by_cases h2 : l.length ≤ 600
  · rw [show decide ((l.length : Int) ≤ 600) = true from decide_eq_true (by omega)]
    simp only [Bool.not_true, cond_false, bnd_some, iz_len]
    by_cases h1 : r.length ≤ 100
    · rw [show decide ((r.length : Int) > 100) = false from decide_eq_false (by omega), cond_false]
      obtain ⟨⟨d, fs⟩, hx, hx1, hx2, _, hx3⟩ := fields_ex ⟨l, 0⟩ 0 (roll_fair l h2) (by omega) (by omega)
      simp only at hx2 hx3
      have hall : fs.all valT = true := List.all_eq_true.2 hx3
      have hs : ∀ f ∈ fs, f.Value.size ≤ 1000000 := fun f hf => by
        have := valid_size' (hx3 f hf)
        rw [bs_len] at this
        omega
      have hlen := encL_len fs hx3
      have hB : lt256 (encL fs ++ [193]) := (encL_lt fs hx3).app (lt256.cons (by omega) lt256.nil)
      have hBl : (encL fs ++ [193]).length = (encL fs).length + 1 := by simp
      have hbeq : (((encL fs ++ [193]).length : Int) == 0) = false := by rw [hBl]; simp; omega
      rw [hx, bnd_some, EncodeList_prog fs hs (by omega), bnd_some, if_neg (by omega), if_pos hall]
      simp only [show ((0 : Int) != 0) = false from rfl, cond_false, bnd_some, iz_len, hbeq]
      obtain ⟨q, hq, hq1, hq2, _⟩ := mod_some cut ((encL fs ++ [193]).length : Int) (by rw [hBl]; omega) (by rw [hBl]; omega)
      obtain ⟨m, rfl⟩ : ∃ m : Nat, q = (m : Int) := ⟨q.toNat, by omega⟩
      have a1 : app 1 ([] : List Int) (iz (encL fs ++ [193])) = some (iz (encL fs ++ [193])) := app16 (l := []) (by simp; omega)
      have hsub : sub (iz (encL fs ++ [193])) 0 (m : Int) = some (iz ((encL fs ++ [193]).take m)) := by
        have := sub_iz (l := encL fs ++ [193]) (a := 0) (b := m) (by omega) (by omega)
        simpa using this
      rw [a1, bnd_some, app16 (by rw [hBl]; omega), bnd_some, DecodeList_prog _ (hB.app hr8) (by rw [List.length_append, hBl]; omega), bnd_some, decL_enc fs hx3 hx2, hq, bnd_some, hsub, bnd_some, DecodeList_prog _ (hB.take m) (by rw [List.length_take]; omega), bnd_some, decL_cut fs hx3 hx2 m (by omega)]
      simp only [show ((0 : Int) == 0) = true from rfl, cond_true, beq_self_eq_true, sameL_self fs (by omega), bnd_some, show ((4 : Int) == 4) = true from rfl]
      rfl
    · rw [show decide ((r.length : Int) > 100) = true from decide_eq_true (by omega)]
      rfl
  · rw [show decide ((l.length : Int) ≤ 600) = false from decide_eq_false (by omega)]
    rfl

end Go.Proofs.YtfddmgagikeieaaDoor
