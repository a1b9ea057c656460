/-
  The laws of lists: FieldsMany.
  Conditions: none.
-/
import Derived.Test.YtfddmgagikeieaaDoorGenFieldsMany
import Derived.Test.YtfddmgagikeieaaDoorFldD
import Derived.Test.YtfddmgagikeieaaDoorFldL
namespace Go.Proofs.YtfddmgagikeieaaDoor
open Go
set_option linter.unusedSimpArgs false
set_option linter.unusedVariables false

theorem decL_enc' (fs : List T_Field) (hv : ∀ f ∈ fs, valT f = true) (hl : fs.length ≤ 16) : decL (encL fs ++ [193]) = (fs, (((encL fs ++ [193]).length : Nat) : Int), 0) := by
  unfold decL
  have h := decLf_enc fs hv [] [] [193] fs (17 - fs.length) 0 [] (encL fs ++ [193]) hv (by rw [List.drop_zero]) (by simp; omega) (by simp; omega)
  rw [show 17 - fs.length + fs.length = 17 by omega] at h
  rw [h]
  obtain ⟨k, hk⟩ : ∃ k, 17 - fs.length = k + 1 := ⟨16 - fs.length, by omega⟩
  rw [hk, decLf, Nat.zero_add, List.drop_left]
  have hd : decF [193] = (fNone, 1, true, 0) := by simp [decF]
  rw [hd, if_neg (by simp), if_pos rfl]
  simp

/-- More fields than there may be. -/
theorem decL_many (fs : List T_Field) (f : T_Field) (rest : List T_Field) (hv : ∀ x ∈ fs ++ f :: rest, valT x = true) (hl : fs.length = 16) : decL (encL (fs ++ f :: rest) ++ [193]) = ([], 0, 3) := by
  have hvf : valT f = true := hv f (by simp)
  have hvs : ∀ x ∈ fs, valT x = true := fun x hx => hv x (by simp [hx])
  have e : encL (fs ++ f :: rest) ++ [193] = encL fs ++ (encT f ++ (encL rest ++ [193])) := by unfold encL; simp
  unfold decL
  have h := decLf_enc fs hvs [] [] (encT f ++ (encL rest ++ [193])) fs 1 0 [] (encL (fs ++ f :: rest) ++ [193]) hvs (by rw [List.drop_zero, e]) (by simp; omega) (by simp; omega)
  rw [show 1 + fs.length = 17 by omega] at h
  rw [h, decLf, Nat.zero_add, e, List.drop_left]
  have hd := dec_enc hvf (bs_lt f.Value) (encL rest ++ [193])
  unfold encT
  rw [hd, if_neg (by simp), if_neg (by simp), if_pos (by simpa using hl)]

theorem encL_rep (f : T_Field) : ∀ n, encL (List.replicate n f) = (List.replicate n (encT f)).flatten
  | 0 => rfl
  | n + 1 => by
    have := encL_rep f n
    unfold encL at *
    rw [List.replicate_succ, List.replicate_succ, List.flatMap_cons, List.flatten_cons, this]
theorem encL_rep_len (f : T_Field) : ∀ n, (encL (List.replicate n f)).length = n * (encT f).length
  | 0 => by simp [encL]
  | n + 1 => by
    have := encL_rep_len f n
    unfold encL at *
    rw [List.replicate_succ, List.flatMap_cons, List.length_append, this, Nat.add_mul, Nat.one_mul, Nat.add_comm]

theorem fieldsMany_true (l : List Int) (more : Int) (hl : okL (inK .i64) l) (hm : inK .i64 more) : m_law02_FieldsMany l more = some true := by
  unfold m_law02_FieldsMany
  simp only [light_ok, roll_ok, bnd_some, awake_ok]
  by_cases h2 : l.length ≤ 600
  · rw [show decide ((l.length : Int) ≤ 600) = true from decide_eq_true (by omega)]
    simp only [Bool.not_true, cond_false]
    obtain ⟨⟨d, f⟩, hx, hx1, hx2⟩ := field_ex ⟨l, 0⟩ (roll_fair l h2)
    have hv : valT f = true := hx2
    obtain ⟨q, hq, hq1, hq2, _⟩ := mod_some more 4 (by omega) (by omega)
    obtain ⟨m, rfl⟩ : ∃ m : Nat, q = (m : Int) := ⟨q.toNat, by omega⟩
    have hs := valid_size' hv
    rw [bs_len] at hs
    have hel : (encT f).length ≤ 64 := encF_len hv
    have hE : m_fields_Encode f = some (iz (encT f), 0) := by
      rw [Encode_prog f (by omega)]
      have : validF f.Kind (bs f.Value) = true := hv
      rw [this]
      rfl
    have hw : IntKind.wrap .i64 (15 + (m : Int)) = ((15 + m : Nat) : Int) := by rw [wrap_i64 (by omega) (by omega)]; omega
    rw [hx, bnd_some, hq, bnd_some, hE, bnd_some, hw]
    have hm3 : m ≤ 3 := by omega
    generalize hN : 15 + m = N at *
    have hreplen : ∀ i, i ≤ N → (encL (List.replicate i f)).length ≤ 18 * 64 := fun i hi => by
      rw [encL_rep_len]
      exact Nat.mul_le_mul (by omega) hel
    refine bnd_loop (fun i => (List.replicate i f, iz (encL (List.replicate i f)), (i : Int))) N (List.replicate N f, iz (encL (List.replicate N f))) rfl (fun i hi => ?_) ?_ ?_
    · have h1 : decide ((i : Int) < (N : Int)) = true := decide_eq_true (by omega)
      dsimp only
      rw [h1, cond_true]
      refine bnd_eq (app_eq (by simp; omega) (by simp; omega)) ?_
      refine bnd_eq (app16 (by have := hreplen i (by omega); omega)) ?_
      rw [wrap_succ hi (by omega)]
      have e1 : List.replicate i f ++ [f] = List.replicate (i + 1) f := by rw [List.replicate_succ']
      have e2 : encL (List.replicate i f) ++ encT f = encL (List.replicate (i + 1) f) := by
        rw [← e1]
        unfold encL
        simp
      rw [e1, e2]
    · have h1 : decide ((N : Int) < (N : Int)) = false := decide_eq_false (by omega)
      dsimp only
      rw [h1, cond_false]
    · have hvr : ∀ x ∈ List.replicate N f, valT x = true := fun x hx => by rw [List.eq_of_mem_replicate hx]; exact hv
      have hallr : (List.replicate N f).all valT = true := List.all_eq_true.2 hvr
      have hlr := hreplen N (Nat.le_refl _)
      have hB : lt256 (encL (List.replicate N f) ++ [193]) := (encL_lt _ hvr).app (lt256.cons (by omega) lt256.nil)
      have ha : app 1 (iz (encL (List.replicate N f))) [193] = some (iz (encL (List.replicate N f) ++ [193])) := app2 (by omega) 193
      have hN2 : List.length (List.replicate N f) = N := List.length_replicate
      dsimp only
      rw [EncodeList_prog _ (fun x hx => by rw [List.eq_of_mem_replicate hx]; omega) (by simp; omega), bnd_some, ha, bnd_some, DecodeList_prog _ hB (by simp; omega), bnd_some, hN2, hallr]
      by_cases h16 : 16 < N
      · rw [if_pos h16, show decide ((N : Int) > 16) = true from decide_eq_true (by omega), cond_true]
        have hd : decL (encL (List.replicate N f) ++ [193]) = ([], 0, 3) := by
          obtain ⟨k, hk⟩ : ∃ k, N = 16 + (k + 1) := ⟨N - 17, by omega⟩
          have e : List.replicate N f = List.replicate 16 f ++ f :: List.replicate k f := by rw [hk, ← List.replicate_succ, List.replicate_append_replicate]
          rw [e] at hvr ⊢
          exact decL_many _ f _ hvr List.length_replicate
        rw [hd]
        rfl
      · rw [if_neg h16, if_pos rfl, show decide ((N : Int) > 16) = false from decide_eq_false (by omega), cond_false, decL_enc' _ hvr (by rw [hN2]; omega)]
        have e1 : IntKind.wrap .i64 ((N : Int) * ((iz (encT f)).length : Int)) = ((N * (encT f).length : Nat) : Int) := by
          have hb : N * (encT f).length ≤ 18 * 64 := Nat.mul_le_mul (by omega) hel
          have hc : (N : Int) * (((encT f).length : Nat) : Int) = ((N * (encT f).length : Nat) : Int) := by simp
          rw [iz_len, hc, wrap_i64n (by omega)]
        have e2 : IntKind.wrap .i64 (((N * (encT f).length : Nat) : Int) + 1) = ((N * (encT f).length + 1 : Nat) : Int) := by
          have hb : N * (encT f).length ≤ 18 * 64 := Nat.mul_le_mul (by omega) hel
          rw [wrap_i64 (by omega) (by omega)]
          omega
        have e3 : ((iz (encL (List.replicate N f) ++ [193])).length : Int) = ((N * (encT f).length + 1 : Nat) : Int) := by
          rw [iz_len, List.length_append, encL_rep_len]
          rfl
        simp only [show ((0 : Int) == 0) = true from rfl, cond_true, e1, e2, e3, beq_self_eq_true, hN2]
        have e4 : (((encL (List.replicate N f) ++ [193]).length : Int) == ((N * (encT f).length + 1 : Nat) : Int)) = true := by
          rw [List.length_append, encL_rep_len]
          simp
        rw [e4]
        rfl
  · rw [show decide ((l.length : Int) ≤ 600) = false from decide_eq_false (by omega)]
    rfl

end Go.Proofs.YtfddmgagikeieaaDoor
