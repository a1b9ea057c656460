/-
  The laws of decoding: FieldsBytes.
  Conditions: none.
-/
import Derived.Test.YtfddmgagikeieaaDoorGenFieldsBytes
import Derived.Test.YtfddmgagikeieaaDoorFldB
import Derived.Test.YtfddmgagikeieaaDoorFldR
namespace Go.Proofs.YtfddmgagikeieaaDoor
open Go
set_option linter.unusedSimpArgs false
set_option linter.unusedVariables false

theorem fieldsBytes_true (b : List Int) (hb : okL (inK .u8) b) : m_law02_FieldsBytes b = some true := by
  obtain ⟨l, hl, rfl⟩ := okL_iz hb
  unfold m_law02_FieldsBytes
  simp only [awake_ok, bnd_some]
  by_cases h1 : l.length ≤ 300
  · rw [show decide (((iz l).length : Int) > 300) = false from decide_eq_false (by rw [iz_len]; omega), cond_false]
    have hD := Decode_prog l hl (by omega)
    cases l with
    | nil => exact bnd_eq hD rfl
    | cons x r =>
      have hx := hl x (by simp)
      have hr : lt256 r := fun y hy => hl y (by simp [hy])
      by_cases h193 : x = 193
      · subst h193
        refine bnd_eq (a := (fNone, 1, true, 0)) (by rw [hD]; simp [decF]) ?_
        have hlen : decide ((1 : Int) > ((iz (193 :: r)).length : Int)) = false := decide_eq_false (by rw [iz_len, List.length_cons]; omega)
        simp only [if_true, show ((0 : Int) != 0) = false from rfl, cond_false, show decide ((1 : Int) < 1) = false from rfl, hlen, bnd_some, cond_true, show ((1 : Int) == 1) = true from rfl, elt0]
        rfl
      · by_cases hsh : r.length < x % 64
        · exact bnd_eq (a := (fNone, 0, false, 4)) (by rw [hD]; simp only [decF]; rw [if_neg h193, if_pos hsh]) rfl
        · cases hbd : bodyF (x / 64) (r.take (x % 64)) with
          | none => exact bnd_eq (a := (fNone, 0, false, 6)) (by rw [hD]; simp only [decF]; rw [if_neg h193, if_neg hsh, hbd]) rfl
          | some v =>
            refine bnd_eq (a := (⟨((x / 64 : Nat) : Int), sb v⟩, ((1 + x % 64 : Nat) : Int), false, 0)) (by rw [hD]; simp only [decF]; rw [if_neg h193, if_neg hsh, hbd]) ?_
            have hm : x % 64 < 64 := Nat.mod_lt _ (by omega)
            obtain ⟨e1, e2, e3⟩ := enc_dec hx h193 (hr.take _) (by rw [List.length_take]; omega) hbd
            have hsz := valid_size' e1
            have hlo : decide (((1 + x % 64 : Nat) : Int) < 1) = false := decide_eq_false (by omega)
            have hhi : decide (((1 + x % 64 : Nat) : Int) > ((iz (x :: r)).length : Int)) = false := decide_eq_false (by rw [iz_len, List.length_cons]; omega)
            have hE := Encode_prog ⟨((x / 64 : Nat) : Int), sb v⟩ (by show (sb v).size ≤ 1000000; rw [sb_size]; omega)
            have hV := valid_prog ⟨((x / 64 : Nat) : Int), sb v⟩ (by show (sb v).size ≤ 1000000; rw [sb_size]; omega)
            simp only [bs_sb e2, e1, if_true, e3] at hE hV
            have hsub : sub (iz (x :: r)) 0 ((1 + x % 64 : Nat) : Int) = some (iz (x :: r.take (x % 64))) := by
              have := sub_iz (l := x :: r) (a := 0) (b := 1 + x % 64) (by omega) (by rw [List.length_cons]; omega)
              rw [show ((0 : Nat) : Int) = 0 from rfl] at this
              rw [this, List.drop_zero, Nat.add_comm 1, List.take_succ_cons]
            simp only [show ((0 : Int) != 0) = false from rfl, cond_false, hlo, hhi, bnd_some, hE, hV, cond_true, show ((0 : Int) == 0) = true from rfl, hsub]
            rw [same_nat _ _ (by simp; omega)]
            simp
  · rw [show decide (((iz l).length : Int) > 300) = true from decide_eq_true (by rw [iz_len]; omega)]
    rfl

end Go.Proofs.YtfddmgagikeieaaDoor
