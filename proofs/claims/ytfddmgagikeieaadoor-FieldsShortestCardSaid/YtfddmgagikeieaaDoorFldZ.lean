/-
  The laws of the best field: FieldsShortest.
  Conditions: none.
-/
import Derived.Test.YtfddmgagikeieaaDoorGenFieldsShortest
import Derived.Test.YtfddmgagikeieaaDoorFldB
import Derived.Test.YtfddmgagikeieaaDoorFldD
namespace Go.Proofs.YtfddmgagikeieaaDoor
open Go
set_option linter.unusedSimpArgs false
set_option linter.unusedVariables false

theorem fieldsShortest_true (l : List Int) (kind : Int) (hl : okL (inK .i64) l) (hk : inK .i64 kind) : m_law02_FieldsShortest l kind = some true := by
  unfold m_law02_FieldsShortest
  simp only [light_ok, roll_ok, bnd_some, awake_ok]
  by_cases h2 : l.length ≤ 600
  · rw [show decide ((l.length : Int) ≤ 600) = true from decide_eq_true (by omega)]
    simp only [Bool.not_true, cond_false]
    obtain ⟨x, hx, hx1, hx2⟩ := oddField_ex ⟨l, 0⟩ (roll_fair l h2)
    obtain ⟨q, hq, hq1, hq2, _⟩ := mod_some kind 3 (by omega) (by omega)
    rw [hx, bnd_some, Best_prog _ (by omega), bnd_some, hq, bnd_some, wrap_i64 (by omega) (by omega), Encode_prog _ (by show x.2.Value.size ≤ 1000000; omega), bnd_some]
    obtain ⟨n, hn⟩ : ∃ n : Nat, 1 + q = (n : Int) := ⟨(1 + q).toNat, by omega⟩
    rw [hn]
    obtain ⟨b1, b2⟩ := bestN_least (bs x.2.Value) 3
    simp only
    unfold bestF
    cases hb : bestN (bs x.2.Value) 3 with
    | none =>
      have hv := b1 hb n (by omega) (by omega)
      rw [hv]
      rfl
    | some y =>
      obtain ⟨ln, k⟩ := y
      obtain ⟨c1, c2, c3, c4, c5⟩ := b2 ln k hb
      simp only
      rw [show ((0 : Int) != 0) = false from rfl, cond_false, Encode_prog _ (by show x.2.Value.size ≤ 1000000; omega), bnd_some]
      simp only
      rw [c3, if_pos rfl]
      have e1 : (((k : Nat) : Int) != 0) = true := by simp; omega
      simp only [show ((0 : Int) == 0) = true from rfl, cond_true, e1, beq_self_eq_true]
      cases hv : validF ((n : Nat) : Int) (bs x.2.Value)
      · rfl
      · have := c5 n (by omega) (by omega) hv
        have e2 : decide (((iz (encF ((k : Nat) : Int) (bs x.2.Value))).length : Int) ≤ ((iz (encF ((n : Nat) : Int) (bs x.2.Value))).length : Int)) = true := by
          refine decide_eq_true ?_
          rw [iz_len, iz_len]
          show (((dataF ((k : Nat) : Int) (bs x.2.Value)).length + 1 : Nat) : Int) ≤ (((dataF ((n : Nat) : Int) (bs x.2.Value)).length + 1 : Nat) : Int)
          omega
        simp only [if_true, show ((0 : Int) != 0) = false from rfl, cond_false, e2, cond_true, bnd_some]
  · rw [show decide ((l.length : Int) ≤ 600) = false from decide_eq_false (by omega)]
    rfl

end Go.Proofs.YtfddmgagikeieaaDoor
