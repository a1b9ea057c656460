/-
  The laws of the kinds: FieldsKinds.
  Conditions: none.
-/
import Derived.Test.YtfddmgagikeieaaDoorGenFieldsKinds
import Derived.Test.YtfddmgagikeieaaDoorFldB
import Derived.Test.YtfddmgagikeieaaDoorFldD
namespace Go.Proofs.YtfddmgagikeieaaDoor
open Go
set_option linter.unusedSimpArgs false
set_option linter.unusedVariables false

theorem isD_isS {x : Nat} (h : isD x = true) : isS x = true := by
  simp [isD] at h
  simp [isS]
  omega

theorem fieldsKinds_true (l : List Int) (n : Int) (hl : okL (inK .i64) l) (hn : inK .i64 n) : m_law02_FieldsKinds l n = some true := by
  unfold m_law02_FieldsKinds
  simp only [light_ok, roll_ok, bnd_some, awake_ok]
  by_cases h2 : l.length ≤ 600
  · rw [show decide ((l.length : Int) ≤ 600) = true from decide_eq_true (by omega)]
    simp only [Bool.not_true, cond_false]
    obtain ⟨q, hq, hq1, hq2, _⟩ := mod_some n 140 (by omega) (by omega)
    obtain ⟨x, hx, hx1, hx2, hx3⟩ := text_ex ⟨l, 0⟩ ⟨#[48, 49, 50, 51, 52, 53, 54, 55, 56, 57, 32, 45, 46]⟩ q (roll_fair l h2) (by decide) (by decide) hq1 (by omega)
    obtain ⟨m, rfl⟩ : ∃ m : Nat, q = (m : Int) := ⟨q.toNat, by omega⟩
    have hD : (bs x.2).all isD = true := all_of hx3 (by decide +kernel)
    have hS : (bs x.2).all isS = true := List.all_eq_true.2 fun y hy => isD_isS (List.all_eq_true.1 hD y hy)
    have hlen : (bs x.2).length = m := by omega
    have hsz : x.2.size = m := by rw [← bs_len]; exact hlen
    have v1 : validF 1 (bs x.2) = (decide (m % 2 = 0) && decide (m ≤ 126)) := by
      show (decide ((bs x.2).length % 2 = 0) && (decide ((bs x.2).length ≤ 126) && (bs x.2).all isD)) = _
      rw [hlen, hD, Bool.and_true]
    have v2 : validF 2 (bs x.2) = (decide (m % 4 ≠ 3) && decide (m ≤ 84)) := by
      show (decide ((bs x.2).length % 4 ≠ 3) && (decide (sixN (bs x.2).length ≤ 63) && (bs x.2).all isS)) = _
      rw [hlen, hS, Bool.and_true]
      congr 1
      rw [Bool.eq_iff_iff]
      simp only [decide_eq_true_eq]
      unfold sixN
      omega
    have v3 : validF 3 (bs x.2) = (decide (m ≠ 1) && decide (m ≤ 63)) := by
      show (decide ((bs x.2).length ≠ 1) && decide ((bs x.2).length ≤ 63)) = _
      rw [hlen]
    rw [hq, bnd_some, hx, bnd_some, Encode_prog _ (by show x.2.size ≤ 1000000; omega), bnd_some, Encode_prog _ (by show x.2.size ≤ 1000000; omega), bnd_some, Encode_prog _ (by show x.2.size ≤ 1000000; omega), bnd_some]
    simp only [v1, v2, v3]
    have l1 : ((iz (encF 1 (bs x.2))).length : Int) = ((1 + m / 2 : Nat) : Int) := by
      rw [iz_len]
      show (((bcd (bs x.2)).length + 1 : Nat) : Int) = _
      rw [bcd_len, hlen]
      omega
    have l2 : ((iz (encF 2 (bs x.2))).length : Int) = ((1 + sixN m : Nat) : Int) := by
      rw [iz_len]
      show (((rep (sixN (bs x.2).length) _).length + 1 : Nat) : Int) = _
      rw [rep_len, hlen]
      omega
    have l3 : ((iz (encF 3 (bs x.2))).length : Int) = ((1 + m : Nat) : Int) := by
      rw [iz_len]
      show (((bs x.2).length + 1 : Nat) : Int) = _
      rw [hlen]
      omega
    have t2 : ((m : Int).tmod 2 == 0) = decide (m % 2 = 0) := by
      rw [show (2 : Int) = ((2 : Nat) : Int) from rfl, tmod_n, Bool.eq_iff_iff]; simp; omega
    have t4 : ((m : Int).tmod 4 != 3) = decide (m % 4 ≠ 3) := by
      rw [show (4 : Int) = ((4 : Nat) : Int) from rfl, tmod_n, Bool.eq_iff_iff]; simp; omega
    have t1 : ((m : Int) != 1) = decide (m ≠ 1) := by rw [Bool.eq_iff_iff]; simp; omega
    have d1 : decide ((m : Int) ≤ 126) = decide (m ≤ 126) := by rw [Bool.eq_iff_iff]; simp; omega
    have d2 : decide ((m : Int) ≤ 84) = decide (m ≤ 84) := by rw [Bool.eq_iff_iff]; simp; omega
    have d3 : decide ((m : Int) ≤ 63) = decide (m ≤ 63) := by rw [Bool.eq_iff_iff]; simp; omega
    have w1 : IntKind.wrap .i64 (1 + (m : Int)) = ((1 + m : Nat) : Int) := by rw [wrap_i64 (by omega) (by omega)]; omega
    have w2 : IntKind.wrap .i64 (1 + (IntKind.wrap .i64 ((m : Int).tdiv 2))) = ((1 + m / 2 : Nat) : Int) := by
      rw [show (2 : Int) = ((2 : Nat) : Int) from rfl, tdiv_n, wrap_i64n (by omega), wrap_i64 (by omega) (by omega)]; omega
    have w6 : IntKind.wrap .i64 (1 + (IntKind.wrap .i64 ((IntKind.wrap .i64 ((IntKind.wrap .i64 (6 * (m : Int))) + 7)).tdiv 8))) = ((1 + sixN m : Nat) : Int) := by
      have := six_prog_n (n := m) (by omega)
      unfold m_fields_sixBytes at this
      injection this with this
      rw [this, wrap_i64 (by unfold sixN; omega) (by unfold sixN; omega)]
      omega
    rw [t2, t4, t1, d1, d2, d3, w1, w2, w6]
    cases decide (m % 2 = 0) <;> cases decide (m ≤ 126) <;> cases decide (m % 4 ≠ 3) <;> cases decide (m ≤ 84) <;> cases decide (m ≠ 1) <;> cases decide (m ≤ 63) <;>
      simp only [Bool.and_self, Bool.and_true, Bool.and_false, Bool.true_and, Bool.false_and, Bool.false_eq_true, if_true, if_false, cond_true, cond_false, show ((0 : Int) == 0) = true from rfl, show ((1 : Int) == 0) = false from rfl, show ((0 : Int) != 0) = false from rfl, show ((1 : Int) != 0) = true from rfl, beq_self_eq_true, Bool.not_true, bnd_some, l1, l2, l3]
  · rw [show decide ((l.length : Int) ≤ 600) = false from decide_eq_false (by omega)]
    rfl

end Go.Proofs.YtfddmgagikeieaaDoor
