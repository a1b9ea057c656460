/-
  Where the statements' values come from: numbers out of codes.
  Conditions: none.
-/
import Derived.Test.YteaoblglgcpdnaaGen
import Derived.Test.YteaoblglgcpdnaaPure2
namespace Go.Proofs.Yteaoblglgcpdnaa
open Go
set_option linter.unusedSimpArgs false
set_option linter.unusedVariables false

theorem inK_u8 {x : Int} : inK .u8 x ↔ 0 ≤ x ∧ x ≤ 255 := Iff.rfl
theorem inK_i64 {x : Int} : inK .i64 x ↔ -9223372036854775808 ≤ x ∧ x ≤ 9223372036854775807 := Iff.rfl

structure CodesOk (c : T_Codes) : Prop where
  hl : ∀ x ∈ c.L, inK .u8 x
  h0 : 0 ≤ c.At
  hn : c.L.length ≤ 140737488355328
  ha : c.At ≤ (c.L.length : Int)

theorem iOr_small {a b : Int} (ha : 0 ≤ a ∧ a < 65536) (hb : 0 ≤ b ∧ b < 65536) : 0 ≤ iOr .i64 a b ∧ iOr .i64 a b < 65536 := by
  unfold iOr
  have e : (BitVec.ofInt (IntKind.bits .i64) a ||| BitVec.ofInt (IntKind.bits .i64) b).toNat = a.toNat ||| b.toNat := by
    show (BitVec.ofInt 64 a ||| BitVec.ofInt 64 b).toNat = _
    rw [BitVec.toNat_or, BitVec.toNat_ofInt, BitVec.toNat_ofInt]
    congr 1 <;> omega
  rw [e]
  have h := Nat.or_lt_two_pow (x := a.toNat) (y := b.toNat) (n := 16) (by omega) (by omega)
  rw [wrap_i64 (by omega) (by omega)]
  omega

theorem iShl8 {x : Int} (h : 0 ≤ x ∧ x ≤ 255) : iShl .i64 x 8 = x * 256 := by
  unfold iShl
  have : (2 : Int) ^ (min (Int.toNat 8) (IntKind.bits .i64)) = 256 := by decide
  rw [this, wrap_i64 (by omega) (by omega)]

theorem remM_ok {v n : Int} (hv : 0 ≤ v) (hn : 1 ≤ n) : ∃ x, remM v n = some x ∧ 0 ≤ x ∧ x < n := by
  refine ⟨v % n, ?_, Int.emod_nonneg _ (by omega), Int.emod_lt_of_pos _ (by omega)⟩
  unfold remM
  rw [if_neg (by omega), Int.tmod_eq_emod_of_nonneg hv]

theorem next_ok {c : T_Codes} (h : CodesOk c) (n : Int) : ∃ c' x, m_field_Codes_Next c n = some (c', x) ∧ CodesOk c' ∧ 0 ≤ x ∧ (x = 0 ∨ x < n) := by
  unfold m_field_Codes_Next m_field_Codes_Left
  simp only [bnd_some]
  obtain ⟨hl, h0, hn, ha⟩ := h
  by_cases hlt : c.At < (c.L.length : Int)
  · have d1 : decide (c.At < (c.L.length : Int)) = true := by simpa using hlt
    simp only [d1, Bool.not_true, cond_false, bnd_some]
    by_cases hn1 : n < 1
    · simp only [hn1, decide_true, cond_true]
      exact ⟨c, 0, rfl, ⟨hl, h0, hn, ha⟩, by omega, .inl rfl⟩
    simp only [hn1, decide_false, cond_false]
    obtain ⟨k, hk⟩ : ∃ k : Nat, c.At = (k : Int) := ⟨c.At.toNat, by omega⟩
    have hkl : k < c.L.length := by omega
    have hx := inK_u8.1 (hl _ (List.getElem_mem hkl))
    rw [hk, elt_lt hkl]
    simp only [bnd_some]
    have hw : IntKind.wrap .i64 ((k : Int) + 1) = ((k + 1 : Nat) : Int) := wrap_succ hkl hn
    have hx' : IntKind.wrap .i64 c.L[k] = c.L[k] := wrap_i64 (by omega) (by omega)
    rw [hw, hx']
    have hok1 : CodesOk (⟨c.L, ((k + 1 : Nat) : Int)⟩ : T_Codes) := ⟨hl, by show (0 : Int) ≤ ((k + 1 : Nat) : Int); omega, hn, by show ((k + 1 : Nat) : Int) ≤ (c.L.length : Int); omega⟩
    by_cases hbig : n > 256 ∧ k + 1 < c.L.length
    · have d2 : decide (n > 256) = true := by simpa using hbig.1
      have d3 : decide (((k + 1 : Nat) : Int) < (c.L.length : Int)) = true := by simp; omega
      have hy := inK_u8.1 (hl _ (List.getElem_mem hbig.2))
      have hy' : IntKind.wrap .i64 c.L[k + 1] = c.L[k + 1] := wrap_i64 (by omega) (by omega)
      simp only [d2, d3, cond_true, bnd_some, elt_lt hbig.2, hy', iShl8 hy]
      have ho := iOr_small (a := c.L[k]) (b := c.L[k + 1] * 256) (by omega) (by omega)
      obtain ⟨x, e1, e2, e3⟩ := remM_ok (n := n) ho.1 (by omega)
      rw [e1]
      have hw2 : IntKind.wrap .i64 (((k + 1 : Nat) : Int) + 1) = ((k + 2 : Nat) : Int) := wrap_succ hbig.2 hn
      exact ⟨_, x, rfl, ⟨hl, by show 0 ≤ IntKind.wrap .i64 _; rw [hw2]; omega, hn, by show IntKind.wrap .i64 _ ≤ (c.L.length : Int); rw [hw2]; omega⟩, e2, .inr e3⟩
    · have d2 : (bif decide (n > 256) then some (decide (((k + 1 : Nat) : Int) < (c.L.length : Int))) else some false : Option Bool) = some false := by
        by_cases g : n > 256
        · have : ¬ k + 1 < c.L.length := fun h => hbig ⟨g, h⟩
          have d3 : decide (((k + 1 : Nat) : Int) < (c.L.length : Int)) = false := by simp; omega
          rw [d3]
          simp [g]
        · simp [g]
      rw [d2]
      simp only [bnd_some, cond_false]
      obtain ⟨x, e1, e2, e3⟩ := remM_ok (n := n) hx.1 (by omega)
      rw [e1]
      exact ⟨_, x, rfl, hok1, e2, .inr e3⟩
  · have d1 : decide (c.At < (c.L.length : Int)) = false := by simpa using hlt
    simp only [d1, Bool.not_false, cond_true, bnd_some]
    exact ⟨c, 0, rfl, ⟨hl, h0, hn, ha⟩, by omega, .inl rfl⟩

theorem new_codes {l : List Int} (h : okL (inK .u8) l) {most : Int} (h0 : 0 ≤ most) (h1 : most ≤ 100000) : ∃ c, m_field_New l most = some c ∧ CodesOk c := by
  unfold m_field_New
  have hs : sub l 0 (min (l.length : Int) most) = some (l.take (min (l.length : Int) most).toNat) := by
    unfold sub
    rw [if_pos ⟨by omega, by omega, by omega⟩]
    simp
  rw [hs]
  refine ⟨_, rfl, fun x hx => h.1 x (List.mem_of_mem_take hx), by simp, ?_, by simp⟩
  simp only [List.length_take]
  omega

end Go.Proofs.Yteaoblglgcpdnaa
