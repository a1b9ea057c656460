/-
  The law BankPieces: the plain part.
  Conditions: none.
-/
import Derived.Test.YtcjhemblnemhfaaBank4
import Derived.Test.YtcjhemblnemhfaaGenBankPieces
namespace Go.Proofs.Ytcjhemblnemhfaa
open Go
set_option linter.unusedSimpArgs false
set_option linter.unusedVariables false

def mi (v : Int) (l : List Int) : T_Image := ⟨meN, ⟨v, 0, 0⟩, l⟩
theorem mi1 : rightB (mi 1 [1]) = true := by decide +kernel
theorem good_iff {i : T_Image} {s : Int} {n : ByteArray} (hn : i.Name = n) : goodB ⟨i, s⟩ n = (rightB i && (s == sumF i)) := by
  simp [goodB, wholeB, hn]

theorem pieces_true (codes : List Int) (n by_ : Int) (h : okL (inK .u8) codes) (hn : inK .u8 n) (hb : inK .u32 by_) : m_law29_BankPieces codes n by_ = some true := by
  unfold m_law29_BankPieces
  rw [awake_true]
  simp only [bnd_some, Bool.not_true, cond_false]
  obtain ⟨c, e1, hc⟩ := new_codes h (most := 60) (by omega) (by omega)
  rw [e1]
  simp only [bnd_some]
  have s1 : small (mi 1 [1]) := small_right mi1
  have g1 : goodB ⟨mi 1 [1], sumF (mi 1 [1])⟩ meN = true := good_own mi1
  have n1 : m_bank_New (⟨⟨#[109, 101]⟩, (⟨1, 0, 0⟩ : T_Version), [1]⟩ : T_Image) = some (dev meN ⟨mi 1 [1], sumF (mi 1 [1])⟩ zeroSlot 0 0 false, 0) := by
    have := new_prog (i := mi 1 [1]) s1
    obtain ⟨_, h2, h3⟩ := new_inv mi1
    exact this.trans (congrArg some (Prod.ext h3 h2))
  rw [n1]
  simp only [bnd_some]
  obtain ⟨c1, l, e2, hc1, hl, hlx⟩ := bytes_ok hc (n := 20) (by omega) (by omega)
  rw [e2]
  simp only [bnd_some]
  rw [app_eq (by simp; omega) (by simp; omega)]
  simp only [bnd_some]
  have hL1 : 1 ≤ ([2] ++ l).length := by simp
  have hL2 : ([2] ++ l).length ≤ 21 := by simp; omega
  generalize [2] ++ l = L at hL1 hL2 ⊢
  have hn' := inK_u8.1 hn
  have w1 : IntKind.wrap .i64 n = n := wrap_i64 (by omega) (by omega)
  have w2 : IntKind.wrap .i64 ((L.length : Int) + 1) = (L.length : Int) + 1 := wrap_i64 (by omega) (by omega)
  obtain ⟨k, ek, k0, k1⟩ := remM_ok (v := n) (n := (L.length : Int) + 1) (by omega) (by omega)
  rw [w1, w2, ek]
  simp only [bnd_some]
  have hr2 : rightB (mi 2 L) = true := right_of meN_ok (ver_of (by simp [mi]) (by simp [mi]) (by simp [mi]) (by simp [mi]) (by simp [mi]) (by simp [mi])) hL1 (by show L.length ≤ 512; omega)
  have s2 : small (mi 2 L) := small_right hr2
  have n2 : m_bank_Write (dev meN ⟨mi 1 [1], sumF (mi 1 [1])⟩ zeroSlot 0 0 false) (⟨⟨#[109, 101]⟩, (⟨2, 0, 0⟩ : T_Version), L⟩ : T_Image) k = some (dev meN ⟨mi 1 [1], sumF (mi 1 [1])⟩ ⟨mi 2 (L.take k.toNat), 0⟩ 0 0 false, 0) :=
    (write_prog (i := mi 2 L) (small_dev s1 zero_small) s2 k).trans (congrArg some (write_dev (i := mi 2 L) g1 hr2 rfl k0 (by show k ≤ (L.length : Int); omega)))
  rw [n2]
  have sP : small (mi 2 (L.take k.toNat)) := by
    unfold small mi
    simp only [List.length_take]
    have : meN.size = 2 := rfl
    omega
  have hs : ∀ t : List Int, m_bundle_Sum (⟨⟨#[109, 101]⟩, (⟨2, 0, 0⟩ : T_Version), t⟩ : T_Image) = some (sumF (mi 2 t)) := fun t => sum_prog (mi 2 t)
  simp only [bnd_some, bne_self_eq_false, cond_false]
  rw [switch_prog (small_dev s1 sP), switch_dev g1, good_iff (n := meN) (i := mi 2 (L.take k.toNat)) rfl]
  simp only [bnd_some]
  generalize hP : mi 2 (L.take k.toNat) = P at sP
  have hPn : P.Name = meN := by rw [← hP]; rfl
  have e0 : elt [(dev meN ⟨mi 1 [1], sumF (mi 1 [1])⟩ ⟨P, 0⟩ 0 0 false).Slots.e0, (dev meN ⟨mi 1 [1], sumF (mi 1 [1])⟩ ⟨P, 0⟩ 0 0 false).Slots.e1] (IntKind.wrap .i64 (1 - (dev meN ⟨mi 1 [1], sumF (mi 1 [1])⟩ ⟨P, 0⟩ 0 0 false).Running)) = some ⟨P, 0⟩ := rfl
  have ho2 : (bif (bif (rightB P && ((0 : Int) == sumF P)) then (dev meN ⟨mi 1 [1], sumF (mi 1 [1])⟩ ⟨P, 0⟩ 0 0 true, (0 : Int)) else (zeroD, 46)).2 != 46 then (bnd (elt [(dev meN ⟨mi 1 [1], sumF (mi 1 [1])⟩ ⟨P, 0⟩ 0 0 false).Slots.e0, (dev meN ⟨mi 1 [1], sumF (mi 1 [1])⟩ ⟨P, 0⟩ 0 0 false).Slots.e1] (IntKind.wrap .i64 (1 - (dev meN ⟨mi 1 [1], sumF (mi 1 [1])⟩ ⟨P, 0⟩ 0 0 false).Running))) fun x1 => bnd (m_bundle_Sum x1.Image) fun r7 => some (r7 != 0)) else (some false) : Option Bool) = some false := by
    rw [e0]
    cases hg : (rightB P && ((0 : Int) == sumF P))
    · rfl
    · simp only [Bool.and_eq_true, beq_iff_eq] at hg
      simp only [bnd_some, sum_prog, ← hg.2]
      rfl
  rw [ho2]
  simp only [bnd_some, cond_false, hs]
  rw [finish_prog (small_dev s1 sP), finish_dev g1, good_iff hPn, finish_prog (small_dev s1 sP), finish_dev g1, good_iff hPn]
  simp only [bnd_some]
  have hsr := sumF_range (mi 2 L)
  have hb' := inK_u32.1 hb
  by_cases hk : k = (L.length : Int)
  · have hPL : P = mi 2 L := by
      rw [← hP, hk]
      simp
    have hnl : decide (k < (L.length : Int)) = false := by simp; omega
    rw [hPL, hr2, hnl]
    simp only [Bool.true_and, beq_self_eq_true, cond_true, cond_false]
    have ho3 : (bif (by_ != 0) then (bif ((bif (IntKind.wrap .u32 (sumF (mi 2 L) + by_) == sumF (mi 2 L)) then (dev meN ⟨mi 1 [1], sumF (mi 1 [1])⟩ ⟨mi 2 L, IntKind.wrap .u32 (sumF (mi 2 L) + by_)⟩ 0 0 false, (0 : Int)) else (zeroD, 5)).2 != 5) then (some (k == (L.length : Int))) else (some false)) else (some false) : Option Bool) = some false := by
      by_cases h0 : by_ = 0
      · simp [h0]
      · have hw : (IntKind.wrap .u32 (sumF (mi 2 L) + by_) == sumF (mi 2 L)) = false := by
          rw [beq_eq_false_iff_ne]
          intro hc
          rw [wrap_u32_mod] at hc
          obtain ⟨q1, q2⟩ := hsr
          omega
        rw [hw]
        simp
    rw [ho3]
    simp only [bnd_some, cond_false]
    have gg : goodB ⟨mi 2 L, sumF (mi 2 L)⟩ meN = true := good_own hr2
    rw [switch_prog (small_dev s1 s2), switch_dev g1, gg]
    have hq : m_ref28_SameImage (mi 2 L) (⟨⟨#[109, 101]⟩, (⟨2, 0, 0⟩ : T_Version), L⟩ : T_Image) = some true := sameImage_refl (mi 2 L)
    simp only [cond_true, bnd_some, beq_self_eq_true]
    show (bnd (bnd (elt [(⟨mi 1 [1], sumF (mi 1 [1])⟩ : T_Slot), ⟨mi 2 L, sumF (mi 2 L)⟩] (IntKind.wrap .i64 (1 - 0))) fun x2 => bnd (m_ref28_SameImage x2.Image (⟨⟨#[109, 101]⟩, (⟨2, 0, 0⟩ : T_Version), L⟩ : T_Image)) fun r15 => some r15) fun o5 => some o5) = some true
    have e5 : elt [(⟨mi 1 [1], sumF (mi 1 [1])⟩ : T_Slot), ⟨mi 2 L, sumF (mi 2 L)⟩] (IntKind.wrap .i64 (1 - 0)) = some ⟨mi 2 L, sumF (mi 2 L)⟩ := rfl
    rw [e5]
    simp only [bnd_some, hq]
  · have hlt : decide (k < (L.length : Int)) = true := by simp; omega
    have hkq : (k == (L.length : Int)) = false := by simpa using hk
    rw [hlt, hkq]
    have hsub : sub L 0 k = some (L.take k.toNat) := by
      unfold sub
      rw [if_pos ⟨by omega, by omega, by omega⟩]
      simp
    simp only [cond_true, cond_false, hsub, bnd_some, hs, hP]
    have ho3 : ∀ a : Int, (bif (by_ != 0) then (bif (a != 5) then (some false) else (some false)) else (some false) : Option Bool) = some false := fun a => by
      cases (by_ != 0) <;> cases (a != 5) <;> rfl
    rw [ho3]
    simp only [bnd_some, cond_false]
    by_cases hg : rightB P = true ∧ sumF (mi 2 L) = sumF P
    · have hk0 : decide (k > 0) = true := by
        have h3 := (right_spec hg.1).2.2.1
        rw [← hP] at h3
        simp [mi] at h3 ⊢
        omega
      rw [hg.1, hg.2, hk0]
      simp
    · have : (rightB P && (sumF (mi 2 L) == sumF P)) = false := by
        simp only [Bool.and_eq_false_iff, beq_eq_false_iff_ne]
        by_cases hr : rightB P = true
        · exact .inr fun h => hg ⟨hr, h⟩
        · exact .inl (by simpa using hr)
      rw [this]
      rfl

end Go.Proofs.Ytcjhemblnemhfaa
