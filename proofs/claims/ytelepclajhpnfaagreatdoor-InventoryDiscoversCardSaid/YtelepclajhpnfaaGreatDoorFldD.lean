/-
  Fields out of dice: valid ones, and those that are often not valid.
  Conditions: none.
-/
import Derived.Test.YtelepclajhpnfaaGreatDoorFld1
import Derived.Test.YtelepclajhpnfaaGreatDoorDiceB
namespace Go.Proofs.YtelepclajhpnfaaGreatDoor
open Go
set_option linter.unusedSimpArgs false
set_option linter.unusedVariables false
theorem mk63 : mkS 1 (0 : Int) 63 63 = some (iz (List.replicate 63 0)) := mkS_iz (b := 1) (n := 63) (by omega) (by omega)
def GoodF (x : T_Dice × T_Field) : Prop := Fair x.1 ∧ validF x.2.Kind (bs x.2.Value) = true
theorem valid0_of {v : List Nat} (h : v.length ≤ 63) : validF 0 v = true := by
  show decide (v.length ≤ 63) = true
  exact decide_eq_true h
theorem valid1_of {v : List Nat} (h : v.length % 2 = 0) (h2 : v.length ≤ 126) (h3 : v.all isD = true) : validF 1 v = true := by
  show (decide (v.length % 2 = 0) && (decide (v.length ≤ 126) && v.all isD)) = true
  rw [decide_eq_true h, decide_eq_true h2, h3]
  rfl
theorem valid2_of {v : List Nat} (h : v.length % 4 ≠ 3) (h2 : sixN v.length ≤ 63) (h3 : v.all isS = true) : validF 2 v = true := by
  show (decide (v.length % 4 ≠ 3) && (decide (sixN v.length ≤ 63) && v.all isS)) = true
  rw [decide_eq_true h, decide_eq_true h2, h3]
  rfl
theorem valid3_of {v : List Nat} (h : v.length ≠ 1) (h2 : v.length ≤ 63) : validF 3 v = true := by
  show (decide (v.length ≠ 1) && decide (v.length ≤ 63)) = true
  rw [decide_eq_true h, decide_eq_true h2]
  rfl
theorem last_field {d : T_Dice} (hd : Fair d) {f : T_Field} (hf : validF f.Kind (bs f.Value) = true) :
    ∃ x, (bnd (m_made_Dice_Bool d 40) fun r4 => bif r4.2 then (bnd (mkS 1 (0 : Int) 63 63) fun l1 => some (r4.1, (⟨0, strOf l1⟩ : T_Field))) else (some (r4.1, f))) = some x ∧ GoodF x := by
  refine bnd_ex (bool_ex d 40 hd (by omega) (by omega)) fun a ha => ?_
  cases a.2
  · rw [cond_false]
    exact ⟨_, rfl, ha, hf⟩
  · rw [cond_true, mk63, bnd_some, strOf_iz]
    refine ⟨_, rfl, ha, ?_⟩
    show validF 0 (bs (sb (List.replicate 63 0))) = true
    rw [bs_sb (fun x hx => by rw [List.eq_of_mem_replicate hx]; omega)]
    exact valid0_of (by simp)
theorem all_of {v w : List Nat} {p : Nat → Bool} (h : ∀ y ∈ v, y ∈ w) (hw : w.all p = true) : v.all p = true :=
  List.all_eq_true.2 fun y hy => List.all_eq_true.1 hw y (h y hy)
theorem field_ex (d : T_Dice) (hd : Fair d) : ∃ x, m_made_Dice_Field d = some x ∧ GoodF x := by
  unfold m_made_Dice_Field
  refine bnd_ex (next_ex d 4 hd (by omega) (by omega)) fun a ⟨a1, a2, a3⟩ => ?_
  refine bnd_ex (next_ex a.1 9 a1 (by omega) (by omega)) fun b ⟨b1, b2, b3⟩ => ?_
  by_cases k1 : a.2 = 1
  · rw [k1]
    simp only [show ((1 : Int) == 1) = true from rfl, cond_true]
    rw [wrap_i64 (by omega) (by omega)]
    refine bnd_ex (text_ex b.1 _ (2 * b.2) b1 (by decide) (by decide) (by omega) (by omega)) fun c ⟨c1, c2, c3⟩ => ?_
    exact last_field c1 (f := ⟨1, c.2⟩) (show validF 1 (bs c.2) = true from valid1_of (by omega) (by omega) (all_of c3 (by decide +kernel)))
  by_cases k2 : a.2 = 2
  · rw [k2]
    simp only [show ((2 : Int) == 1) = false from rfl, show ((2 : Int) == 2) = true from rfl, cond_true, cond_false]
    have hm : (b.2.tmod 4 == 3) = decide (b.2 % 4 = 3) := by
      rw [Int.tmod_eq_emod_of_nonneg b2, Bool.eq_iff_iff]
      simp
    rw [hm]
    refine bnd_ex (P := fun n => 0 ≤ n ∧ n ≤ 9 ∧ n % 4 ≠ 3) ?_ fun n ⟨n1, n2, n3⟩ => ?_
    · by_cases h3 : b.2 % 4 = 3
      · rw [decide_eq_true h3, cond_true, wrap_i64 (by omega) (by omega)]
        exact ⟨_, rfl, by omega, by omega, by omega⟩
      · rw [decide_eq_false h3, cond_false]
        exact ⟨_, rfl, b2, by omega, h3⟩
    refine bnd_ex (text_ex b.1 _ n b1 (by decide) (by decide) (by omega) (by omega)) fun c ⟨c1, c2, c3⟩ => ?_
    exact last_field c1 (f := ⟨2, c.2⟩) (show validF 2 (bs c.2) = true from valid2_of (by omega) (by unfold sixN; omega) (all_of c3 (by decide +kernel)))
  by_cases k3 : a.2 = 3
  · rw [k3]
    simp only [show ((3 : Int) == 1) = false from rfl, show ((3 : Int) == 2) = false from rfl, show ((3 : Int) == 3) = true from rfl, cond_true, cond_false]
    refine bnd_ex (P := fun n => 0 ≤ n ∧ n ≤ 9 ∧ n ≠ 1) ?_ fun n ⟨n1, n2, n3⟩ => ?_
    · by_cases h3 : b.2 = 1
      · rw [h3]
        exact ⟨2, rfl, by omega, by omega, by omega⟩
      · have : (b.2 == 1) = false := by simpa using h3
        rw [this, cond_false]
        exact ⟨_, rfl, b2, by omega, h3⟩
    refine bnd_ex (text_ex b.1 _ n b1 (by decide) (by decide) (by omega) (by omega)) fun c ⟨c1, c2, c3⟩ => ?_
    exact last_field c1 (f := ⟨3, c.2⟩) (show validF 3 (bs c.2) = true from valid3_of (by omega) (by omega))
  · have k0 : a.2 = 0 := by omega
    rw [k0]
    simp only [show ((0 : Int) == 1) = false from rfl, show ((0 : Int) == 2) = false from rfl, show ((0 : Int) == 3) = false from rfl, cond_true, cond_false]
    refine bnd_ex (bytes_ex b.1 b.2 b1 b2 (by omega)) fun c ⟨c1, l, c2, c3, c4⟩ => ?_
    refine last_field c1 (f := ⟨0, strOf c.2⟩) ?_
    rw [c4, strOf_iz]
    show validF 0 (bs (sb l)) = true
    rw [bs_sb c2]
    exact valid0_of (by omega)
theorem valid_size' {k : Int} {v : List Nat} (h : validF k v = true) : v.length ≤ 126 := by
  unfold validF sixN at h
  split at h
  · simp at h; omega
  split at h
  · simp at h; omega
  split at h
  · simp at h; omega
  split at h
  · simp at h; omega
  · cases h
end Go.Proofs.YtelepclajhpnfaaGreatDoor
