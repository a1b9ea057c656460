/-
  A changed byte of a header or of an area is seen.
  Conditions: none.
-/
import Derived.Test.YtcekbbbjagfacaaDoorUniG
namespace Go.Proofs.YtcekbbbjagfacaaDoor
open Go
set_option linter.unusedSimpArgs false
set_option linter.unusedVariables false

theorem sumN_eq (l : List Nat) : sumN l = l.sum % 256 := by
  have : ∀ (l : List Nat) (a : Nat), l.foldl (fun a x => (a + x) % 256) (a % 256) = (a + l.sum) % 256 := by
    intro l
    induction l with
    | nil => intro a; simp
    | cons x r ih =>
      intro a
      rw [List.foldl_cons, List.sum_cons, show (a % 256 + x) % 256 = (a + x) % 256 by omega, ih]
      congr 1
      omega
  have h := this l 0
  rw [Nat.zero_add] at h
  exact h
theorem sum_changed {l : List Nat} (hl : lt256 l) {q y : Nat} (hq : q < l.length) (hy : y < 256) (hne : y ≠ l[q]) (h0 : negN (sumN l) = 0) : negN (sumN (l.set q y)) ≠ 0 := by
  have hs : l.set q y = l.take q ++ y :: l.drop (q + 1) := List.set_eq_take_append_cons_drop .. |>.trans (by rw [if_pos hq])
  have ho : l = l.take q ++ l[q] :: l.drop (q + 1) := by rw [List.getElem_cons_drop, List.take_append_drop]
  have hx := hl.get hq
  have e1 : sumN l = ((l.take q).sum + (l[q] + (l.drop (q + 1)).sum)) % 256 := by
    rw [sumN_eq]
    conv => lhs; rw [ho]
    rw [List.sum_append, List.sum_cons]
  have e2 : sumN (l.set q y) = ((l.take q).sum + (y + (l.drop (q + 1)).sum)) % 256 := by
    rw [sumN_eq, hs, List.sum_append, List.sum_cons]
  rw [e1] at h0
  rw [e2]
  unfold negN at h0 ⊢
  omega

theorem set_mid {P A R : List Nat} {q y : Nat} (hq : q < A.length) : (P ++ (A ++ R)).set (P.length + q) y = P ++ (A.set q y ++ R) := by
  rw [List.set_append_right _ _ (by omega), Nat.add_sub_cancel_left, List.set_append_left _ _ hq]

theorem core_len (a : T_Area) (k : Nat) : (areaN a k).length = (coreN a k).length + 1 := by
  rw [area_core]
  unfold sealN
  rw [List.length_append]
  rfl

/-- The fields' bytes of an area. -/
def listN (a : T_Area) : List Nat := encL a.Fields ++ [193]

theorem dA_changed {P R : List Nat} {a : T_Area} (hr : AreaR a) {k : Nat} (hk : k < 3) (hp : a.Present = true) (hv : vA a k = true) (hP : 8 ≤ P.length) (h8 : 8 * gN P (2 + k) = P.length) (hR : R = [] ∨ gN R 0 = 1)
    (hl : (P ++ (areaN a k ++ R)).length ≤ 2048) {q y : Nat} (hq : q < (areaN a k).length) (hy : y < 256) (hne : y ≠ gN (areaN a k) q) : (dA (P ++ ((areaN a k).set q y ++ R)) k).2 ≠ 0 := by
  obtain ⟨h1, h2⟩ := vA_can hv hp
  obtain ⟨f0, f1, f2⟩ := area_first (k := k) h1 h2
  have hal := areaN_len (k := k) h1 h2
  have hlt := lt_areaN hr k h1 h2
  have hst := startN_le k
  have hcl := core_len a k
  have hab : (areaN a k).length ≤ 2048 := by simp only [List.length_append] at hl; omega
  generalize hA' : (areaN a k).set q y = A' at *
  have hA'l : A'.length = (areaN a k).length := by rw [← hA', List.length_set]
  have hbl : (P ++ (A' ++ R)).length = P.length + ((areaN a k).length + R.length) := by rw [List.length_append, List.length_append, hA'l]
  have hg : ∀ j, j < (areaN a k).length → gN (P ++ (A' ++ R)) (P.length + j) = gN A' j := fun j hj => by
    rw [← gN_drop, List.drop_left' rfl, gN_app (by omega)]
  have g8 : 8 * gN (P ++ (A' ++ R)) (2 + k) = P.length := by rw [gN_app (by omega)]; exact h8
  have g0 := hg 0 (by omega)
  have g1 := hg 1 (by omega)
  rw [Nat.add_zero] at g0
  unfold dA
  rw [g8, g0, g1, if_neg (by omega), if_neg (by omega)]
  by_cases q0 : q = 0
  · subst q0
    have : gN A' 0 = y := by
      rw [← hA']
      unfold gN
      rw [List.getD_eq_getElem?_getD, List.getElem?_set_self hq]
      rfl
    rw [this, if_pos (.inl (by rw [← f0]; exact hne))]
    show (6 : Int) ≠ 0
    omega
  have a0 : gN A' 0 = 1 := by rw [← hA', gN_set_ne q0, f0]
  rw [a0]
  by_cases q1 : q = 1
  · subst q1
    have a1 : gN A' 1 = y := by
      rw [← hA']
      unfold gN
      rw [List.getD_eq_getElem?_getD, List.getElem?_set_self hq]
      rfl
    rw [a1]
    rw [f1] at hne
    by_cases y0 : y = 0
    · rw [if_pos (.inr y0)]
      show (6 : Int) ≠ 0
      omega
    rw [if_neg (by omega)]
    by_cases c4 : (P ++ (A' ++ R)).length < P.length + 8 * y
    · rw [if_pos c4]
      show (4 : Int) ≠ 0
      omega
    rw [if_neg c4]
    have hx : ((P ++ (A' ++ R)).take (P.length + 8 * y)).drop P.length = (A' ++ R).take (8 * y) := by
      rw [List.drop_take, List.drop_left' rfl, Nat.add_sub_cancel_left]
    rw [hx]
    unfold dX
    by_cases c5 : negN (sumN ((A' ++ R).take (8 * y))) ≠ 0
    · rw [if_pos c5]
      show (5 : Int) ≠ 0
      omega
    rw [if_neg c5]
    have hxl : ((A' ++ R).take (8 * y)).length = 8 * y := by rw [List.length_take, List.length_append]; omega
    have hc : ((A' ++ R).take (8 * y)).take (((A' ++ R).take (8 * y)).length - 1) = (A' ++ R).take (8 * y - 1) := by
      rw [hxl, List.take_take]
      congr 1
      omega
    rw [hc]
    -- what stands behind the head
    have hd : (A' ++ R).drop (startN k) = listN a ++ (List.replicate (padn (headN a k ++ (encL a.Fields ++ [193])).length) 0 ++ ([negN (sumN (coreN a k))] ++ R)) := by
      rw [List.drop_append_of_le_length (by omega), ← hA', drop_set_ge (by omega), area_core]
      unfold sealN
      rw [List.drop_append_of_le_length (by omega), core_drop]
      unfold listN
      simp only [List.append_assoc]
    have hll : (areaN a k).length = startN k + (listN a).length + padn (headN a k ++ (encL a.Fields ++ [193])).length + 1 := by
      have := congrArg List.length (core_drop a k)
      rw [List.length_drop, List.length_append, List.length_replicate] at this
      have h6 : startN k ≤ (coreN a k).length := by omega
      unfold listN
      omega
    have hpad : padn (headN a k ++ (encL a.Fields ++ [193])).length < 8 := by unfold padn; omega
    have hcd : ((A' ++ R).take (8 * y - 1)).drop (startN k) = ((A' ++ R).drop (startN k)).take (8 * y - 1 - startN k) := by rw [List.drop_take]
    unfold dY
    rcases Nat.lt_or_gt_of_ne hne with hlt1 | hgt
    · -- shorter
      have hcut : ((A' ++ R).take (8 * y - 1)).drop (startN k) = (encL a.Fields ++ [193]).take (8 * y - 1 - startN k) := by
        rw [hcd, hd]
        show (listN a ++ _).take _ = (listN a).take _
        rw [List.take_append_of_le_length (by omega)]
      rw [hcut, decL_cut _ (List.all_eq_true.1 h1) h2 _ (by show _ < (listN a).length; omega), if_pos (by simp)]
      show (4 : Int) ≠ 0
      omega
    · -- longer
      have hRl : 7 < R.length := by omega
      have hR1 : gN R 0 = 1 := by
        rcases hR with h | h
        · rw [h] at hRl
          simp at hRl
        · exact h
      have hlong : ((A' ++ R).take (8 * y - 1)).drop (startN k) = (encL a.Fields ++ [193]) ++ (List.replicate (padn (headN a k ++ (encL a.Fields ++ [193])).length) 0 ++ ([negN (sumN (coreN a k))] ++ R)).take (8 * y - 1 - startN k - (listN a).length) := by
        rw [hcd, hd, List.take_append, List.take_of_length_le (l := listN a) (by omega)]
        rfl
      rw [hlong, decL_enc _ (List.all_eq_true.1 h1) h2, if_neg (by simp)]
      dsimp only
      have hany : ((((A' ++ R).take (8 * y - 1)).drop (startN k + (((encL a.Fields ++ [193]).length : Nat) : Int).toNat)).any fun x => !decide (x = 0)) = true := by
        rw [← List.drop_drop, hlong, Int.toNat_natCast, List.drop_left' rfl, List.any_eq_true]
        refine ⟨1, ?_, by simp⟩
        have hidx : (List.replicate (padn (headN a k ++ (encL a.Fields ++ [193])).length) 0 ++ ([negN (sumN (coreN a k))] ++ R))[padn (headN a k ++ (encL a.Fields ++ [193])).length + 1]? = some 1 := by
          rw [List.getElem?_append_right (by rw [List.length_replicate]; omega), List.length_replicate, Nat.add_sub_cancel_left]
          show (([negN (sumN (coreN a k))] : List Nat) ++ R)[1]? = some 1
          have : R[0]? = some 1 := by
            unfold gN at hR1
            rw [List.getD_eq_getElem?_getD] at hR1
            rw [List.getElem?_eq_getElem (by omega)] at hR1 ⊢
            rw [Option.getD_some] at hR1
            rw [hR1]
          exact this
        refine List.mem_of_getElem? (i := padn (headN a k ++ (encL a.Fields ++ [193])).length + 1) ?_
        rw [List.getElem?_take_of_lt (by omega)]
        exact hidx
      rw [hany, if_pos rfl]
      show (6 : Int) ≠ 0
      omega
  · have a1 : gN A' 1 = (areaN a k).length / 8 := by rw [← hA', gN_set_ne q1, f1]
    rw [a1, f2, if_neg (by omega), if_neg (by omega)]
    have hx : ((P ++ (A' ++ R)).take (P.length + (areaN a k).length)).drop P.length = A' := by
      rw [List.drop_take, List.drop_left' rfl, Nat.add_sub_cancel_left, List.take_left' hA'l]
    rw [hx]
    unfold dX
    have hsum : negN (sumN A') ≠ 0 := by
      rw [← hA']
      exact sum_changed hlt hq hy (by rw [gN_get hq] at hne; exact hne) (by rw [area_core]; exact sum_seal _)
    rw [if_pos hsum]
    show (5 : Int) ≠ 0
    omega

end Go.Proofs.YtcekbbbjagfacaaDoor
