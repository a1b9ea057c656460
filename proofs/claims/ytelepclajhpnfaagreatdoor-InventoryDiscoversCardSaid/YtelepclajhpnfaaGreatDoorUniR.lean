/-
  What any bytes are decoded to as a unit's data: the reference.
  Conditions: none.
-/
import Derived.Test.YtelepclajhpnfaaGreatDoorUniG
import Derived.Test.YtelepclajhpnfaaGreatDoorGenInventoryDiscovers
namespace Go.Proofs.YtelepclajhpnfaaGreatDoor
open Go
set_option linter.unusedSimpArgs false
set_option linter.unusedVariables false
theorem DecodeList_ref (b : List Nat) (hb : lt256 b) (hn : b.length ≤ 1000000) : m_ref02_DecodeList (iz b) = some (decL b) := by
  unfold m_ref02_DecodeList
  exact bnd_eq (decL_loop b hb hn m_ref02_Decode Decode_ref _ (fun _ => rfl) 17 [] 0 rfl (by omega) (by omega)) rfl
theorem Open8_ref {x : List Nat} (hb : lt256 x) (h : 0 < x.length) (hl : x.length ≤ 1000000) : m_ref01_Open8 (iz x) = some (if negN (sumN x) ≠ 0 then ([], 5) else (iz (x.take (x.length - 1)), 0)) := by
  unfold m_ref01_Open8
  rw [cnd_f (by rw [iz_len, beq_eq_false_iff_ne]; omega)]
  refine bnd_eq (Sum8_ref hb hl) ?_
  by_cases hs : negN (sumN x) ≠ 0
  · rw [if_pos hs, cnd_t (by simpa using hs)]
  · have h0 : negN (sumN x) = 0 := by omega
    rw [if_neg hs, cnd_f (by rw [h0]; rfl)]
    have hw : IntKind.wrap .i64 (((iz x).length : Int) - 1) = ((x.length - 1 : Nat) : Int) := by rw [iz_len, wrap_i64 (by omega) (by omega)]; omega
    rw [hw, show (0 : Int) = ((0 : Nat) : Int) from rfl]
    refine bnd_eq (sub_iz (by omega) (by omega)) ?_
    rw [List.drop_zero]
    refine bnd_eq (Copy_ref (by rw [List.length_take]; omega)) rfl
theorem start_ref {k : Nat} (hk : k < 3) : m_ref17_start (k : Int) = some ((startN k : Nat) : Int) := by
  have h : k = 0 ∨ k = 1 ∨ k = 2 := by omega
  rcases h with rfl | rfl | rfl <;> rfl
theorem Number_ref {x y z : Nat} (hx : x < 256) (hy : y < 256) (hz : z < 256) : m_ref01_Number (iz [x, y, z]) = some ((x + y * 256 + z * 65536 : Nat) : Int) := by
  unfold m_ref01_Number
  refine bnd_loop (fun i => ((([0, z, y + z * 256, x + y * 256 + z * 65536].getD i 0 : Nat) : Int), (2 : Int) - (i : Int))) 3 ((x + y * 256 + z * 65536 : Nat) : Int) rfl (fun i hi => ?_) rfl rfl
  have h3 : i = 0 ∨ i = 1 ∨ i = 2 := by omega
  rcases h3 with rfl | rfl | rfl
  · show (bnd (some ((z : Nat) : Int)) fun x1 => _) = _
    rw [bnd_some]
    show some (Step.next (IntKind.wrap .u64 ((IntKind.wrap .u64 (256 * ((0 : Nat) : Int))) + (IntKind.wrap .u64 ((z : Nat) : Int))), _)) = _
    rw [wrap_u64 (x := 256 * ((0 : Nat) : Int)) (by omega) (by omega), wrap_u64n (n := z) (by omega), wrap_u64 (by omega) (by omega)]
    congr 3
    show (256 * ((0 : Nat) : Int)) + (z : Int) = ((z : Nat) : Int)
    omega
  · show (bnd (some ((y : Nat) : Int)) fun x1 => _) = _
    rw [bnd_some]
    show some (Step.next (IntKind.wrap .u64 ((IntKind.wrap .u64 (256 * ((z : Nat) : Int))) + (IntKind.wrap .u64 ((y : Nat) : Int))), _)) = _
    rw [wrap_u64 (x := 256 * ((z : Nat) : Int)) (by omega) (by omega), wrap_u64n (n := y) (by omega), wrap_u64 (by omega) (by omega)]
    congr 3
    show (256 * ((z : Nat) : Int)) + (y : Int) = ((y + z * 256 : Nat) : Int)
    omega
  · show (bnd (some ((x : Nat) : Int)) fun x1 => _) = _
    rw [bnd_some]
    show some (Step.next (IntKind.wrap .u64 ((IntKind.wrap .u64 (256 * ((y + z * 256 : Nat) : Int))) + (IntKind.wrap .u64 ((x : Nat) : Int))), _)) = _
    rw [wrap_u64 (x := 256 * ((y + z * 256 : Nat) : Int)) (by omega) (by omega), wrap_u64n (n := x) (by omega), wrap_u64 (by omega) (by omega)]
    congr 3
    show (256 * ((y + z * 256 : Nat) : Int)) + (x : Int) = ((x + y * 256 + z * 65536 : Nat) : Int)
    omega
theorem read_ref {b : List Nat} (hb : lt256 b) (h8 : 8 ≤ b.length) (hl : b.length ≤ 100000) {k : Nat} (hk : k < 3) : m_ref17_read (k : Int) (iz b) (IntKind.wrap .i64 ((gN b (2 + k) : Nat) : Int)) = some (dA b k) := by
  unfold m_ref17_read dA
  have hx := gN_lt hb (2 + k)
  generalize gN b (2 + k) = x at *
  rw [wrap_i64n (n := x) (by omega)]
  have hat : IntKind.wrap .i64 (8 * ((x : Nat) : Int)) = ((8 * x : Nat) : Int) := by rw [wrap_i64 (by omega) (by omega)]; omega
  rw [hat]
  have hx0 : (((x : Nat) : Int) == 0) = (((8 * x : Nat) : Int) == 0) := by
    rw [Bool.eq_iff_iff]
    simp
    omega
  rw [hx0]
  generalize hA : 8 * x = at_ at *
  by_cases c1 : at_ = 0
  · rw [if_pos c1, cnd_t (by simp; omega)]
    rfl
  rw [if_neg c1, cnd_f (by simp; omega)]
  have hw2 : IntKind.wrap .i64 ((at_ : Int) + 2) = ((at_ + 2 : Nat) : Int) := by rw [wrap_i64 (by omega) (by omega)]; omega
  have hw1 : IntKind.wrap .i64 ((at_ : Int) + 1) = ((at_ + 1 : Nat) : Int) := by rw [wrap_i64 (by omega) (by omega)]; omega
  rw [hw2, hw1]
  by_cases c2 : b.length < at_ + 2
  · rw [if_pos c2, cnd_t (decide_eq_true (by rw [iz_len]; omega))]
    rfl
  rw [if_neg c2, cnd_f (decide_eq_false (by rw [iz_len]; omega)), elt_gN (i := at_) (by omega), elt_gN (i := at_ + 1) (by omega)]
  have hy := gN_lt hb (at_ + 1)
  rw [bnd_some, bnd_some]
  have ho : (bif (((gN b at_ : Nat) : Int) != 1) then (some true) else (some (((gN b (at_ + 1) : Nat) : Int) == 0)) : Option Bool) = some (decide (gN b at_ ≠ 1 ∨ gN b (at_ + 1) = 0)) := by
    by_cases d1 : gN b at_ = 1
    · rw [cnd_f (by rw [d1]; rfl)]
      congr 1
      rw [Bool.eq_iff_iff]
      simp [d1]
    · rw [cnd_t (by simp; omega), decide_eq_true (.inl d1)]
  refine bnd_eq ho ?_
  by_cases c3 : gN b at_ ≠ 1 ∨ gN b (at_ + 1) = 0
  · rw [if_pos c3, decide_eq_true c3]
    rfl
  rw [if_neg c3, decide_eq_false c3, cond_false, bnd_some]
  have hy0 : gN b (at_ + 1) ≠ 0 := fun h => c3 (.inr h)
  generalize gN b (at_ + 1) = y at *
  have hn : IntKind.wrap .i64 ((at_ : Int) + (IntKind.wrap .i64 (8 * (IntKind.wrap .i64 ((y : Nat) : Int))))) = ((at_ + 8 * y : Nat) : Int) := by
    rw [wrap_i64n (n := y) (by omega), wrap_i64 (x := 8 * (y : Int)) (by omega) (by omega), wrap_i64 (by omega) (by omega)]
    omega
  rw [hn]
  by_cases c4 : b.length < at_ + 8 * y
  · rw [if_pos c4, cnd_t (decide_eq_true (by rw [iz_len]; omega))]
    rfl
  rw [if_neg c4, cnd_f (decide_eq_false (by rw [iz_len]; omega))]
  refine bnd_eq (sub_iz (by omega) (by omega)) ?_
  have hxl : ((b.take (at_ + 8 * y)).drop at_).length = 8 * y := by rw [List.length_drop, List.length_take]; omega
  have hxb : lt256 ((b.take (at_ + 8 * y)).drop at_) := (hb.take _).drop _
  generalize (b.take (at_ + 8 * y)).drop at_ = xs at *
  refine bnd_eq (Open8_ref hxb (by omega) (by omega)) ?_
  unfold dX
  by_cases c5 : negN (sumN xs) ≠ 0
  · rw [if_pos c5, if_pos c5]
    rfl
  rw [if_neg c5, if_neg c5]
  dsimp only
  rw [show ((0 : Int) != 0) = false from rfl, cond_false, start_ref hk, bnd_some]
  have hcl : (xs.take (xs.length - 1)).length = 8 * y - 1 := by rw [List.length_take]; omega
  have hcb : lt256 (xs.take (xs.length - 1)) := hxb.take _
  generalize xs.take (xs.length - 1) = c at *
  have hst := startN_le k
  rw [iz_len, sub_iz (by omega) (by omega), List.take_length, bnd_some, DecodeList_ref _ (hcb.drop _) (by rw [List.length_drop]; omega), bnd_some]
  unfold dY
  by_cases c6 : (decL (c.drop (startN k))).2.2 ≠ 0
  · rw [if_pos c6, cnd_t (by simpa using c6)]
    rfl
  rw [if_neg c6, cnd_f (by simpa using c6), bnd_some]
  obtain ⟨z1, z2⟩ := decL_size (c.drop (startN k)) (by simpa using c6)
  rw [List.length_drop] at z2
  have hw3 : IntKind.wrap .i64 (((startN k : Nat) : Int) + (decL (c.drop (startN k))).2.1) = ((startN k + (decL (c.drop (startN k))).2.1.toNat : Nat) : Int) := by rw [wrap_i64 (by omega) (by omega)]; omega
  rw [hw3]
  have hm0 : startN k + (decL (c.drop (startN k))).2.1.toNat ≤ c.length := by omega
  have hloop : loopM (τ := (T_Area × Int) ⊕ Unit) (fun (s1 : Int) => bif decide (s1 < (c.length : Int)) then (bnd (elt (iz c) s1) fun x4 => bif (x4 != 0) then (some (.done (.inl ((⟨false, 0, 0, []⟩ : T_Area), 6)))) else (some (.next (IntKind.wrap .i64 (s1 + 1))))) else (some (.done (.inr ())))) ((startN k + (decL (c.drop (startN k))).2.1.toNat : Nat) : Int) =
      some (bif (c.drop (startN k + (decL (c.drop (startN k))).2.1.toNat)).any (fun x => !decide (x = 0)) then .inl (noA, 6) else .inr ()) := by
    generalize startN k + (decL (c.drop (startN k))).2.1.toNat = m0 at *
    have hrun : ∀ (n : Nat) (j : Nat), j + n = c.length → loopM (τ := (T_Area × Int) ⊕ Unit) (fun (s1 : Int) => bif decide (s1 < (c.length : Int)) then (bnd (elt (iz c) s1) fun x4 => bif (x4 != 0) then (some (.done (.inl ((⟨false, 0, 0, []⟩ : T_Area), 6)))) else (some (.next (IntKind.wrap .i64 (s1 + 1))))) else (some (.done (.inr ())))) ((j : Nat) : Int) = some (bif (c.drop j).any (fun x => !decide (x = 0)) then .inl (noA, 6) else .inr ()) := by
      intro n
      induction n with
      | zero =>
        intro j hj
        apply loop_done
        rw [decide_eq_false (by omega : ¬ (j : Int) < (c.length : Int)), List.drop_eq_nil_of_le (by omega)]
        rfl
      | succ n ih =>
        intro j hj
        have hjl : j < c.length := by omega
        have hdj : c.drop j = c[j] :: c.drop (j + 1) := (List.getElem_cons_drop ..).symm
        by_cases h0 : c[j] = 0
        · refine loop_next (s' := ((j + 1 : Nat) : Int)) ?_ ?_
          · rw [decide_eq_true (by omega : (j : Int) < (c.length : Int)), cond_true, elt_iz hjl, bnd_some, cnd_f (by rw [h0]; rfl), wrap_succ hjl (by omega)]
          · rw [ih (j + 1) (by omega), hdj, List.any_cons, h0]
            rfl
        · apply loop_done
          rw [decide_eq_true (by omega : (j : Int) < (c.length : Int)), cond_true, elt_iz hjl, bnd_some, cnd_t (by simp; omega), hdj, List.any_cons]
          simp [h0]
          rfl
    exact hrun (c.length - m0) m0 (by omega)
  rw [hloop, bnd_some]
  cases hany : (c.drop (startN k + (decL (c.drop (startN k))).2.1.toNat)).any (fun x => !decide (x = 0))
  · rw [cond_false, retOr_inr, if_neg (by simp), show (2 : Int) = ((2 : Nat) : Int) from rfl, elt_gN (by omega), bnd_some]
    unfold minN
    by_cases h1 : k = 1
    · subst h1
      have h36 : sub (iz c) 3 6 = some (iz [gN c 3, gN c 4, gN c 5]) := by
        rw [show (3 : Int) = ((3 : Nat) : Int) from rfl, show (6 : Int) = ((6 : Nat) : Int) from rfl, sub_iz (by omega) (by omega)]
        congr 2
        apply List.ext_getElem?
        intro j
        rw [List.getElem?_drop]
        have hj : j = 0 ∨ j = 1 ∨ j = 2 ∨ 3 ≤ j := by omega
        rcases hj with rfl | rfl | rfl | hj
        · rw [List.getElem?_take_of_lt (by omega), List.getElem?_eq_getElem (by omega), gN_get (by omega)]; rfl
        · rw [List.getElem?_take_of_lt (by omega), List.getElem?_eq_getElem (by omega), gN_get (i := 4) (by omega)]; rfl
        · rw [List.getElem?_take_of_lt (by omega), List.getElem?_eq_getElem (by omega), gN_get (i := 5) (by omega)]; rfl
        · rw [List.getElem?_eq_none (by rw [List.length_take]; omega), List.getElem?_eq_none (by simp; omega)]
      have g3 := gN_lt hcb 3
      have g4 := gN_lt hcb 4
      have g5 := gN_lt hcb 5
      rw [cnd_t (by rfl), h36, bnd_some, Number_ref g3 g4 g5, bnd_some, wrap_u32n (by omega), if_pos rfl]
    · rw [cnd_f (by simp; omega), if_neg h1]
      rfl
  · rw [cond_true, if_pos rfl]
    rfl
theorem Decode_refU {b : List Nat} (hb : lt256 b) (hl : b.length ≤ 100000) : m_ref17_Decode (iz b) = some (dI b) := by
  unfold m_ref17_Decode dI noI
  by_cases c1 : b.length < 8
  · rw [if_pos c1, cnd_t (decide_eq_true (by rw [iz_len]; omega))]
    rfl
  rw [if_neg c1, cnd_f (decide_eq_false (by rw [iz_len]; omega))]
  by_cases c2 : 2048 < b.length
  · rw [if_pos c2, cnd_t (decide_eq_true (by rw [iz_len]; omega))]
    rfl
  rw [if_neg c2, cnd_f (decide_eq_false (by rw [iz_len]; omega))]
  rw [show sub (iz b) 0 8 = some (iz (b.take 8)) by rw [show (0 : Int) = ((0 : Nat) : Int) from rfl, show (8 : Int) = ((8 : Nat) : Int) from rfl, sub_iz (by omega) (by omega), List.drop_zero], bnd_some, Sum8_ref (hb.take 8) (by rw [List.length_take]; omega), bnd_some]
  by_cases c3 : negN (sumN (b.take 8)) ≠ 0
  · rw [if_pos c3, cnd_t (by simpa using c3)]
    rfl
  rw [if_neg c3, cnd_f (by rw [show negN (sumN (b.take 8)) = 0 by omega]; rfl)]
  rw [show elt (iz b) 0 = some ((gN b 0 : Nat) : Int) from elt_gN (i := 0) (by omega), show elt (iz b) 1 = some ((gN b 1 : Nat) : Int) from elt_gN (i := 1) (by omega), show elt (iz b) 6 = some ((gN b 6 : Nat) : Int) from elt_gN (i := 6) (by omega), show elt (iz b) 5 = some ((gN b 5 : Nat) : Int) from elt_gN (i := 5) (by omega)]
  have ho : (bnd (some ((gN b 0 : Nat) : Int)) fun x1 => bif (x1 != 1) then (some true) else (bnd (some ((gN b 1 : Nat) : Int)) fun x2 => bif (x2 != 0) then (some true) else (bnd (some ((gN b 6 : Nat) : Int)) fun x3 => some (x3 != 0))) : Option Bool) = some (decide (gN b 0 ≠ 1 ∨ gN b 1 ≠ 0 ∨ gN b 6 ≠ 0)) := by
    rw [bnd_some, bnd_some, bnd_some]
    by_cases d0 : gN b 0 = 1
    · rw [cnd_f (by rw [d0]; rfl)]
      by_cases d1 : gN b 1 = 0
      · rw [cnd_f (by rw [d1]; rfl)]
        congr 1
        rw [Bool.eq_iff_iff]
        simp [d0, d1]
      · rw [cnd_t (by simp; omega), decide_eq_true (.inr (.inl d1))]
    · rw [cnd_t (by simp; omega), decide_eq_true (.inl d0)]
  refine bnd_eq ho ?_
  by_cases c4 : gN b 0 ≠ 1 ∨ gN b 1 ≠ 0 ∨ gN b 6 ≠ 0
  · rw [if_pos c4, decide_eq_true c4]
    rfl
  rw [if_neg c4, decide_eq_false c4, cond_false]
  rw [show elt (iz b) 2 = some ((gN b (2 + 0) : Nat) : Int) from elt_gN (i := 2) (by omega), bnd_some]
  refine bnd_eq (read_ref hb (by omega) hl (k := 0) (by omega)) ?_
  by_cases c5 : (dA b 0).2 ≠ 0
  · rw [if_pos c5, cnd_t (by simpa using c5)]
    rfl
  rw [if_neg c5, cnd_f (by simpa using c5)]
  rw [show elt (iz b) 3 = some ((gN b (2 + 1) : Nat) : Int) from elt_gN (i := 3) (by omega), bnd_some]
  refine bnd_eq (read_ref hb (by omega) hl (k := 1) (by omega)) ?_
  by_cases c6 : (dA b 1).2 ≠ 0
  · rw [if_pos c6, cnd_t (by simpa using c6)]
    rfl
  rw [if_neg c6, cnd_f (by simpa using c6)]
  rw [show elt (iz b) 4 = some ((gN b (2 + 2) : Nat) : Int) from elt_gN (i := 4) (by omega), bnd_some]
  refine bnd_eq (read_ref hb (by omega) hl (k := 2) (by omega)) ?_
  by_cases c7 : (dA b 2).2 ≠ 0
  · rw [if_pos c7, cnd_t (by simpa using c7)]
    rfl
  rw [if_neg c7, cnd_f (by simpa using c7), bnd_some]
  have h5 := gN_lt hb 5
  have hat : IntKind.wrap .i64 (8 * (IntKind.wrap .i64 ((gN b 5 : Nat) : Int))) = ((8 * gN b 5 : Nat) : Int) := by rw [wrap_i64n (by omega), wrap_i64 (by omega) (by omega)]; omega
  rw [hat]
  have hmu : (bif (((gN b 5 : Nat) : Int) != 0) then (bif decide (((8 * gN b 5 : Nat) : Int) > ((iz b).length : Int)) then (some (.inl ((⟨(⟨false, 0, 0, []⟩ : T_Area), (⟨false, 0, 0, []⟩ : T_Area), (⟨false, 0, 0, []⟩ : T_Area), []⟩ : T_Info), 4))) else (bnd (sub (iz b) ((8 * gN b 5 : Nat) : Int) ((iz b).length : Int)) fun l2 => bnd (m_ref01_Copy l2) fun r5 => some (.inr r5))) else (some (.inr ([]))) : Option ((T_Info × Int) ⊕ List Int)) = some (if b.length < 8 * gN b 5 then .inl (noI, 4) else .inr (iz (muN b))) := by
    unfold muN
    by_cases h0 : 0 < gN b 5
    · rw [cnd_t (by simp; omega), if_pos h0]
      by_cases c8 : b.length < 8 * gN b 5
      · rw [if_pos c8, cnd_t (decide_eq_true (by rw [iz_len]; omega))]
        rfl
      · rw [if_neg c8, cnd_f (decide_eq_false (by rw [iz_len]; omega)), iz_len, sub_iz (by omega) (by omega), List.take_length, bnd_some, Copy_ref (by rw [List.length_drop]; omega)]
        rfl
    · rw [cnd_f (by rw [show gN b 5 = 0 by omega]; rfl), if_neg h0, if_neg (by omega)]
      rfl
  refine bnd_eq hmu ?_
  by_cases c8 : b.length < 8 * gN b 5
  · rw [if_pos c8, if_pos c8]
    rfl
  rw [if_neg c8, if_neg c8, retOr_inr]
  have hml := muN_len b
  have hok : OkI (mkI b) := ⟨mkI_r hb hl, (dA_r hb 0).2, (dA_r hb 1).2, (dA_r hb 2).2, by show (iz (muN b)).length ≤ 3000; rw [iz_len]; omega⟩
  refine bnd_eq (rValid hok) ?_
  show (bif !vI (mkI b) then _ else _) = _
  cases vI (mkI b)
  · rw [if_neg (by simp)]
    rfl
  · rw [if_pos rfl]
    rfl
end Go.Proofs.YtelepclajhpnfaaGreatDoor
