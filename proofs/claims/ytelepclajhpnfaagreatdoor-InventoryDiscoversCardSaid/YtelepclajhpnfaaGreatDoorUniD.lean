/-
  What bytes are decoded to as a unit's data: the program.
  Conditions: none.
-/
import Derived.Test.YtelepclajhpnfaaGreatDoorUniLD
import Derived.Test.YtelepclajhpnfaaGreatDoorUni2
import Derived.Test.YtelepclajhpnfaaGreatDoorGenInventoryDiscovers
namespace Go.Proofs.YtelepclajhpnfaaGreatDoor
open Go
set_option linter.unusedSimpArgs false
set_option linter.unusedVariables false
def gN (b : List Nat) (i : Nat) : Nat := b.getD i 0
theorem gN_get {b : List Nat} {i : Nat} (h : i < b.length) : gN b i = b[i] := by simp [gN, h]
theorem elt_gN {b : List Nat} {i : Nat} (h : i < b.length) : elt (iz b) (i : Int) = some ((gN b i : Nat) : Int) := by rw [elt_iz h, gN_get h]
theorem gN_lt {b : List Nat} (hb : lt256 b) (i : Nat) : gN b i < 256 := by
  unfold gN
  rw [List.getD_eq_getElem?_getD]
  cases h : b[i]? with
  | none => simp
  | some x => exact hb x (List.mem_of_getElem? h)
def startN (k : Nat) : Nat := if k = 1 then 6 else 3
def noA : T_Area := ⟨false, 0, 0, []⟩
def minN (c : List Nat) (k : Nat) : Nat := if k = 1 then gN c 3 + gN c 4 * 256 + gN c 5 * 65536 else 0
def dY (c : List Nat) (k : Nat) : T_Area × Int :=
  if (decL (c.drop (startN k))).2.2 ≠ 0 then (noA, (decL (c.drop (startN k))).2.2)
  else if (c.drop (startN k + (decL (c.drop (startN k))).2.1.toNat)).any (fun x => !decide (x = 0)) = true then (noA, 6)
  else (⟨true, (gN c 2 : Int), (minN c k : Int), (decL (c.drop (startN k))).1⟩, 0)
def dX (x : List Nat) (k : Nat) : T_Area × Int := if negN (sumN x) ≠ 0 then (noA, 5) else dY (x.take (x.length - 1)) k
def dA (b : List Nat) (k : Nat) : T_Area × Int :=
  if 8 * gN b (2 + k) = 0 then (noA, 0)
  else if b.length < 8 * gN b (2 + k) + 2 then (noA, 4)
  else if gN b (8 * gN b (2 + k)) ≠ 1 ∨ gN b (8 * gN b (2 + k) + 1) = 0 then (noA, 6)
  else if b.length < 8 * gN b (2 + k) + 8 * gN b (8 * gN b (2 + k) + 1) then (noA, 4)
  else dX ((b.take (8 * gN b (2 + k) + 8 * gN b (8 * gN b (2 + k) + 1))).drop (8 * gN b (2 + k))) k
theorem decLf_size (b : List Nat) : ∀ (fuel : Nat) (l : List T_Field) (n : Nat), n ≤ b.length → (decLf b fuel l n).2.2 = 0 → 0 ≤ (decLf b fuel l n).2.1 ∧ (decLf b fuel l n).2.1 ≤ b.length
  | 0, l, n, _, h => by cases h
  | fuel + 1, l, n, hn, h => by
    have h1 := decF_size (b.drop n)
    rw [List.length_drop] at h1
    unfold decLf at h ⊢
    split at h
    · rename_i h2
      exact absurd h h2
    · rename_i h2
      rw [if_neg h2]
      split at h
      · rename_i h3
        rw [if_pos h3]
        dsimp only
        omega
      · rename_i h3
        rw [if_neg h3]
        split at h
        · cases h
        · rename_i h4
          rw [if_neg h4]
          exact decLf_size b fuel _ _ (by omega) h
theorem decL_size (b : List Nat) (h : (decL b).2.2 = 0) : 0 ≤ (decL b).2.1 ∧ (decL b).2.1 ≤ b.length := decLf_size b 17 [] 0 (by omega) h
theorem Open8_prog {x : List Nat} (h : 0 < x.length) (hl : x.length ≤ 1000000) : m_checksum_Open8 (iz x) = some (if negN (sumN x) ≠ 0 then ([], 5) else (iz (x.take (x.length - 1)), 0)) := by
  unfold m_checksum_Open8
  rw [cnd_f (by rw [iz_len, beq_eq_false_iff_ne]; omega)]
  refine bnd_eq (Sum8_prog hl) ?_
  by_cases hs : negN (sumN x) ≠ 0
  · rw [if_pos hs, cnd_t (by simpa using hs)]
  · have h0 : negN (sumN x) = 0 := by omega
    rw [if_neg hs, cnd_f (by rw [h0]; rfl)]
    have hw : IntKind.wrap .i64 (((iz x).length : Int) - 1) = ((x.length - 1 : Nat) : Int) := by rw [iz_len, wrap_i64 (by omega) (by omega)]; omega
    rw [hw, show (0 : Int) = ((0 : Nat) : Int) from rfl]
    refine bnd_eq (sub_iz (by omega) (by omega)) ?_
    rw [List.drop_zero]
    refine bnd_eq (clone_prog (by rw [List.length_take]; omega)) rfl
theorem anyB_prog (l : List Nat) (h : l.length ≤ 1000000) : m_slices_ContainsFunc__byte_byte_f60 (iz l) = some (l.any fun x => !decide (x = 0)) := by
  unfold m_slices_ContainsFunc__byte_byte_f60 m_slices_IndexFunc__byte_byte_f60 m_unitinfo_decodeArea_1
  have key : ∃ r, (bnd (loopM (τ := Int ⊕ Unit) (fun (s1 : Int) => bif decide (s1 < ((iz l).length : Int)) then (bnd (elt (iz l) s1) fun x1 => bnd (some (x1 != 0)) fun r1 => bif r1 then (some (.done (.inl s1))) else (some (.next (IntKind.wrap .i64 (s1 + 1))))) else (some (.done (.inr ())))) 0) fun o1 => retOr o1 fun o2 => some (-1)) = some r ∧ decide (r ≥ 0) = l.any fun x => !decide (x = 0) := by
    refine bnd_loop_inv (R := fun r => decide (r ≥ 0) = l.any fun x => !decide (x = 0)) (fun s : Int => 0 ≤ s ∧ s ≤ l.length ∧ (l.take s.toNat).any (fun x => !decide (x = 0)) = false) (fun s => l.length - s.toNat)
      (fun t : Int ⊕ Unit => match t with | .inl r => r ≥ 0 ∧ l.any (fun x => !decide (x = 0)) = true | .inr _ => l.any (fun x => !decide (x = 0)) = false) ⟨by omega, by omega, by simp⟩ (fun s ⟨i1, i2, i3⟩ => ?_) (fun t ht => ?_)
    · obtain ⟨k, rfl⟩ : ∃ k : Nat, s = (k : Int) := ⟨s.toNat, by omega⟩
      by_cases hk : k < l.length
      · rw [decide_eq_true (by rw [iz_len]; omega : (k : Int) < ((iz l).length : Int)), cond_true, elt_iz hk, bnd_some, bnd_some]
        by_cases h0 : l[k] = 0
        · rw [cnd_f (by rw [h0]; rfl), wrap_succ hk (by omega)]
          refine .inl ⟨_, rfl, ⟨by omega, by omega, ?_⟩, by omega⟩
          rw [show ((k + 1 : Nat) : Int).toNat = k + 1 from rfl, take_succ_get hk, List.any_append]
          have i3' : (l.take k).any (fun x => !decide (x = 0)) = false := i3
          rw [i3']
          simp [h0]
        · rw [cnd_t (by simp; omega)]
          refine .inr ⟨_, rfl, by omega, ?_⟩
          rw [List.any_eq_true]
          exact ⟨l[k], List.getElem_mem hk, by simp [h0]⟩
      · rw [decide_eq_false (by rw [iz_len]; omega : ¬ (k : Int) < ((iz l).length : Int)), cond_false]
        refine .inr ⟨_, rfl, ?_⟩
        have i3' : (l.take k).any (fun x => !decide (x = 0)) = false := i3
        rwa [List.take_of_length_le (by omega)] at i3'
    · cases t with
      | inl r => exact ⟨r, rfl, by rw [ht.2, decide_eq_true ht.1]⟩
      | inr u => exact ⟨-1, rfl, by rw [ht]; rfl⟩
  obtain ⟨r, h1, h2⟩ := key
  rw [h1, bnd_some, h2]
theorem iShl_u32 {a s : Nat} (hs : s ≤ 32) (h : a * 2 ^ s < 4294967296) : iShl .u32 (a : Int) (s : Int) = ((a * 2 ^ s : Nat) : Int) := by
  unfold iShl
  have : min (s : Int).toNat (IntKind.bits .u32) = s := by show min (s : Int).toNat 32 = s; omega
  rw [this]
  have e : ((a : Int) * 2 ^ s) = ((a * 2 ^ s : Nat) : Int) := by simp
  rw [e, wrap_u32n h]
theorem min_prog {x y z : Nat} (hx : x < 256) (hy : y < 256) (hz : z < 256) : iOr .u32 (iOr .u32 (IntKind.wrap .u32 (x : Int)) (iShl .u32 (IntKind.wrap .u32 (y : Int)) 8)) (iShl .u32 (IntKind.wrap .u32 (z : Int)) 16) = ((x + y * 256 + z * 65536 : Nat) : Int) := by
  rw [wrap_u32n (by omega), wrap_u32n (by omega), wrap_u32n (by omega), show (8 : Int) = ((8 : Nat) : Int) from rfl, show (16 : Int) = ((16 : Nat) : Int) from rfl, iShl_u32 (by omega) (by omega), iShl_u32 (by omega) (by omega), iOr_u32 (by omega) (by omega), or_add (s := 8) (by omega), iOr_u32 (by omega) (by omega), or_add (s := 16) (by omega)]
theorem fieldsAt_prog {k : Nat} (hk : k < 3) : m_unitinfo_fieldsAt (k : Int) = some ((startN k : Nat) : Int) := by
  have h : k = 0 ∨ k = 1 ∨ k = 2 := by omega
  rcases h with rfl | rfl | rfl <;> rfl
theorem startN_le (k : Nat) : 3 ≤ startN k ∧ startN k ≤ 6 := by unfold startN; split <;> omega
theorem decodeArea_prog {b : List Nat} (hb : lt256 b) (h8 : 8 ≤ b.length) (hl : b.length ≤ 100000) {k : Nat} (hk : k < 3) : m_unitinfo_decodeArea (iz b) (k : Int) = some (dA b k) := by
  unfold m_unitinfo_decodeArea dA
  have hw0 : IntKind.wrap .i64 (2 + (k : Int)) = ((2 + k : Nat) : Int) := by rw [wrap_i64 (by omega) (by omega)]; omega
  rw [hw0]
  refine bnd_eq (elt_gN (by omega)) ?_
  have hx := gN_lt hb (2 + k)
  generalize gN b (2 + k) = x at *
  have hat : IntKind.wrap .i64 (8 * (IntKind.wrap .i64 ((x : Nat) : Int))) = ((8 * x : Nat) : Int) := by rw [wrap_i64n (by omega), wrap_i64 (by omega) (by omega)]; omega
  rw [hat]
  generalize hA : 8 * x = at_ at *
  by_cases c1 : at_ = 0
  · rw [if_pos c1, cnd_t (by simp; omega)]
    rfl
  rw [if_neg c1, cnd_f (by simp; omega)]
  have hw2 : IntKind.wrap .i64 ((at_ : Int) + 2) = ((at_ + 2 : Nat) : Int) := by rw [wrap_i64 (by omega) (by omega)]; omega
  have hw1 : IntKind.wrap .i64 ((at_ : Int) + 1) = ((at_ + 1 : Nat) : Int) := by rw [wrap_i64 (by omega) (by omega)]; omega
  rw [hw2, hw1]
  by_cases c2 : b.length < at_ + 2
  · rw [if_pos c2, cnd_t (decide_eq_true (by rw [iz_len]; omega))]
    rfl
  rw [if_neg c2, cnd_f (decide_eq_false (by rw [iz_len]; omega)), elt_gN (i := at_) (by omega), elt_gN (i := at_ + 1) (by omega)]
  have hy := gN_lt hb (at_ + 1)
  rw [bnd_some, bnd_some]
  have ho : (bif (((gN b at_ : Nat) : Int) != 1) then (some true) else (some (((gN b (at_ + 1) : Nat) : Int) == 0)) : Option Bool) = some (decide (gN b at_ ≠ 1 ∨ gN b (at_ + 1) = 0)) := by
    by_cases d1 : gN b at_ = 1
    · rw [cnd_f (by rw [d1]; rfl)]
      congr 1
      rw [Bool.eq_iff_iff]
      simp [d1]
    · rw [cnd_t (by simp; omega), decide_eq_true (.inl d1)]
  refine bnd_eq ho ?_
  by_cases c3 : gN b at_ ≠ 1 ∨ gN b (at_ + 1) = 0
  · rw [if_pos c3, decide_eq_true c3]
    rfl
  rw [if_neg c3, decide_eq_false c3, cond_false, bnd_some]
  have hy0 : gN b (at_ + 1) ≠ 0 := fun h => c3 (.inr h)
  generalize gN b (at_ + 1) = y at *
  have hn : IntKind.wrap .i64 ((at_ : Int) + (IntKind.wrap .i64 (8 * (IntKind.wrap .i64 ((y : Nat) : Int))))) = ((at_ + 8 * y : Nat) : Int) := by
    rw [wrap_i64n (n := y) (by omega), wrap_i64 (x := 8 * (y : Int)) (by omega) (by omega), wrap_i64 (by omega) (by omega)]
    omega
  rw [hn]
  by_cases c4 : b.length < at_ + 8 * y
  · rw [if_pos c4, cnd_t (decide_eq_true (by rw [iz_len]; omega))]
    rfl
  rw [if_neg c4, cnd_f (decide_eq_false (by rw [iz_len]; omega))]
  refine bnd_eq (sub_iz (by omega) (by omega)) ?_
  have hxl : ((b.take (at_ + 8 * y)).drop at_).length = 8 * y := by rw [List.length_drop, List.length_take]; omega
  have hxb : lt256 ((b.take (at_ + 8 * y)).drop at_) := (hb.take _).drop _
  generalize (b.take (at_ + 8 * y)).drop at_ = xs at *
  refine bnd_eq (Open8_prog (by omega) (by omega)) ?_
  unfold dX
  by_cases c5 : negN (sumN xs) ≠ 0
  · rw [if_pos c5, if_pos c5]
    rfl
  rw [if_neg c5, if_neg c5]
  dsimp only
  rw [show ((0 : Int) != 0) = false from rfl, cond_false, fieldsAt_prog hk, bnd_some]
  have hcl : (xs.take (xs.length - 1)).length = 8 * y - 1 := by rw [List.length_take]; omega
  have hcb : lt256 (xs.take (xs.length - 1)) := hxb.take _
  generalize xs.take (xs.length - 1) = c at *
  have hst := startN_le k
  rw [iz_len, sub_iz (by omega) (by omega), List.take_length, bnd_some, DecodeList_prog _ (hcb.drop _) (by rw [List.length_drop]; omega), bnd_some]
  unfold dY
  by_cases c6 : (decL (c.drop (startN k))).2.2 ≠ 0
  · rw [if_pos c6, cnd_t (by simpa using c6)]
    rfl
  rw [if_neg c6, cnd_f (by simpa using c6), bnd_some]
  obtain ⟨z1, z2⟩ := decL_size (c.drop (startN k)) (by simpa using c6)
  rw [List.length_drop] at z2
  have hw3 : IntKind.wrap .i64 (((startN k : Nat) : Int) + (decL (c.drop (startN k))).2.1) = ((startN k + (decL (c.drop (startN k))).2.1.toNat : Nat) : Int) := by rw [wrap_i64 (by omega) (by omega)]; omega
  rw [hw3, sub_iz (by omega) (by omega), List.take_length, bnd_some, anyB_prog _ (by rw [List.length_drop]; omega), bnd_some]
  cases hany : (c.drop (startN k + (decL (c.drop (startN k))).2.1.toNat)).any (fun x => !decide (x = 0))
  · rw [cond_false, if_neg (by simp), show (2 : Int) = ((2 : Nat) : Int) from rfl, elt_gN (by omega), bnd_some]
    unfold minN
    by_cases h1 : k = 1
    · subst h1
      rw [cnd_t (by rfl), show (3 : Int) = ((3 : Nat) : Int) from rfl, show (4 : Int) = ((4 : Nat) : Int) from rfl, show (5 : Int) = ((5 : Nat) : Int) from rfl, elt_gN (by omega), bnd_some, elt_gN (by omega), bnd_some, elt_gN (by omega), bnd_some, min_prog (gN_lt hcb _) (gN_lt hcb _) (gN_lt hcb _), if_pos rfl]
    · rw [cnd_f (by simp; omega), if_neg h1]
      rfl
  · rw [cond_true, if_pos rfl]
    rfl
end Go.Proofs.YtelepclajhpnfaaGreatDoor
