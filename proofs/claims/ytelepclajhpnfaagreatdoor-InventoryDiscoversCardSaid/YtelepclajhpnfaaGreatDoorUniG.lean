/-
  What any bytes are decoded to as a unit's data; a valid info comes back.
  Conditions: none.
-/
import Derived.Test.YtelepclajhpnfaaGreatDoorUniD
import Derived.Test.YtelepclajhpnfaaGreatDoorUniI
namespace Go.Proofs.YtelepclajhpnfaaGreatDoor
open Go
set_option linter.unusedSimpArgs false
set_option linter.unusedVariables false
theorem bodyF_len {kind : Nat} {d v : List Nat} (h : bodyF kind d = some v) : v.length ≤ 2 * d.length := by
  unfold bodyF at h
  split at h
  · split at h
    · injection h with h
      rw [← h, dec1_len]
      omega
    · cases h
  · split at h
    · split at h
      · injection h with h
        rw [← h, chars6_len]
        omega
      · cases h
    · injection h with h
      rw [← h]
      omega
theorem decF_val (b : List Nat) : (decF b).1.Value.size ≤ 126 := by
  cases b with
  | nil => decide
  | cons x r =>
    simp only [decF]
    split
    · decide
    · split
      · decide
      · cases hv : bodyF (x / 64) (r.take (x % 64)) with
        | none =>
          show (⟨#[]⟩ : ByteArray).size ≤ 126
          decide
        | some v =>
          have := bodyF_len hv
          rw [List.length_take] at this
          show (sb v).size ≤ 126
          rw [sb_size]
          omega
theorem decLf_val (b : List Nat) : ∀ (fuel : Nat) (l : List T_Field) (n : Nat), (∀ f ∈ l, f.Value.size ≤ 126) → ∀ f ∈ (decLf b fuel l n).1, f.Value.size ≤ 126
  | 0, l, n, _, f, hf => by cases hf
  | fuel + 1, l, n, h, f, hf => by
    unfold decLf at hf
    split at hf
    · cases hf
    · split at hf
      · exact h f hf
      · split at hf
        · cases hf
        · refine decLf_val b fuel _ _ (fun g hg => ?_) f hf
          rcases List.mem_append.1 hg with hg | hg
          · exact h g hg
          · rw [List.mem_singleton] at hg
            rw [hg]
            exact decF_val _
theorem dY_r (c : List Nat) (hc : lt256 c) (k : Nat) : AreaR (dY c k).1 ∧ ∀ f ∈ (dY c k).1.Fields, f.Value.size ≤ 400 := by
  have hno : AreaR noA ∧ ∀ f ∈ noA.Fields, f.Value.size ≤ 400 := ⟨noneR, fun f hf => by cases hf⟩
  unfold dY
  split
  · exact hno
  · split
    · exact hno
    · have hv : ∀ f ∈ (decL (c.drop (startN k))).1, f.Value.size ≤ 126 := decLf_val _ 17 [] 0 fun f hf => by cases hf
      have hn := decLf_len (c.drop (startN k)) 17 [] 0 (by simp)
      have h2 := gN_lt hc 2
      have h3 := gN_lt hc 3
      have h4 := gN_lt hc 4
      have h5 := gN_lt hc 5
      have hm : minN c k ≤ 16777215 := by unfold minN; split <;> omega
      refine ⟨⟨⟨by dsimp only; omega, by dsimp only; omega⟩, ⟨by dsimp only; omega, by dsimp only; omega⟩, fun f hf => ?_, ?_⟩, fun f hf => ?_⟩
      · have := hv f hf
        omega
      · have : (decL (c.drop (startN k))).1.length ≤ 17 := hn
        dsimp only
        omega
      · have := hv f hf
        omega
theorem dA_r {b : List Nat} (hb : lt256 b) (k : Nat) : AreaR (dA b k).1 ∧ ∀ f ∈ (dA b k).1.Fields, f.Value.size ≤ 400 := by
  have hno : AreaR noA ∧ ∀ f ∈ noA.Fields, f.Value.size ≤ 400 := ⟨noneR, fun f hf => by cases hf⟩
  unfold dA
  split
  · exact hno
  · split
    · exact hno
    · split
      · exact hno
      · split
        · exact hno
        · unfold dX
          split
          · exact hno
          · exact dY_r _ (((hb.take _).drop _).take _) k
def noI : T_Info := ⟨noA, noA, noA, []⟩
def muN (b : List Nat) : List Nat := if 0 < gN b 5 then b.drop (8 * gN b 5) else []
def mkI (b : List Nat) : T_Info := ⟨(dA b 0).1, (dA b 1).1, (dA b 2).1, iz (muN b)⟩
def dI (b : List Nat) : T_Info × Int :=
  if b.length < 8 then (noI, 4) else if 2048 < b.length then (noI, 3)
  else if negN (sumN (b.take 8)) ≠ 0 then (noI, 5)
  else if gN b 0 ≠ 1 ∨ gN b 1 ≠ 0 ∨ gN b 6 ≠ 0 then (noI, 6)
  else if (dA b 0).2 ≠ 0 then (noI, (dA b 0).2)
  else if (dA b 1).2 ≠ 0 then (noI, (dA b 1).2)
  else if (dA b 2).2 ≠ 0 then (noI, (dA b 2).2)
  else if b.length < 8 * gN b 5 then (noI, 4)
  else if vI (mkI b) = true then (mkI b, 0) else (noI, 1)
theorem muN_lt {b : List Nat} (hb : lt256 b) : lt256 (muN b) := by
  unfold muN
  split
  · exact hb.drop _
  · exact .nil
theorem muN_len (b : List Nat) : (muN b).length ≤ b.length := by
  unfold muN
  split
  · rw [List.length_drop]; omega
  · simp
theorem mkI_r {b : List Nat} (hb : lt256 b) (hl : b.length ≤ 100000) : InfoR (mkI b) := ⟨(dA_r hb 0).1, (dA_r hb 1).1, (dA_r hb 2).1, okL_of (muN_lt hb) (by have := muN_len b; omega)⟩
theorem uDecode_prog {b : List Nat} (hb : lt256 b) (hl : b.length ≤ 100000) : m_unitinfo_Decode (iz b) = some (dI b) := by
  unfold m_unitinfo_Decode dI noI
  by_cases c1 : b.length < 8
  · rw [if_pos c1, cnd_t (decide_eq_true (by rw [iz_len]; omega))]
    rfl
  rw [if_neg c1, cnd_f (decide_eq_false (by rw [iz_len]; omega))]
  by_cases c2 : 2048 < b.length
  · rw [if_pos c2, cnd_t (decide_eq_true (by rw [iz_len]; omega))]
    rfl
  rw [if_neg c2, cnd_f (decide_eq_false (by rw [iz_len]; omega))]
  rw [show sub (iz b) 0 8 = some (iz (b.take 8)) by rw [show (0 : Int) = ((0 : Nat) : Int) from rfl, show (8 : Int) = ((8 : Nat) : Int) from rfl, sub_iz (by omega) (by omega), List.drop_zero], bnd_some, Sum8_prog (by rw [List.length_take]; omega), bnd_some]
  by_cases c3 : negN (sumN (b.take 8)) ≠ 0
  · rw [if_pos c3, cnd_t (by simpa using c3)]
    rfl
  rw [if_neg c3, cnd_f (by rw [show negN (sumN (b.take 8)) = 0 by omega]; rfl)]
  rw [show elt (iz b) 0 = some ((gN b 0 : Nat) : Int) from elt_gN (i := 0) (by omega), show elt (iz b) 1 = some ((gN b 1 : Nat) : Int) from elt_gN (i := 1) (by omega), show elt (iz b) 6 = some ((gN b 6 : Nat) : Int) from elt_gN (i := 6) (by omega), show elt (iz b) 5 = some ((gN b 5 : Nat) : Int) from elt_gN (i := 5) (by omega)]
  have ho : (bnd (some ((gN b 0 : Nat) : Int)) fun x1 => bif (x1 != 1) then (some true) else (bnd (some ((gN b 1 : Nat) : Int)) fun x2 => bif (x2 != 0) then (some true) else (bnd (some ((gN b 6 : Nat) : Int)) fun x3 => some (x3 != 0))) : Option Bool) = some (decide (gN b 0 ≠ 1 ∨ gN b 1 ≠ 0 ∨ gN b 6 ≠ 0)) := by
    rw [bnd_some, bnd_some, bnd_some]
    by_cases d0 : gN b 0 = 1
    · rw [cnd_f (by rw [d0]; rfl)]
      by_cases d1 : gN b 1 = 0
      · rw [cnd_f (by rw [d1]; rfl)]
        congr 1
        rw [Bool.eq_iff_iff]
        simp [d0, d1]
      · rw [cnd_t (by simp; omega), decide_eq_true (.inr (.inl d1))]
    · rw [cnd_t (by simp; omega), decide_eq_true (.inl d0)]
  refine bnd_eq ho ?_
  by_cases c4 : gN b 0 ≠ 1 ∨ gN b 1 ≠ 0 ∨ gN b 6 ≠ 0
  · rw [if_pos c4, decide_eq_true c4]
    rfl
  rw [if_neg c4, decide_eq_false c4, cond_false]
  refine bnd_eq (decodeArea_prog hb (by omega) hl (k := 0) (by omega)) ?_
  by_cases c5 : (dA b 0).2 ≠ 0
  · rw [if_pos c5, cnd_t (by simpa using c5)]
    rfl
  rw [if_neg c5, cnd_f (by simpa using c5)]
  refine bnd_eq (decodeArea_prog hb (by omega) hl (k := 1) (by omega)) ?_
  by_cases c6 : (dA b 1).2 ≠ 0
  · rw [if_pos c6, cnd_t (by simpa using c6)]
    rfl
  rw [if_neg c6, cnd_f (by simpa using c6)]
  refine bnd_eq (decodeArea_prog hb (by omega) hl (k := 2) (by omega)) ?_
  by_cases c7 : (dA b 2).2 ≠ 0
  · rw [if_pos c7, cnd_t (by simpa using c7)]
    rfl
  rw [if_neg c7, cnd_f (by simpa using c7), bnd_some]
  have h5 := gN_lt hb 5
  have hat : IntKind.wrap .i64 (8 * (IntKind.wrap .i64 ((gN b 5 : Nat) : Int))) = ((8 * gN b 5 : Nat) : Int) := by rw [wrap_i64n (by omega), wrap_i64 (by omega) (by omega)]; omega
  rw [hat]
  by_cases c8 : b.length < 8 * gN b 5
  · rw [if_pos c8, cnd_t (decide_eq_true (by rw [iz_len]; omega))]
    rfl
  rw [if_neg c8, cnd_f (decide_eq_false (by rw [iz_len]; omega))]
  have hmu : (bif decide (((8 * gN b 5 : Nat) : Int) > 0) then (bnd (sub (iz b) ((8 * gN b 5 : Nat) : Int) ((iz b).length : Int)) fun l2 => bnd (m_slices_Clone__byte_byte l2) fun r5 => some (.inr r5)) else (some (.inr ([]))) : Option ((T_Info × Int) ⊕ List Int)) = some (.inr (iz (muN b))) := by
    unfold muN
    by_cases h0 : 0 < gN b 5
    · rw [if_pos h0, decide_eq_true (by omega), cond_true, iz_len, sub_iz (by omega) (by omega), List.take_length, bnd_some, clone_prog (by rw [List.length_drop]; omega)]
      rfl
    · rw [if_neg h0, decide_eq_false (by omega)]
      rfl
  refine bnd_eq hmu ?_
  rw [retOr_inr]
  have hml := muN_len b
  refine bnd_eq (uValid_prog (mkI_r hb hl) (by show (iz (muN b)).length ≤ 100000; rw [iz_len]; omega)) ?_
  show (bif !vI (mkI b) then _ else _) = _
  cases vI (mkI b)
  · rw [if_neg (by simp)]
    rfl
  · rw [if_pos rfl]
    rfl
theorem vI_parts {i : T_Info} (h : vI i = true) : vA i.Chassis 0 = true ∧ vA i.Board 1 = true ∧ vA i.Product 2 = true ∧ (encI i).length ≤ 2048 := by
  unfold vI at h
  simp only [Bool.and_eq_true, decide_eq_true_eq] at h
  exact ⟨h.1, h.2.1, h.2.2.1, h.2.2.2⟩
theorem lt_partN {a : T_Area} (hr : AreaR a) {k : Nat} (hv : vA a k = true) : lt256 (partN a k) := by
  unfold partN
  cases hp : a.Present
  · rw [if_neg (by simp)]; exact .nil
  · rw [if_pos rfl]
    obtain ⟨h1, h2⟩ := vA_can hv hp
    exact lt_areaN hr k h1 h2
theorem lt_encI {i : T_Info} (hr : InfoR i) (h : vI i = true) : lt256 (encI i) := by
  obtain ⟨h1, h2, h3, _⟩ := vI_parts h
  exact (lt_seal (lt_headI i)).app (((lt_partN hr.c h1).app ((lt_partN hr.b h2).app (lt_partN hr.p h3))).app (mul_iz hr.m).2.1)
end Go.Proofs.YtelepclajhpnfaaGreatDoor
