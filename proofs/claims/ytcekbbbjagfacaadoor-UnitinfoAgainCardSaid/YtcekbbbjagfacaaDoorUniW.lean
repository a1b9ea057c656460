/-
  The law of what is decoded again.
  Conditions: none.
-/
import Derived.Test.YtcekbbbjagfacaaDoorUniG
import Derived.Test.YtcekbbbjagfacaaDoorGenUnitinfoAgain
namespace Go.Proofs.YtcekbbbjagfacaaDoor
open Go
set_option linter.unusedSimpArgs false
set_option linter.unusedVariables false

theorem sameArea_self' (a : T_Area) (h : a.Fields.length ≤ 1000000) : m_ref17_sameArea a a = some true := by
  unfold m_ref17_sameArea
  rw [cnd_t (by simp), cnd_t (by simp), cnd_t (by simp), sameL_self _ h]
  rfl
theorem same_selfW (l : List Nat) (h : l.length ≤ 1000000) : m_ref01_Same (iz l) (iz l) = some true := by
  rw [same_nat _ _ (by omega)]
  simp
theorem same_infoW {i : T_Info} (hr : InfoR i) (hm : i.Multi.length ≤ 1000000) : m_ref17_Same i i = some true := by
  obtain ⟨m1, m2, m3⟩ := mul_iz hr.m
  unfold m_ref17_Same
  rw [sameArea_self' _ hr.c.len, bnd_some, cond_true, sameArea_self' _ hr.b.len, bnd_some, cond_true, sameArea_self' _ hr.p.len, bnd_some, cond_true, m1, same_selfW _ (by omega)]
  rfl

theorem dI_ok {b : List Nat} (h : (dI b).2 = 0) : dI b = (mkI b, 0) ∧ vI (mkI b) = true ∧ b.length ≤ 2048 := by
  unfold dI at h ⊢
  split at h
  · cases h
  · rename_i c1
    split at h
    · cases h
    · rename_i c2
      split at h
      · cases h
      · rename_i c3
        split at h
        · cases h
        · rename_i c4
          split at h
          · rename_i c5
            exact absurd h c5
          · rename_i c5
            split at h
            · rename_i c6
              exact absurd h c6
            · rename_i c6
              split at h
              · rename_i c7
                exact absurd h c7
              · rename_i c7
                split at h
                · cases h
                · rename_i c8
                  split at h
                  · rename_i c9
                    refine ⟨?_, c9, by omega⟩
                    rw [if_neg c1, if_neg c2, if_neg c3, if_neg c4, if_neg c5, if_neg c6, if_neg c7, if_neg c8, if_pos c9]
                  · cases h

/-- What was decoded comes back out of its own bytes. -/
theorem again_ok {xs : List Nat} (hb : lt256 xs) (hl : xs.length ≤ 100000) {τ : Type} (u : τ) :
    (bnd (m_unitinfo_Decode (iz xs)) fun r7 => bif (r7.2 != 0) then (some (.inr u)) else (bnd (m_unitinfo_Encode r7.1) fun r8 => bnd (m_unitinfo_Decode r8.1) fun r9 => bnd ((bnd (m_unitinfo_Valid r7.1) fun r10 => bif !r10 then (some true) else (bif (r8.2 != 0) then (some true) else (bif (r9.2 != 0) then (some true) else (bnd (m_ref17_Same r7.1 r9.1) fun r11 => some (!r11)))) : Option Bool)) fun o5 => bif o5 then (some (.inl false)) else (some (.inr u))) : Option (Bool ⊕ τ)) = some (.inr u) := by
  rw [uDecode_prog hb hl, bnd_some]
  by_cases h0 : (dI xs).2 = 0
  · obtain ⟨h1, h2, h3⟩ := dI_ok h0
    have hr := mkI_r hb hl
    have hm : (mkI xs).Multi.length ≤ 100000 := by
      have := muN_len xs
      show (iz (muN xs)).length ≤ 100000
      rw [iz_len]
      omega
    have hsz := (vI_parts h2).2.2.2
    rw [h1, cnd_f (by rfl)]
    dsimp only
    rw [uEncode_prog hr hm, if_pos h2, bnd_some]
    dsimp only
    rw [uDecode_prog (lt_encI hr h2) (by omega), dI_enc hr h2, bnd_some]
    dsimp only
    rw [uValid_prog hr hm, h2, bnd_some, Bool.not_true, cond_false]
    have hs := same_infoW hr (by omega)
    show (bnd (bif ((0 : Int) != 0) then some true else bif ((0 : Int) != 0) then some true else bnd (m_ref17_Same (mkI xs) (mkI xs)) fun r11 => some (!r11)) fun o5 => bif o5 then (some (Sum.inl false : Bool ⊕ τ)) else (some (Sum.inr u))) = some (Sum.inr u)
    rw [cnd_f (by rfl), cnd_f (by rfl), hs]
    rfl
  · rw [cnd_t (by simpa using h0)]

/-! ## A gap before the areas -/

def bump (x : Nat) : Nat := if x = 0 then 0 else (x + 1) % 256
def headG (i : T_Info) : List Nat := [1, 0, bump (gN (headI i) 2), bump (gN (headI i) 3), bump (gN (headI i) 4), bump (gN (headI i) 5), 0]
def gapN (i : T_Info) : List Nat := sealN (headG i) ++ (List.replicate 8 0 ++ (areasN i ++ mulN i))

theorem bump_lt (x : Nat) : bump x < 256 := by unfold bump; split <;> omega
theorem lt_headG (i : T_Info) : lt256 (headG i) := .cons (by omega) (.cons (by omega) (.cons (bump_lt _) (.cons (bump_lt _) (.cons (bump_lt _) (.cons (bump_lt _) (.cons (by omega) .nil))))))
theorem gap_head {i : T_Info} {j : Nat} (h : j < 7) : gN (gapN i) j = gN (headG i) j := by
  unfold gapN
  rw [gN_app (by show j < 8; omega)]
  unfold sealN
  rw [gN_app (by show j < 7; exact h)]
theorem lt_gapN {i : T_Info} (hr : InfoR i) (h : vI i = true) : lt256 (gapN i) := by
  obtain ⟨h1, h2, h3, _⟩ := vI_parts h
  exact (lt_seal (lt_headG i)).app ((lt_replicate 8).app (((lt_partN hr.c h1).app ((lt_partN hr.b h2).app (lt_partN hr.p h3))).app (mul_iz hr.m).2.1))
theorem gap_len {i : T_Info} (hr : InfoR i) : (gapN i).length = 16 + (areasN i).length + i.Multi.length := by
  have hs : (sealN (headG i)).length = 8 := rfl
  unfold gapN
  rw [List.length_append, List.length_append, List.length_append, List.length_replicate, hs, (mul_iz hr.m).2.2]
  omega

theorem dI_gap {i : T_Info} (hr : InfoR i) (h : vI i = true) (hl : (gapN i).length ≤ 2048) : dI (gapN i) = (i, 0) := by
  obtain ⟨h1, h2, h3, h4⟩ := vI_parts h
  obtain ⟨m1, m2, m3⟩ := mul_iz hr.m
  have hgl := gap_len hr
  have q1 := partN_len (vA_can h1) 0
  have q2 := partN_len (vA_can h2) 1
  have q3 := partN_len (vA_can h3) 2
  have hal : (areasN i).length = (partN i.Chassis 0).length + ((partN i.Board 1).length + (partN i.Product 2).length) := by unfold areasN; rw [List.length_append, List.length_append]
  have hs : (sealN (headG i)).length = 8 := rfl
  have e2 : gN (gapN i) 2 = bump (offN i.Chassis 0) := gap_head (by omega)
  have e3 : gN (gapN i) 3 = bump (offN i.Board (partN i.Chassis 0).length) := gap_head (by omega)
  have e4 : gN (gapN i) 4 = bump (offN i.Product ((partN i.Chassis 0).length + (partN i.Board 1).length)) := gap_head (by omega)
  have a1 : dA (gapN i) 0 = (i.Chassis, 0) := by
    cases hp : i.Chassis.Present
    · refine dA_none hp h1 (by rw [e2]; unfold offN; rw [if_neg (by rw [hp]; simp)]; rfl)
    · have hb : partN i.Chassis 0 = areaN i.Chassis 0 := by unfold partN; rw [if_pos hp]
      refine dA_at (P := sealN (headG i) ++ List.replicate 8 0) (R := (partN i.Board 1 ++ partN i.Product 2) ++ mulN i) hr.c (by omega) hp h1 ?_ (by rw [List.length_append]; omega) ?_
      · unfold gapN areasN
        rw [hb]
        simp only [List.append_assoc]
      · rw [e2, List.length_append, List.length_replicate, hs]
        unfold offN bump
        rw [if_pos hp, if_neg (by omega)]
  have a2 : dA (gapN i) 1 = (i.Board, 0) := by
    cases hp : i.Board.Present
    · refine dA_none hp h2 (by rw [e3]; unfold offN; rw [if_neg (by rw [hp]; simp)]; rfl)
    · have hb : partN i.Board 1 = areaN i.Board 1 := by unfold partN; rw [if_pos hp]
      refine dA_at (P := sealN (headG i) ++ (List.replicate 8 0 ++ partN i.Chassis 0)) (R := partN i.Product 2 ++ mulN i) hr.b (by omega) hp h2 ?_ (by rw [List.length_append]; omega) ?_
      · unfold gapN areasN
        rw [hb]
        simp only [List.append_assoc]
      · rw [e3, List.length_append, List.length_append, List.length_replicate, hs]
        unfold offN bump
        rw [if_pos hp, if_neg (by omega)]
        omega
  have a3 : dA (gapN i) 2 = (i.Product, 0) := by
    cases hp : i.Product.Present
    · refine dA_none hp h3 (by rw [e4]; unfold offN; rw [if_neg (by rw [hp]; simp)]; rfl)
    · have hb : partN i.Product 2 = areaN i.Product 2 := by unfold partN; rw [if_pos hp]
      have hpos := areaN_len (k := 2) (vA_can h3 hp).1 (vA_can h3 hp).2
      rw [← hb] at hpos
      refine dA_at (P := sealN (headG i) ++ (List.replicate 8 0 ++ (partN i.Chassis 0 ++ partN i.Board 1))) (R := mulN i) hr.p (by omega) hp h3 ?_ (by rw [List.length_append]; omega) ?_
      · unfold gapN areasN
        rw [hb]
        simp only [List.append_assoc]
      · rw [e4, List.length_append, List.length_append, List.length_append, List.length_replicate, hs]
        unfold offN bump
        rw [if_pos hp, if_neg (by omega)]
        omega
  have e0 : gN (gapN i) 0 = 1 := gap_head (by omega)
  have e1 : gN (gapN i) 1 = 0 := gap_head (by omega)
  have e6 : gN (gapN i) 6 = 0 := gap_head (by omega)
  have e5 : gN (gapN i) 5 = bump (if 0 < i.Multi.length then (8 + (areasN i).length) / 8 % 256 else 0) := gap_head (by omega)
  have ht : (gapN i).take 8 = sealN (headG i) := by unfold gapN; exact List.take_left' rfl
  have hmu : muN (gapN i) = mulN i := by
    unfold muN
    rw [e5]
    by_cases h0 : 0 < i.Multi.length
    · have hv : bump ((8 + (areasN i).length) / 8 % 256) = (8 + (areasN i).length) / 8 + 1 := by unfold bump; rw [if_neg (by omega)]; omega
      rw [if_pos h0, hv, if_pos (by omega), show 8 * ((8 + (areasN i).length) / 8 + 1) = (sealN (headG i) ++ (List.replicate 8 0 ++ areasN i)).length by rw [List.length_append, List.length_append, List.length_replicate, hs]; omega]
      unfold gapN
      rw [show sealN (headG i) ++ (List.replicate 8 0 ++ (areasN i ++ mulN i)) = (sealN (headG i) ++ (List.replicate 8 0 ++ areasN i)) ++ mulN i by simp only [List.append_assoc], List.drop_left' rfl]
    · rw [if_neg h0, if_neg (by decide)]
      exact (List.eq_nil_of_length_eq_zero (by omega)).symm
  have hmk : mkI (gapN i) = i := by
    unfold mkI
    rw [a1, a2, a3, hmu, ← m1]
  unfold dI
  rw [if_neg (by omega), if_neg (by omega), ht, sum_seal, if_neg (by simp), e0, e1, e6, if_neg (by simp), a1, a2, a3, if_neg (by simp), if_neg (by simp), if_neg (by simp), e5, if_neg (by unfold bump; split <;> split <;> omega), hmk, if_pos h]

end Go.Proofs.YtcekbbbjagfacaaDoor
