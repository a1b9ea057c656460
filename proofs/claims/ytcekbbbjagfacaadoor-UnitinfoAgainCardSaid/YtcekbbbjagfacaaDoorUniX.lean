/-
  The law of what is decoded again: joined.
  Conditions: none.
-/
import Derived.Test.YtcekbbbjagfacaaDoorUniW
namespace Go.Proofs.YtcekbbbjagfacaaDoor
open Go
set_option linter.unusedSimpArgs false
set_option linter.unusedVariables false

theorem rEncodeW {i : T_Info} (h : OkI i) : m_ref17_Encode i = some (if vI i = true then (iz (encI i), 0) else ([], 1)) := by
  unfold m_ref17_Encode
  refine bnd_eq (bytes_ref h) ?_
  cases vI i <;> rfl

def bumps (j : Nat) (a b c d s : Nat) (T : List Nat) : List Nat := [1, 0, if 0 < j then bump a else a, if 1 < j then bump b else b, if 2 < j then bump c else c, if 3 < j then bump d else d, 0, s] ++ T

theorem bump_step {L L' : List Nat} {n x : Nat} (hn : n < L.length) (hx : gN L n = x) (hx8 : x < 256) (hL : L.set n (bump x) = L') (hn2 : n < 6) :
    (bif decide (((n : Nat) : Int) < 6) then (bnd (elt (iz L) (n : Int)) fun x1 => bif (x1 != 0) then (bnd (setE (iz L) (n : Int) (IntKind.wrap .u8 (x1 + 1))) fun l6 => some (.next (IntKind.wrap .i64 ((n : Int) + 1), l6))) else (some (.next (IntKind.wrap .i64 ((n : Int) + 1), iz L)))) else (some (.done (iz L))) : Option (Step (Int × List Int) (List Int))) = some (.next (((n + 1 : Nat) : Int), iz L')) := by
  rw [decide_eq_true (by omega : (n : Int) < 6), cond_true, elt_gN hn, bnd_some, hx, wrap_succ (n := 6) hn2 (by omega)]
  by_cases h0 : x = 0
  · rw [cnd_f (by rw [h0]; rfl), ← hL, h0]
    have : L.set n (bump 0) = L := by
      have hg : L[n] = 0 := by rw [← gN_get hn, hx, h0]
      show L.set n 0 = L
      conv => lhs; rw [← hg]
      exact List.set_getElem_self hn
    rw [this]
  · have hw : IntKind.wrap .u8 ((x : Int) + 1) = ((bump x : Nat) : Int) := by
      unfold bump
      rw [if_neg h0, show (x : Int) + 1 = ((x + 1 : Nat) : Int) by omega, wrap_u8_modn]
    rw [cnd_t (by simp; omega), hw, setE_iz hn, bnd_some, hL]

theorem gap_prog {i : T_Info} (hr : InfoR i) (h : vI i = true) (k : List Int → Option Bool) (g : Option Bool) (hk : k (iz (gapN i)) = g) :
    (bnd (sub (iz (encI i)) 0 8) fun l1 => bnd (sub (iz (encI i)) 8 ((iz (encI i)).length : Int)) fun l2 => bnd (app 1 ([]) l1) fun l3 => bnd (appZ 1 l3 8 0) fun l4 => bnd (app 1 l4 l2) fun l5 => bnd (loopM (τ := List Int) (fun (s1 : Int × List Int) => bif decide (s1.1 < 6) then (bnd (elt s1.2 s1.1) fun x1 => bif (x1 != 0) then (bnd (setE s1.2 s1.1 (IntKind.wrap .u8 (x1 + 1))) fun l6 => some (.next (IntKind.wrap .i64 (s1.1 + 1), l6))) else (some (.next (IntKind.wrap .i64 (s1.1 + 1), s1.2)))) else (some (.done s1.2))) (2, l5)) fun o2 => bnd (sub o2 0 7) fun l7 => bnd (m_ref01_Sum8 l7) fun r6 => bnd (elt o2 7) fun x2 => bnd (setE o2 7 r6) k) = g := by
  have hsz := (vI_parts h).2.2.2
  have hel := encI_len hr.m
  have ht : (encI i).take 8 = sealN (headI i) := List.take_left' rfl
  have hd : (encI i).drop 8 = areasN i ++ mulN i := List.drop_left' rfl
  have h1 : sub (iz (encI i)) 0 8 = some (iz (sealN (headI i))) := by
    rw [show (0 : Int) = ((0 : Nat) : Int) from rfl, show (8 : Int) = ((8 : Nat) : Int) from rfl, sub_iz (by omega) (by omega), List.drop_zero, ht]
  have h2 : sub (iz (encI i)) 8 ((iz (encI i)).length : Int) = some (iz (areasN i ++ mulN i)) := by
    rw [show (8 : Int) = ((8 : Nat) : Int) from rfl, iz_len, sub_iz (by omega) (by omega), List.take_length, hd]
  have hs : (sealN (headI i)).length = 8 := rfl
  have hrest : (areasN i ++ mulN i).length ≤ 2048 := by rw [← hd, List.length_drop]; omega
  refine bnd_eq h1 ?_
  refine bnd_eq h2 ?_
  refine bnd_eq (a := iz (sealN (headI i))) (app_iz (l := []) (b := 1) (by simp [hs]) (by simp [hs])) ?_
  have hz : appZ 1 (iz (sealN (headI i))) 8 0 = some (iz (sealN (headI i) ++ List.replicate 8 0)) := by
    unfold appZ
    rw [if_pos ⟨by omega, by rw [iz_len, hs]; decide, by rw [iz_len, hs]; decide⟩]
    congr 1
  refine bnd_eq hz ?_
  refine bnd_eq (app_iz (by rw [List.length_append, List.length_replicate]; omega) (by rw [List.length_append, List.length_replicate]; omega)) ?_
  have hlt := lt_headI i
  have hb : (sealN (headI i) ++ List.replicate 8 0) ++ (areasN i ++ mulN i) = bumps 0 (gN (headI i) 2) (gN (headI i) 3) (gN (headI i) 4) (gN (headI i) 5) (negN (sumN (headI i))) (List.replicate 8 0 ++ (areasN i ++ mulN i)) := by
    rw [List.append_assoc]
    rfl
  rw [hb]
  have ga := gN_lt hlt 2
  have gb := gN_lt hlt 3
  have gc := gN_lt hlt 4
  have gd := gN_lt hlt 5
  have hT : (List.replicate 8 0 ++ (areasN i ++ mulN i)).length ≤ 2056 := by rw [List.length_append, List.length_replicate]; omega
  have hG : ∀ s, bumps 4 (gN (headI i) 2) (gN (headI i) 3) (gN (headI i) 4) (gN (headI i) 5) s (List.replicate 8 0 ++ (areasN i ++ mulN i)) = headG i ++ (s :: (List.replicate 8 0 ++ (areasN i ++ mulN i))) := fun s => rfl
  generalize gN (headI i) 2 = a at *
  generalize gN (headI i) 3 = b at *
  generalize gN (headI i) 4 = c at *
  generalize gN (headI i) 5 = d at *
  generalize negN (sumN (headI i)) = s0 at *
  generalize hTT : List.replicate 8 0 ++ (areasN i ++ mulN i) = T at *
  have hbl : ∀ j, (bumps j a b c d s0 T).length = 8 + T.length := fun j => by
    unfold bumps
    rw [List.length_append]
    rfl
  refine bnd_loop (fun j => (((2 + j : Nat) : Int), iz (bumps j a b c d s0 T))) 4 (iz (bumps 4 a b c d s0 T)) rfl (fun j hj => ?_) ?_ ?_
  · have h4 : j = 0 ∨ j = 1 ∨ j = 2 ∨ j = 3 := by omega
    rcases h4 with rfl | rfl | rfl | rfl
    · exact bump_step (n := 2) (x := a) (by rw [hbl]; omega) rfl ga rfl (by omega)
    · exact bump_step (n := 3) (x := b) (by rw [hbl]; omega) rfl gb rfl (by omega)
    · exact bump_step (n := 4) (x := c) (by rw [hbl]; omega) rfl gc rfl (by omega)
    · exact bump_step (n := 5) (x := d) (by rw [hbl]; omega) rfl gd rfl (by omega)
  · rfl
  · rw [hG]
    have h7 : sub (iz (headG i ++ s0 :: T)) 0 7 = some (iz (headG i)) := by
      rw [show (0 : Int) = ((0 : Nat) : Int) from rfl, show (7 : Int) = ((7 : Nat) : Int) from rfl, sub_iz (by omega) (by rw [List.length_append]; show 7 ≤ 7 + _; omega), List.drop_zero]
      rfl
    refine bnd_eq h7 ?_
    refine bnd_eq (Sum8_ref (lt_headG i) (by show 7 ≤ 1000000; omega)) ?_
    refine bnd_eq (a := (s0 : Int)) rfl ?_
    have h8 : setE (iz (headG i ++ s0 :: T)) 7 ((negN (sumN (headG i)) : Nat) : Int) = some (iz (gapN i)) := by
      rw [show (7 : Int) = ((7 : Nat) : Int) from rfl, setE_iz (by rw [List.length_append]; show 7 < 7 + (T.length + 1); omega)]
      congr 2
      rw [← hTT]
      rfl
    exact bnd_eq h8 hk

theorem again_true (b l : List Int) (hb : okL (inK .u8) b) (_ : okL (inK .i64) l) : m_law17_UnitinfoAgain b l = some true := by
  unfold m_law17_UnitinfoAgain
  by_cases c1 : 2100 < b.length
  · rw [cnd_t (decide_eq_true (by omega)), bnd_some, cond_true, awake_ok]
    rfl
  rw [cnd_f (decide_eq_false (by omega))]
  by_cases hl : l.length ≤ 600
  · have : m_made_Light l = some true := by unfold m_made_Light; rw [decide_eq_true (by omega)]
    rw [this, bnd_some, Bool.not_true, bnd_some, cond_false]
    have hroll : m_made_Roll l = some ⟨l, 0⟩ := rfl
    rw [hroll, bnd_some]
    obtain ⟨x, hx, hx1, hx2, hx3, hx4, _, _, _⟩ := info_ex ⟨l, 0⟩ (roll_fair l hl)
    rw [hx, bnd_some]
    obtain ⟨dd, i⟩ := x
    dsimp only at hx1 hx2 hx3 hx4 ⊢
    have hr := hx2.r
    have hE := rEncodeW hx2
    rw [if_pos hx3] at hE
    have hsz := (vI_parts hx3).2.2.2
    have hgl := gap_len hr
    have hel := encI_len hr.m
    refine bnd_eq hE ?_
    dsimp only
    refine gap_prog hr hx3 _ _ ?_
    obtain ⟨bn, hbl, hbe⟩ := okL_iz hb
    have hbn : bn.length ≤ 100000 := by rw [hbe, iz_len] at c1; omega
    rw [hbe]
    refine bnd_eq (again_ok hbl hbn ()) ?_
    rw [retOr_inr]
    refine bnd_eq (again_ok (lt_encI hr hx3) (by omega) ()) ?_
    rw [retOr_inr]
    refine bnd_eq (again_ok (lt_gapN hr hx3) (by omega) (iz (gapN i), iz (gapN i))) ?_
    rw [retOr_inr]
    dsimp only
    rw [uDecode_prog (lt_encI hr hx3) (by omega), dI_enc hr hx3, bnd_some, uDecode_prog (lt_gapN hr hx3) (by omega), bnd_some, awake_ok]
    dsimp only
    by_cases c2 : 2048 < (gapN i).length
    · rw [decide_eq_true (by rw [iz_len]; omega : ((iz (gapN i)).length : Int) > 2048)]
      rfl
    · rw [decide_eq_false (by rw [iz_len]; omega : ¬ ((iz (gapN i)).length : Int) > 2048), dI_gap hr hx3 (by omega)]
      dsimp only
      rw [same_infoW hr (by omega)]
      rfl
  · have : m_made_Light l = some false := by unfold m_made_Light; rw [decide_eq_false (by omega)]
    rw [this, bnd_some, Bool.not_false, bnd_some, cond_true, awake_ok]
    rfl

end Go.Proofs.YtcekbbbjagfacaaDoor
