/-
  The law of the returns.
  Conditions: none.
-/
import Derived.Test.YtcekbbbjagfacaaDoorUniH
namespace Go.Proofs.YtcekbbbjagfacaaDoor
open Go
set_option linter.unusedSimpArgs false
set_option linter.unusedVariables false

theorem dI_ne {b : List Nat} {j : Nat} (hj : j < 3) (h : (dA b j).2 ≠ 0) : (dI b).2 ≠ 0 := by
  unfold dI
  split
  · show (4 : Int) ≠ 0
    omega
  · split
    · show (3 : Int) ≠ 0
      omega
    · split
      · show (5 : Int) ≠ 0
        omega
      · split
        · show (6 : Int) ≠ 0
          omega
        · split
          · rename_i h0
            exact h0
          · rename_i h0
            split
            · rename_i h1
              exact h1
            · rename_i h1
              split
              · rename_i h2
                exact h2
              · rename_i h2
                exfalso
                have : j = 0 ∨ j = 1 ∨ j = 2 := by omega
                rcases this with rfl | rfl | rfl
                · exact h0 h
                · exact h1 h
                · exact h2 h

theorem area_hit {E P R : List Nat} {a : T_Area} (hr : AreaR a) {k : Nat} (hk : k < 3) (hp : a.Present = true) (hv : vA a k = true) (hE : E = P ++ (areaN a k ++ R)) (hP : 8 ≤ P.length) (h8 : 8 * gN E (2 + k) = P.length) (hR : R = [] ∨ gN R 0 = 1) (hl : E.length ≤ 2048)
    {n y : Nat} (hn1 : P.length ≤ n) (hn2 : n < P.length + (areaN a k).length) (hy : y < 256) (hne : y ≠ gN E n) : (dA (E.set n y) k).2 ≠ 0 := by
  have hg : gN E n = gN (areaN a k) (n - P.length) := by
    have : n = P.length + (n - P.length) := by omega
    rw [hE]
    conv => lhs; rw [this]
    rw [← gN_drop, List.drop_left' rfl, gN_app (by omega)]
  have hset : E.set n y = P ++ ((areaN a k).set (n - P.length) y ++ R) := by
    rw [hE]
    conv => lhs; rw [show n = P.length + (n - P.length) by omega]
    rw [set_mid (by omega)]
  rw [hset]
  refine dA_changed hr hk hp hv hP ?_ hR (by rw [← hE]; exact hl) (by omega) hy (by rw [← hg]; exact hne)
  rw [hE, gN_app (by omega)] at h8
  exact h8

theorem part_one {a : T_Area} {k : Nat} (hv : vA a k = true) : partN a k = [] ∨ gN (partN a k) 0 = 1 := by
  unfold partN
  cases hp : a.Present
  · rw [if_neg (by simp)]
    exact .inl rfl
  · rw [if_pos rfl]
    obtain ⟨h1, h2⟩ := vA_can hv hp
    exact .inr (area_first h1 h2).1
theorem app_one {l m : List Nat} (h1 : l = [] ∨ gN l 0 = 1) (h2 : m = [] ∨ gN m 0 = 1) : l ++ m = [] ∨ gN (l ++ m) 0 = 1 := by
  rcases h1 with rfl | h1
  · exact h2
  · refine .inr ?_
    have : 0 < l.length := by
      cases l with
      | nil => simp [gN] at h1
      | cons x r => simp
    rw [gN_app this, h1]

theorem dI_changed {i : T_Info} (hr : InfoR i) (h : vI i = true) (hm : i.Multi = []) {n y : Nat} (hn : n < (encI i).length) (hy : y < 256) (hne : y ≠ gN (encI i) n) : (dI ((encI i).set n y)).2 ≠ 0 ∧ (n < 8 → (dI ((encI i).set n y)).2 = 5) := by
  obtain ⟨h1, h2, h3, h4⟩ := vI_parts h
  have hel := encI_len hr.m
  have hs : (sealN (headI i)).length = 8 := rfl
  have hmu : mulN i = [] := by unfold mulN; rw [hm]; rfl
  by_cases c8 : n < 8
  · have h5 : (dI ((encI i).set n y)).2 = 5 := by
      unfold dI
      have hn8 : n < (sealN (headI i)).length := by omega
      have ht : ((encI i).set n y).take 8 = (sealN (headI i)).set n y := by
        rw [List.take_set, show (encI i).take 8 = sealN (headI i) from List.take_left' rfl]
      have hg : gN (encI i) n = (sealN (headI i))[n]'hn8 := by
        unfold encI
        rw [gN_app hn8]
        exact gN_get hn8
      rw [List.length_set, if_neg (by omega), if_neg (by omega), ht, if_pos (sum_changed (lt_seal (lt_headI i)) hn8 hy (fun he => hne (he.trans hg.symm)) (sum_seal _))]
    exact ⟨by rw [h5]; omega, fun _ => h5⟩
  · refine ⟨?_, fun h => absurd h c8⟩
    have q1 := partN_len (vA_can h1) 0
    have q2 := partN_len (vA_can h2) 1
    have q3 := partN_len (vA_can h3) 2
    have hal : (areasN i).length = (partN i.Chassis 0).length + ((partN i.Board 1).length + (partN i.Product 2).length) := by unfold areasN; rw [List.length_append, List.length_append]
    have hml : i.Multi.length = 0 := by rw [hm]; rfl
    have e2 : gN (encI i) 2 = offN i.Chassis 0 := encI_head (by omega)
    have e3 : gN (encI i) 3 = offN i.Board (partN i.Chassis 0).length := encI_head (by omega)
    have e4 : gN (encI i) 4 = offN i.Product ((partN i.Chassis 0).length + (partN i.Board 1).length) := encI_head (by omega)
    have nz : ∀ (a : T_Area) k, 0 < (partN a k).length → a.Present = true := fun a k hpos => by
      unfold partN at hpos
      cases hp : a.Present
      · rw [hp, if_neg (by simp)] at hpos
        simp at hpos
      · rfl
    by_cases d1 : n < 8 + (partN i.Chassis 0).length
    · have hp := nz i.Chassis 0 (by omega)
      have hb : partN i.Chassis 0 = areaN i.Chassis 0 := by unfold partN; rw [if_pos hp]
      refine dI_ne (j := 0) (by omega) (area_hit (P := sealN (headI i)) (R := partN i.Board 1 ++ partN i.Product 2) hr.c (by omega) hp h1 ?_ (by omega) ?_ (app_one (part_one h2) (part_one h3)) h4 (by omega) (by rw [← hb]; omega) hy hne)
      · unfold encI areasN
        rw [hmu, hb, List.append_nil]
      · rw [e2]
        unfold offN
        rw [if_pos hp, hs]
    · by_cases d2 : n < 8 + (partN i.Chassis 0).length + (partN i.Board 1).length
      · have hp := nz i.Board 1 (by omega)
        have hb : partN i.Board 1 = areaN i.Board 1 := by unfold partN; rw [if_pos hp]
        refine dI_ne (j := 1) (by omega) (area_hit (P := sealN (headI i) ++ partN i.Chassis 0) (R := partN i.Product 2) hr.b (by omega) hp h2 ?_ (by rw [List.length_append]; omega) ?_ (part_one h3) h4 (by rw [List.length_append]; omega) (by rw [← hb, List.length_append]; omega) hy hne)
        · unfold encI areasN
          rw [hmu, hb, List.append_nil]
          simp only [List.append_assoc]
        · rw [e3, List.length_append, hs]
          unfold offN
          rw [if_pos hp]
          omega
      · have hp := nz i.Product 2 (by omega)
        have hb : partN i.Product 2 = areaN i.Product 2 := by unfold partN; rw [if_pos hp]
        have hpos := areaN_len (k := 2) (vA_can h3 hp).1 (vA_can h3 hp).2
        rw [← hb] at hpos
        refine dI_ne (j := 2) (by omega) (area_hit (P := sealN (headI i) ++ (partN i.Chassis 0 ++ partN i.Board 1)) (R := []) hr.p (by omega) hp h3 ?_ (by rw [List.length_append]; omega) ?_ (.inl rfl) h4 (by rw [List.length_append, List.length_append]; omega) (by rw [← hb, List.length_append, List.length_append]; omega) hy hne)
        · unfold encI areasN
          rw [hmu, hb, List.append_nil, List.append_nil]
          simp only [List.append_assoc]
        · rw [e4, List.length_append, List.length_append, hs]
          unfold offN
          rw [if_pos hp]
          omega

/-! ## Sameness -/

theorem sameArea_self (a : T_Area) (h : a.Fields.length ≤ 1000000) : m_ref17_sameArea a a = some true := by
  unfold m_ref17_sameArea
  rw [cnd_t (by simp), cnd_t (by simp), cnd_t (by simp), sameL_self _ h]
  rfl
theorem same_self' (l : List Nat) (h : l.length ≤ 1000000) : m_ref01_Same (iz l) (iz l) = some true := by
  rw [same_nat _ _ (by omega)]
  simp
theorem same_info {i : T_Info} (hr : InfoR i) (hm : i.Multi.length ≤ 1000000) : m_ref17_Same i i = some true := by
  obtain ⟨m1, m2, m3⟩ := mul_iz hr.m
  unfold m_ref17_Same
  rw [sameArea_self _ hr.c.len, bnd_some, cond_true, sameArea_self _ hr.b.len, bnd_some, cond_true, sameArea_self _ hr.p.len, bnd_some, cond_true, m1, same_self' _ (by omega)]
  rfl

theorem returns_true (l : List Int) (at_ mask : Int) (_ : okL (inK .i64) l) (hat : inK .i64 at_) (hmask : inK .u8 mask) : m_law17_UnitinfoReturns l at_ mask = some true := by
  have hmask' : 0 ≤ mask ∧ mask ≤ 255 := hmask
  unfold m_law17_UnitinfoReturns
  by_cases hl : l.length ≤ 600
  · have : m_made_Light l = some true := by unfold m_made_Light; rw [decide_eq_true (by omega)]
    rw [this, bnd_some, Bool.not_true, cond_false]
    have hroll : m_made_Roll l = some ⟨l, 0⟩ := rfl
    rw [hroll, bnd_some]
    obtain ⟨x, hx, hx1, hx2, hx3, hx4, _, _, _⟩ := info_ex ⟨l, 0⟩ (roll_fair l hl)
    rw [hx, bnd_some]
    obtain ⟨d, i⟩ := x
    dsimp only at hx1 hx2 hx3 hx4 ⊢
    have hr := hx2.r
    have hE := uEncode_prog hr (by omega)
    rw [if_pos hx3] at hE
    have hsz := (vI_parts hx3).2.2.2
    have hel := encI_len hr.m
    have q1 := partN_len (vA_can (vI_parts hx3).1) 0
    have q2 := partN_len (vA_can (vI_parts hx3).2.1) 1
    have q3 := partN_len (vA_can (vI_parts hx3).2.2.1) 2
    have hal : (areasN i).length = (partN i.Chassis 0).length + ((partN i.Board 1).length + (partN i.Product 2).length) := by unfold areasN; rw [List.length_append, List.length_append]
    refine bnd_eq hE ?_
    dsimp only
    rw [uDecode_prog (lt_encI hr hx3) (by omega), dI_enc hr hx3, bnd_some]
    dsimp only
    have hn : IntKind.wrap .i64 (((iz (encI i)).length : Int) - (i.Multi.length : Int)) = ((8 + (areasN i).length : Nat) : Int) := by rw [iz_len, wrap_i64 (by omega) (by omega)]; omega
    rw [hn]
    have ho1 : (bnd (m_unitinfo_Valid i) fun r7 => bif !r7 then (some true) else (bif ((0 : Int) != 0) then (some true) else (bif ((0 : Int) != 0) then (some true) else (bnd (m_ref17_Same i i) fun r8 => bif !r8 then (some true) else (bif decide (((8 + (areasN i).length : Nat) : Int) < 8) then (some true) else (some ((((8 + (areasN i).length : Nat) : Int).tmod 8) != 0)))))) : Option Bool) = some false := by
      rw [uValid_prog hr (by omega), hx3, bnd_some, Bool.not_true, cond_false, cnd_f (by rfl), cnd_f (by rfl), same_info hr (by omega), bnd_some, Bool.not_true, cond_false, decide_eq_false (by omega), cond_false, show (8 : Int) = ((8 : Nat) : Int) from rfl, tmod_n, show (8 + (areasN i).length) % 8 = 0 by omega]
      rfl
    refine bnd_eq ho1 ?_
    rw [cond_false]
    by_cases hm0 : mask = 0
    · rw [cnd_t (by rw [hm0]; rfl), awake_ok]
      rfl
    rw [cnd_f (by simpa using hm0)]
    -- without the rest
    have hr' : InfoR ⟨i.Chassis, i.Board, i.Product, []⟩ := ⟨hr.c, hr.b, hr.p, ⟨(fun x hx => by cases hx), by simp⟩⟩
    have hel' := encI_len hr'.m
    have har : areasN ⟨i.Chassis, i.Board, i.Product, []⟩ = areasN i := rfl
    rw [har] at hel'
    have hml : (⟨i.Chassis, i.Board, i.Product, []⟩ : T_Info).Multi.length = 0 := rfl
    have hv' : vI ⟨i.Chassis, i.Board, i.Product, []⟩ = true := by
      unfold vI
      dsimp only
      rw [(vI_parts hx3).1, (vI_parts hx3).2.1, (vI_parts hx3).2.2.1, decide_eq_true (by omega)]
      rfl
    have hE' := uEncode_prog hr' (by omega)
    rw [if_pos hv'] at hE'
    refine bnd_eq hE' ?_
    dsimp only
    have hlen' : (encI ⟨i.Chassis, i.Board, i.Product, []⟩).length = 8 + (areasN i).length := by omega
    have hlt' := lt_encI hr' hv'
    generalize hEE : encI ⟨i.Chassis, i.Board, i.Product, []⟩ = e at *
    rw [show (bif ((0 : Int) != 0) then (some true) else (some (((iz e).length : Int) != ((8 + (areasN i).length : Nat) : Int))) : Option Bool) = some false by rw [iz_len, hlen']; simp, bnd_some, cond_false]
    obtain ⟨m, hmod, m0, m1, _⟩ := mod_some at_ ((8 + (areasN i).length : Nat) : Int) (by omega) (by omega)
    rw [hmod, bnd_some]
    obtain ⟨n, rfl⟩ : ∃ n : Nat, m = (n : Int) := ⟨m.toNat, by omega⟩
    obtain ⟨y, rfl⟩ : ∃ y : Nat, mask = (y : Int) := ⟨mask.toNat, by omega⟩
    have hn' : n < e.length := by omega
    have hxb := gN_lt hlt' n
    refine bnd_eq (elt_gN hn') ?_
    rw [iXor_u8 hxb (by omega)]
    refine bnd_eq (setE_iz hn' _) ?_
    have hxy := Nat.xor_lt_two_pow (x := gN e n) (y := y) (n := 8) hxb (by omega)
    have hset : lt256 (e.set n (gN e n ^^^ y)) := lt_set hlt' _ hxy
    rw [uDecode_prog hset (by rw [List.length_set]; omega), bnd_some]
    have hne : gN e n ^^^ y ≠ gN e n := fun he => by
      have h2 : gN e n ^^^ (gN e n ^^^ y) = gN e n ^^^ gN e n := by rw [he]
      rw [← Nat.xor_assoc, Nat.xor_self, Nat.zero_xor] at h2
      exact hm0 (by rw [h2]; rfl)
    have hch := dI_changed (n := n) (y := gN e n ^^^ y) hr' hv' rfl (by rw [hEE]; exact hn') hxy (by rw [hEE]; exact hne)
    rw [hEE] at hch
    obtain ⟨g1, g2⟩ := hch
    rw [cnd_t (by simpa using g1)]
    by_cases h8 : n < 8
    · rw [decide_eq_false (by omega), cond_false, g2 h8, cnd_t (by rfl), awake_ok]
      rfl
    · rw [decide_eq_true (by omega), cond_true, awake_ok]
      rfl
  · have : m_made_Light l = some false := by unfold m_made_Light; rw [decide_eq_false (by omega)]
    rw [this, bnd_some, Bool.not_false, cond_true, awake_ok]
    rfl

end Go.Proofs.YtcekbbbjagfacaaDoor
