/-
  The law of what is decoded.
  Conditions: none.
-/
import Derived.Test.YtcekbbbjagfacaaDoorUniR
namespace Go.Proofs.YtcekbbbjagfacaaDoor
open Go
set_option linter.unusedSimpArgs false
set_option linter.unusedVariables false

theorem sameArea_selfZ (a : T_Area) (h : a.Fields.length ≤ 1000000) : m_ref17_sameArea a a = some true := by
  unfold m_ref17_sameArea
  rw [cnd_t (by simp), cnd_t (by simp), cnd_t (by simp), sameL_self _ h]
  rfl
theorem same_infoZ {i : T_Info} (hr : InfoR i) (hm : i.Multi.length ≤ 1000000) : m_ref17_Same i i = some true := by
  obtain ⟨m1, m2, m3⟩ := mul_iz hr.m
  have hs : m_ref01_Same (iz (mulN i)) (iz (mulN i)) = some true := by
    rw [same_nat _ _ (by omega)]
    simp
  unfold m_ref17_Same
  rw [sameArea_selfZ _ hr.c.len, bnd_some, cond_true, sameArea_selfZ _ hr.b.len, bnd_some, cond_true, sameArea_selfZ _ hr.p.len, bnd_some, cond_true, m1, hs]
  rfl

theorem dI_r {b : List Nat} (hb : lt256 b) (hl : b.length ≤ 100000) : InfoR (dI b).1 ∧ (dI b).1.Multi.length ≤ 100000 := by
  have hno : InfoR noI ∧ noI.Multi.length ≤ 100000 := ⟨⟨noneR, noneR, noneR, ⟨(fun x hx => by cases hx), by simp [noI]⟩⟩, by simp [noI]⟩
  have hmk : InfoR (mkI b) ∧ (mkI b).Multi.length ≤ 100000 := ⟨mkI_r hb hl, by have := muN_len b; show (iz (muN b)).length ≤ 100000; rw [iz_len]; omega⟩
  unfold dI
  split
  · exact hno
  · split
    · exact hno
    · split
      · exact hno
      · split
        · exact hno
        · split
          · exact hno
          · split
            · exact hno
            · split
              · exact hno
              · split
                · exact hno
                · split
                  · exact hmk
                  · exact hno

theorem chk_iz {l m : List Nat} (h : m.length = l.length) : chkLen (iz l).length (iz m) = some (iz m) := by
  unfold chkLen
  rw [if_pos (by rw [iz_len, iz_len, h])]

/-- A byte string that is not long. -/
def strP (x : List Int) : Prop := ∃ m, x = iz m ∧ lt256 m ∧ m.length ≤ 20000

theorem seal_ex {l : List Nat} (hb : lt256 l) (h8 : 8 ≤ l.length) (hl : l.length ≤ 10000) {at_ : Int} (h0 : 0 ≤ at_) (h1 : at_ ≤ 100) : ∃ r, m_law17_seal (iz l) at_ = some r ∧ ∃ l', r = iz l' ∧ lt256 l' ∧ l'.length = l.length := by
  obtain ⟨a, rfl⟩ : ∃ a : Nat, at_ = (a : Int) := ⟨at_.toNat, by omega⟩
  unfold m_law17_seal
  rw [show sub (iz l) 0 7 = some (iz (l.take 7)) by rw [show (0 : Int) = ((0 : Nat) : Int) from rfl, show (7 : Int) = ((7 : Nat) : Int) from rfl, sub_iz (by omega) (by omega), List.drop_zero], bnd_some, Sum8_ref (hb.take 7) (by rw [List.length_take]; omega), bnd_some]
  rw [show elt (iz l) 7 = some ((gN l 7 : Nat) : Int) from elt_gN (i := 7) (by omega), bnd_some, show setE (iz l) 7 ((negN (sumN (l.take 7)) : Nat) : Int) = some (iz (l.set 7 (negN (sumN (l.take 7))))) from setE_iz (i := 7) (by omega) _, bnd_some]
  have hm : lt256 (l.set 7 (negN (sumN (l.take 7)))) := lt_set hb _ (Nat.mod_lt _ (by omega))
  have hml : (l.set 7 (negN (sumN (l.take 7)))).length = l.length := List.length_set
  generalize l.set 7 (negN (sumN (l.take 7))) = m at *
  have w2 : IntKind.wrap .i64 ((a : Int) + 2) = ((a + 2 : Nat) : Int) := by rw [wrap_i64 (by omega) (by omega)]; omega
  have w1 : IntKind.wrap .i64 ((a : Int) + 1) = ((a + 1 : Nat) : Int) := by rw [wrap_i64 (by omega) (by omega)]; omega
  rw [w2, w1]
  by_cases c1 : a + 2 ≤ m.length
  · rw [cnd_t (decide_eq_true (by rw [iz_len]; omega)), elt_gN (by omega), bnd_some]
    have hy := gN_lt hm (a + 1)
    generalize gN m (a + 1) = y at *
    have w3 : IntKind.wrap .i64 (8 * (IntKind.wrap .i64 ((y : Nat) : Int))) = ((8 * y : Nat) : Int) := by rw [wrap_i64n (by omega), wrap_i64 (by omega) (by omega)]; omega
    have w4 : IntKind.wrap .i64 ((a : Int) + ((8 * y : Nat) : Int)) = ((a + 8 * y : Nat) : Int) := by rw [wrap_i64 (by omega) (by omega)]; omega
    rw [w3, w4]
    by_cases c2 : 0 < y ∧ a + 8 * y ≤ m.length
    · have w5 : IntKind.wrap .i64 (((a + 8 * y : Nat) : Int) - 1) = ((a + 8 * y - 1 : Nat) : Int) := by rw [wrap_i64 (by omega) (by omega)]; omega
      rw [decide_eq_true (by omega : ((8 * y : Nat) : Int) > 0), cond_true, bnd_some, decide_eq_true (by rw [iz_len]; omega), cond_true, w5, sub_iz (by omega) (by omega), bnd_some, Sum8_ref ((hm.take _).drop _) (by rw [List.length_drop, List.length_take]; omega), bnd_some, elt_gN (by omega), bnd_some, setE_iz (by omega), bnd_some]
      exact ⟨_, rfl, _, rfl, lt_set hm _ (Nat.mod_lt _ (by omega)), by rw [List.length_set]; exact hml⟩
    · have : (bif decide (((8 * y : Nat) : Int) > 0) then (some (decide (((a + 8 * y : Nat) : Int) ≤ ((iz m).length : Int)))) else (some false) : Option Bool) = some false := by
        by_cases d0 : 0 < y
        · rw [decide_eq_true (by omega), cond_true, decide_eq_false (by rw [iz_len]; omega)]
        · rw [decide_eq_false (by omega)]
          rfl
      rw [this, bnd_some, cond_false]
      exact ⟨_, rfl, _, rfl, hm, hml⟩
  · rw [cnd_f (decide_eq_false (by rw [iz_len]; omega))]
    exact ⟨_, rfl, _, rfl, hm, hml⟩

theorem decodes_true (b l : List Int) (hb : okL (inK .u8) b) (_ : okL (inK .i64) l) : m_law17_UnitinfoDecodes b l = some true := by
  unfold m_law17_UnitinfoDecodes
  by_cases c1 : 2100 < b.length
  · rw [cnd_t (decide_eq_true (by omega)), bnd_some, cond_true, awake_ok]
    rfl
  rw [cnd_f (decide_eq_false (by omega))]
  by_cases hl : l.length ≤ 600
  · have : m_made_Light l = some true := by unfold m_made_Light; rw [decide_eq_true (by omega)]
    rw [this, bnd_some, Bool.not_true, bnd_some, cond_false]
    have hroll : m_made_Roll l = some ⟨l, 0⟩ := rfl
    rw [hroll, bnd_some]
    obtain ⟨x, hx, hx1, hx2, hx3, hx4, _, _, _⟩ := info_ex ⟨l, 0⟩ (roll_fair l hl)
    rw [hx, bnd_some]
    obtain ⟨d, i⟩ := x
    dsimp only at hx1 hx2 hx3 hx4 ⊢
    have hr := hx2.r
    have hE : m_ref17_Encode i = some (iz (encI i), 0) := by
      unfold m_ref17_Encode
      refine bnd_eq (bytes_ref hx2) ?_
      rw [if_pos hx3]
      rfl
    have hsz := (vI_parts hx3).2.2.2
    have hel := encI_len hr.m
    have hlt := lt_encI hr hx3
    refine bnd_eq hE ?_
    dsimp only
    have hmin : 8 ≤ (encI i).length := by omega
    generalize encI i = e at *
    refine bnd_eq (app_iz (l := []) (by simp; omega) (by simp; omega)) ?_
    rw [List.nil_append, iz_len]
    have key : ∀ {α : Type} {o : Option α} {P : α → Prop} {k : α → Option Bool}, (∃ a, o = some a ∧ P a) → (∀ a, P a → k a = some true) → bnd o k = some true := by
      intro α o P k ⟨a, h1, h2⟩ h3
      rw [h1]
      exact h3 a h2
    refine key (next_ex d (e.length : Int) hx1 (by omega) (by omega)) fun r6 ⟨n1, n2, n3⟩ => ?_
    refine key (P := fun y : Int × List Int × Int => Fair ⟨y.2.1, y.2.2⟩ ∧ 0 ≤ y.1 ∧ y.1 < (e.length : Int)) ?_ fun o2 ⟨p1, p2, p3⟩ => ?_
    · obtain ⟨q, hq, hq1⟩ := bool_ex r6.1 2 n1 (by omega) (by omega)
      rw [hq, bnd_some]
      cases q.2
      · exact ⟨_, rfl, hq1, n2, n3⟩
      · obtain ⟨u, hu, hu1, hu2, hu3⟩ := next_ex q.1 8 hq1 (by omega) (by omega)
        rw [cond_true, hu, bnd_some]
        exact ⟨_, rfl, hu1, hu2, by dsimp only; omega⟩
    refine key (byte_ex ⟨o2.2.1, o2.2.2⟩ p1) fun r9 ⟨s1, n, hn, hne⟩ => ?_
    obtain ⟨k, hk⟩ : ∃ k : Nat, o2.1 = (k : Int) := ⟨o2.1.toNat, by omega⟩
    rw [hk, hne, elt_gN (by omega), bnd_some, setE_iz (by omega), bnd_some]
    have he2 : lt256 (e.set k n) := lt_set hlt _ hn
    have he2l : (e.set k n).length = e.length := List.length_set
    generalize e.set k n = e2 at *
    refine key (P := fun y : List Int × List Int × Int => Fair ⟨y.2.1, y.2.2⟩ ∧ ∃ m, y.1 = iz m ∧ lt256 m ∧ m.length = e.length) ?_ fun o3 ⟨t1, bad, t2, t3, t4⟩ => ?_
    · obtain ⟨q, hq, hq1⟩ := bool_ex r9.1 3 s1 (by omega) (by omega)
      rw [hq, bnd_some]
      cases q.2
      · exact ⟨_, rfl, hq1, e2, rfl, he2, he2l⟩
      · obtain ⟨u, hu, hu1, hu2, hu3⟩ := next_ex q.1 5 hq1 (by omega) (by omega)
        obtain ⟨v, hv⟩ : ∃ v : Nat, u.2 = (v : Int) := ⟨u.2.toNat, by omega⟩
        rw [cond_true, hu, bnd_some, elt_gN (by omega), bnd_some, hv, wrap_u8n (by omega), setE_iz (by omega), bnd_some]
        exact ⟨_, rfl, hu1, _, rfl, lt_set he2 _ (by omega), by rw [List.length_set]; exact he2l⟩
    rw [t2]
    refine bnd_eq (app_iz (l := []) (by simp; omega) (by simp; omega)) ?_
    rw [List.nil_append]
    refine key (next_ex ⟨o3.2.1, o3.2.2⟩ 3 t1 (by omega) (by omega)) fun r12 ⟨u1, u2, u3⟩ => ?_
    rw [wrap_i64 (x := 1 + r12.2) (by omega) (by omega), wrap_i64 (x := 8 * (1 + r12.2)) (by omega) (by omega)]
    refine key (seal_ex t3 (by omega) (by omega) (by omega) (by omega)) fun r13 ⟨m1, v1, v2, v3⟩ => ?_
    rw [v1]
    refine bnd_eq (chk_iz (by omega)) ?_
    refine key (seal_ex v2 (by omega) (by omega) (by omega) (by omega)) fun r14 ⟨m2, w1, w2, w3⟩ => ?_
    rw [w1]
    refine bnd_eq (chk_iz (by omega)) ?_
    rw [iz_len, wrap_i64 (by omega) (by omega)]
    refine key (next_ex r12.1 ((m2.length : Int) + 1) u1 (by omega) (by omega)) fun r15 ⟨x1, x2, x3⟩ => ?_
    obtain ⟨cc, hcc⟩ : ∃ cc : Nat, r15.2 = (cc : Int) := ⟨r15.2.toNat, by omega⟩
    rw [hcc, show (0 : Int) = ((0 : Nat) : Int) from rfl, sub_iz (by omega) (by omega), bnd_some, List.drop_zero]
    refine key (next_ex r15.1 3 x1 (by omega) (by omega)) fun r16 ⟨y1, y2, y3⟩ => ?_
    obtain ⟨z, hz⟩ : ∃ z : Nat, r16.2 = (z : Int) := ⟨r16.2.toNat, by omega⟩
    have hw : IntKind.wrap .i64 (2047 + r16.2) = ((2047 + z : Nat) : Int) := by rw [wrap_i64 (by omega) (by omega)]; omega
    rw [hw, show mkS 1 ((0 : Nat) : Int) ((2047 + z : Nat) : Int) ((2047 + z : Nat) : Int) = some (iz (List.replicate (2047 + z) 0)) from mkS_iz (b := 1) (n := 2047 + z) (by omega) (by omega), bnd_some]
    obtain ⟨bn, hbl, hbe⟩ := okL_iz hb
    have hbn : bn.length ≤ 2100 := by rw [hbe, iz_len] at c1; omega
    have hall : ∀ j (hj : j < 6), ∃ y, ([b, iz e, iz bad, iz m2, iz (m2.take cc), iz (List.replicate (2047 + z) 0)] : List (List Int))[j]? = some y ∧ strP y := by
      intro j hj
      have : j = 0 ∨ j = 1 ∨ j = 2 ∨ j = 3 ∨ j = 4 ∨ j = 5 := by omega
      rcases this with rfl | rfl | rfl | rfl | rfl | rfl
      · exact ⟨_, rfl, bn, hbe, hbl, by omega⟩
      · exact ⟨_, rfl, e, rfl, hlt, by omega⟩
      · exact ⟨_, rfl, bad, rfl, t3, by omega⟩
      · exact ⟨_, rfl, m2, rfl, w2, by omega⟩
      · exact ⟨_, rfl, _, rfl, w2.take _, by rw [List.length_take]; omega⟩
      · exact ⟨_, rfl, _, rfl, lt_replicate _, by rw [List.length_replicate]; omega⟩
    refine bnd_loop (fun i => (i : Int)) 6 (.inr ()) rfl (fun j hj => ?_) rfl ?_
    · rw [decide_eq_true (by omega : (j : Int) < ((6 : Nat) : Int)), cond_true]
      obtain ⟨y, hy1, m, hm1, hm2, hm3⟩ := hall j hj
      rw [show elt ([b, iz e, iz bad, iz m2, iz (m2.take cc), iz (List.replicate (2047 + z) 0)] : List (List Int)) (j : Int) = some y by rw [elt_nat]; exact hy1, bnd_some, hm1, uDecode_prog hm2 (by omega), bnd_some, Decode_refU hm2 (by omega), bnd_some, cnd_f (by simp)]
      obtain ⟨q1, q2⟩ := dI_r hm2 (by omega)
      rw [same_infoZ q1 (by omega), bnd_some, Bool.not_true, bnd_some, cond_false, wrap_succ hj (by omega)]
    · rw [retOr_inr, awake_ok]
      rfl
  · have : m_made_Light l = some false := by unfold m_made_Light; rw [decide_eq_false (by omega)]
    rw [this, bnd_some, Bool.not_false, bnd_some, cond_true, awake_ok]
    rfl

end Go.Proofs.YtcekbbbjagfacaaDoor
