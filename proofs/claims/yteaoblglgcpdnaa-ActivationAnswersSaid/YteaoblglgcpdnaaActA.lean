/-
  ActivationAnswers: all functions return what the chapter specifies, for plans, also with one thing changed.
  Conditions: none.
-/
import Derived.Test.YteaoblglgcpdnaaActA3
namespace Go.Proofs.Yteaoblglgcpdnaa
open Go
set_option linter.unusedSimpArgs false
set_option linter.unusedVariables false

theorem ints_same {l : List Int} (hl : l.length ≤ 1000) : m_law31_ints l l = some true := by
  unfold m_law31_ints
  rw [bne_self_eq_false]
  simp only [cond_false]
  refine bnd_loop (fun (i : Nat) => (i : Int)) l.length (.inr ()) rfl (fun i hi => ?_) ?_ rfl
  · have d0 : decide ((i : Int) < (l.length : Int)) = true := decide_eq_true (by omega)
    simp only [d0, cond_true, elt_lt hi, bnd_some, wrap_succ hi (by omega), bne_self_eq_false, cond_false]
  · have d0 : decide ((l.length : Int) < (l.length : Int)) = false := by simp
    simp only [d0, cond_false]
theorem same_self {a : List T_Installed} (hl : a.length ≤ 1000) : m_ref27_Same a a = some true := by
  unfold m_ref27_Same
  rw [bne_self_eq_false]
  simp only [cond_false]
  refine bnd_loop (fun (i : Nat) => (i : Int)) a.length (.inr ()) rfl (fun i hi => ?_) ?_ rfl
  · have d0 : decide ((i : Int) < (a.length : Int)) = true := decide_eq_true (by omega)
    simp only [d0, cond_true, elt_lt hi, bnd_some, wrap_succ hi (by omega), BEq.rfl, Bool.and_self, Bool.not_true, cond_false]
  · have d0 : decide ((a.length : Int) < (a.length : Int)) = false := by simp
    simp only [d0, cond_false]

theorem steps_short (p : T_Plan) : (if validN p = 0 then iz (stepsOf p.Now.length (fullP p)) else []).length ≤ 8 := by
  split
  · rename_i hv
    have h := planOk.1 hv
    simp only [iz_len]
    exact Nat.le_trans (List.length_filter_le _ _) (by simp; exact h.le8)
  · simp

theorem elt6 {α : Type} {l : List α} {x : Int} (h0 : 0 ≤ x) (h1 : x < (l.length : Int)) : ∃ y, elt l x = some y := by
  obtain ⟨k, rfl⟩ : ∃ k : Nat, x = (k : Int) := ⟨x.toNat, by omega⟩
  exact ⟨_, elt_lt (by omega)⟩

theorem name_code {c : T_Codes} (h : CodesOk c) : ∃ r, m_field_Codes_Name c = some r ∧ CodesOk r.1 := by
  unfold m_field_Codes_Name
  refine bnd_ex (next2 h (by omega)) fun r1 ⟨hc1, _, _⟩ => ?_
  cases (r1.2 == 23)
  · rw [names_eq]
    simp only [cond_false, bnd_some]
    refine bnd_ex (next2 hc1 (by omega)) fun r4 ⟨hc4, h0, h1⟩ => ?_
    obtain ⟨y, hy⟩ := elt6 (l := sixNames) h0 (by show r4.2 < ((6 : Nat) : Int); omega)
    rw [hy]
    exact ⟨_, rfl, hc4⟩
  · simp only [cond_true]
    refine bnd_ex (next2 hc1 (by omega)) fun r4 ⟨hc4, h0, h1⟩ => ?_
    obtain ⟨y, hy⟩ := elt6 (l := ([⟨#[]⟩, ⟨#[66, 105, 111, 115]⟩, ⟨#[49, 97]⟩, ⟨#[97, 95, 98]⟩, ⟨#[97, 98, 99, 100, 101, 102, 103, 104, 105, 106, 107, 108, 109, 110, 111, 112, 113]⟩, ⟨#[45, 97]⟩] : List ByteArray)) h0 (by show r4.2 < ((6 : Nat) : Int); omega)
    rw [hy]
    exact ⟨_, rfl, hc4⟩

theorem ver_code {c : T_Codes} (h : CodesOk c) : ∃ r, m_field_Codes_Version c = some r ∧ CodesOk r.1 := by
  unfold m_field_Codes_Version
  refine bnd_ex (next2 h (by omega)) fun r1 ⟨hc1, _, _⟩ => ?_
  refine bnd_ex (next2 hc1 (by omega)) fun r2 ⟨hc2, _, _⟩ => ?_
  refine bnd_ex (next2 hc2 (by omega)) fun r3 ⟨hc3, _, _⟩ => ?_
  refine bnd_ex (next2 hc3 (by omega)) fun r4 ⟨hc4, _, _⟩ => ?_
  cases (r4.2 == 29)
  · exact ⟨_, rfl, hc4⟩
  · simp only [cond_true]
    refine bnd_ex (next2 hc4 (by omega)) fun r5 ⟨hc5, h0, h1⟩ => ?_
    obtain ⟨y, hy⟩ := elt6 (l := ([(-1), 999, 1000] : List Int)) h0 (by show r5.2 < ((3 : Nat) : Int); omega)
    rw [hy]
    exact ⟨_, rfl, hc5⟩

theorem odd_ok {c : T_Codes} (h : CodesOk c) {p : T_Plan} (hG : PlanG p) : ∃ r, m_law31_odd c p = some r ∧ CodesOk r.1 := by
  unfold m_law31_odd
  have h1 := compsOk_len hG.now
  have h2 := compsOk_len hG.next
  have h3 := hG.few
  have h2n : p.Next.length = p.Now.length := by have := congrArg List.length hG.names; simpa [namesOf] using this.symm
  have h2w := hG.two
  rw [app_eq (by simp; omega) (by simp; omega), bnd_some, app_eq (by simp; omega) (by simp; omega), bnd_some, app_eq (by simp; omega) (by simp; omega), bnd_some]
  simp only [List.nil_append]
  refine bnd_ex (next2 h (by omega)) fun r1 ⟨hc1, g0, g1⟩ => ?_
  obtain ⟨k, hk⟩ : ∃ k : Nat, r1.2 = (k : Int) := ⟨r1.2.toNat, by omega⟩
  have hkn : k < p.Now.length := by omega
  have hkx : k < p.Next.length := by omega
  rw [hk]
  refine bnd_ex (next2 hc1 (by omega)) fun r2 ⟨hc2, _, _⟩ => ?_
  cases (r2.2 == 0)
  · simp only [cond_false]
    cases (r2.2 == 1)
    · simp only [cond_false]
      cases (r2.2 == 2)
      · simp only [cond_false]
        cases (r2.2 == 3)
        · simp only [cond_false]
          cases (r2.2 == 4)
          · simp only [cond_false]
            cases (r2.2 == 5)
            · exact ⟨_, rfl, hc2⟩
            · simp only [cond_true]
              refine bnd_loop_ex (fun s => s.1.length ≤ 17 ∧ CodesOk ⟨s.2.1, s.2.2⟩) (fun s => 20 - s.1.length) (fun t => CodesOk ⟨t.2.1, t.2.2⟩) ⟨by show p.Needs.length ≤ 17; omega, hc2⟩ (fun s hI => ?_) (fun t ht => ⟨_, rfl, ht⟩)
              obtain ⟨hl, hc⟩ := hI
              refine bnd_ex (next2 hc (by omega)) fun r7 ⟨hc7, g0, g1⟩ => ?_
              rw [wrap_i64 (x := 16 + r7.2) (by omega) (by omega)]
              cases hd : decide ((s.1.length : Int) < 16 + r7.2)
              · exact ⟨_, rfl, hc7⟩
              · have hlt := of_decide_eq_true hd
                simp only [cond_true]
                rw [app_eq (by simp; omega) (by simp; omega), bnd_some]
                refine ⟨_, rfl, ⟨?_, hc7⟩, ?_⟩
                · show (s.1 ++ [_]).length ≤ 17
                  simp
                  omega
                · show 20 - (s.1 ++ [_]).length < 20 - s.1.length
                  simp
                  omega
          · simp only [cond_true]
            refine bnd_ex (next2 hc2 (by omega)) fun r6 ⟨hc6, g0, g1⟩ => ?_
            obtain ⟨y, hy⟩ := elt6 (l := ([0, 3, (-1), 1000] : List Int)) g0 (by show r6.2 < ((4 : Nat) : Int); omega)
            rw [hy, bnd_some, elt_lt hkn, bnd_some, setE_nat hkn, bnd_some]
            exact ⟨_, rfl, hc6⟩
        · simp only [cond_true]
          refine bnd_ex (need_ok hc2) fun r5 hc5 => ?_
          rw [app_eq (by simp; omega) (by simp; omega), bnd_some]
          exact ⟨_, rfl, hc5⟩
      · simp only [cond_true]
        have : ∃ l, sub p.Next 1 (p.Next.length : Int) = some l := by
          unfold sub
          rw [if_pos ⟨by omega, by omega, by omega⟩]
          exact ⟨_, rfl⟩
        obtain ⟨l, hl⟩ := this
        rw [hl]
        exact ⟨_, rfl, hc2⟩
    · simp only [cond_true]
      refine bnd_ex (ver_code hc2) fun r4 hc4 => ?_
      rw [elt_lt hkx, bnd_some, setE_nat hkx, bnd_some]
      exact ⟨_, rfl, hc4⟩
  · simp only [cond_true]
    refine bnd_ex (name_code hc2) fun r3 hc3 => ?_
    rw [elt_lt hkn, bnd_some, setE_nat hkn, bnd_some]
    exact ⟨_, rfl, hc3⟩

theorem sub_ok {l : List Int} {a b : Int} (h0 : 0 ≤ a) (h1 : a ≤ b) (h2 : b ≤ (l.length : Int)) : sub l a b = some ((l.take b.toNat).drop a.toNat) := by
  unfold sub
  rw [if_pos ⟨h0, h1, h2⟩]

theorem list_ok {c : T_Codes} (h : CodesOk c) (p : T_Plan) : ∃ r, m_law31_list c p = some r ∧ CodesOk r.1 ∧ r.2.length ≤ 100 := by
  unfold m_law31_list
  rw [steps_ref, bnd_some]
  have hsl := steps_short p
  generalize (if validN p = 0 then iz (stepsOf p.Now.length (fullP p)) else []) = l0 at hsl
  rw [wrap_i64 (by omega) (by omega)]
  refine bnd_ex (next2 h (by omega)) fun r2 ⟨hc2, g0, g1⟩ => ?_
  obtain ⟨n, hn⟩ : ∃ n : Nat, r2.2 = (n : Int) := ⟨r2.2.toNat, by omega⟩
  rw [hn]
  refine bnd_loop_ex (fun s => ∃ j : Nat, s.2.2.1 = (j : Int) ∧ j ≤ s.2.1.length ∧ s.2.1.length ≤ 8 ∧ s.1.length + j ≤ 8 ∧ CodesOk ⟨s.2.2.2.1, s.2.2.2.2⟩) (fun s => s.2.2.1.toNat) (fun t => t.1.length ≤ 8 ∧ CodesOk ⟨t.2.1, t.2.2⟩) ⟨n, rfl, by show n ≤ l0.length; omega, hsl, by show 0 + n ≤ 8; omega, hc2⟩ (fun s hI => ?_) (fun t ht => ?_)
  · obtain ⟨j, e1, e2, e3, e4, e5⟩ := hI
    obtain ⟨out, l, cnt, L, At⟩ := s
    simp only at e1 e2 e3 e4 e5 ⊢
    subst e1
    by_cases hj : j = 0
    · have d0 : decide ((j : Int) > 0) = false := by subst hj; rfl
      rw [d0]
      exact ⟨_, rfl, by show out.length ≤ 8; omega, e5⟩
    · have d0 : decide ((j : Int) > 0) = true := decide_eq_true (by omega)
      have wj : IntKind.wrap .i64 ((j : Int) - 1) = ((j - 1 : Nat) : Int) := by rw [wrap_i64 (by omega) (by omega)]; omega
      rw [d0]
      simp only [cond_true]
      refine bnd_ex (next2 e5 (by omega)) fun r3 ⟨hc3, k0, k1⟩ => ?_
      obtain ⟨x, hx⟩ := elt6 (l := l) k0 k1
      rw [hx, bnd_some, app_eq (by simp; omega) (by simp; omega), bnd_some]
      refine bnd_ex (next2 hc3 (by omega)) fun r4 ⟨hc4, _, _⟩ => ?_
      rw [wj]
      have hmu : ((j - 1 : Nat) : Int).toNat < ((j : Nat) : Int).toNat := by omega
      cases decide (r4.2 < 9)
      · exact ⟨_, rfl, ⟨j - 1, rfl, by show j - 1 ≤ l.length; omega, e3, by show (out ++ [x]).length + (j - 1) ≤ 8; simp; omega, hc4⟩, hmu⟩
      · simp only [cond_true]
        rw [wrap_i64 (x := r3.2 + 1) (by omega) (by omega), sub_ok (by omega) k0 (by omega), bnd_some, sub_ok (by omega) (by omega) (by omega), bnd_some, app_eq (by simp; omega) (by simp; omega), bnd_some, app_eq (by simp; omega) (by simp; omega), bnd_some]
        have hll : ([] ++ List.drop (Int.toNat 0) (List.take r3.2.toNat l) ++ List.drop (r3.2 + 1).toNat (List.take (l.length : Int).toNat l)).length = l.length - 1 := by
          simp
          omega
        exact ⟨_, rfl, ⟨j - 1, rfl, by show j - 1 ≤ List.length _; rw [hll]; omega, by show List.length _ ≤ 8; rw [hll]; omega, by show (out ++ [x]).length + (j - 1) ≤ 8; simp; omega, hc4⟩, hmu⟩
  · obtain ⟨hl, hc⟩ := ht
    refine bnd_ex (next2 hc (by omega)) fun r5 ⟨hc5, _, _⟩ => ?_
    cases (r5.2 == 11)
    · exact ⟨_, rfl, hc5, by show t.1.length ≤ 100; omega⟩
    · simp only [cond_true]
      refine bnd_ex (next2 hc5 (by omega)) fun r6 ⟨hc6, k0, k1⟩ => ?_
      obtain ⟨y, hy⟩ := elt6 (l := ([(-1), 8, 9223372036854775807, 0] : List Int)) k0 (by show r6.2 < ((4 : Nat) : Int); omega)
      rw [hy, bnd_some, app_eq (by simp; omega) (by simp; omega), bnd_some]
      exact ⟨_, rfl, hc6, by show (t.1 ++ [y]).length ≤ 100; simp; omega⟩

def stAns (p : T_Plan) (l : List Int) : List T_Installed × Int := match gathP p l with | .inl e => ([], (e : Int)) | .inr S => (stateP p S, 0)
def ckAns (p : T_Plan) (l : List Int) : Int × Int := match gathP p l with | .inl e => (0, (e : Int)) | .inr _ => (chkI (goodP p) 0 l 0, 0)
def orAns (p : T_Plan) : List Int × Int := if validN p = 0 then (match orderP p with | some l => (iz l, 0) | none => ([], 41)) else ([], (validN p : Int))
theorem st_a {p : T_Plan} {l : List Int} (hl : l.length ≤ 100000) : m_activation_State p l = some (stAns p l) := State_eq hl
theorem st_b {p : T_Plan} {l : List Int} (hl : l.length ≤ 100000) : m_ref31_State p l = some (stAns p l) := State_ref hl
theorem ck_a {p : T_Plan} {l : List Int} (hl : l.length ≤ 100000) : m_activation_Check p l = some (ckAns p l) := check_list hl
theorem ck_b {p : T_Plan} {l : List Int} (hl : l.length ≤ 100000) : m_ref31_Check p l = some (ckAns p l) := check_ref hl
theorem or_a (p : T_Plan) : m_activation_Order p = some (orAns p) := order_eq p
theorem or_b (p : T_Plan) : m_ref31_Order p = some (orAns p) := order_ref p

theorem answers_true (codes : List Int) (raw : T_Plan) (numbers : List Int) (hc : okL (inK .u8) codes) (hraw : ok_T_Plan raw) (hnum : okL (inK .i64) numbers) : m_law31_ActivationAnswers codes raw numbers = some true := by
  unfold m_law31_ActivationAnswers
  rw [awake_eq]
  simp only [bnd_some, Bool.not_true, cond_false]
  have hfew : ∃ b, ((bif decide ((raw.Now.length : Int) > 20) then (some true) else (bif decide ((raw.Next.length : Int) > 20) then (some true) else (bif decide ((raw.Needs.length : Int) > 40) then (some true) else (some (decide ((numbers.length : Int) > 300))))) : Option Bool)) = some b ∧ (b = false → numbers.length ≤ 300) := by
    cases decide ((raw.Now.length : Int) > 20)
    · cases decide ((raw.Next.length : Int) > 20)
      · cases decide ((raw.Needs.length : Int) > 40)
        · exact ⟨_, rfl, fun hb => by have := of_decide_eq_false hb; omega⟩
        · exact ⟨true, rfl, fun hb => by cases hb⟩
      · exact ⟨true, rfl, fun hb => by cases hb⟩
    · exact ⟨true, rfl, fun hb => by cases hb⟩
  obtain ⟨b, hb, hbn⟩ := hfew
  rw [hb, bnd_some]
  cases b
  rotate_left
  · rfl
  have hn300 := hbn rfl
  simp only [cond_false]
  obtain ⟨c, h1, h2⟩ := made_plan hc
  refine bnd_eq h1 ?_
  obtain ⟨r, h3, hcr, hG⟩ := plan_ok h2
  refine bnd_eq h3 ?_
  obtain ⟨r4, h4, hc4⟩ := odd_ok hcr hG
  refine bnd_eq h4 ?_
  have main : ∀ {X : Option Bool}, (∃ v, X = some v ∧ v = true) → X = some true := fun ⟨v, a, b⟩ => by rw [a, b]
  refine main ?_
  refine bnd_loop_ex (fun s => ∃ i : Nat, s.1 = (i : Int) ∧ i ≤ 3 ∧ CodesOk ⟨s.2.1, s.2.2⟩) (fun s => 3 - s.1.toNat) (fun t => ∃ x, t = .inr x) ⟨0, rfl, by omega, hc4⟩ (fun s hI => ?_) (fun t ht => ?_)
  · obtain ⟨i, e1, e2, e3⟩ := hI
    obtain ⟨s1, L, At⟩ := s
    simp only at e1 e3 ⊢
    subst e1
    by_cases hi : i < 3
    · have d0 : decide ((i : Int) < ((3 : Nat) : Int)) = true := decide_eq_true (by omega)
      obtain ⟨x1, hx1⟩ := elt6 (l := [r.2, r4.2, raw]) (x := (i : Int)) (by omega) (by show (i : Int) < ((3 : Nat) : Int); omega)
      rw [d0]
      simp only [cond_true, hx1, bnd_some]
      obtain ⟨r5, h5, hc5, hl5⟩ := list_ok e3 x1
      rw [h5, bnd_some]
      refine bnd_ex (P := fun o4 => o4.1.length ≤ 300 ∧ CodesOk ⟨o4.2.1, o4.2.2⟩) ?_ fun o4 ⟨hl4, hco⟩ => ?_
      · refine bnd_ex (next2 hc5 (by omega)) fun r6 ⟨hc6, _, _⟩ => ?_
        cases (r6.2 == 5)
        · exact ⟨_, rfl, by show r5.2.length ≤ 300; omega, hc6⟩
        · exact ⟨_, rfl, hn300, hc6⟩
      have hss := steps_short x1
      rw [valid_eq, valid_ref, steps_eq, steps_ref]
      simp only [bnd_some, bne_self_eq_false, cond_false]
      rw [ints_same (by omega), bnd_some]
      simp only [Bool.not_true, bnd_some, cond_false]
      rw [st_a (by omega), st_b (by omega), or_a, or_b]
      have hsame : m_ref27_Same (stAns x1 o4.1).1 (stAns x1 o4.1).1 = some true := by
        unfold stAns
        refine same_self ?_
        cases hg : gathP x1 o4.1 with
        | inl e => simp
        | inr S =>
          have hv : validN x1 = 0 := by
            unfold gathP at hg
            split at hg
            · assumption
            · cases hg
          have := (planOk.1 hv).le8
          simp [stateP]
          omega
      have hord : m_law31_ints (orAns x1).1 (orAns x1).1 = some true := by
        unfold orAns
        refine ints_same ?_
        split
        · rename_i hv
          cases ho : orderP x1 with
          | none => simp
          | some l =>
            have := path_short hv (order_path ho)
            simp
            omega
        · simp
      simp only [bnd_some, bne_self_eq_false, cond_false, hsame, hord, Bool.not_true]
      rw [ck_a (by omega), ck_b (by omega)]
      obtain ⟨R, k1, k2, k3, k4⟩ := reach_same x1
      rw [k1, k2]
      simp only [bnd_some, bne_self_eq_false, cond_false]
      rw [ints_same (by simp; omega), bnd_some]
      simp only [Bool.not_true, bnd_some, cond_false]
      have hRk : ∀ x ∈ iz R, inK .i64 x := fun x hx => by
        unfold iz at hx
        obtain ⟨S, hS, rfl⟩ := List.mem_map.1 hx
        have := k3 S hS
        exact inK_i64.2 ⟨by omega, by omega⟩
      refine bnd_ex (P := fun o8 => (∀ x ∈ o8.1, inK .i64 x) ∧ o8.1.length ≤ 300 ∧ CodesOk ⟨o8.2.1, o8.2.2⟩) ?_ fun o8 ⟨q1, q2, q3⟩ => ?_
      · refine bnd_ex (P := fun o9 => (o9.1 = true → 0 < R.length) ∧ CodesOk ⟨o9.2.1, o9.2.2⟩) ?_ fun o9 ⟨w1, w2⟩ => ?_
        · by_cases hR : 0 < R.length
          · have d1 : decide (((iz R).length : Int) > 0) = true := decide_eq_true (by simp; omega)
            rw [d1]
            simp only [cond_true]
            refine bnd_ex (next2 hco (by omega)) fun r23 ⟨hc23, _, _⟩ => ⟨_, rfl, fun _ => hR, hc23⟩
          · have lR : (iz R).length = R.length := by simp
            have d1 : decide (((iz R).length : Int) > 0) = false := decide_eq_false (by omega)
            rw [d1]
            exact ⟨_, rfl, (fun hh => by cases hh), hco⟩
        · cases ho9 : o9.1
          · exact ⟨_, rfl, hRk, by show (iz R).length ≤ 300; simp; omega, w2⟩
          · have hR := w1 ho9
            simp only [cond_true]
            refine bnd_ex (next2 w2 (n := ((iz R).length : Int)) (by simp; omega)) fun r24 ⟨hc24, g0, g1⟩ => ?_
            have g1' : r24.2 < (R.length : Int) := by simpa using g1
            rw [sub_ok (by omega) g0 (by simp; omega), bnd_some, app_eq (by simp; omega) (by simp; omega), bnd_some]
            refine bnd_ex (next2 hc24 (by omega)) fun r25 ⟨hc25, f0, f1⟩ => ?_
            have f1' : r25.2 < 2 := f1
            have lR : (iz R).length = R.length := by simp
            rw [wrap_i64 (by omega) (by omega), sub_ok (by omega) (by omega) (by omega), bnd_some, app_eq (by simp; omega) (by simp; omega), bnd_some]
            refine ⟨_, rfl, fun x hx => ?_, ?_, hc25⟩
            · rcases List.mem_append.1 hx with hx | hx
              · rcases List.mem_append.1 hx with hx | hx
                · cases hx
                · exact hRk x (List.mem_of_mem_take (List.mem_of_mem_drop hx))
              · exact hRk x (List.mem_of_mem_take (List.mem_of_mem_drop hx))
            · show List.length _ ≤ 300
              simp
              omega
      obtain ⟨b1, t1, t2⟩ := stuck_same (p := x1) q1 (by omega)
      obtain ⟨b2, t3, t4⟩ := stuck_same (p := x1) hnum.1 (by omega)
      rw [t1, t2, t3, t4]
      simp only [bnd_some, BEq.rfl, Bool.not_true, cond_false]
      refine ⟨_, rfl, ⟨i + 1, ?_, by omega, q3⟩, ?_⟩
      · show IntKind.wrap .i64 ((i : Int) + 1) = _
        rw [wrap_i64 (by omega) (by omega)]
        rfl
      · show 3 - (IntKind.wrap .i64 ((i : Int) + 1)).toNat < 3 - ((i : Nat) : Int).toNat
        rw [wrap_i64 (by omega) (by omega)]
        omega
    · have d0 : decide ((i : Int) < ((3 : Nat) : Int)) = false := decide_eq_false (by omega)
      rw [d0]
      exact ⟨_, rfl, _, rfl⟩
  · obtain ⟨x, rfl⟩ := ht
    exact ⟨_, rfl, rfl⟩
end Go.Proofs.Yteaoblglgcpdnaa
