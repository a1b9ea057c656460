/-
  Chapter 31: the plans that are made of numbers.
  Conditions: none.
-/
import Derived.Test.YteaoblglgcpdnaaAct3
import Derived.Test.YteaoblglgcpdnaaCodes
namespace Go.Proofs.Yteaoblglgcpdnaa
open Go
set_option linter.unusedSimpArgs false
set_option linter.unusedVariables false

theorem bnd_loop_ex {σ τ ρ : Type} {m : σ → Option (Step σ τ)} {s0 : σ} {k : τ → Option ρ} {R : ρ → Prop} (I : σ → Prop) (μ : σ → Nat) (Q : τ → Prop) (h0 : I s0)
    (h : ∀ s, I s → ∃ r, m s = some r ∧ match r with | .next s' => I s' ∧ μ s' < μ s | .done t => Q t) (hk : ∀ t, Q t → ∃ r, k t = some r ∧ R r) : ∃ r, bnd (loopM m s0) k = some r ∧ R r := by
  refine bnd_loop_inv I μ Q h0 (fun s hI => ?_) hk
  obtain ⟨r, h1, h2⟩ := h s hI
  cases r with
  | next s' => exact .inl ⟨s', h1, h2.1, h2.2⟩
  | done t => exact .inr ⟨t, h1, h2⟩

def sixNames : List ByteArray := [⟨#[98, 105, 111, 115]⟩, ⟨#[99, 112, 108, 100]⟩, ⟨#[109, 101]⟩, ⟨#[112, 115, 117]⟩, ⟨#[120, 45, 49]⟩, ⟨#[122, 122]⟩]
theorem names_eq : m_field_names = some sixNames := rfl

/-- What is asked of names in a row. -/
def namesChk (l : List ByteArray) : Bool := decide (l.length ≤ 8) && (List.range l.length).all fun i => match l[i]? with
  | some x => nameOk x && (i == 0 || match l[i - 1]? with | some y => blt y x | none => true)
  | none => true
theorem comps_of {l : List T_Installed} (h : namesChk (l.map (·.Name)) = true) (hv : ∀ x ∈ l, verOk x.Version = true) : compsOk l = true := by
  unfold namesChk at h
  rw [List.length_map] at h
  obtain ⟨h1, h2⟩ := Bool.and_eq_true_iff.1 h
  unfold compsOk
  refine Bool.and_eq_true_iff.2 ⟨h1, List.all_eq_true.2 fun i hi => ?_⟩
  have hil : i < l.length := by simpa using hi
  have h3 := List.all_eq_true.1 h2 i hi
  unfold cOk
  rw [List.getElem?_map, List.getElem?_map] at h3
  rw [List.getElem?_eq_getElem hil] at h3 ⊢
  simp only [Option.map_some, Bool.and_eq_true] at h3 ⊢
  refine ⟨⟨h3.1, hv _ (List.getElem_mem hil)⟩, ?_⟩
  have h4 := h3.2
  cases hp : l[i - 1]? with
  | none => simp
  | some y =>
    rw [hp] at h4
    exact h4
set_option maxRecDepth 20000 in
theorem six_chk : ∀ k, k < 7 → namesChk (sixNames.take k) = true := by decide
set_option maxRecDepth 20000 in
theorem six_ok : ∀ i, i < 6 → nameOk ((sixNames[i]?).getD ⟨#[]⟩) = true := by decide
set_option maxRecDepth 20000 in
theorem six_diff : ∀ i, i < 6 → ∀ j, j < 6 → i ≠ j → bs ((sixNames[i]?).getD ⟨#[]⟩) ≠ bs ((sixNames[j]?).getD ⟨#[]⟩) := by decide

structure PlanG (p : T_Plan) : Prop where
  now : compsOk p.Now = true
  next : compsOk p.Next = true
  needs : needsOk p.Needs = true
  names : namesOf p.Now = namesOf p.Next
  few : p.Needs.length ≤ 6
  two : 2 ≤ p.Now.length

theorem ver_small {v : Int} (h0 : 0 ≤ v) (h1 : v ≤ 999) : verOk ⟨v, 0, 0⟩ = true := by
  unfold verOk
  simp [h0, h1]

theorem next2 {c : T_Codes} (h : CodesOk c) {n : Int} (hn : 1 ≤ n) : ∃ r, m_field_Codes_Next c n = some r ∧ CodesOk r.1 ∧ 0 ≤ r.2 ∧ r.2 < n := by
  obtain ⟨c', x, h1, h2, h3, h4⟩ := next_ok h n
  exact ⟨(c', x), h1, h2, h3, by show x < n; omega⟩

theorem plan_ok {c : T_Codes} (h : CodesOk c) : ∃ r, m_field_Codes_Plan c = some r ∧ CodesOk r.1 ∧ PlanG r.2 := by
  unfold m_field_Codes_Plan
  rw [names_eq]
  simp only [bnd_some]
  refine bnd_ex (next2 h (by omega)) fun r2 ⟨hc2, h20, h21⟩ => ?_
  obtain ⟨x, hx⟩ : ∃ x : Nat, r2.2 = (x : Int) := ⟨r2.2.toNat, by omega⟩
  have hsub : sub sixNames 0 (IntKind.wrap .i64 (2 + r2.2)) = some (sixNames.take (2 + x)) := by
    rw [hx, wrap_i64 (by omega) (by omega)]
    unfold sub
    rw [if_pos ⟨by omega, by omega, by show (2 + (x : Int)) ≤ ((6 : Nat) : Int); omega⟩]
    rw [show (2 + (x : Int)).toNat = 2 + x by omega]
    rfl
  rw [hsub]
  simp only [bnd_some]
  generalize hl1 : sixNames.take (2 + x) = l1
  have hlen : l1.length = 2 + x := by
    rw [← hl1, List.length_take]
    show min (2 + x) 6 = _
    omega
  have hget : ∀ i (hi : i < l1.length), l1[i] = (sixNames[i]?).getD ⟨#[]⟩ := fun i hi => by
    subst hl1
    rw [List.getElem_take]
    have : i < sixNames.length := by rw [List.length_take] at hi; omega
    rw [List.getElem?_eq_getElem this]
    rfl
  have hchk : namesChk l1 = true := by rw [← hl1]; exact six_chk _ (by omega)
  refine bnd_loop_ex (fun s => ∃ i : Nat, i ≤ l1.length ∧ s.1 = (i : Int) ∧ s.2.1.map (·.Name) = l1.take i ∧ s.2.2.1.map (·.Name) = l1.take i ∧ (∀ y ∈ s.2.1, verOk y.Version = true) ∧ (∀ y ∈ s.2.2.1, verOk y.Version = true) ∧ CodesOk ⟨s.2.2.2.1, s.2.2.2.2⟩)
    (fun s => l1.length - s.1.toNat)
    (fun t => t.1.map (·.Name) = l1 ∧ t.2.1.map (·.Name) = l1 ∧ (∀ y ∈ t.1, verOk y.Version = true) ∧ (∀ y ∈ t.2.1, verOk y.Version = true) ∧ CodesOk ⟨t.2.2.1, t.2.2.2⟩)
    ⟨0, by omega, rfl, rfl, rfl, by simp, by simp, hc2⟩ (fun s hI => ?_) (fun o1 ho1 => ?_)
  · obtain ⟨i, hi, e1, e2, e3, e4, e5, e6⟩ := hI
    obtain ⟨s1, now, next, L, At⟩ := s
    simp only at e1 e2 e3 e4 e5 e6 ⊢
    subst e1
    have hln : now.length = i := by have := congrArg List.length e2; simpa [Nat.min_eq_left hi] using this
    have hlx : next.length = i := by have := congrArg List.length e3; simpa [Nat.min_eq_left hi] using this
    by_cases hin : i < l1.length
    · have d0 : decide ((i : Int) < (l1.length : Int)) = true := by simp; omega
      simp only [d0, cond_true, elt_lt hin, bnd_some, wrap_succ hin (by omega)]
      rw [app_eq (by simp; omega) (by simp; omega)]
      simp only [bnd_some]
      refine bnd_ex (next2 e6 (by omega)) fun r3 ⟨hc3, h30, h31⟩ => ?_
      rw [app_eq (by simp; omega) (by simp; omega)]
      have hdiv : (IntKind.wrap .i64 ((IntKind.wrap .i64 (r3.2 + 2)).tdiv 3)) = (r3.2 + 2).tdiv 3 ∧ 0 ≤ (r3.2 + 2).tdiv 3 ∧ (r3.2 + 2).tdiv 3 ≤ 1 := by
        rw [wrap_i64 (x := r3.2 + 2) (by omega) (by omega)]
        have : r3.2 = 0 ∨ r3.2 = 1 ∨ r3.2 = 2 ∨ r3.2 = 3 := by omega
        rcases this with g | g | g | g <;> rw [g] <;> decide
      rw [hdiv.1, wrap_i64 (x := 1 + (r3.2 + 2).tdiv 3) (by omega) (by omega)]
      refine ⟨_, rfl, ⟨i + 1, by omega, rfl, ?_, ?_, ?_, ?_, hc3⟩, ?_⟩
      · show (now ++ [_]).map _ = _
        rw [List.map_append, e2, take_succ_get hin]
        rfl
      · show (next ++ [_]).map _ = _
        rw [List.map_append, e3, take_succ_get hin]
        rfl
      · intro y hy
        rcases List.mem_append.1 hy with hy | hy
        · exact e4 y hy
        · simp only [List.mem_singleton] at hy
          subst hy
          exact ver_small (by omega) (by omega)
      · intro y hy
        rcases List.mem_append.1 hy with hy | hy
        · exact e5 y hy
        · simp only [List.mem_singleton] at hy
          subst hy
          exact ver_small (by omega) (by omega)
      · show l1.length - ((i + 1 : Nat) : Int).toNat < l1.length - ((i : Nat) : Int).toNat
        omega
    · have d0 : decide ((i : Int) < (l1.length : Int)) = false := by simp; omega
      rw [d0]
      have ht : l1.take i = l1 := List.take_of_length_le (by omega)
      rw [ht] at e2 e3
      exact ⟨_, rfl, e2, e3, e4, e5, e6⟩
  · obtain ⟨now, next, L, At⟩ := o1
    obtain ⟨e2, e3, e4, e5, e6⟩ := ho1
    simp only at e2 e3 e4 e5 e6 ⊢
    have hln : now.length = l1.length := by have := congrArg List.length e2; simpa using this
    have hlx : next.length = l1.length := by have := congrArg List.length e3; simpa using this
    have hname : ∀ i (hi : i < now.length), now[i].Name = (sixNames[i]?).getD ⟨#[]⟩ := fun i hi => by
      have hi2 : i < l1.length := by omega
      have : (now.map (·.Name))[i]? = l1[i]? := by rw [e2]
      rw [List.getElem?_map, List.getElem?_eq_getElem hi, List.getElem?_eq_getElem hi2] at this
      simp only [Option.map_some, Option.some.injEq] at this
      rw [this, hget i hi2]
    refine bnd_ex (next2 e6 (by omega)) fun r4 ⟨hc4, h40, h41⟩ => ?_
    obtain ⟨m, hm⟩ : ∃ m : Nat, r4.2 = (m : Int) := ⟨r4.2.toNat, by omega⟩
    refine bnd_loop_ex (fun s => ∃ j : Nat, s.1 = (j : Int) ∧ s.2.1 = now ∧ s.2.2.1 = next ∧ s.2.2.2.1.length + j ≤ 6 ∧ (∀ y ∈ s.2.2.2.1, nOk y = true) ∧ CodesOk ⟨s.2.2.2.2.1, s.2.2.2.2.2⟩)
      (fun s => s.1.toNat) (fun t => t.1 = now ∧ t.2.1 = next ∧ t.2.2.1.length ≤ 6 ∧ (∀ y ∈ t.2.2.1, nOk y = true) ∧ CodesOk ⟨t.2.2.2.1, t.2.2.2.2⟩)
      ⟨m, hm, rfl, rfl, by simp; omega, by simp, hc4⟩ (fun s hI => ?_) (fun o2 ho2 => ?_)
    · obtain ⟨j, f1, f2, f3, f4, f5, f6⟩ := hI
      obtain ⟨s1, s2, s3, needs, L2, At2⟩ := s
      simp only at f1 f2 f3 f4 f5 f6 ⊢
      subst f1; subst f2; subst f3
      by_cases hj : j = 0
      · have d0 : decide ((j : Int) > 0) = false := by subst hj; rfl
        rw [d0]
        exact ⟨_, rfl, rfl, rfl, by show needs.length ≤ 6; omega, f5, f6⟩
      · have d0 : decide ((j : Int) > 0) = true := by simp; omega
        rw [d0]
        simp only [cond_true]
        refine bnd_ex (next2 f6 (by omega)) fun r5 ⟨hc5, h50, h51⟩ => ?_
        refine bnd_ex (next2 hc5 (by omega)) fun r6 ⟨hc6, h60, h61⟩ => ?_
        obtain ⟨a, ha⟩ : ∃ a : Nat, r5.2 = (a : Int) := ⟨r5.2.toNat, by omega⟩
        obtain ⟨b, hb⟩ : ∃ b : Nat, r6.2 = (b : Int) := ⟨r6.2.toNat, by omega⟩
        have hal : a < s2.length := by omega
        have hbl : b < s2.length := by omega
        have hbn : b < s3.length := by omega
        have hane : a ≠ b → bs s2[a].Name ≠ bs s2[b].Name := fun hne => by
          rw [hname a hal, hname b hbl]
          exact six_diff a (by omega) b (by omega) hne
        have hna : nameOk s2[a].Name = true := by rw [hname a hal]; exact six_ok a (by omega)
        have hnb : nameOk s2[b].Name = true := by rw [hname b hbl]; exact six_ok b (by omega)
        simp only [ha, hb, elt_lt hal, elt_lt hbl, elt_lt hbn, bnd_some]
        refine bnd_ex (next2 hc6 (by omega)) fun r7 ⟨hc7, h70, h71⟩ => ?_
        refine bnd_ex (next2 hc7 (by omega)) fun r8 ⟨hc8, h80, h81⟩ => ?_
        have w7 : IntKind.wrap .i64 (1 + r7.2) = 1 + r7.2 := wrap_i64 (by omega) (by omega)
        have w8 : IntKind.wrap .i64 (1 + r8.2) = 1 + r8.2 := wrap_i64 (by omega) (by omega)
        rw [w7, w8]
        refine bnd_ex (P := fun o3 => 0 ≤ o3.1 ∧ o3.1 ≤ 2 ∧ CodesOk ⟨o3.2.1, o3.2.2⟩) ?_ fun o3 ⟨g0, g1, hc9⟩ => ?_
        · refine bnd_ex (P := fun o4 => CodesOk ⟨o4.2.1, o4.2.2⟩) ?_ fun o4 hc => ?_
          · cases (1 + r7.2 == 1)
            · exact ⟨_, rfl, hc8⟩
            · refine bnd_ex (next2 hc8 (by omega)) fun r9 ⟨hc9, _, _⟩ => ⟨_, rfl, hc9⟩
          · cases o4.1
            · exact ⟨_, rfl, by show (0 : Int) ≤ 1 + r8.2; omega, by show (1 : Int) + r8.2 ≤ 2; omega, hc⟩
            · exact ⟨_, rfl, by show (0 : Int) ≤ 1; omega, by show (1 : Int) ≤ 2; omega, hc⟩
        refine bnd_ex (P := fun o5 => 0 ≤ o5.1 ∧ o5.1 ≤ 2 ∧ o5.2.2.2 = s3 ∧ CodesOk ⟨o5.2.1, o5.2.2.1⟩) ?_ fun o5 ⟨k0, k1, k2, hc10⟩ => ?_
        · refine bnd_ex (P := fun o6 => o6.2.2.2 = s3 ∧ CodesOk ⟨o6.2.1, o6.2.2.1⟩) ?_ fun o6 ⟨hs, hc⟩ => ?_
          · cases (o3.1 == 2)
            · exact ⟨_, rfl, rfl, hc9⟩
            · cases (s3[b].Version.Major == 1)
              · exact ⟨_, rfl, rfl, hc9⟩
              · refine bnd_ex (next2 hc9 (by omega)) fun r10 ⟨hc10, _, _⟩ => ⟨_, rfl, rfl, hc10⟩
          · cases o6.1
            · exact ⟨_, rfl, g0, g1, hs, hc⟩
            · exact ⟨_, rfl, by show (0 : Int) ≤ 1; omega, by show (1 : Int) ≤ 2; omega, hs, hc⟩
        have wj : IntKind.wrap .i64 ((j : Int) - 1) = ((j - 1 : Nat) : Int) := by rw [wrap_i64 (by omega) (by omega)]; omega
        rw [wj]
        by_cases hab : a = b
        · have e0 : ((a : Int) != (b : Int)) = false := by subst hab; simp
          rw [e0]
          refine ⟨_, rfl, ⟨j - 1, rfl, rfl, k2, by show needs.length + (j - 1) ≤ 6; omega, f5, hc10⟩, ?_⟩
          show ((j - 1 : Nat) : Int).toNat < ((j : Nat) : Int).toNat
          omega
        · have e0 : ((a : Int) != (b : Int)) = true := by rw [bne_iff_ne]; omega
          rw [e0]
          simp only [cond_true]
          rw [app_eq (by simp; omega) (by simp; omega)]
          refine ⟨_, rfl, ⟨j - 1, rfl, rfl, k2, by show (needs ++ [_]).length + (j - 1) ≤ 6; simp; omega, ?_, hc10⟩, ?_⟩
          · intro y hy
            rcases List.mem_append.1 hy with hy | hy
            · exact f5 y hy
            · simp only [List.mem_singleton] at hy
              subst hy
              unfold nOk
              simp only [hna, hnb, ver_small (v := 1 + r7.2) (by omega) (by omega), ver_small (v := o5.1) k0 (by omega), Bool.true_and, Bool.and_true, Bool.not_eq_true', decide_eq_false_iff_not]
              exact hane hab
          · show ((j - 1 : Nat) : Int).toNat < ((j : Nat) : Int).toNat
            omega
    · obtain ⟨now', next', needs, L2, At2⟩ := o2
      obtain ⟨f2, f3, f4, f5, f6⟩ := ho2
      simp only at f2 f3 f4 f5 f6 ⊢
      subst f2; subst f3
      refine bnd_ex (next2 f6 (by omega)) fun r11 ⟨hc11, _, _⟩ => ?_
      have hnow : compsOk now' = true := comps_of (by rw [e2]; exact hchk) e4
      have hnext : compsOk next' = true := comps_of (by rw [e3]; exact hchk) e5
      have hneeds : needsOk needs = true := by
        unfold needsOk
        exact Bool.and_eq_true_iff.2 ⟨by simp; omega, List.all_eq_true.2 f5⟩
      have hnm : namesOf now' = namesOf next' := by
        have h1 : namesOf now' = (now'.map (·.Name)).map bs := by simp [namesOf]
        have h2 : namesOf next' = (next'.map (·.Name)).map bs := by simp [namesOf]
        rw [h1, h2, e2, e3]
      cases (r11.2 == 2)
      · exact ⟨_, rfl, hc11, hnow, hnext, hneeds, hnm, f4, by show 2 ≤ now'.length; omega⟩
      · exact ⟨_, rfl, hc11, hnext, hnow, hneeds, hnm.symm, f4, by show 2 ≤ next'.length; omega⟩

/-- A plan that is made of numbers. -/
theorem made_plan {codes : List Int} (hc : okL (inK .u8) codes) : ∃ c, m_field_New codes 120 = some c ∧ CodesOk c := new_codes hc (by omega) (by omega)

theorem need_ok {c : T_Codes} (h : CodesOk c) : ∃ r, m_field_Codes_Need c = some r ∧ CodesOk r.1 := by
  unfold m_field_Codes_Need
  rw [names_eq]
  simp only [bnd_some]
  have six : ∀ {x : Int}, 0 ≤ x → x < 6 → ∃ y, elt sixNames x = some y := fun {x} h0 h1 => by
    obtain ⟨k, rfl⟩ : ∃ k : Nat, x = (k : Int) := ⟨x.toNat, by omega⟩
    exact ⟨_, elt_lt (show k < sixNames.length by show k < 6; omega)⟩
  refine bnd_ex (next2 h (by omega)) fun r2 ⟨hc2, h20, h21⟩ => ?_
  obtain ⟨x1, hx1⟩ := six h20 (by omega)
  rw [hx1]
  simp only [bnd_some]
  refine bnd_ex (next2 hc2 (by omega)) fun r3 ⟨hc3, _, _⟩ => ?_
  refine bnd_ex (next2 hc3 (by omega)) fun r4 ⟨hc4, h40, h41⟩ => ?_
  obtain ⟨x2, hx2⟩ := six h40 (by omega)
  rw [hx2]
  simp only [bnd_some]
  refine bnd_ex (next2 hc4 (by omega)) fun r5 ⟨hc5, _, _⟩ => ?_
  refine bnd_ex (P := fun o1 => CodesOk ⟨o1.2.1, o1.2.2⟩) ?_ fun o1 hc => ?_
  · cases (x1.toList == x2.toList)
    · exact ⟨_, rfl, hc5⟩
    · refine bnd_ex (next2 hc5 (by omega)) fun r6 ⟨hc6, _, _⟩ => ⟨_, rfl, hc6⟩
  · obtain ⟨x3, hx3⟩ := six (x := 4) (by omega) (by omega)
    cases o1.1
    · exact ⟨_, rfl, hc⟩
    · simp only [cond_true, hx3, bnd_some]
      exact ⟨_, rfl, hc⟩

theorem order_path {p : T_Plan} {l : List Nat} (h : orderP p = some l) : okPath (fullP p) (goodP p) 0 l := least_path _ _ _ _ (sub2.zero _) l h
theorem path_short {p : T_Plan} (hv : validN p = 0) {l : List Nat} (hp : okPath (fullP p) (goodP p) 0 l) : l.length ≤ 8 := by
  have h := planOk.1 hv
  have := path_len (F := fullP p) (n := p.Now.length) (mask_lt _ _) hp
  have h2 : (stepsOf p.Now.length (fullP p)).length ≤ 8 := Nat.le_trans (List.length_filter_le _ _) (by simp; exact h.le8)
  omega

end Go.Proofs.Yteaoblglgcpdnaa
