/-
  ActivationReverses: an order in reverse leads back.
  Conditions: none.
-/
import Derived.Test.YteaoblglgcpdnaaAct4
import Derived.Test.YteaoblglgcpdnaaGenActivationReverses
namespace Go.Proofs.Yteaoblglgcpdnaa
open Go
set_option linter.unusedSimpArgs false
set_option linter.unusedVariables false

/-- A way from one set to another one. -/
def pathTo (F : Nat) (G : Nat → Bool) : Nat → List Nat → Nat → Prop
  | S, [], T => S = T
  | S, i :: l, T => stepB F G S i = true ∧ pathTo F G (S ||| 2 ^ i) l T

theorem okPath_to {F : Nat} {G : Nat → Bool} : ∀ {l : List Nat} {S : Nat}, okPath F G S l ↔ pathTo F G S l F
  | [], S => Iff.rfl
  | i :: l, S => and_congr Iff.rfl okPath_to
theorem pathTo_snoc {F : Nat} {G : Nat → Bool} : ∀ {l : List Nat} {S T i : Nat}, pathTo F G S l T → stepB F G T i = true → pathTo F G S (l ++ [i]) (T ||| 2 ^ i)
  | [], S, T, i, h, hs => by
    have : S = T := h
    subst this
    exact ⟨hs, rfl⟩
  | j :: l, S, T, i, h, hs => ⟨h.1, pathTo_snoc h.2 hs⟩
theorem pathTo_sub {F : Nat} {G : Nat → Bool} : ∀ {l : List Nat} {S T : Nat}, pathTo F G S l T → sub2 S F → sub2 T F
  | [], S, T, h, hs => by
    have : S = T := h
    subst this
    exact hs
  | i :: l, S, T, h, hs => pathTo_sub h.2 (hs.or (step_parts h.1).1)

theorem xor_or {F S i : Nat} (hF : F.testBit i = true) (hS : S.testBit i = false) : (F ^^^ (S ||| 2 ^ i)) ||| 2 ^ i = F ^^^ S := by
  apply Nat.eq_of_testBit_eq
  intro j
  rw [Nat.testBit_or, Nat.testBit_xor, or_bit, Nat.testBit_xor]
  by_cases hij : i = j
  · subst hij; simp [hF, hS]
  · simp [Nat.testBit_two_pow_of_ne hij, hij]

theorem pathTo_rev {F : Nat} {G G' : Nat → Bool} (hG : ∀ S, sub2 S F → G S = true → G' (F ^^^ S) = true) : ∀ {l : List Nat} {S T : Nat}, sub2 S F → G S = true → pathTo F G S l T → pathTo F G' (F ^^^ T) l.reverse (F ^^^ S)
  | [], S, T, _, _, h => by
    have : S = T := h
    subst this
    rfl
  | i :: l, S, T, hs, hg, h => by
    obtain ⟨a, b, c⟩ := step_parts h.1
    have ih := pathTo_rev hG (hs.or a) c h.2
    rw [List.reverse_cons]
    have := pathTo_snoc (i := i) ih (by
      unfold stepB
      have h1 : (F ^^^ (S ||| 2 ^ i)).testBit i = false := by rw [Nat.testBit_xor, or_bit]; simp [a]
      rw [a, h1, xor_or a b, hG S hs hg]
      rfl)
    rw [xor_or a b] at this
    exact this

def swapP (p : T_Plan) : T_Plan := ⟨p.Next, p.Now, p.Needs⟩
theorem swap_ok {p : T_Plan} (h : PlanOk p) : PlanOk (swapP p) := ⟨h.next, h.now, h.needs, h.names.symm, h.met1, h.met0⟩

theorem swap_valid (p : T_Plan) : validN (swapP p) = validN p := by
  unfold validN swapP
  simp only
  rw [Bool.and_comm (compsOk p.Next), Bool.and_comm (p.Needs.all (metB p.Next))]
  by_cases hn : namesOf p.Now = namesOf p.Next
  · rw [hn]
  · have : namesOf p.Next ≠ namesOf p.Now := fun h => hn h.symm
    simp only [hn, this, ne_eq, not_false_eq_true, if_true]

theorem diff_swap (p : T_Plan) (i : Nat) : diffAt (swapP p) i = diffAt p i := by
  unfold diffAt swapP
  cases h1 : p.Now[i]? <;> cases h2 : p.Next[i]? <;> simp only
  rename_i x y
  have hb : ∀ a b : Int, (a == b) = (b == a) := fun a b => by rw [Bool.eq_iff_iff, beq_iff_eq, beq_iff_eq]; exact ⟨Eq.symm, Eq.symm⟩
  rw [hb y.Version.Major, hb y.Version.Minor, hb y.Version.Patch]
theorem full_swap {p : T_Plan} (h : PlanOk p) : fullP (swapP p) = fullP p := by
  apply Nat.eq_of_testBit_eq
  intro i
  rw [full_bit, full_bit, diff_swap]
  have : (swapP p).Now.length = p.Now.length := h.len
  rw [this]

theorem same_elem {p : T_Plan} (h : PlanOk p) {i : Nat} (hi : i < p.Now.length) (hd : diffAt p i = false) : p.Next[i]'(by rw [h.len]; exact hi) = p.Now[i] := by
  have h2 : i < p.Next.length := by rw [h.len]; exact hi
  unfold diffAt at hd
  rw [List.getElem?_eq_getElem hi, List.getElem?_eq_getElem h2] at hd
  have hn := h.name hi
  generalize p.Now[i] = x at *
  generalize p.Next[i] = y at *
  obtain ⟨n1, a1, b1, c1⟩ := x
  obtain ⟨n2, a2, b2, c2⟩ := y
  simp at hd hn
  simp [hn, hd]

theorem state_swap {p : T_Plan} (h : PlanOk p) {S : Nat} (hs : sub2 S (fullP p)) : stateP (swapP p) (fullP p ^^^ S) = stateP p S := by
  have hl : (swapP p).Now.length = p.Now.length := h.len
  apply List.ext_getElem (by simp [stateP, hl])
  intro i h1 h2
  have hi : i < p.Now.length := by simpa [stateP] using h2
  rw [stateP_get (swap_ok h) (by rw [hl]; exact hi), stateP_get h hi, Nat.testBit_xor]
  cases hb : (fullP p).testBit i
  · have hsb : S.testBit i = false := by
      cases hc : S.testBit i
      · rfl
      · have := hs i hc; rw [hb] at this; cases this
    have hd : diffAt p i = false := by rw [full_bit] at hb; simpa [hi] using hb
    rw [hsb]
    exact same_elem h hi hd
  · cases S.testBit i <;> rfl

theorem good_swap {p : T_Plan} (h : PlanOk p) {S : Nat} (hs : sub2 S (fullP p)) : goodP (swapP p) (fullP p ^^^ S) = goodP p S := by
  unfold goodP
  rw [state_swap h hs]
  rfl

theorem rev_path {p : T_Plan} (h : PlanOk p) {l : List Nat} (hp : okPath (fullP p) (goodP p) 0 l) : okPath (fullP (swapP p)) (goodP (swapP p)) 0 l.reverse := by
  rw [full_swap h]
  have := pathTo_rev (G' := goodP (swapP p)) (fun S hs hg => by rw [good_swap h hs, hg]) (sub2.zero _) (good0 h) (okPath_to.1 hp)
  rw [Nat.xor_self, Nat.xor_zero] at this
  exact okPath_to.2 this

theorem reverses_true (codes : List Int) (hc : okL (inK .u8) codes) : m_law31_ActivationReverses codes = some true := by
  unfold m_law31_ActivationReverses
  rw [awake_eq]
  simp only [bnd_some, Bool.not_true, cond_false]
  obtain ⟨c, h1, h2⟩ := made_plan hc
  refine bnd_eq h1 ?_
  obtain ⟨r, h3, _, h4⟩ := plan_ok h2
  refine bnd_eq h3 ?_
  generalize r.2 = p at h4
  have hq : m_activation_Order ⟨p.Next, p.Now, p.Needs⟩ = _ := order_eq (swapP p)
  rw [order_eq, hq, swap_valid]
  simp only [bnd_some]
  by_cases hv : validN p = 0
  · have h := planOk.1 hv
    have hvq : validN (swapP p) = 0 := by rw [swap_valid, hv]
    rw [if_pos hv, if_pos hv]
    cases ho : orderP p with
    | none =>
      have : orderP (swapP p) = none := by
        cases hq : orderP (swapP p) with
        | none => rfl
        | some l => exact absurd (rev_path (swap_ok h) (order_path hq)) (order_none ho _)
      rw [this]
      rfl
    | some l =>
      have hp := order_path ho
      have hpq := rev_path h hp
      obtain ⟨l', hl'⟩ : ∃ l', orderP (swapP p) = some l' := by
        cases hq : orderP (swapP p) with
        | none => exact absurd hpq (order_none hq _)
        | some l' => exact ⟨l', rfl⟩
      rw [hl']
      simp only [bne_self_eq_false, cond_false]
      have hlen := path_short hv hp
      refine bnd_loop (fun (i : Nat) => (iz (l.reverse.take i), (((l.length : Int) - 1) - (i : Int)))) l.length (iz l.reverse) ?_ (fun i hi => ?_) ?_ ?_
      · show ([], IntKind.wrap .i64 (((iz l).length : Int) - 1)) = _
        rw [wrap_i64 (by simp; omega) (by simp; omega)]
        simp
      · have d0 : decide (((l.length : Int) - 1) - (i : Int) ≥ 0) = true := by simp; omega
        have hidx : ((l.length : Int) - 1) - (i : Int) = ((l.length - 1 - i : Nat) : Int) := by omega
        have hr : i < l.reverse.length := by simpa using hi
        have hx : elt (iz l) (((l.length : Int) - 1) - (i : Int)) = some (((l.reverse[i] : Nat)) : Int) := by
          rw [hidx, elt_iz (by omega)]
          simp
        simp only [d0, cond_true, hx, bnd_some]
        rw [app_eq (by simp; omega) (by simp; omega)]
        rw [wrap_i64 (by omega) (by omega), take_succ_get hr]
        simp only [bnd_some]
        congr 3
        · simp [iz]
        · omega
      · have d0 : decide (((l.length : Int) - 1) - (l.length : Int) ≥ 0) = false := by simp; omega
        simp only [d0, cond_false]
        rw [List.take_of_length_le (by simp)]
      · have hck : m_activation_Check ⟨p.Next, p.Now, p.Needs⟩ (iz l.reverse) = _ := path_check (p := swapP p) hvq (by simp; omega) hpq
        rw [hck]
        rfl
  · rw [if_neg hv, if_neg hv]
    have e1 : ((([] : List Int), (validN p : Int)).2 != 0) = true := by
      show ((validN p : Int) != 0) = true
      rw [bne_iff_ne]
      exact_mod_cast hv
    simp only [bne_self_eq_false, cond_false]
    rw [e1]
    rfl
end Go.Proofs.Yteaoblglgcpdnaa
