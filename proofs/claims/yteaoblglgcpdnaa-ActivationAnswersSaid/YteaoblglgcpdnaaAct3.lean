/-
  Chapter 31: lists of steps: what is gathered, the states, the steps, the checks.
  Conditions: none.
-/
import Derived.Test.YteaoblglgcpdnaaAct2
namespace Go.Proofs.Yteaoblglgcpdnaa
open Go
set_option linter.unusedSimpArgs false
set_option linter.unusedVariables false

/-! ## The example of the chapter -/

def exOne : T_Version := ⟨1, 0, 0⟩
def exTwo : T_Version := ⟨2, 0, 0⟩
def exA : ByteArray := ⟨#[97]⟩
def exB : ByteArray := ⟨#[98]⟩
def exP (needs : List T_Need) : T_Plan := ⟨[⟨exA, exOne⟩, ⟨exB, exOne⟩], [⟨exA, exTwo⟩, ⟨exB, exTwo⟩], needs⟩
set_option maxRecDepth 20000 in
theorem ex1 : validN (exP [⟨exA, exTwo, exB, exTwo⟩]) = 0 ∧ orderP (exP [⟨exA, exTwo, exB, exTwo⟩]) = some [1, 0] := by decide
set_option maxRecDepth 20000 in
theorem ex2 : validN (exP [⟨exA, exTwo, exB, exTwo⟩, ⟨exB, exTwo, exA, exTwo⟩]) = 0 ∧ orderP (exP [⟨exA, exTwo, exB, exTwo⟩, ⟨exB, exTwo, exA, exTwo⟩]) = none := by decide

theorem awake_eq : m_law31_awake = some true := by
  unfold m_law31_awake
  have h1 : m_activation_Order (exP [⟨exA, exTwo, exB, exTwo⟩]) = some (iz [1, 0], 0) := by rw [order_eq, if_pos ex1.1, ex1.2]
  have h2 : m_activation_Order (exP [⟨exA, exTwo, exB, exTwo⟩, ⟨exB, exTwo, exA, exTwo⟩]) = some ([], 41) := by rw [order_eq, if_pos ex2.1, ex2.2]
  refine bnd_eq h1 ?_
  refine bnd_eq (a := [⟨exA, exTwo, exB, exTwo⟩, ⟨exB, exTwo, exA, exTwo⟩]) (app_eq (by simp) (by simp)) ?_
  refine bnd_eq h2 ?_
  rfl

/-! ## What a list of steps gathers -/

def gath (n F : Nat) : Nat → List Int → Nat ⊕ Nat
  | S, [] => .inr S
  | S, x :: r => if x < 0 ∨ (n : Int) ≤ x ∨ F.testBit x.toNat = false then .inl 2 else if S.testBit x.toNat = true then .inl 7 else gath n F (S ||| 2 ^ x.toNat) r

theorem gath_cons (n F S : Nat) (x : Int) (r : List Int) : gath n F S (x :: r) = if x < 0 ∨ (n : Int) ≤ x ∨ F.testBit x.toNat = false then .inl 2 else if S.testBit x.toNat = true then .inl 7 else gath n F (S ||| 2 ^ x.toNat) r := rfl

def gathP (p : T_Plan) (l : List Int) : Nat ⊕ Nat := if validN p = 0 then gath p.Now.length (fullP p) 0 l else .inl (validN p)

theorem gather_eq {p : T_Plan} {l : List Int} (hl : l.length ≤ 100000) : ∃ r, m_activation_gather p l = some r ∧ match gathP p l with
    | .inl e => r = (0, (e : Int)) ∧ e ≠ 0
    | .inr S => r = ((S : Int), 0) ∧ validN p = 0 ∧ sub2 S (fullP p) := by
  unfold m_activation_gather gathP
  rw [valid_eq]
  simp only [bnd_some]
  by_cases hv : validN p = 0
  · have h := planOk.1 hv
    have e : ((validN p : Int) != 0) = false := by rw [hv]; rfl
    rw [e, if_pos hv, all_eq h.le8 h.len]
    simp only [cond_false, bnd_some]
    have hF : fullP p < 256 := mask256 h.le8
    refine bnd_loop_inv (fun s => ∃ (S i : Nat), s = ((S : Int), (i : Int)) ∧ i ≤ l.length ∧ sub2 S (fullP p) ∧ gath p.Now.length (fullP p) S (l.drop i) = gath p.Now.length (fullP p) 0 l)
      (fun s => l.length - s.2.toNat)
      (fun t => match t with
        | .inl r => match gath p.Now.length (fullP p) 0 l with | .inl e => r = (0, (e : Int)) ∧ e ≠ 0 | .inr S => False
        | .inr x => ∃ S : Nat, x = (S : Int) ∧ gath p.Now.length (fullP p) 0 l = .inr S ∧ sub2 S (fullP p)) ⟨0, 0, rfl, by omega, sub2.zero _, by simp⟩ (fun s hI => ?_) (fun t ht => ?_)
    · obtain ⟨S, i, rfl, hi, hs, hg⟩ := hI
      have hS : S < 256 := by have := hs.le; omega
      by_cases hin : i < l.length
      · have d0 : decide ((i : Int) < (l.length : Int)) = true := by simp; omega
        have hdrop : l.drop i = l[i] :: l.drop (i + 1) := by rw [List.drop_eq_getElem_cons hin]
        rw [hdrop] at hg
        simp only [d0, cond_true, elt_lt hin, bnd_some, wrap_succ hin (by omega)]
        generalize l[i] = x at hg
        rw [gath_cons] at hg
        by_cases h1 : x < 0
        · have e1 : decide (x < 0) = true := by simpa using h1
          rw [if_pos (.inl h1)] at hg
          refine .inr ⟨_, by rw [e1]; rfl, ?_⟩
          rw [← hg]
          exact ⟨rfl, by omega⟩
        have e1 : decide (x < 0) = false := by simpa using h1
        by_cases h2 : (p.Now.length : Int) ≤ x
        · have e2 : decide (x ≥ (p.Now.length : Int)) = true := by simpa using h2
          rw [if_pos (.inr (.inl h2))] at hg
          refine .inr ⟨_, by rw [e1, e2]; rfl, ?_⟩
          rw [← hg]
          exact ⟨rfl, by omega⟩
        have e2 : decide (x ≥ (p.Now.length : Int)) = false := by simpa using h2
        obtain ⟨k, rfl⟩ : ∃ k : Nat, x = (k : Int) := ⟨x.toNat, by omega⟩
        have hk8 : k < 8 := by have := h.le8; omega
        have hd1 : fullP p / 2 ^ k < 4611686018427387904 := Nat.lt_of_le_of_lt (Nat.div_le_self _ _) (by omega)
        have hd2 : S / 2 ^ k < 4611686018427387904 := Nat.lt_of_le_of_lt (Nat.div_le_self _ _) (by omega)
        simp only [Int.toNat_natCast] at hg
        simp only [e1, e2, cond_false, shr1 (a := fullP p) (i := k) (by omega), bnd_some, and1 hd1, bit_is0, shr1 (a := S) (i := k) (by omega), and1 hd2, bit_is1, shl1 hk8, or1 hS hk8]
        cases hb : (fullP p).testBit k
        · rw [if_pos (.inr (.inr hb))] at hg
          refine .inr ⟨_, rfl, ?_⟩
          rw [← hg]
          exact ⟨rfl, by omega⟩
        rw [if_neg (by rw [hb]; simp; omega)] at hg
        cases hb2 : S.testBit k
        · rw [if_neg (by rw [hb2]; simp)] at hg
          refine .inl ⟨_, rfl, ⟨S ||| 2 ^ k, i + 1, rfl, by omega, hs.or hb, hg⟩, ?_⟩
          show l.length - ((i + 1 : Nat) : Int).toNat < l.length - ((i : Nat) : Int).toNat
          omega
        · rw [if_pos hb2] at hg
          refine .inr ⟨_, rfl, ?_⟩
          rw [← hg]
          exact ⟨rfl, by omega⟩
      · have d0 : decide ((i : Int) < (l.length : Int)) = false := by simp; omega
        rw [d0]
        have : l.drop i = [] := List.drop_eq_nil_of_le (by omega)
        rw [this] at hg
        exact .inr ⟨_, rfl, S, rfl, hg.symm, hs⟩
    · rcases t with r | x
      · refine ⟨r, rfl, ?_⟩
        cases hg : gath p.Now.length (fullP p) 0 l with
        | inl e => rw [hg] at ht; exact ht
        | inr S => rw [hg] at ht; exact ht.elim
      · obtain ⟨S, rfl, h2, h3⟩ := ht
        refine ⟨_, rfl, ?_⟩
        rw [h2]
        exact ⟨rfl, hv, h3⟩
  · have e : ((validN p : Int) != 0) = true := by
      rw [bne_iff_ne]; exact_mod_cast hv
    rw [e, if_neg hv]
    exact ⟨_, rfl, rfl, hv⟩

theorem State_eq {p : T_Plan} {l : List Int} (hl : l.length ≤ 100000) : m_activation_State p l = some (match gathP p l with | .inl e => ([], (e : Int)) | .inr S => (stateP p S, 0)) := by
  unfold m_activation_State
  obtain ⟨r, h1, h2⟩ := gather_eq (p := p) hl
  rw [h1]
  simp only [bnd_some]
  cases hg : gathP p l with
  | inl e =>
    rw [hg] at h2
    obtain ⟨rfl, hne⟩ := h2
    have : (((0 : Int), (e : Int)).2 != 0) = true := by
      show ((e : Int) != 0) = true
      rw [bne_iff_ne]
      exact_mod_cast hne
    rw [this]
    rfl
  | inr S =>
    rw [hg] at h2
    obtain ⟨rfl, hv, hs⟩ := h2
    have h := planOk.1 hv
    have hF : fullP p < 256 := mask256 h.le8
    have := hs.le
    simp only [bne_self_eq_false, cond_false, state_eq h.le8 h.len (S := S) (by omega), bnd_some]

/-- Behind how many steps some need is not met. -/
def chkI (G : Nat → Bool) : Nat → List Int → Nat → Int
  | S, [], k => if G S = true then -1 else (k : Int)
  | S, x :: r, k => if G S = true then chkI G (S ||| 2 ^ x.toNat) r (k + 1) else (k : Int)

theorem chkI_nil (G : Nat → Bool) (S k : Nat) : chkI G S [] k = if G S = true then -1 else (k : Int) := rfl
theorem chkI_cons (G : Nat → Bool) (S k : Nat) (x : Int) (r : List Int) : chkI G S (x :: r) k = if G S = true then chkI G (S ||| 2 ^ x.toNat) r (k + 1) else (k : Int) := rfl

theorem gath_mem {n F : Nat} : ∀ {l : List Int} {S T : Nat}, gath n F S l = .inr T → ∀ x ∈ l, 0 ≤ x ∧ x < (n : Int) ∧ F.testBit x.toNat = true
  | [], S, T, h, x, hx => by cases hx
  | y :: l, S, T, h, x, hx => by
    rw [gath_cons] at h
    split at h
    · cases h
    · rename_i h1
      split at h
      · cases h
      · simp only [not_or, Bool.not_eq_false] at h1
        rcases List.mem_cons.1 hx with rfl | hx
        · exact ⟨by omega, by omega, h1.2.2⟩
        · exact gath_mem h x hx

theorem check_list {p : T_Plan} {l : List Int} (hl : l.length ≤ 100000) : m_activation_Check p l = some (match gathP p l with | .inl e => (0, (e : Int)) | .inr _ => (chkI (goodP p) 0 l 0, 0)) := by
  unfold m_activation_Check
  obtain ⟨r, h1, h2⟩ := gather_eq (p := p) hl
  rw [h1]
  simp only [bnd_some]
  cases hg : gathP p l with
  | inl e =>
    rw [hg] at h2
    obtain ⟨rfl, hne⟩ := h2
    have : (((0 : Int), (e : Int)).2 != 0) = true := by
      show ((e : Int) != 0) = true
      rw [bne_iff_ne]
      exact_mod_cast hne
    rw [this]
    rfl
  | inr T =>
    rw [hg] at h2
    obtain ⟨rfl, hv, hs⟩ := h2
    have h := planOk.1 hv
    simp only [bne_self_eq_false, cond_false]
    have hm : ∀ x ∈ l, 0 ≤ x ∧ x < (p.Now.length : Int) ∧ (fullP p).testBit x.toNat = true := by
      unfold gathP at hg
      rw [if_pos hv] at hg
      exact gath_mem hg
    have key : ∃ r, bnd (loopM (τ := (Int × Int) ⊕ Unit) (fun (s1 : Int × Int) => bnd (m_activation_good p s1.1) fun r2 => bif !r2 then (some (.done (.inl (s1.2, 0)))) else (bif (s1.2 == (l.length : Int)) then (some (.done (.inl ((-1), 0)))) else (bnd (elt l s1.2) fun x1 => bnd (shlM .i64 1 x1) fun q1 => some (.next (iOr .i64 s1.1 q1, IntKind.wrap .i64 (s1.2 + 1)))))) (0, 0)) (fun o1 => retOr o1 fun o2 => none) = some r ∧ r = (chkI (goodP p) 0 l 0, 0) := by
      refine bnd_loop_inv (fun s => ∃ (S i : Nat), s = ((S : Int), (i : Int)) ∧ i ≤ l.length ∧ S < 256 ∧ chkI (goodP p) S (l.drop i) i = chkI (goodP p) 0 l 0)
        (fun s => l.length - s.2.toNat) (fun t => t = .inl (chkI (goodP p) 0 l 0, 0)) ⟨0, 0, rfl, by omega, by omega, by simp⟩ (fun s hI => ?_) (fun t ht => ?_)
      · obtain ⟨S, i, rfl, hi, hS, hc⟩ := hI
        simp only [good_eq h hS, bnd_some]
        cases hb : goodP p S
        · refine .inr ⟨_, rfl, ?_⟩
          rw [← hc]
          cases hd : l.drop i with
          | nil => rw [chkI_nil, hb]; rfl
          | cons x r => rw [chkI_cons, hb]; rfl
        · by_cases hin : i < l.length
          · have e1 : ((i : Int) == (l.length : Int)) = false := by
              rw [beq_eq_false_iff_ne]; omega
            have hx := hm _ (List.getElem_mem hin)
            have hdrop : l.drop i = l[i] :: l.drop (i + 1) := by rw [List.drop_eq_getElem_cons hin]
            rw [hdrop] at hc
            simp only [Bool.not_true, cond_false, e1, elt_lt hin, bnd_some, wrap_succ hin (by omega)]
            generalize l[i] = x at hx hc
            obtain ⟨k, rfl⟩ : ∃ k : Nat, x = (k : Int) := ⟨x.toNat, by omega⟩
            have hk8 : k < 8 := by have := h.le8; omega
            simp only [shl1 hk8, bnd_some, or1 hS hk8]
            rw [chkI_cons, if_pos hb] at hc
            refine .inl ⟨_, rfl, ⟨S ||| 2 ^ k, i + 1, rfl, by omega, or256 hS hk8, by simpa using hc⟩, ?_⟩
            show l.length - ((i + 1 : Nat) : Int).toNat < l.length - ((i : Nat) : Int).toNat
            omega
          · have e1 : ((i : Int) == (l.length : Int)) = true := by
              rw [beq_iff_eq]; omega
            simp only [Bool.not_true, cond_false, e1, cond_true]
            refine .inr ⟨_, rfl, ?_⟩
            have hd : l.drop i = [] := List.drop_eq_nil_of_le (by omega)
            rw [← hc, hd, chkI_nil, hb]
            rfl
      · subst ht
        exact ⟨_, rfl, rfl⟩
    obtain ⟨r, k1, k2⟩ := key
    rw [k1, k2]

/-! ## The steps as a list -/

def stepsOf (n F : Nat) : List Nat := (List.range n).filter F.testBit
theorem filt_le {F i : Nat} (hF : F < 2 ^ i) : ∀ d, stepsOf (i + d) F = stepsOf i F
  | 0 => rfl
  | d + 1 => by
    have ih := filt_le hF d
    unfold stepsOf at *
    rw [show i + (d + 1) = (i + d) + 1 by omega, List.range_succ, List.filter_append, ih]
    have : F.testBit (i + d) = false := Nat.testBit_lt_two_pow (Nat.lt_of_lt_of_le hF (Nat.pow_le_pow_right (by omega) (by omega)))
    simp [this]
theorem filt_eq {F i n : Nat} (hi : F < 2 ^ i) (hn : F < 2 ^ n) : stepsOf i F = stepsOf n F := by
  rcases Nat.le_total i n with g | g
  · rw [show n = i + (n - i) by omega, filt_le hi]
  · rw [show i = n + (i - n) by omega, filt_le hn]
theorem stepsOf_succ (F i : Nat) : stepsOf (i + 1) F = if F.testBit i = true then stepsOf i F ++ [i] else stepsOf i F := by
  unfold stepsOf
  rw [List.range_succ, List.filter_append]
  cases h : F.testBit i <;> simp [h]

theorem steps_eq (p : T_Plan) : m_activation_Steps p = some (if validN p = 0 then iz (stepsOf p.Now.length (fullP p)) else []) := by
  unfold m_activation_Steps
  rw [valid_eq]
  simp only [bnd_some]
  by_cases hv : validN p = 0
  · have h := planOk.1 hv
    have e : ((validN p : Int) != 0) = false := by rw [hv]; rfl
    rw [e, if_pos hv, all_eq h.le8 h.len]
    simp only [cond_false, bnd_some]
    have hF : fullP p < 256 := mask256 h.le8
    have hFn : fullP p < 2 ^ p.Now.length := mask_lt _ _
    have key : ∃ r, bnd (loopM (τ := List Int) (fun (s1 : List Int × Int × Int) => bif decide (s1.2.2 > 0) then (bif ((iAnd .i64 s1.2.2 1) == 1) then (bnd (app 8 s1.1 [s1.2.1]) fun l1 => some (.next (l1, IntKind.wrap .i64 (s1.2.1 + 1), iShr .i64 s1.2.2 1))) else (some (.next (s1.1, IntKind.wrap .i64 (s1.2.1 + 1), iShr .i64 s1.2.2 1)))) else (some (.done s1.1))) ([], 0, (fullP p : Int))) (fun o1 => some o1) = some r ∧ r = iz (stepsOf p.Now.length (fullP p)) := by
      refine bnd_loop_inv (fun s => ∃ i : Nat, i ≤ 8 ∧ s = (iz (stepsOf i (fullP p)), (i : Int), ((fullP p / 2 ^ i : Nat) : Int))) (fun s => 9 - s.2.1.toNat) (fun t => t = iz (stepsOf p.Now.length (fullP p))) ⟨0, by omega, by simp [stepsOf]⟩ (fun s hI => ?_) (fun t ht => ⟨t, rfl, ht⟩)
      obtain ⟨i, hi, rfl⟩ := hI
      have hd1 : fullP p / 2 ^ i < 4611686018427387904 := Nat.lt_of_le_of_lt (Nat.div_le_self _ _) (by omega)
      by_cases hz : fullP p / 2 ^ i = 0
      · have e1 : decide (((fullP p / 2 ^ i : Nat) : Int) > 0) = false := by rw [hz]; rfl
        simp only [e1, cond_false]
        refine .inr ⟨_, rfl, ?_⟩
        have hlt : fullP p < 2 ^ i := by
          rcases Nat.lt_or_ge (fullP p) (2 ^ i) with g | g
          · exact g
          · have := Nat.div_pos g (Nat.two_pow_pos i)
            omega
        rw [filt_eq hlt hFn]
      · have e1 : decide (((fullP p / 2 ^ i : Nat) : Int) > 0) = true := decide_eq_true (Int.natCast_pos.2 (Nat.pos_of_ne_zero hz))
        have hi8 : i < 8 := by
          rcases Nat.lt_or_ge i 8 with g | g
          · exact g
          · have : i = 8 := by omega
            subst this
            have : fullP p / 2 ^ 8 = 0 := Nat.div_eq_of_lt (by omega)
            omega
        have hb : (iAnd .i64 ((fullP p / 2 ^ i : Nat) : Int) 1 == 1) = (fullP p).testBit i := by rw [and1 hd1, bit_is1]
        have hsh : iShr .i64 ((fullP p / 2 ^ i : Nat) : Int) 1 = ((fullP p / 2 ^ (i + 1) : Nat) : Int) := by
          have := iShr_n (k := .i64) (a := fullP p / 2 ^ i) (s := 1) (by decide)
          rw [show ((1 : Nat) : Int) = 1 from rfl] at this
          rw [this, Nat.div_div_eq_div_mul, ← Nat.pow_add]
        have hw := wrap_succ hi8 (by omega)
        have hap : app 8 (iz (stepsOf i (fullP p))) [(i : Int)] = some (iz (stepsOf i (fullP p) ++ [i])) := by
          have hlen : (stepsOf i (fullP p)).length ≤ 8 := Nat.le_trans (List.length_filter_le _ _) (by simp; omega)
          rw [app_eq (by simp; omega) (by simp; omega)]
          simp [iz]
        simp only [e1, cond_true, hb, hsh, hw]
        refine .inl ?_
        cases hbi : (fullP p).testBit i
        · refine ⟨_, rfl, ⟨i + 1, by omega, ?_⟩, ?_⟩
          · rw [stepsOf_succ, hbi]; rfl
          · show 9 - ((i + 1 : Nat) : Int).toNat < 9 - ((i : Nat) : Int).toNat
            omega
        · simp only [cond_true, hap, bnd_some]
          refine ⟨_, rfl, ⟨i + 1, by omega, ?_⟩, ?_⟩
          · rw [stepsOf_succ, hbi]; rfl
          · show 9 - ((i + 1 : Nat) : Int).toNat < 9 - ((i : Nat) : Int).toNat
            omega
    obtain ⟨r, k1, k2⟩ := key
    rw [k1, k2]
  · have e : ((validN p : Int) != 0) = true := by
      rw [bne_iff_ne]; exact_mod_cast hv
    rw [e, if_neg hv]
    rfl

/-! ## Paths -/

theorem path_len {F : Nat} {G : Nat → Bool} {n : Nat} (hF : F < 2 ^ n) : ∀ {l : List Nat} {S : Nat}, okPath F G S l → l.length + (stepsOf n S).length = (stepsOf n F).length
  | [], S, h => by
    have : S = F := h
    subst this; simp
  | i :: l, S, h => by
    obtain ⟨hst, hp⟩ := h
    obtain ⟨a, b, _⟩ := step_parts hst
    have hin := bit_lt hF a
    have ih := path_len hF hp
    have key : (stepsOf n (S ||| 2 ^ i)).length = (stepsOf n S).length + 1 := by
      have : ∀ m, (stepsOf m (S ||| 2 ^ i)).length = (stepsOf m S).length + (if i < m then 1 else 0) := by
        intro m
        induction m with
        | zero => simp [stepsOf]
        | succ m ihm =>
          rw [stepsOf_succ, stepsOf_succ, or_bit]
          by_cases hm : i = m
          · subst hm
            simp [b, ihm]
          · simp only [hm, decide_false, Bool.or_false]
            cases S.testBit m
            · simp only [Bool.false_eq_true, if_false, ihm]
              by_cases h1 : i < m
              · rw [if_pos h1, if_pos (by omega)]
              · rw [if_neg h1, if_neg (by omega)]
            · simp only [if_true, List.length_append, ihm, List.length_singleton]
              by_cases h1 : i < m
              · rw [if_pos h1, if_pos (by omega)]
              · rw [if_neg h1, if_neg (by omega)]
      rw [this n, if_pos hin]
    rw [key] at ih
    rw [List.length_cons]
    omega
theorem good0 {p : T_Plan} (h : PlanOk p) : goodP p 0 = true := by
  unfold goodP
  rw [state_none h]
  exact h.met0
end Go.Proofs.Yteaoblglgcpdnaa
