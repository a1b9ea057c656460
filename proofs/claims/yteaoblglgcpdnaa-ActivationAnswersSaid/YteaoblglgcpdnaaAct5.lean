/-
  Chapter 31: which sets are reached, and which lists of sets prove that there is no order.
  Conditions: none.
-/
import Derived.Test.YteaoblglgcpdnaaAct3
namespace Go.Proofs.Yteaoblglgcpdnaa
open Go
set_option linter.unusedSimpArgs false
set_option linter.unusedVariables false

/-! ## Ascending lists -/

theorem asc_eq : ∀ {L M : List Nat}, L.Pairwise (· < ·) → M.Pairwise (· < ·) → (∀ x, x ∈ L ↔ x ∈ M) → L = M
  | [], [], _, _, _ => rfl
  | [], y :: M, _, _, h => absurd ((h y).2 (by simp)) (by simp)
  | x :: L, [], _, _, h => absurd ((h x).1 (by simp)) (by simp)
  | x :: L, y :: M, hL, hM, h => by
    have hL' := List.pairwise_cons.1 hL
    have hM' := List.pairwise_cons.1 hM
    have hxy : x = y := by
      have h1 := (h x).1 (by simp)
      have h2 := (h y).2 (by simp)
      rcases List.mem_cons.1 h1 with g | g
      · exact g
      · rcases List.mem_cons.1 h2 with g2 | g2
        · exact g2.symm
        · have := hM'.1 x g
          have := hL'.1 y g2
          omega
    subst hxy
    congr 1
    refine asc_eq hL'.2 hM'.2 fun z => ⟨fun hz => ?_, fun hz => ?_⟩
    · rcases List.mem_cons.1 ((h z).1 (by simp [hz])) with g | g
      · have := hL'.1 z hz
        omega
      · exact g
    · rcases List.mem_cons.1 ((h z).2 (by simp [hz])) with g | g
      · have := hM'.1 z hz
        omega
      · exact g

theorem asc_get {L : List Nat} (h : L.Pairwise (· < ·)) {i j : Nat} (hij : i < j) (hj : j < L.length) : L[i]'(by omega) < L[j] := List.pairwise_iff_getElem.1 h i j (by omega) hj hij
theorem asc_snoc {L : List Nat} {x : Nat} (h : L.Pairwise (· < ·)) (hx : ∀ (h0 : 0 < L.length), L[L.length - 1] < x) : (L ++ [x]).Pairwise (· < ·) := by
  refine List.pairwise_append.2 ⟨h, by simp, fun a ha b hb => ?_⟩
  simp only [List.mem_singleton] at hb
  subst hb
  obtain ⟨j, hj, rfl⟩ := List.getElem_of_mem ha
  have h0 := hx (by omega)
  by_cases hjl : j = L.length - 1
  · subst hjl; exact h0
  · exact Nat.lt_trans (asc_get h (by omega) (by omega)) h0

/-! ## Bits that are not in a set -/

theorem andNot_zero {x F : Nat} (hx : x < 9223372036854775808) : (iAndNot .i64 (x : Int) (F : Int) != 0) = true ↔ ¬ sub2 x F := by
  unfold iAndNot
  show (IntKind.wrap .i64 (((BitVec.ofInt 64 (x : Int) &&& ~~~BitVec.ofInt 64 (F : Int)).toNat : Nat) : Int) != 0) = true ↔ _
  rw [BitVec.ofInt_natCast, BitVec.ofInt_natCast]
  have hle : (BitVec.ofNat 64 x &&& ~~~BitVec.ofNat 64 F).toNat ≤ x := by
    rw [BitVec.toNat_and]
    refine Nat.le_trans Nat.and_le_left ?_
    rw [BitVec.toNat_ofNat]
    exact Nat.mod_le _ _
  rw [wrap_i64 (by omega) (by omega), bne_iff_ne]
  have hbit : ∀ i, (BitVec.ofNat 64 x &&& ~~~BitVec.ofNat 64 F).toNat.testBit i = (x.testBit i && (decide (i < 64) && !F.testBit i)) := fun i => by
    rw [BitVec.testBit_toNat, BitVec.getLsbD_and, BitVec.getLsbD_not, BitVec.getLsbD_ofNat, BitVec.getLsbD_ofNat]
    cases decide (i < 64) <;> cases x.testBit i <;> cases F.testBit i <;> rfl
  generalize (BitVec.ofNat 64 x &&& ~~~BitVec.ofNat 64 F).toNat = v at hle hbit
  have hb64 : ∀ i, x.testBit i = true → i < 64 := fun i hi => bit_lt (n := 64) (by omega) hi
  constructor
  · intro h hs
    apply h
    have : v = 0 := by
      apply Nat.eq_of_testBit_eq
      intro i
      rw [hbit i]
      cases hxi : x.testBit i
      · simp
      · simp [hs i hxi]
    rw [this]
    rfl
  · intro h h0
    have h0' : v = 0 := by exact_mod_cast h0
    apply h
    intro i hi
    have h1 := hbit i
    rw [h0', hi] at h1
    have h2 := hb64 i hi
    simp [h2] at h1
    exact h1

/-! ## Reached sets -/

inductive Reach (F : Nat) (G : Nat → Bool) : Nat → Prop
  | zero : Reach F G 0
  | step {S i : Nat} (h : Reach F G S) (hs : stepB F G S i = true) : Reach F G (S ||| 2 ^ i)

theorem Reach.sub {F : Nat} {G : Nat → Bool} {S : Nat} (h : Reach F G S) : sub2 S F := by
  induction h with
  | zero => exact sub2.zero F
  | step h hs ih => exact ih.or (step_parts hs).1

theorem contains_eq {l : List Int} (hl : l.length ≤ 1000) (v : Int) : m_slices_Contains__int_int l v = some (decide (v ∈ l)) := by
  unfold m_slices_Contains__int_int
  suffices h : ∃ r, m_slices_Index__int_int l v = some r ∧ decide (r ≥ 0) = decide (v ∈ l) by
    obtain ⟨r, h1, h2⟩ := h
    rw [h1, bnd_some, h2]
  unfold m_slices_Index__int_int
  rcases find_range l (fun x => v == x) (fun i _ => (.inl (i : Int) : Int ⊕ Unit)) (fun i => match l[i]? with | some x => if (v == x) = true then some (.inl (i : Int)) else none | none => none) (fun i hi => by rw [List.getElem?_eq_getElem hi]) with ⟨i, hi, h1, h2, h3⟩ | ⟨h1, h2, h3⟩
  · refine ⟨(i : Int), ?_, ?_⟩
    · refine bnd_loop_find (fun (i : Nat) => (i : Int)) l.length (fun i => match l[i]? with | some x => if (v == x) = true then some (.inl (i : Int)) else none | none => none) (.inr ()) rfl (fun i hi => ?_) ?_ (by rw [h3]; rfl)
      · have d0 : decide ((i : Int) < (l.length : Int)) = true := by simp; omega
        simp only [d0, cond_true, elt_lt hi, bnd_some, wrap_succ hi (by omega), List.getElem?_eq_getElem hi]
        cases (v == l[i]) <;> rfl
      · have d0 : decide ((l.length : Int) < (l.length : Int)) = false := by simp
        simp only [d0, cond_false]
    · have e1 : v = l[i] := eq_of_beq h1
      have hmem : v ∈ l := by rw [e1]; exact List.getElem_mem hi
      simp [hmem]
  · refine ⟨-1, ?_, ?_⟩
    · refine bnd_loop_find (fun (i : Nat) => (i : Int)) l.length (fun i => match l[i]? with | some x => if (v == x) = true then some (.inl (i : Int)) else none | none => none) (.inr ()) rfl (fun i hi => ?_) ?_ (by rw [h3]; rfl)
      · have d0 : decide ((i : Int) < (l.length : Int)) = true := by simp; omega
        simp only [d0, cond_true, elt_lt hi, bnd_some, wrap_succ hi (by omega), List.getElem?_eq_getElem hi]
        cases (v == l[i]) <;> rfl
      · have d0 : decide ((l.length : Int) < (l.length : Int)) = false := by simp
        simp only [d0, cond_false]
    · have hn : v ∉ l := fun hm => by
        have := h2 v hm
        simp at this
      simp [hn]

theorem mem_iz {L : List Nat} {S : Nat} : (S : Int) ∈ iz L ↔ S ∈ L := by
  unfold iz
  rw [List.mem_map]
  constructor
  · rintro ⟨x, hx, e⟩
    have : x = S := by exact_mod_cast e
    subst this; exact hx
  · intro h; exact ⟨S, h, rfl⟩

theorem few256 {L : List Nat} (hn : L.Nodup) (hl : ∀ S ∈ L, S < 256) : L.length ≤ 256 := by
  have := hn.length_le_of_subset (l₂ := List.range 256) fun S hS => by simpa using hl S hS
  simpa using this

theorem sort_iz {L : List Nat} (hn : L.Nodup) (h0 : 0 < L.length) (hl : L.length ≤ 1000) : ∃ R, sortM (iz L) = some (iz R) ∧ R.length = L.length ∧ R.Pairwise (· < ·) ∧ ∀ S, S ∈ R ↔ S ∈ L := by
  unfold sortM
  rw [if_pos ⟨by simpa using h0, by simp; omega⟩]
  have hp := List.mergeSort_perm (iz L) (fun x y => decide (x ≤ y))
  have hs := List.pairwise_mergeSort (le := fun (x y : Int) => decide (x ≤ y)) (fun a b c h1 h2 => by simp at h1 h2 ⊢; omega) (fun a b => by simp; omega) (iz L)
  generalize (iz L).mergeSort (fun x y => decide (x ≤ y)) = r at hp hs
  have hr : ∃ R, r = iz R := by
    refine ⟨r.map Int.toNat, ?_⟩
    have : ∀ x ∈ r, ((x.toNat : Nat) : Int) = x := fun x hx => by
      have := (hp.mem_iff.1 hx)
      unfold iz at this
      obtain ⟨y, _, rfl⟩ := List.mem_map.1 this
      simp
    unfold iz
    rw [List.map_map]
    conv => lhs; rw [← List.map_id r]
    exact List.map_congr_left fun x hx => (this x hx).symm
  obtain ⟨R, rfl⟩ := hr
  have hnR : (iz L).Nodup := by
    unfold iz
    exact List.pairwise_map.2 (hn.imp fun h => by omega)
  have hnd : (iz R).Nodup := hp.nodup_iff.2 hnR
  refine ⟨R, rfl, by have := hp.length_eq; simpa using this, ?_, fun S => ?_⟩
  · have h1 : (iz R).Pairwise (fun a b => decide (a ≤ b) = true ∧ a ≠ b) := hs.and hnd
    unfold iz at h1
    have h2 := List.pairwise_map.1 h1
    exact h2.imp fun h => by simp at h; omega
  · rw [← mem_iz, ← mem_iz (L := L)]
    exact hp.mem_iff

theorem reach_eq {p : T_Plan} (hv : validN p = 0) : ∃ R, m_activation_Reachable p = some (iz R, 0) ∧ R.Pairwise (· < ·) ∧ ∀ S, S ∈ R ↔ Reach (fullP p) (goodP p) S := by
  have h := planOk.1 hv
  have hF : fullP p < 256 := mask256 h.le8
  have hFn : fullP p < 2 ^ p.Now.length := mask_lt _ _
  have h256 : ∀ {S}, Reach (fullP p) (goodP p) S → S < 256 := fun hr => by have := hr.sub.le; omega
  unfold m_activation_Reachable
  rw [valid_eq]
  have e : ((validN p : Int) != 0) = false := by rw [hv]; rfl
  simp only [bnd_some, e, cond_false, all_eq h.le8 h.len]
  suffices hk : ∃ r, bnd (loopM (τ := List Int) (fun (s1 : List Int × Int) => bif decide (s1.2 < (s1.1.length : Int)) then (bnd (loopM (τ := List Int) (fun (s2 : List Int × Int) => bif decide (s2.2 < (p.Now.length : Int)) then (bnd (elt s2.1 s1.2) fun x1 => bnd (shlM .i64 1 s2.2) fun q1 => bnd ((bnd (shrM .i64 (fullP p : Int) s2.2) fun q2 => bif ((iAnd .i64 q2 1) == 1) then (bnd (m_slices_Contains__int_int s2.1 (iOr .i64 x1 q1)) fun r3 => bif !r3 then (bnd (m_activation_good p (iOr .i64 x1 q1)) fun r4 => some r4) else (some false)) else (some false) : Option Bool)) fun o3 => bif o3 then (bnd (app 8 s2.1 [iOr .i64 x1 q1]) fun l1 => some (.next (l1, IntKind.wrap .i64 (s2.2 + 1)))) else (some (.next (s2.1, IntKind.wrap .i64 (s2.2 + 1))))) else (some (.done s2.1))) (s1.1, 0)) fun o2 => some (.next (o2, IntKind.wrap .i64 (s1.2 + 1)))) else (some (.done s1.1))) ([0], 0))
      (fun o1 => bnd (sortM o1) fun r5 => bnd (chkLen o1.length r5) fun l2 => some (r5, (0 : Int))) = some r ∧ ∃ R, r = (iz R, 0) ∧ R.Pairwise (· < ·) ∧ ∀ S, S ∈ R ↔ Reach (fullP p) (goodP p) S by
    obtain ⟨r, k1, R, rfl, k2, k3⟩ := hk
    exact ⟨R, k1, k2, k3⟩
  refine bnd_loop_inv (fun s => ∃ (L : List Nat) (k : Nat), s = (iz L, (k : Int)) ∧ k ≤ L.length ∧ L.Nodup ∧ 0 ∈ L ∧ (∀ S ∈ L, Reach (fullP p) (goodP p) S) ∧ ∀ (j : Nat) (hj : j < L.length), j < k → ∀ i, stepB (fullP p) (goodP p) L[j] i = true → L[j] ||| 2 ^ i ∈ L)
    (fun s => 300 - s.2.toNat) (fun t => ∃ L : List Nat, t = iz L ∧ L.Nodup ∧ 0 ∈ L ∧ (∀ S ∈ L, Reach (fullP p) (goodP p) S) ∧ ∀ S ∈ L, ∀ i, stepB (fullP p) (goodP p) S i = true → S ||| 2 ^ i ∈ L)
    ⟨[0], 0, rfl, by simp, by simp, by simp, fun S hS => by simp at hS; subst hS; exact .zero, fun j hj hk => by omega⟩ (fun s hI => ?_) (fun t ht => ?_)
  · obtain ⟨L, k, rfl, hk, hn, h0, hr, hc⟩ := hI
    have hlen := few256 hn fun S hS => h256 (hr S hS)
    by_cases hkl : k < L.length
    · have d0 : decide ((k : Int) < ((iz L).length : Int)) = true := by simp; omega
      simp only [d0, cond_true]
      left
      obtain ⟨o2, hm, L', he, hn', hr', hp', hin'⟩ : ∃ o2, loopM (τ := List Int) (fun (s2 : List Int × Int) => bif decide (s2.2 < (p.Now.length : Int)) then (bnd (elt s2.1 (k : Int)) fun x1 => bnd (shlM .i64 1 s2.2) fun q1 => bnd ((bnd (shrM .i64 (fullP p : Int) s2.2) fun q2 => bif ((iAnd .i64 q2 1) == 1) then (bnd (m_slices_Contains__int_int s2.1 (iOr .i64 x1 q1)) fun r3 => bif !r3 then (bnd (m_activation_good p (iOr .i64 x1 q1)) fun r4 => some r4) else (some false)) else (some false) : Option Bool)) fun o3 => bif o3 then (bnd (app 8 s2.1 [iOr .i64 x1 q1]) fun l1 => some (.next (l1, IntKind.wrap .i64 (s2.2 + 1)))) else (some (.next (s2.1, IntKind.wrap .i64 (s2.2 + 1))))) else (some (.done s2.1))) (iz L, 0) = some o2 ∧
          ∃ L' : List Nat, o2 = iz L' ∧ L'.Nodup ∧ (∀ S ∈ L', Reach (fullP p) (goodP p) S) ∧ (∃ M, L' = L ++ M) ∧ ∀ i, i < p.Now.length → stepB (fullP p) (goodP p) L[k] i = true → L[k] ||| 2 ^ i ∈ L' := by
        refine loop_inv (fun s => ∃ (L' : List Nat) (i : Nat), s = (iz L', (i : Int)) ∧ i ≤ p.Now.length ∧ L'.Nodup ∧ (∀ S ∈ L', Reach (fullP p) (goodP p) S) ∧ (∃ M, L' = L ++ M) ∧ ∀ j, j < i → stepB (fullP p) (goodP p) L[k] j = true → L[k] ||| 2 ^ j ∈ L')
          (fun s => p.Now.length - s.2.toNat) _ (fun s hI => ?_) _ ⟨L, 0, rfl, by omega, hn, hr, ⟨[], by simp⟩, fun j hj => by omega⟩
        obtain ⟨L', i, rfl, hi, hn', hr', ⟨M, hM⟩, hin⟩ := hI
        have hlen' := few256 hn' fun S hS => h256 (hr' S hS)
        by_cases hil : i < p.Now.length
        · have hi8 : i < 8 := by have := h.le8; omega
          have d1 : decide ((i : Int) < (p.Now.length : Int)) = true := by simp; omega
          have hkL : k < L'.length := by rw [hM]; simp; omega
          have hget : L'[k] = L[k] := by subst hM; rw [List.getElem_append_left]
          have hSk : L[k] < 256 := h256 (hr _ (List.getElem_mem hkl))
          have hdv : fullP p / 2 ^ i < 4611686018427387904 := Nat.lt_of_le_of_lt (Nat.div_le_self _ _) (by omega)
          have hor := or256 hSk hi8
          have hw := wrap_succ hil (by have := h.le8; omega)
          simp only [d1, cond_true, elt_iz hkL, bnd_some, hget, shl1 hi8, shr1 (a := fullP p) (i := i) (by omega), and1 hdv, bit_is1, or1 hSk hi8, hw]
          left
          have stay : ∀ (hno : stepB (fullP p) (goodP p) L[k] i = true → L[k] ||| 2 ^ i ∈ L'), ∃ (L'' : List Nat) (i' : Nat), (iz L', ((i + 1 : Nat) : Int)) = (iz L'', (i' : Int)) ∧ i' ≤ p.Now.length ∧ L''.Nodup ∧ (∀ S ∈ L'', Reach (fullP p) (goodP p) S) ∧ (∃ M, L'' = L ++ M) ∧ ∀ j, j < i' → stepB (fullP p) (goodP p) L[k] j = true → L[k] ||| 2 ^ j ∈ L'' :=
            fun hno => ⟨L', i + 1, rfl, by omega, hn', hr', ⟨M, hM⟩, fun j hj hst => by
              by_cases hji : j = i
              · subst hji; exact hno hst
              · exact hin j (by omega) hst⟩
          have hmu : ∀ l : List Int, p.Now.length - (l, ((i + 1 : Nat) : Int)).2.toNat < p.Now.length - (iz L', (i : Int)).2.toNat := fun l => by
            show p.Now.length - ((i + 1 : Nat) : Int).toNat < p.Now.length - ((i : Nat) : Int).toNat
            omega
          cases hb : (fullP p).testBit i
          · exact ⟨_, rfl, stay (fun hst => by have := (step_parts hst).1; rw [hb] at this; cases this), hmu _⟩
          · simp only [cond_true]
            rw [contains_eq (by simp; omega)]
            simp only [bnd_some]
            by_cases hmem : ((L[k] ||| 2 ^ i : Nat) : Int) ∈ iz L'
            · simp only [hmem, decide_true, Bool.not_true, cond_false, bnd_some]
              exact ⟨_, rfl, stay (fun _ => mem_iz.1 hmem), hmu _⟩
            · simp only [hmem, decide_false, Bool.not_false, cond_true, good_eq h hor, bnd_some]
              cases hg : goodP p (L[k] ||| 2 ^ i)
              · exact ⟨_, rfl, stay (fun hst => by have := (step_parts hst).2.2; rw [hg] at this; cases this), hmu _⟩
              · simp only [cond_true]
                rw [app_eq (by simp; omega) (by simp; omega)]
                simp only [bnd_some]
                have hnm : L[k] ||| 2 ^ i ∉ L' := fun hh => hmem (mem_iz.2 hh)
                have hbk : (L[k]).testBit i = false := by
                  cases hbb : (L[k]).testBit i
                  · rfl
                  · exfalso
                    apply hnm
                    have := or_same L[k] i
                    rw [hbb, beq_iff_eq] at this
                    have h2 : L[k] ||| 2 ^ i = L[k] := by exact_mod_cast this
                    rw [h2, ← hget]
                    exact List.getElem_mem hkL
                have hst : stepB (fullP p) (goodP p) L[k] i = true := by unfold stepB; simp [hb, hbk, hg]
                refine ⟨_, rfl, ⟨L' ++ [L[k] ||| 2 ^ i], i + 1, by simp [iz], by omega, ?_, ?_, ⟨M ++ [L[k] ||| 2 ^ i], by rw [hM]; simp⟩, fun j hj hstj => ?_⟩, hmu _⟩
                · refine List.nodup_append.2 ⟨hn', by simp, fun a ha b hb' hab => ?_⟩
                  simp only [List.mem_singleton] at hb'
                  subst hb'; subst hab
                  exact hnm ha
                · intro S hS
                  rcases List.mem_append.1 hS with hS | hS
                  · exact hr' S hS
                  · simp only [List.mem_singleton] at hS
                    subst hS
                    exact .step (hr _ (List.getElem_mem hkl)) hst
                · by_cases hji : j = i
                  · subst hji; simp
                  · exact List.mem_append.2 (.inl (hin j (by omega) hstj))
        · have d1 : decide ((i : Int) < (p.Now.length : Int)) = false := by simp; omega
          rw [d1]
          exact .inr ⟨_, rfl, L', rfl, hn', hr', ⟨M, hM⟩, fun j hj hst => hin j (by omega) hst⟩
      obtain ⟨M, hM⟩ := hp'
      rw [hm]
      subst he
      have hlen' := few256 hn' fun S hS => h256 (hr' S hS)
      have hlL : L.length ≤ L'.length := by rw [hM]; simp
      rw [bnd_some, wrap_succ hkl (by omega)]
      refine ⟨_, rfl, ⟨L', k + 1, rfl, by omega, hn', by rw [hM]; exact List.mem_append.2 (.inl h0), hr', fun j hj hjk i hst => ?_⟩, ?_⟩
      · have hjL : j < L.length := by omega
        have hget : L'[j] = L[j] := by subst hM; rw [List.getElem_append_left]
        rw [hget] at hst ⊢
        by_cases hjk2 : j = k
        · subst hjk2
          exact hin' i (bit_lt hFn (step_parts hst).1) hst
        · have := hc j hjL (by omega) i hst
          rw [hM]
          exact List.mem_append.2 (.inl this)
      · show 300 - ((k + 1 : Nat) : Int).toNat < 300 - ((k : Nat) : Int).toNat
        omega
    · have d0 : decide ((k : Int) < ((iz L).length : Int)) = false := by simp; omega
      rw [d0]
      refine .inr ⟨_, rfl, L, rfl, hn, h0, hr, fun S hS i hst => ?_⟩
      obtain ⟨j, hj, rfl⟩ := List.getElem_of_mem hS
      exact hc j hj (by omega) i hst
  · obtain ⟨L, rfl, hn, h0, hr, hc⟩ := ht
    have hlen := few256 hn fun S hS => h256 (hr S hS)
    have hpos : 0 < L.length := List.length_pos_of_mem h0
    obtain ⟨R, hs, hRl, hRp, hRm⟩ := sort_iz hn hpos (by omega)
    rw [hs]
    have hck : chkLen (iz L).length (iz R) = some (iz R) := by unfold chkLen; rw [if_pos (by simp [hRl])]
    rw [bnd_some, hck, bnd_some]
    refine ⟨_, rfl, R, rfl, hRp, fun S => ?_⟩
    rw [hRm]
    constructor
    · exact hr S
    · intro hS
      induction hS with
      | zero => exact h0
      | step _ hst ih => exact hc _ ih _ hst

theorem reach_bad {p : T_Plan} (hv : validN p ≠ 0) : m_activation_Reachable p = some ([], (validN p : Int)) := by
  unfold m_activation_Reachable
  rw [valid_eq]
  have e : ((validN p : Int) != 0) = true := by
    rw [bne_iff_ne]; exact_mod_cast hv
  simp only [bnd_some, e, cond_true]
end Go.Proofs.Yteaoblglgcpdnaa
