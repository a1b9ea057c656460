/-
  The law of exchanged inventories answers true: the differences of two inventories and those of the two the other way round.
  Conditions: none.
-/
import Derived.Test.YtnolaefjmjgfbaaInvLaw1
namespace Go.Proofs.Ytnolaefjmjgfbaa
open Go
set_option linter.unusedSimpArgs false
set_option linter.unusedVariables false

/-! ## Sums over slots -/

def sm : Nat → (Nat → Nat) → Nat
  | 0, _ => 0
  | n + 1, f => sm n f + f n

theorem sm_congr {f g : Nat → Nat} : ∀ {n : Nat}, (∀ i, i < n → f i = g i) → sm n f = sm n g
  | 0, _ => rfl
  | n + 1, h => by rw [sm, sm, sm_congr (n := n) fun i hi => h i (by omega), h n (by omega)]
theorem sm_add (f g : Nat → Nat) : ∀ n, sm n (fun i => f i + g i) = sm n f + sm n g
  | 0 => rfl
  | n + 1 => by simp only [sm, sm_add f g n]; omega
theorem sm_zero : ∀ n, sm n (fun _ => 0) = 0
  | 0 => rfl
  | n + 1 => by simp only [sm, sm_zero n]
theorem sm_swap (f : Nat → Nat → Nat) (m : Nat) : ∀ n, sm n (fun i => sm m (f i)) = sm m (fun j => sm n (fun i => f i j))
  | 0 => by simp only [sm]; exact (sm_zero m).symm
  | n + 1 => by simp only [sm, sm_swap f m n, sm_add]
theorem sm_one (k : Nat) : ∀ n, sm n (fun i => if i = k then 1 else 0) = if k < n then 1 else 0
  | 0 => by simp [sm]
  | n + 1 => by
    simp only [sm, sm_one k n]
    by_cases h1 : k < n
    · have h2 : ¬ n = k := by omega
      have h3 : k < n + 1 := by omega
      simp [h1, h2, h3]
    · by_cases h2 : n = k
      · have h3 : k < n + 1 := by omega
        simp [h1, h2]
      · have h3 : ¬ k < n + 1 := by omega
        simp [h1, h2, h3]

/-! ## Who came from where -/

theorem atS_slot {l : List T_Known} {s : Int} (h : (atS l s).2 = true) : (atS l s).1.Slot = s := by
  unfold atS at *
  split
  · rename_i k hk
    have := List.find?_some hk
    simpa using this
  · rename_i hk
    rw [hk] at h
    cases h
theorem atS_of {l : List T_Known} (hv : validB l = true) {k : T_Known} (hk : k ∈ l) : atS l k.Slot = (k, true) := by
  have h : (atS l k.Slot).2 = true := by
    unfold atS
    split
    · rfl
    · rename_i hn
      rw [List.find?_eq_none] at hn
      have := hn k hk
      simp at this
  have e := valid_uniq hv (atS_mem h) hk (atS_slot h)
  exact Prod.ext e h

def fr (a b : List T_Known) (s : Int) : Int := bif (atS b s).2 then orig a b (atS b s).1.Serial else -1
def un (a b : List T_Known) (s : Int) : Bool := (atS a s).2 && !foundB a b (atS a s).1.Serial

theorem foundB_comm (a b : List T_Known) (s : ByteArray) : foundB a b s = foundB b a s := by unfold foundB; rw [Bool.and_comm]

theorem orig_found {a b : List T_Known} (ha : validB a = true) (s : ByteArray) : (orig a b s != -1) = foundB a b s := by
  rcases orig_ge (a := a) (b := b) ha s with h | ⟨h1, h2, h3⟩
  · have : foundB a b s = false := by
      unfold foundB
      cases hi : idd a s
      · rfl
      · cases hj : idd b s
        · rfl
        · exfalso
          unfold orig at h
          rw [if_pos ⟨hj, hi⟩] at h
          obtain ⟨k, k1, k2, k3, _⟩ := idd_find hi
          rw [k3] at h
          have := valid_slot ha k1
          simp at h
          omega
    rw [this, h]; rfl
  · have : foundB a b s = true := by simp [foundB, h2, h3]
    rw [this, Bool.eq_iff_iff]
    simp
    omega

theorem fr_un {a b : List T_Known} (ha : validB a = true) (s : Int) : (fr a b s != -1) = ((atS b s).2 && !un b a s) := by
  unfold fr un
  cases (atS b s).2
  · rfl
  · simp only [cond_true, Bool.true_and, Bool.not_not]
    rw [orig_found ha, foundB_comm]

theorem fr_to {a b : List T_Known} (ha : validB a = true) (hb : validB b = true) {s t : Int} (ht : 0 ≤ t) (h : fr a b s = t) : fr b a t = s ∧ (atS a t).2 = true ∧ (atS a t).1.Slot = t ∧ t < 16 ∧ (atS b s).2 = true := by
  unfold fr at h
  cases hn : (atS b s).2
  · rw [hn] at h; simp at h; omega
  · rw [hn] at h
    simp only [cond_true] at h
    have hnm := atS_mem hn
    have hns := atS_slot hn
    generalize (atS b s).1 = n at h hnm hns
    unfold orig at h
    split at h
    · rename_i hc
      obtain ⟨k, k1, k2, k3, k4⟩ := idd_find hc.2
      rw [k3] at h
      simp only [Option.getD_some] at h
      have e := atS_of ha k1
      rw [h] at e
      refine ⟨?_, by rw [e], by rw [e]; exact h, by have := valid_slot ha k1; omega, rfl⟩
      unfold fr
      rw [e]
      simp only [cond_true]
      obtain ⟨m, m1, m2, m3, m4⟩ := idd_find hc.1
      unfold orig
      rw [k2, if_pos ⟨hc.2, hc.1⟩, m3, ← m4 n hnm rfl]
      exact hns
    · omega

theorem fr_iff {a b : List T_Known} (ha : validB a = true) (hb : validB b = true) {s t : Int} (hs : 0 ≤ s) (ht : 0 ≤ t) : fr a b s = t ↔ fr b a t = s :=
  ⟨fun h => (fr_to ha hb ht h).1, fun h => (fr_to hb ha hs h).1⟩

theorem fr_cases {a b : List T_Known} (ha : validB a = true) (s : Int) : fr a b s = -1 ∨ 0 ≤ fr a b s := by
  unfold fr
  cases (atS b s).2
  · exact .inl rfl
  · simp only [cond_true]
    rcases orig_ge (a := a) (b := b) ha (atS b s).1.Serial with h | ⟨h, _⟩
    · exact .inl h
    · exact .inr h

/-! ## How many of each kind -/

def cK (l : List T_Difference) (k : Int) : Nat := l.countP fun x => x.Kind == k

theorem law_count (l : List T_Difference) (k : Int) (hl : Short l) : m_law19_count l k = some (cK l k : Int) := by
  unfold m_law19_count
  rw [show ((0 : Int), (0 : Int)) = (fun i : Nat => (((cK (l.take i) k : Nat) : Int), (i : Int))) 0 from rfl, loop_run (fun i : Nat => (((cK (l.take i) k : Nat) : Int), (i : Int))) l.length (t := ((cK l k : Nat) : Int)) (fun i hi => ?_) (by simp)]
  · rfl
  · have hi2 : (i : Int) < (l.length : Int) := by omega
    have hc : cK (l.take (i + 1)) k = cK (l.take i) k + if l[i].Kind == k then 1 else 0 := by
      unfold cK
      rw [take_succ_get hi, List.countP_append]
      simp [List.countP_cons]
    have h1 : cK (l.take i) k ≤ (l.take i).length := List.countP_le_length
    rw [List.length_take] at h1
    have h2 : (cK (l.take i) k) < l.length := by omega
    simp only [hi2, decide_true, cond_true, elt_lt hi, bnd_some, wrap_succ hi hl, wrap_succ h2 hl, hc]
    cases h : l[i].Kind == k <;> simp

theorem cK_diffs (a b : List T_Known) (k : Int) : ∀ n, cK (diffs a b n) k = sm n fun i => cK (diffAt a b (i : Int)) k
  | 0 => rfl
  | n + 1 => by
    rw [diffs_succ, sm, ← cK_diffs a b k n]
    unfold cK
    rw [List.countP_append]

def b2n (b : Bool) : Nat := bif b then 1 else 0
def sameK (o n : T_Known) : Bool := (o.Slot == n.Slot) && ((o.Good == n.Good) && ((o.Serial.toList == n.Serial.toList) && ((o.Sum == n.Sum) && true)))

theorem diffAt_eq {a b : List T_Known} (ha : validB a = true) {s : Int} (hs : 0 ≤ s) : diffAt a b s =
    (bif un a b s && !un b a s then [⟨2, s, 0⟩] else []) ++
    (bif fr a b s != -1 && fr a b s != s then [⟨4, s, fr a b s⟩] else bif fr a b s == s then (bif (atS a s).1.Sum != (atS b s).1.Sum then [⟨5, s, 0⟩] else [])
      else bif un b a s && !un a b s then [⟨1, s, 0⟩] else bif un b a s && un a b s && !sameK (atS a s).1 (atS b s).1 then [⟨3, s, 0⟩] else []) := by
  have h1 := fr_un (b := b) ha s
  unfold diffAt
  show (bif un a b s && (!(atS b s).2 || fr a b s != -1) then [(⟨2, s, 0⟩ : T_Difference)] else []) ++ (bif !(atS b s).2 then [] else bif fr a b s != -1 && fr a b s != s then [⟨4, s, fr a b s⟩] else bif fr a b s == s then (bif (atS a s).1.Sum != (atS b s).1.Sum then [⟨5, s, 0⟩] else []) else bif !un a b s then [⟨1, s, 0⟩] else bif !sameK (atS a s).1 (atS b s).1 then [⟨3, s, 0⟩] else []) = _
  have h2 : (atS b s).2 = false → un b a s = false := fun h => by simp [un, h]
  have h3 : (fr a b s == s) = true → (fr a b s != -1) = true := fun h => by
    simp only [beq_iff_eq] at h
    rw [h, Bool.eq_iff_iff]; simp; omega
  have h4 : (fr a b s != s) = !(fr a b s == s) := rfl
  rw [h1] at h3 ⊢
  rw [h4]
  generalize sameK (atS a s).1 (atS b s).1 = sk
  generalize ((atS a s).1.Sum != (atS b s).1.Sum) = df
  generalize (fr a b s == s) = e2 at h3 ⊢
  generalize un b a s = ub at h2 h3 ⊢
  generalize un a b s = ua
  generalize (atS b s).2 = is at h2 h3 ⊢
  cases is
  · have := h2 rfl
    subst this
    cases e2
    · cases ua <;> simp
    · have := h3 rfl
      simp at this
  · cases ub <;> cases ua <;> cases e2 <;> simp at h3 ⊢

theorem kinds {a b : List T_Known} (ha : validB a = true) (hb : validB b = true) {s : Int} (hs : 0 ≤ s) :
    cK (diffAt a b s) 1 = b2n (un b a s && !un a b s) ∧ cK (diffAt a b s) 2 = b2n (un a b s && !un b a s) ∧ cK (diffAt a b s) 3 = b2n (un b a s && un a b s && !sameK (atS a s).1 (atS b s).1) ∧
    cK (diffAt a b s) 4 = b2n (fr a b s != -1 && fr a b s != s) ∧ cK (diffAt a b s) 5 = b2n ((fr a b s == s) && ((atS a s).1.Sum != (atS b s).1.Sum)) := by
  rw [diffAt_eq ha hs]
  have h1 := fr_un (b := b) ha s
  have h3 : (fr a b s == s) = true → (fr a b s != -1) = true := fun h => by
    simp only [beq_iff_eq] at h
    rw [h, Bool.eq_iff_iff]; simp; omega
  have h4 : (fr a b s != s) = !(fr a b s == s) := rfl
  have h5 : un b a s = true → (fr a b s != -1) = false := fun h => by rw [h1, h]; simp
  rw [h4]
  generalize sameK (atS a s).1 (atS b s).1 = sk
  generalize ((atS a s).1.Sum != (atS b s).1.Sum) = df
  generalize (fr a b s == s) = e2 at h3 ⊢
  generalize hz : (fr a b s != -1) = e1 at h3 h5 ⊢
  generalize un b a s = ub at h5 ⊢
  generalize un a b s = ua
  cases ub <;> cases e2 <;> cases e1 <;> simp at h3 h5 <;> cases ua <;> cases sk <;> cases df <;> simp [cK, b2n]

theorem sameK_comm (o n : T_Known) : sameK o n = sameK n o := by
  unfold sameK
  rw [Bool.eq_iff_iff]
  simp only [Bool.and_eq_true, beq_iff_eq, and_true]
  constructor <;> (rintro ⟨h1, h2, h3, h4⟩; exact ⟨h1.symm, h2.symm, h3.symm, h4.symm⟩)

theorem kind1 {a b : List T_Known} (ha : validB a = true) (hb : validB b = true) : cK (diffs a b 16) 1 = cK (diffs b a 16) 2 := by
  rw [cK_diffs, cK_diffs]
  exact sm_congr fun i _ => by rw [(kinds ha hb (by omega)).1, (kinds hb ha (by omega)).2.1]
theorem kind3 {a b : List T_Known} (ha : validB a = true) (hb : validB b = true) : cK (diffs a b 16) 3 = cK (diffs b a 16) 3 := by
  rw [cK_diffs, cK_diffs]
  exact sm_congr fun i _ => by rw [(kinds ha hb (by omega)).2.2.1, (kinds hb ha (by omega)).2.2.1, sameK_comm, Bool.and_comm (un b a _)]
theorem kind5 {a b : List T_Known} (ha : validB a = true) (hb : validB b = true) : cK (diffs a b 16) 5 = cK (diffs b a 16) 5 := by
  rw [cK_diffs, cK_diffs]
  refine sm_congr fun i _ => ?_
  rw [(kinds ha hb (by omega)).2.2.2.2, (kinds hb ha (by omega)).2.2.2.2]
  have h1 : (fr a b (i : Int) == (i : Int)) = (fr b a (i : Int) == (i : Int)) := by
    rw [Bool.eq_iff_iff]
    simp only [beq_iff_eq]
    exact fr_iff ha hb (by omega) (by omega)
  have h2 : ((atS a (i : Int)).1.Sum != (atS b (i : Int)).1.Sum) = ((atS b (i : Int)).1.Sum != (atS a (i : Int)).1.Sum) := by
    rw [Bool.eq_iff_iff]
    simp only [bne_iff_ne]
    exact ⟨fun h e => h e.symm, fun h e => h e.symm⟩
  rw [h1, h2]

/-- Slots with a partner, one by one. -/
theorem pairs_sum {a b : List T_Known} (ha : validB a = true) (hb : validB b = true) (q : Nat → Nat → Bool) (hq : ∀ i j, q i j = q j i) :
    sm 16 (fun i => sm 16 fun j => b2n ((fr a b (i : Int) == (j : Int)) && q i j)) = sm 16 (fun i => sm 16 fun j => b2n ((fr b a (i : Int) == (j : Int)) && q i j)) := by
  rw [sm_swap]
  refine sm_congr fun j _ => sm_congr fun i _ => ?_
  rw [hq j i]
  congr 2
  rw [Bool.eq_iff_iff]
  simp only [beq_iff_eq]
  exact fr_iff ha hb (by omega) (by omega)

theorem one_partner {a b : List T_Known} (ha : validB a = true) (hb : validB b = true) (i : Nat) (q : Nat → Bool) :
    (sm 16 fun j => b2n ((fr a b (i : Int) == (j : Int)) && q j)) = b2n (fr a b (i : Int) != -1 && q (fr a b (i : Int)).toNat) := by
  rcases fr_cases (b := b) ha (i : Int) with h | h
  · rw [h]
    have : ∀ j : Nat, b2n (((-1 : Int) == (j : Int)) && q j) = 0 := fun j => by
      have : ((-1 : Int) == (j : Int)) = false := by rw [Bool.eq_iff_iff]; simp
      rw [this]; rfl
    rw [sm_congr fun j _ => this j, sm_zero]
    rfl
  · have h16 := (fr_to ha hb h rfl).2.2.2.1
    obtain ⟨k, hk⟩ := Int.eq_ofNat_of_zero_le h
    rw [hk]
    have e1 : ((k : Int) != -1) = true := by rw [Bool.eq_iff_iff]; simp
    have : ∀ j : Nat, b2n (((k : Int) == (j : Int)) && q j) = if j = k then b2n (q k) else 0 := fun j => by
      by_cases hj : j = k
      · subst hj; simp
      · have : ((k : Int) == (j : Int)) = false := by rw [Bool.eq_iff_iff]; simp; omega
        rw [this, if_neg hj]; rfl
    rw [sm_congr fun j _ => this j, e1, Bool.true_and]
    have h3 : k < 16 := by omega
    cases hq : q k
    · simp [b2n, hq, sm_zero]
    · have := sm_one k 16
      simpa [b2n, hq, h3] using this

theorem kind4 {a b : List T_Known} (ha : validB a = true) (hb : validB b = true) : cK (diffs a b 16) 4 = cK (diffs b a 16) 4 := by
  rw [cK_diffs, cK_diffs]
  have h : ∀ (a b : List T_Known), validB a = true → validB b = true → ∀ i : Nat, cK (diffAt a b (i : Int)) 4 = sm 16 fun j => b2n ((fr a b (i : Int) == (j : Int)) && (i != j)) := fun a b ha hb i => by
    rw [(kinds ha hb (by omega)).2.2.2.1, one_partner ha hb i (fun j => i != j)]
    rcases fr_cases (b := b) ha (i : Int) with h | h
    · rw [h]; rfl
    · congr 1
      congr 1
      rw [Bool.eq_iff_iff]
      simp only [bne_iff_ne]
      omega
  rw [sm_congr fun i _ => h a b ha hb i, sm_congr fun i _ => h b a hb ha i]
  exact pairs_sum ha hb (fun i j => i != j) fun i j => by
    rw [Bool.eq_iff_iff]
    simp only [bne_iff_ne]
    omega

theorem paired_sum {a b : List T_Known} (ha : validB a = true) (hb : validB b = true) : sm 16 (fun i => b2n (fr a b (i : Int) != -1)) = sm 16 (fun i => b2n (fr b a (i : Int) != -1)) := by
  have h := pairs_sum ha hb (fun _ _ => true) fun _ _ => rfl
  have h2 : ∀ (a b : List T_Known), validB a = true → validB b = true → ∀ i : Nat, (sm 16 fun j => b2n ((fr a b (i : Int) == (j : Int)) && true)) = b2n (fr a b (i : Int) != -1) := fun a b ha hb i => by
    rw [one_partner ha hb i (fun _ => true), Bool.and_true]
  rw [sm_congr fun i _ => h2 a b ha hb i, sm_congr fun i _ => h2 b a hb ha i] at h
  exact h

theorem valid_len {l : List T_Known} (hv : validB l = true) : l.length = sm 16 fun i => b2n (atS l (i : Int)).2 := by
  have key : ∀ r : List T_Known, (∀ x ∈ r, 0 ≤ x.Slot ∧ x.Slot < 16) → (∀ (i j : Nat) (hi : i < r.length) (hj : j < r.length), i < j → r[i].Slot < r[j].Slot) → r.length = sm 16 fun i => b2n (atS r (i : Int)).2 := by
    intro r
    induction r with
    | nil => intro _ _; exact (sm_zero 16).symm
    | cons x r ih =>
      intro h1 h2
      have h3 := ih (fun y hy => h1 y (List.mem_cons_of_mem _ hy)) (fun i j hi hj hij => by
        have := h2 (i + 1) (j + 1) (by simpa using hi) (by simpa using hj) (by omega)
        simpa using this)
      have hx := h1 x (List.mem_cons_self ..)
      obtain ⟨k, hk⟩ := Int.eq_ofNat_of_zero_le hx.1
      have hne : ∀ y ∈ r, y.Slot ≠ x.Slot := fun y hy => by
        obtain ⟨i, hi, rfl⟩ := List.getElem_of_mem hy
        have := h2 0 (i + 1) (by simp) (by simpa using hi) (by omega)
        simp at this
        omega
      have e : ∀ i : Nat, b2n (atS (x :: r) (i : Int)).2 = (if i = k then 1 else 0) + b2n (atS r (i : Int)).2 := fun i => by
        by_cases hi : i = k
        · subst hi
          have g1 : (atS (x :: r) (i : Int)).2 = true := by simp [atS, List.find?_cons, hk]
          have g2 : (atS r (i : Int)).2 = false := by
            unfold atS
            rw [List.find?_eq_none.2 fun y hy => by have := hne y hy; simp; omega]
          rw [g1, g2, if_pos rfl]; rfl
        · have g1 : atS (x :: r) (i : Int) = atS r (i : Int) := by
            have : (x.Slot == (i : Int)) = false := by rw [Bool.eq_iff_iff]; simp; omega
            simp [atS, List.find?_cons, this]
          rw [g1, if_neg hi]; omega
      rw [sm_congr fun i _ => e i, sm_add, sm_one, if_pos (by omega), ← h3, List.length_cons]
      omega
  exact key l (fun x hx => valid_slot hv hx) (valid_mono hv)

theorem lens {a b : List T_Known} (ha : validB a = true) (hb : validB b = true) : b.length + cK (diffs a b 16) 2 = a.length + cK (diffs a b 16) 1 := by
  have h : ∀ (a b : List T_Known), validB a = true → validB b = true → b.length = sm 16 (fun i => b2n (fr a b (i : Int) != -1)) + sm 16 fun i => b2n (un b a (i : Int)) := fun a b ha hb => by
    rw [valid_len hb, ← sm_add]
    refine sm_congr fun i _ => ?_
    rw [fr_un ha]
    unfold un
    cases (atS b (i : Int)).2
    · rfl
    · cases foundB b a (atS b (i : Int)).1.Serial <;> rfl
  have h1 := h a b ha hb
  have h2 := h b a hb ha
  have h3 := paired_sum ha hb
  have h4 : sm 16 (fun i => b2n (un b a (i : Int))) + cK (diffs a b 16) 2 = sm 16 (fun i => b2n (un a b (i : Int))) + cK (diffs a b 16) 1 := by
    rw [cK_diffs, cK_diffs, ← sm_add, ← sm_add]
    refine sm_congr fun i _ => ?_
    rw [(kinds ha hb (by omega)).1, (kinds ha hb (by omega)).2.1]
    cases un b a (i : Int) <;> cases un a b (i : Int) <;> rfl
  omega

end Go.Proofs.Ytnolaefjmjgfbaa
