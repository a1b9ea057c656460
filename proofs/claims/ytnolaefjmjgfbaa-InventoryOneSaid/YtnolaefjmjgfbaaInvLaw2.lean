/-
  The law of the differences at a single slot answers true.
  Conditions: none.
-/
import Derived.Test.YtnolaefjmjgfbaaInvLaw1
namespace Go.Proofs.Ytnolaefjmjgfbaa
open Go
set_option linter.unusedSimpArgs false
set_option linter.unusedVariables false

theorem idd_none (s : ByteArray) : idd [] s = false := by simp [idd, cnt]
theorem idd_one (k : T_Known) (s : ByteArray) : idd [k] s = (decide (s ≠ emp) && decide (k.Serial = s)) := by
  unfold idd cnt
  by_cases h : k.Serial = s <;> simp [List.countP_cons, h]
theorem slotOf_one (k : T_Known) (s : ByteArray) (h : k.Serial = s) : slotOf [k] s = some k.Slot := by simp [slotOf, h]
theorem atS_none (i : Int) : atS [] i = (zeroK, false) := rfl
theorem atS_one (k : T_Known) (i : Int) : atS [k] i = if k.Slot = i then (k, true) else (zeroK, false) := by
  unfold atS
  by_cases h : k.Slot = i <;> simp [List.find?_cons, h]
theorem diffAt_none {a b : List T_Known} {i : Int} (ha : (atS a i).2 = false) (hb : (atS b i).2 = false) : diffAt a b i = [] := by
  unfold diffAt
  simp [ha, hb]

theorem valid_one {k : T_Known} (h0 : 0 ≤ k.Slot) (h1 : k.Slot < 16) (h2 : k.Serial.size ≤ 23) (h3 : k.Good = true ∨ k.Serial = emp) : validB [k] = true :=
  valid_add (l := []) rfl (by simp) h0 h1 h2 h3

theorem diffs_at {a b : List T_Known} {s : Int} (h0 : 0 ≤ s) (h1 : s < 16) (ha : ∀ i, i ≠ s → (atS a i).2 = false) (hb : ∀ i, i ≠ s → (atS b i).2 = false) : diffs a b 16 = diffAt a b s := by
  obtain ⟨k, rfl⟩ := Int.eq_ofNat_of_zero_le h0
  exact flatMap_one (fun i : Nat => diffAt a b (i : Int)) 16 k (by omega) (fun i _ hne => diffAt_none (ha _ (by omega)) (hb _ (by omega)))

theorem one_both (o n : T_Known) (s : Int) (h0 : 0 ≤ s) (h1 : s < 16) (ho : o.Slot = s) (hn : n.Slot = s) : diffs [o] [n] 16 =
    bif decide (o.Serial = n.Serial) && decide (n.Serial ≠ emp) then (bif o.Sum != n.Sum then [⟨5, s, 0⟩] else []) else bif (o.Good == n.Good) && (decide (o.Serial = n.Serial) && (o.Sum == n.Sum)) then [] else [⟨3, s, 0⟩] := by
  rw [diffs_at h0 h1 (fun i hi => by rw [atS_one, if_neg (by omega)]) (fun i hi => by rw [atS_one, if_neg (by omega)])]
  unfold diffAt
  rw [atS_one, atS_one, if_pos ho, if_pos hn]
  have hs1 : (s != -1) = true := by rw [Bool.eq_iff_iff]; simp; omega
  have hs2 : ((-1 : Int) == s) = false := by rw [Bool.eq_iff_iff]; simp; omega
  simp only [foundB, orig, idd_one, ho, hn, beq_self_eq_true, Bool.true_and, Bool.and_true, cond_true, Bool.not_true, cond_false, Bool.false_or, str_beq]
  by_cases he : o.Serial = n.Serial
  · by_cases hz : n.Serial = emp
    · simp [he, hz, hs2]
      cases o.Good == n.Good <;> cases o.Sum == n.Sum <;> rfl
    · rw [he, slotOf_one o _ he]
      simp [he, hz, ho, hs1]
  · have he2 : ¬ n.Serial = o.Serial := fun e => he e.symm
    simp [he, he2, hs2]

theorem one_added (n : T_Known) (s : Int) (h0 : 0 ≤ s) (h1 : s < 16) (hn : n.Slot = s) : diffs [] [n] 16 = [⟨1, s, 0⟩] := by
  rw [diffs_at h0 h1 (fun i hi => rfl) (fun i hi => by rw [atS_one, if_neg (by omega)])]
  unfold diffAt
  rw [atS_one, if_pos hn, atS_none]
  have hs2 : ((-1 : Int) == s) = false := by rw [Bool.eq_iff_iff]; simp; omega
  simp [orig, idd_none, hs2]

theorem one_removed (o : T_Known) (s : Int) (h0 : 0 ≤ s) (h1 : s < 16) (ho : o.Slot = s) : diffs [o] [] 16 = [⟨2, s, 0⟩] := by
  rw [diffs_at h0 h1 (fun i hi => by rw [atS_one, if_neg (by omega)]) (fun i hi => rfl)]
  unfold diffAt
  rw [atS_one, if_pos ho, atS_none]
  simp [foundB, idd_none]

theorem one_true (slot : Int) (a b : ByteArray) (good was : Bool) (sum before : Int) : m_law19_InventoryOne slot a b good was sum before = some true := by
  unfold m_law19_InventoryOne
  by_cases ha : a.size ≤ 23
  · by_cases hb : b.size ≤ 23
    · have ha2 : ¬ ((a.size : Int) > 23) := by omega
      have hb2 : ¬ ((b.size : Int) > 23) := by omega
      obtain ⟨s, e1, h0, h1, _⟩ := mod_some slot 16 (by omega) (by omega)
      simp only [ha2, hb2, decide_false, cond_false, bnd_some, e1]
      have hw : ∀ (c : Bool) (t : ByteArray), (bif c then (some t) else (some (⟨#[]⟩ : ByteArray))) = some (bif c then t else emp) := fun c t => by cases c <;> rfl
      simp only [hw, bnd_some]
      have ho3 : was = true ∨ (bif was then a else emp) = emp := by cases was <;> simp
      have hn3 : good = true ∨ (bif good then b else emp) = emp := by cases good <;> simp
      have ho2 : (bif was then a else emp).size ≤ 23 := by cases was; exact Nat.zero_le _; exact ha
      have hn2 : (bif good then b else emp).size ≤ 23 := by cases good; exact Nat.zero_le _; exact hb
      generalize hA : (bif was then a else emp) = A at ho2 ho3
      generalize hB : (bif good then b else emp) = B at hn2 hn3
      have vo : validB [(⟨s, was, A, before⟩ : T_Known)] = true := valid_one h0 h1 ho2 ho3
      have vn : validB [(⟨s, good, B, sum⟩ : T_Known)] = true := valid_one h0 h1 hn2 hn3
      have v0 : validB [] = true := rfl
      simp only [str_emp]
      simp only [prog_Compare _ _ (show Short [(⟨s, was, A, before⟩ : T_Known)] by simp [Short]) (show Short [(⟨s, good, B, sum⟩ : T_Known)] by simp [Short]), prog_Compare _ _ (show Short ([] : List T_Known) by simp [Short]) (show Short [(⟨s, good, B, sum⟩ : T_Known)] by simp [Short]),
        prog_Compare _ _ (show Short [(⟨s, was, A, before⟩ : T_Known)] by simp [Short]) (show Short ([] : List T_Known) by simp [Short]), vo, vn, v0, and_self, if_true, bnd_some, one_both ⟨s, was, A, before⟩ ⟨s, good, B, sum⟩ s h0 h1 rfl rfl, one_added ⟨s, good, B, sum⟩ s h0 h1 rfl, one_removed ⟨s, was, A, before⟩ s h0 h1 rfl, beq_self_eq_true, cond_true, Bool.true_and, str_beq, str_emp]
      have hwant : (bif ((was == good) && (decide (A = B) && ((before == sum) && true))) then (some ([] : List T_Difference)) else (bnd (bif !decide (A = emp) then (some (decide (A = B))) else (some false)) fun o5 => bif o5 then (bnd (app 24 ([]) ([(⟨5, s, 0⟩ : T_Difference)])) fun l1 => some l1) else (bnd (app 24 ([]) ([(⟨3, s, 0⟩ : T_Difference)])) fun l2 => some l2))) =
          some (bif decide (A = B) && decide (B ≠ emp) then (bif before != sum then [⟨5, s, 0⟩] else []) else bif (was == good) && (decide (A = B) && (before == sum)) then [] else [⟨3, s, 0⟩]) := by
        simp only [app_nil 24 _ (by omega : 24 ≤ 140737488355328), bnd_some]
        by_cases hab : A = B
        · subst hab
          by_cases hz : A = emp
          · generalize (was == good) = g1
            generalize (before == sum) = g2
            cases g1 <;> cases g2 <;> simp [hz]
          · have hw1 : was = true := by rcases ho3 with h | h; exact h; exact absurd h hz
            have hg1 : good = true := by rcases hn3 with h | h; exact h; exact absurd h hz
            subst hw1; subst hg1
            cases hq : before == sum
            · have : (before != sum) = true := by simp [bne, hq]
              simp [hz, this]
            · have : (before != sum) = false := by simp [bne, hq]
              simp [hz, this]
        · have hab2 : A = emp → ¬ emp = B := fun e e2 => hab (e.trans e2)
          by_cases hz : A = emp
          · simp only [hab2 hz, hz, decide_false, decide_true, Bool.false_and, Bool.and_false, cond_false, cond_true, Bool.not_true, Bool.not_false, bnd_some]
          simp only [hab, hz, decide_false, decide_true, Bool.false_and, Bool.and_false, cond_false, cond_true, Bool.not_true, Bool.not_false, bnd_some]
      rw [hwant]
      simp only [bnd_some]
      have hsh : ∀ l : List T_Difference, l.length ≤ 1 → Short l := fun l h => short_of h (by omega)
      have hlen : (bif decide (A = B) && decide (B ≠ emp) then (bif before != sum then [(⟨5, s, 0⟩ : T_Difference)] else []) else bif (was == good) && (decide (A = B) && (before == sum)) then [] else [⟨3, s, 0⟩]).length ≤ 1 := by
        cases decide (A = B) && decide (B ≠ emp)
        · cases (was == good) && (decide (A = B) && (before == sum)) <;> simp
        · cases before != sum <;> simp
      rw [same_refl _ (hsh _ hlen)]
      simp only [bnd_some, cond_true, same_refl _ (hsh [(⟨1, s, 0⟩ : T_Difference)] (by simp)), same_refl _ (hsh [(⟨2, s, 0⟩ : T_Difference)] (by simp)), awake_true]
    · have hb2 : ((b.size : Int) > 23) := by omega
      by_cases h : (a.size : Int) > 23 <;> simp [h, hb2, awake_true]
  · have ha2 : ((a.size : Int) > 23) := by omega
    simp [ha2, awake_true]

end Go.Proofs.Ytnolaefjmjgfbaa
