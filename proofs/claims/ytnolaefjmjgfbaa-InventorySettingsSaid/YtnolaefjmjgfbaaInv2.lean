/-
  The differences of two inventories: the program's model and the document's say the same.
  Conditions: none.
-/
import Derived.Test.YtnolaefjmjgfbaaInv1
namespace Go.Proofs.Ytnolaefjmjgfbaa
open Go
set_option linter.unusedSimpArgs false
set_option linter.unusedVariables false

/-- From which slot of a a unit of b with a serial number comes: -1, from none. -/
def orig (a b : List T_Known) (s : ByteArray) : Int := if idd b s = true ∧ idd a s = true then (slotOf a s).getD (-1) else -1

theorem idd_find {l : List T_Known} {s : ByteArray} (h : idd l s = true) : ∃ k, k ∈ l ∧ k.Serial = s ∧ slotOf l s = some k.Slot ∧ ∀ x ∈ l, x.Serial = s → x = k := by
  unfold idd at h
  simp only [Bool.and_eq_true, decide_eq_true_eq] at h
  obtain ⟨k, h1, h2, h3, h4, h5⟩ := one_of_count (p := fun k : T_Known => decide (k.Serial = s)) (l := l) h.2
  exact ⟨k, h3, by simpa using h4, by simp [slotOf, h2], fun x hx hs => h5 x hx (by simpa using hs)⟩

theorem prog_other (k : T_Known) (a b : List T_Known) : m_inventory_other k (idMap b b) (idMap a a) = some (orig a b k.Serial) := by
  unfold m_inventory_other orig
  rw [ident_get, ident_get]
  cases hb : idd b k.Serial
  · simp
  · cases ha : idd a k.Serial
    · obtain ⟨x, _, _, h, _⟩ := idd_find hb
      simp [h]
    · obtain ⟨x, _, _, h, _⟩ := idd_find hb
      obtain ⟨y, _, _, h2, _⟩ := idd_find ha
      simp [h, h2]

/-! ## Valid inventories -/

theorem valid_at {l : List T_Known} (hv : validB l = true) {i : Nat} (hi : i < l.length) : 0 ≤ l[i].Slot ∧ l[i].Slot < 16 ∧ (∀ h : 0 < i, l[i - 1].Slot < l[i].Slot) := by
  unfold validB at hv
  simp only [Bool.not_eq_true', List.any_eq_false, List.mem_range] at hv
  have := hv i hi
  unfold badAt at this
  rw [List.getElem?_eq_getElem hi] at this
  have hp : i - 1 < l.length := by omega
  rw [List.getElem?_eq_getElem hp] at this
  simp only [Bool.or_eq_true, Bool.and_eq_true, decide_eq_true_eq, not_or, not_and] at this
  refine ⟨by omega, by omega, fun h => ?_⟩
  have := this.2.2.1 h
  omega

theorem valid_mono {l : List T_Known} (hv : validB l = true) : ∀ (i j : Nat) (hi : i < l.length) (hj : j < l.length), i < j → l[i].Slot < l[j].Slot := by
  intro i j hi hj h
  induction j with
  | zero => omega
  | succ j ih =>
    have h1 := (valid_at hv hj).2.2 (by omega)
    simp only [Nat.add_sub_cancel] at h1
    by_cases hij : i = j
    · subst hij; exact h1
    · have := ih (by omega) (by omega)
      omega

theorem valid_uniq {l : List T_Known} (hv : validB l = true) {x y : T_Known} (hx : x ∈ l) (hy : y ∈ l) (h : x.Slot = y.Slot) : x = y := by
  obtain ⟨i, hi, rfl⟩ := List.getElem_of_mem hx
  obtain ⟨j, hj, rfl⟩ := List.getElem_of_mem hy
  rcases Nat.lt_trichotomy i j with h1 | h1 | h1
  · have := valid_mono hv i j hi hj h1; omega
  · subst h1; rfl
  · have := valid_mono hv j i hj hi h1; omega

theorem valid_slot {l : List T_Known} (hv : validB l = true) {x : T_Known} (hx : x ∈ l) : 0 ≤ x.Slot ∧ x.Slot < 16 := by
  obtain ⟨i, hi, rfl⟩ := List.getElem_of_mem hx
  have := valid_at hv hi
  exact ⟨this.1, this.2.1⟩

theorem orig_ge {a b : List T_Known} (ha : validB a = true) (s : ByteArray) : orig a b s = -1 ∨ (0 ≤ orig a b s ∧ idd a s = true ∧ idd b s = true) := by
  unfold orig
  split
  · rename_i h
    obtain ⟨k, h1, h2, h3, h4⟩ := idd_find h.2
    rw [h3]
    exact .inr ⟨(valid_slot ha h1).1, h.2, h.1⟩
  · exact .inl rfl

/-- Whether a unit of the elder inventory is found in the other one. -/
def foundB (a b : List T_Known) (s : ByteArray) : Bool := idd a s && idd b s

theorem atS_mem {l : List T_Known} {s : Int} (h : (atS l s).2 = true) : (atS l s).1 ∈ l := by
  unfold atS at *
  split
  · rename_i k hk
    exact List.mem_of_find?_eq_some hk
  · rename_i hk
    rw [hk] at h
    cases h

/-! ## The differences -/

/-- The differences at a slot. -/
def diffAt (a b : List T_Known) (s : Int) : List T_Difference :=
  let o := atS a s
  let n := atS b s
  let lost := o.2 && !foundB a b o.1.Serial
  let from_ := bif n.2 then orig a b n.1.Serial else -1
  (bif lost && (!n.2 || from_ != -1) then [⟨2, s, 0⟩] else []) ++
  (bif !n.2 then [] else bif from_ != -1 && from_ != s then [⟨4, s, from_⟩] else bif from_ == s then (bif o.1.Sum != n.1.Sum then [⟨5, s, 0⟩] else [])
    else bif !lost then [⟨1, s, 0⟩] else bif !((o.1.Slot == n.1.Slot) && ((o.1.Good == n.1.Good) && ((o.1.Serial.toList == n.1.Serial.toList) && ((o.1.Sum == n.1.Sum) && true)))) then [⟨3, s, 0⟩] else [])

def diffs (a b : List T_Known) (n : Nat) : List T_Difference := (List.range n).flatMap fun i : Nat => diffAt a b (i : Int)

theorem diffAt_len (a b : List T_Known) (s : Int) : (diffAt a b s).length ≤ 2 := by
  unfold diffAt
  simp only [List.length_append]
  have h1 : ∀ (c : Bool) (x : T_Difference), (bif c then [x] else []).length ≤ 1 := fun c x => by cases c <;> simp
  have h2 : ∀ (c1 c2 c3 c4 c5 c6 : Bool) (x1 x2 x3 x4 : T_Difference), (bif c1 then [] else bif c2 then [x1] else bif c3 then (bif c4 then [x2] else []) else bif c5 then [x3] else bif c6 then [x4] else []).length ≤ 1 := fun c1 c2 c3 c4 c5 c6 _ _ _ _ => by
    cases c1 <;> cases c2 <;> cases c3 <;> cases c4 <;> cases c5 <;> cases c6 <;> simp
  exact Nat.add_le_add (h1 _ _) (h2 _ _ _ _ _ _ _ _ _ _)

theorem diffs_succ (a b : List T_Known) (n : Nat) : diffs a b (n + 1) = diffs a b n ++ diffAt a b (n : Int) := by
  unfold diffs
  rw [List.range_succ, List.flatMap_append]
  simp

theorem diffs_len (a b : List T_Known) (n : Nat) : (diffs a b n).length ≤ 2 * n := by
  induction n with
  | zero => simp [diffs]
  | succ n ih =>
    rw [diffs_succ, List.length_append]
    have := diffAt_len a b (n : Int)
    omega

theorem app_nil {α : Type} (b : Nat) (x : α) (h : b ≤ 140737488355328) : app b ([] : List α) [x] = some [x] := app_eq (by simpa using h) (by simp)
theorem app_one {α : Type} (b : Nat) (y x : α) (h : b ≤ 70368744177664) : app b [y] [x] = some [y, x] := app_eq (by simp; omega) (by simp)

theorem prog_compare (a b : List T_Known) (s : Int) (ha : Short a) (hb : Short b) (hva : validB a = true) (hvb : validB b = true) : m_inventory_compare a b s = some (diffAt a b s) := by
  unfold m_inventory_compare diffAt
  simp only [prog_ident a ha, prog_ident b hb, bnd_some, prog_at a s ha, prog_at b s hb, prog_other]
  have hlost : (orig b a (atS a s).1.Serial == -1) = !foundB a b (atS a s).1.Serial := by
    rcases orig_ge (a := b) (b := a) hvb (atS a s).1.Serial with h | ⟨h1, h2, h3⟩
    · have : foundB a b (atS a s).1.Serial = false := by
        unfold orig at h
        split at h
        · rename_i hc
          obtain ⟨k, k1, k2, k3, k4⟩ := idd_find hc.2
          have := valid_slot hvb k1
          rw [k3] at h
          simp at h
          omega
        · rename_i hc
          unfold foundB
          cases h1 : idd a (atS a s).1.Serial <;> cases h2 : idd b (atS a s).1.Serial <;> simp_all
      simp [h, this]
    · have : foundB a b (atS a s).1.Serial = true := by simp [foundB, h2, h3]
      have h4 : ¬ orig b a (atS a s).1.Serial = -1 := by omega
      simp [this, h4]
  simp only [hlost]
  generalize (atS a s) = o
  generalize (atS b s) = n
  obtain ⟨o, was⟩ := o
  obtain ⟨n, is⟩ := n
  simp only
  generalize foundB a b o.Serial = fd
  generalize orig a b n.Serial = og
  have e0 : ((-1 : Int) != -1) = false := rfl
  generalize ((o.Slot == n.Slot) && ((o.Good == n.Good) && ((o.Serial.toList == n.Serial.toList) && ((o.Sum == n.Sum) && true)))) = same
  generalize (o.Sum != n.Sum) = df
  cases was <;> cases is <;> cases fd <;> simp only [bnd_some, cond_true, cond_false, Bool.not_true, Bool.not_false, Bool.and_true, Bool.and_false, Bool.true_and, Bool.false_and, Bool.true_or, Bool.false_or, Bool.or_false, Bool.or_true, e0, app_nil, List.nil_append, List.append_nil, Nat.reduceLeDiff] <;>
    cases h1 : (og != -1) <;> cases h2 : (og != s) <;> cases h3 : (og == s) <;> cases df <;> cases same <;> simp [app_nil, app_one]

theorem prog_Compare (a b : List T_Known) (ha : Short a) (hb : Short b) : m_inventory_Compare a b = some (if validB a = true ∧ validB b = true then (diffs a b 16, 0) else ([], 1)) := by
  unfold m_inventory_Compare
  rw [prog_valid a ha, prog_valid b hb]
  cases hva : validB a
  · simp
  · cases hvb : validB b
    · simp
    · simp only [bnd_some, Bool.not_true, cond_false, and_self, if_true]
      rw [show (([] : List T_Difference), (0 : Int)) = (fun i : Nat => (diffs a b i, (i : Int))) 0 from rfl, loop_run (fun i : Nat => (diffs a b i, (i : Int))) 16 (t := diffs a b 16) (fun i hi => ?_) (by simp)]
      · rfl
      · have h1 : (i : Int) < 16 := by omega
        have h2 := diffs_len a b i
        have h3 := diffAt_len a b (i : Int)
        simp only [h1, decide_true, cond_true, prog_compare a b _ ha hb hva hvb, bnd_some]
        rw [app_eq (by omega) (by omega)]
        simp only [bnd_some, wrap_succ hi (by omega : 16 ≤ 140737488355328), diffs_succ]

/-! ## Lists of differences compared -/

theorem same_refl (l : List T_Difference) (hl : Short l) : m_ref19_SameDifferences l l = some true := by
  unfold m_ref19_SameDifferences
  simp only [bne_self_eq_false, cond_false]
  rw [show ((0 : Int)) = ((0 : Nat) : Int) from rfl, loop_run (fun i => (i : Int)) l.length (t := .inr ()) (fun i hi => ?_) (by simp)]
  · rfl
  · have hi2 : (i : Int) < (l.length : Int) := by omega
    simp only [hi2, decide_true, cond_true, elt_lt hi, bnd_some, wrap_succ hi hl]
    simp

end Go.Proofs.Ytnolaefjmjgfbaa
