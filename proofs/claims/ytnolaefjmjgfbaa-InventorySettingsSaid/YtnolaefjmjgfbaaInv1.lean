/-
  Inventories: which are valid, who is identified, what is at a slot: the program's models and the document's.
  Conditions: none.
-/
import Derived.Test.YtnolaefjmjgfbaaPure2
import Derived.Test.YtnolaefjmjgfbaaGenInventorySettings
namespace Go.Proofs.Ytnolaefjmjgfbaa
open Go
set_option linter.unusedSimpArgs false
set_option linter.unusedVariables false

/-- As many elements as memory has room for. -/
def Short {α : Type} (l : List α) : Prop := l.length ≤ 140737488355328

def emp : ByteArray := ⟨#[]⟩
theorem str_emp (a : ByteArray) : (a.toList == (⟨#[]⟩ : ByteArray).toList) = decide (a = emp) := str_beq a emp

/-- What is wrong with an element, for itself and next to the one in front of it. -/
def badAt (l : List T_Known) (i : Nat) : Bool := match l[i]? with
  | none => false
  | some k => decide (k.Slot < 0) || (decide (k.Slot ≥ 16) || ((match l[i - 1]? with | some p => decide (0 < i) && decide (k.Slot ≤ p.Slot) | none => false) || (decide ((k.Serial.size : Int) > 23) || (!k.Good && !decide (k.Serial = emp)))))
def validB (l : List T_Known) : Bool := !(List.range l.length).any (badAt l)

theorem slotted_eq (s : Int) : m_inventory_slotted s = some (!decide (s < 0) && !decide (s ≥ 16)) := by
  unfold m_inventory_slotted
  by_cases h : s < 0
  · have h2 : ¬ (0 ≤ s) := by omega
    simp [h, h2]
  · have h2 : 0 ≤ s := by omega
    by_cases h3 : s < 16
    · have h4 : ¬ (16 ≤ s) := by omega
      simp [h2, h3]
    · have h4 : 16 ≤ s := by omega
      simp [h2, h3, h4]

theorem valid_loop {m : Int → Option (Step Int (Bool ⊕ Unit))} (l : List T_Known) (hs : ∀ i, i < l.length → m (i : Int) = some (bif badAt l i then .done (.inl false) else .next ((i + 1 : Nat) : Int))) (hd : m (l.length : Int) = some (.done (.inr ()))) :
    (bnd (loopM m 0) fun o1 => retOr o1 fun _ => some true) = some (validB l) := by
  have h := loop_any (m := m) (fun i => (i : Int)) l.length (badAt l) hs hd
  rw [show ((0 : Nat) : Int) = 0 from rfl] at h
  rw [h]
  unfold validB
  cases (List.range l.length).any (badAt l) <;> rfl

theorem prog_valid (l : List T_Known) (hl : Short l) : m_inventory_Valid l = some (validB l) := by
  unfold m_inventory_Valid
  refine valid_loop l (fun i hi => ?_) ?_
  · have hi2 : (i : Int) < (l.length : Int) := by omega
    have hw := wrap_succ hi hl
    simp only [hi2, decide_true, cond_true, elt_lt hi, bnd_some, hw, slotted_eq, str_emp]
    unfold badAt
    rw [List.getElem?_eq_getElem hi]
    by_cases h0 : i = 0
    · subst h0
      simp only [List.getElem?_eq_getElem hi, Int.ofNat_zero, gt_iff_lt, Int.lt_irrefl, Nat.lt_irrefl, decide_false, cond_false, Bool.false_and, Bool.false_or, Int.natCast_zero, Nat.zero_sub, bnd_some]
      generalize l[0] = k
      generalize decide (k.Slot < 0) = b1
      generalize decide (k.Slot ≥ 16) = b2
      generalize decide (23 < (k.Serial.size : Int)) = b3
      generalize k.Good = b4
      generalize decide (k.Serial = emp) = b5
      cases b1 <;> cases b2 <;> cases b3 <;> cases b4 <;> cases b5 <;> rfl
    · have hp : i - 1 < l.length := by omega
      have hw2 := wrap_pred (by omega) hi hl
      have h00 : (0 : Int) < (i : Int) := by omega
      have h01 : 0 < i := by omega
      simp only [hw2, elt_lt hp, bnd_some, List.getElem?_eq_getElem hp, gt_iff_lt, h00, h01, decide_true, cond_true, Bool.true_and]
      generalize l[i] = k
      generalize l[i - 1] = p
      generalize decide (k.Slot < 0) = b1
      generalize decide (k.Slot ≥ 16) = b2
      generalize decide (23 < (k.Serial.size : Int)) = b3
      generalize k.Good = b4
      generalize decide (k.Serial = emp) = b5
      generalize decide (k.Slot ≤ p.Slot) = b6
      cases b1 <;> cases b2 <;> cases b3 <;> cases b4 <;> cases b5 <;> cases b6 <;> rfl
  · simp

theorem ref_valid (l : List T_Known) (hl : Short l) : m_ref19_Valid l = some (validB l) := by
  unfold m_ref19_Valid
  refine valid_loop l (fun i hi => ?_) ?_
  · have hi2 : (i : Int) < (l.length : Int) := by omega
    have hw := wrap_succ hi hl
    simp only [hi2, decide_true, cond_true, elt_lt hi, bnd_some, hw, str_emp]
    unfold badAt
    rw [List.getElem?_eq_getElem hi]
    by_cases h0 : i = 0
    · subst h0
      simp only [List.getElem?_eq_getElem hi, Int.ofNat_zero, gt_iff_lt, Int.lt_irrefl, Nat.lt_irrefl, decide_false, cond_false, Bool.false_and, Bool.false_or, Int.natCast_zero, Nat.zero_sub, bnd_some]
      generalize l[0] = k
      generalize decide (k.Slot < 0) = b1
      generalize decide (k.Slot ≥ 16) = b2
      generalize decide (23 < (k.Serial.size : Int)) = b3
      generalize k.Good = b4
      generalize decide (k.Serial = emp) = b5
      cases b1 <;> cases b2 <;> cases b3 <;> cases b4 <;> cases b5 <;> rfl
    · have hp : i - 1 < l.length := by omega
      have hw2 := wrap_pred (by omega) hi hl
      have h00 : (0 : Int) < (i : Int) := by omega
      have h01 : 0 < i := by omega
      simp only [hw2, elt_lt hp, bnd_some, List.getElem?_eq_getElem hp, gt_iff_lt, h00, h01, decide_true, cond_true, Bool.true_and]
      generalize l[i] = k
      generalize l[i - 1] = p
      generalize decide (k.Slot < 0) = b1
      generalize decide (k.Slot ≥ 16) = b2
      generalize decide (23 < (k.Serial.size : Int)) = b3
      generalize k.Good = b4
      generalize decide (k.Serial = emp) = b5
      generalize decide (k.Slot ≤ p.Slot) = b6
      cases b1 <;> cases b2 <;> cases b3 <;> cases b4 <;> cases b5 <;> cases b6 <;> rfl
  · simp

/-! ## At a slot -/

def zeroK : T_Known := ⟨0, false, ⟨#[]⟩, 0⟩
def atS (l : List T_Known) (s : Int) : T_Known × Bool := match l.find? (fun k => k.Slot == s) with | some k => (k, true) | none => (zeroK, false)

theorem prog_at (l : List T_Known) (s : Int) (hl : Short l) : m_inventory_at l s = some (atS l s) := by
  unfold m_inventory_at m_slices_IndexFunc__api_Known_api_Known_f52 atS
  simp only [m_inventory_at_1, bnd_some]
  have hf := find_range l (fun k => k.Slot == s) (fun i _ => (.inl (i : Int) : Int ⊕ Unit)) (fun i => if h : i < l.length then (if l[i].Slot == s then some (.inl (i : Int)) else none) else none) (fun i h => by simp [h])
  rw [show ((0 : Int)) = ((0 : Nat) : Int) from rfl, loop_find (fun i => (i : Int)) l.length (fun i => if h : i < l.length then (if l[i].Slot == s then some (.inl (i : Int)) else none) else none) (t := .inr ()) (fun i hi => ?_) (by simp)]
  · rcases hf with ⟨i, h, h1, h2, h3⟩ | ⟨h1, h2, h3⟩
    · rw [h3, h2]
      have : ¬ ((i : Int) < 0) := by omega
      simp [this, h]
    · rw [h3, h1]
      simp [zeroK]
  · have hi2 : (i : Int) < (l.length : Int) := by omega
    simp only [hi2, decide_true, cond_true, elt_lt hi, bnd_some, wrap_succ hi hl, dif_pos hi]
    cases l[i].Slot == s <;> rfl

theorem ref_at (l : List T_Known) (s : Int) (hl : Short l) : m_ref19_At l s = some (atS l s) := by
  unfold m_ref19_At atS
  have hf := find_range l (fun k => k.Slot == s) (fun _ k => (.inl (k, true) : (T_Known × Bool) ⊕ Unit)) (fun i => if h : i < l.length then (if l[i].Slot == s then some (.inl (l[i], true)) else none) else none) (fun i h => by simp [h])
  rw [show ((0 : Int)) = ((0 : Nat) : Int) from rfl, loop_find (fun i => (i : Int)) l.length (fun i => if h : i < l.length then (if l[i].Slot == s then some (.inl (l[i], true)) else none) else none) (t := .inr ()) (fun i hi => ?_) (by simp)]
  · rcases hf with ⟨i, h, h1, h2, h3⟩ | ⟨h1, h2, h3⟩
    · rw [h3, h2]
      simp
    · rw [h3, h1]
      simp [zeroK]
  · have hi2 : (i : Int) < (l.length : Int) := by omega
    simp only [hi2, decide_true, cond_true, elt_lt hi, bnd_some, wrap_succ hi hl, dif_pos hi]
    cases l[i].Slot == s <;> rfl

/-! ## Who is identified -/

def cnt (l : List T_Known) (s : ByteArray) : Nat := l.countP fun k => decide (k.Serial = s)
def idd (l : List T_Known) (s : ByteArray) : Bool := decide (s ≠ emp) && decide (cnt l s = 1)
def slotOf (l : List T_Known) (s : ByteArray) : Option Int := (l.find? fun k => decide (k.Serial = s)).map (·.Slot)

theorem cnt_le (l : List T_Known) (s : ByteArray) : cnt l s ≤ l.length := List.countP_le_length

def cntMap (l : List T_Known) : List (ByteArray × Int) := l.foldl (fun m k => mset kstr.eq m k.Serial (IntKind.wrap .i64 ((mget kstr.eq m k.Serial).getD 0 + 1))) []
def idMap (l0 l : List T_Known) : List (ByteArray × Int) := l.foldl (fun m k => bif idd l0 k.Serial then mset kstr.eq m k.Serial k.Slot else m) []

theorem cntMap_get (l : List T_Known) (s : ByteArray) : ∀ n, n ≤ l.length → Short l → (mget kstr.eq (cntMap (l.take n)) s).getD 0 = ((cnt (l.take n) s : Nat) : Int) := by
  intro n
  induction n generalizing s with
  | zero => intro _ _; simp [cntMap, mget, cnt]
  | succ n ih =>
    intro hn hl
    have hi : n < l.length := by omega
    have e : cntMap (l.take (n + 1)) = mset kstr.eq (cntMap (l.take n)) l[n].Serial (IntKind.wrap .i64 ((mget kstr.eq (cntMap (l.take n)) l[n].Serial).getD 0 + 1)) := by
      unfold cntMap
      rw [take_succ_get hi, List.foldl_append]
      rfl
    have hc : cnt (l.take (n + 1)) s = cnt (l.take n) s + if l[n].Serial = s then 1 else 0 := by
      unfold cnt
      rw [take_succ_get hi, List.countP_append]
      simp [List.countP_cons]
    have h1 := cnt_le (l.take n) l[n].Serial
    rw [List.length_take] at h1
    rw [e, mget_str, ih _ (by omega) hl, wrap_succ (i := cnt (l.take n) l[n].Serial) (n := l.length) (by omega) hl, hc]
    by_cases h : s = l[n].Serial
    · subst h; simp
    · have h2 : ¬ l[n].Serial = s := fun e => h e.symm
      simp [h, h2, ih s (by omega) hl]

theorem idMap_get (l0 l : List T_Known) (s : ByteArray) : ∀ n, n ≤ l.length → mget kstr.eq (idMap l0 (l.take n)) s = if idd l0 s then ((l.take n).filter fun k => decide (k.Serial = s)).getLast?.map (·.Slot) else none := by
  intro n
  induction n with
  | zero => intro _; simp [idMap, mget]
  | succ n ih =>
    intro hn
    have hi : n < l.length := by omega
    have e : idMap l0 (l.take (n + 1)) = bif idd l0 l[n].Serial then mset kstr.eq (idMap l0 (l.take n)) l[n].Serial l[n].Slot else idMap l0 (l.take n) := by
      unfold idMap
      rw [take_succ_get hi, List.foldl_append]
      rfl
    rw [e, take_succ_get hi, List.filter_append]
    by_cases h : s = l[n].Serial
    · subst h
      cases hd : idd l0 l[n].Serial
      · rw [cond_false, ih (by omega), hd]; simp
      · rw [cond_true, mget_str]; simp
    · have h2 : ¬ l[n].Serial = s := fun e => h e.symm
      cases hd : idd l0 l[n].Serial
      · rw [cond_false, ih (by omega)]; simp [h2]
      · rw [cond_true, mget_str, if_neg h, ih (by omega)]; simp [h2]

theorem prog_ident (l : List T_Known) (hl : Short l) : m_inventory_identified l = some (idMap l l) := by
  unfold m_inventory_identified
  rw [show ((0 : Int), ([] : List (ByteArray × Int))) = (fun i : Nat => ((i : Int), cntMap (l.take i))) 0 from rfl, loop_run (fun i : Nat => ((i : Int), cntMap (l.take i))) l.length (t := cntMap l) (fun i hi => ?_) (by simp)]
  · rw [bnd_some]
    rw [show ((fun i : Nat => ((i : Int), cntMap (l.take i))) 0) = (fun i : Nat => ((i : Int), idMap l (l.take i))) 0 from rfl, loop_run (fun i : Nat => ((i : Int), idMap l (l.take i))) l.length (t := idMap l l) (fun i hi => ?_) (by simp)]
    · rfl
    · have hi2 : (i : Int) < (l.length : Int) := by omega
      have hc := cntMap_get l l[i].Serial l.length (Nat.le_refl _) hl
      rw [List.take_length] at hc
      have e : idMap l (l.take (i + 1)) = bif idd l l[i].Serial then mset kstr.eq (idMap l (l.take i)) l[i].Serial l[i].Slot else idMap l (l.take i) := by
        unfold idMap
        rw [take_succ_get hi, List.foldl_append]
        rfl
      have e1 : ((cnt l l[i].Serial : Int) == 1) = decide (cnt l l[i].Serial = 1) := by
        rw [Bool.eq_iff_iff]; simp; omega
      simp only [hi2, decide_true, cond_true, elt_lt hi, bnd_some, wrap_succ hi hl, str_emp, hc, e, e1, idd]
      by_cases h : l[i].Serial = emp
      · simp [h]
      · by_cases h3 : cnt l l[i].Serial = 1 <;> simp [h, h3]
  · have hi2 : (i : Int) < (l.length : Int) := by omega
    have e : cntMap (l.take (i + 1)) = mset kstr.eq (cntMap (l.take i)) l[i].Serial (IntKind.wrap .i64 ((mget kstr.eq (cntMap (l.take i)) l[i].Serial).getD 0 + 1)) := by
      unfold cntMap
      rw [take_succ_get hi, List.foldl_append]
      rfl
    simp only [hi2, decide_true, cond_true, elt_lt hi, bnd_some, wrap_succ hi hl, e]

/-- What the map of those identified says. -/
theorem ident_get (l : List T_Known) (s : ByteArray) : mget kstr.eq (idMap l l) s = if idd l s then slotOf l s else none := by
  have h := idMap_get l l s l.length (Nat.le_refl _)
  rw [List.take_length] at h
  rw [h]
  cases hd : idd l s
  · rfl
  · simp only [if_true]
    unfold idd at hd
    simp only [Bool.and_eq_true, decide_eq_true_eq] at hd
    obtain ⟨k, h1, h2, _⟩ := one_of_count (p := fun k : T_Known => decide (k.Serial = s)) (l := l) hd.2
    simp [slotOf, h1, h2]

end Go.Proofs.Ytnolaefjmjgfbaa
