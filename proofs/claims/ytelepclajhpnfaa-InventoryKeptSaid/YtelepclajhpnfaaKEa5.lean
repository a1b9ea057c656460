/-
  Texts of this seat, put together: rules, walks, plain laws.
  Conditions: none.
-/
import Derived.Test.YtelepclajhpnfaaKEa4
section
namespace Go.Proofs.Ytelepclajhpnfaa
open Go
set_option linter.unusedSimpArgs false
set_option linter.unusedVariables false
theorem shr32 {n : Nat} (h : n < 4294967296) : iShr .u64 (n : Int) 32 = 0 := by
  have e : iShr .u64 (n : Int) ((32 : Nat) : Int) = ((n / 2 ^ 32 : Nat) : Int) := iShr_n (by show 32 ≤ 64; omega)
  rw [Nat.div_eq_of_lt (by omega)] at e
  exact e
theorem and32 {n : Nat} (h : n < 4294967296) : iAnd .u64 (n : Int) 4294967295 = (n : Int) := by
  have e : iAnd .u64 (n : Int) ((4294967295 : Nat) : Int) = ((n &&& 4294967295 : Nat) : Int) := by
    unfold iAnd
    have := Nat.and_le_left (n := n) (m := 4294967295)
    rw [BitVec.toNat_and, ofNat_toNat (by show n < 2 ^ 64; omega), ofNat_toNat (by show 4294967295 < 2 ^ 64; omega), wrap_u64n (by omega)]
  rw [show (4294967295 : Nat) = 2 ^ 32 - 1 from rfl, Nat.and_two_pow_sub_one_eq_mod, Nat.mod_eq_of_lt (by omega)] at e
  exact e
theorem mul_one {n : Nat} (h : n < 4294967296) : m_math_bits_Mul 1 (n : Int) = some (0, (n : Int)) := by
  unfold m_math_bits_Mul m_math_bits_Mul64
  have h1 : iShr .u64 1 32 = 0 := shr32 (n := 1) (by omega)
  have h2 : iAnd .u64 1 4294967295 = 1 := and32 (n := 1) (by omega)
  have h0 : iShr .u64 0 32 = 0 := shr32 (n := 0) (by omega)
  have h3 : iAnd .u64 0 4294967295 = 0 := and32 (n := 0) (by omega)
  have w0 : IntKind.wrap .u64 0 = 0 := wrap_u64 (by omega) (by omega)
  have wn : IntKind.wrap .u64 (n : Int) = (n : Int) := wrap_u64 (by omega) (by omega)
  simp only [h1, h2, shr32 h, and32 h, Int.mul_zero, Int.zero_mul, Int.one_mul, w0, wn, h0, h3, Int.add_zero, Int.zero_add, bnd_some]
noncomputable def repStep : Int × List Int → Option (Step (Int × List Int) (List Int)) :=
  (fun (s1 : Int × List Int) => bif decide (s1.1 < (s1.2.length : Int)) then (bnd (partM s1.2.length s1.1 (s1.2.length : Int)) fun n1 => bnd (partM s1.2.length 0 s1.1) fun n2 => bnd (Go.Proofs.Ytelepclajhpnfaa.sub s1.2 ((Int.toNat 0 : Nat) : Int) ((Int.toNat 0 + n2 : Nat) : Int)) fun l3 => bnd (copyM s1.2 (Int.toNat s1.1) n1 l3) fun l4 => some (.next (IntKind.wrap .i64 (s1.1 + ((min l3.length n1 : Nat) : Int)), l4))) else (some (.done s1.2)))
theorem rep_step {n : Nat} (hn : n ≤ 1000000) (s : Int × List Int) (hI : ∃ (j m : Nat), s = ((j : Int), List.replicate j 255 ++ List.replicate m 0) ∧ 1 ≤ j ∧ j + m = n) : (∃ s', repStep s = some (.next s') ∧ (∃ (j m : Nat), s' = ((j : Int), List.replicate j 255 ++ List.replicate m 0) ∧ 1 ≤ j ∧ j + m = n) ∧ (n : Int) - s'.1 < n - s.1 ∧ s'.1 ≤ n) ∨ ∃ t, repStep s = some (.done t) ∧ t = List.replicate n 255 := by
  obtain ⟨j, m, rfl, h1, h2⟩ := hI
  unfold repStep
  have hl : (List.replicate j (255 : Int) ++ List.replicate m 0).length = j + m := by simp
  simp only [hl]
  by_cases hm : m = 0
  · right
    subst hm
    rw [cnd_f (by simp)]
    refine ⟨_, rfl, ?_⟩
    rw [← h2]; simp
  · left
    rw [cnd_t (by simp; omega)]
    have e1 : partM (j + m) (j : Int) ((j + m : Nat) : Int) = some m := by
      unfold partM
      rw [if_pos (by omega)]
      congr 1
      omega
    have e2 : partM (j + m) 0 (j : Int) = some j := by
      unfold partM
      rw [if_pos (by omega)]
      simp
    rw [e1, bnd_some, e2, bnd_some]
    have e3 : Go.Proofs.Ytelepclajhpnfaa.sub (List.replicate j (255 : Int) ++ List.replicate m 0) ((Int.toNat 0 : Nat) : Int) ((Int.toNat 0 + j : Nat) : Int) = some (List.replicate j 255) := by
      rw [show Int.toNat 0 = 0 from rfl, sub_nat (by omega) (by rw [hl]; omega)]
      simp
    rw [e3, bnd_some]
    have e4 : copyM (List.replicate j (255 : Int) ++ List.replicate m 0) (j : Int).toNat m (List.replicate j 255) = some (List.replicate (j + min j m) 255 ++ List.replicate (m - min j m) 0) := by
      unfold copyM
      rw [Int.toNat_natCast, if_pos (by rw [hl]; omega)]
      congr 1
      simp only [List.length_replicate, List.take_replicate]
      rw [List.take_append_of_le_length (by simp), List.drop_append, List.drop_eq_nil_of_le (by simp), List.take_of_length_le (by simp)]
      simp only [List.length_replicate, List.nil_append, List.drop_replicate, List.replicate_append_replicate]
      congr 1
      · congr 1; omega
      · congr 1; omega
    rw [e4, bnd_some]
    refine ⟨_, rfl, ⟨j + min j m, m - min j m, ?_, by omega, by omega⟩, ?_, ?_⟩
    · rw [wrap_i64 (by simp; omega) (by simp; omega)]
      simp
    · simp only [List.length_replicate]
      rw [wrap_i64 (by omega) (by omega)]
      omega
    · simp only [List.length_replicate]
      rw [wrap_i64 (by omega) (by omega)]
      omega
theorem repeat_eq {n : Nat} (h1 : 1 ≤ n) (h2 : n ≤ 1000000) : m_slices_Repeat__byte_byte [255] (n : Int) = some (List.replicate n 255) := by
  unfold m_slices_Repeat__byte_byte
  rw [cnd_f (by simp)]
  have e1 : IntKind.wrap .u64 ((([255] : List Int).length : Nat) : Int) = 1 := wrap_u64 (by simp) (by simp)
  rw [e1, wrap_u64n (by omega), mul_one (by omega), bnd_some]
  simp only
  rw [cnd_f (by simp), wrap_i64n (by omega)]
  rw [show decide ((n : Int) > 9223372036854775807) = false from by simp; omega, bnd_some, cnd_f rfl]
  have e2 : mkS 1 (0 : Int) (n : Int) (n : Int) = some (List.replicate n 0) := by
    unfold mkS
    rw [if_pos (by omega)]
    simp
  rw [e2, bnd_some]
  have e3 : copyM (List.replicate n (0 : Int)) 0 (List.replicate n (0 : Int)).length [255] = some (List.replicate 1 255 ++ List.replicate (n - 1) 0) := by
    unfold copyM
    rw [if_pos (by simp)]
    have e : ([255] : List Int).take n = [255] := List.take_of_length_le (by simp; omega)
    have e' : min 1 n = 1 := by omega
    simp [e, e']
  rw [e3, bnd_some]
  have hm : ((min ([255] : List Int).length (List.replicate n (0 : Int)).length : Nat) : Int) = ((1 : Nat) : Int) := by
    simp; omega
  rw [hm]
  obtain ⟨t, h3, h4⟩ := loop_inv (m := repStep) (fun s => (∃ (j m : Nat), s = ((j : Int), List.replicate j 255 ++ List.replicate m 0) ∧ 1 ≤ j ∧ j + m = n) ∧ s.1 ≤ n) (fun s => ((n : Int) - s.1).toNat) (fun t => t = List.replicate n 255) (fun s hs => by
    rcases rep_step h2 s hs.1 with ⟨s', a, b, c, d⟩ | h
    · exact .inl ⟨s', a, ⟨b, d⟩, by omega⟩
    · exact .inr h) (((1 : Nat) : Int), List.replicate 1 255 ++ List.replicate (n - 1) 0) ⟨⟨1, n - 1, rfl, by omega, by omega⟩, by simp; omega⟩
  show bnd (loopM repStep _) _ = _
  rw [h3, h4]
  rfl
def newD (n m : Nat) : T_Device := ⟨(m : Int), List.replicate (n * m) 255, List.replicate n 0, 0, 0, 0, false⟩
theorem new_eq {n m : Nat} (hn : 1 ≤ n ∧ n ≤ 16) (hm : 64 ≤ m ∧ m ≤ 1024) : m_flash_New (n : Int) (m : Int) = some (some (newD n m), 0) := by
  unfold m_flash_New
  rw [cnd_f (by simp; omega), cnd_f (by simp; omega), cnd_f (by simp; omega), show decide ((m : Int) > 1024) = false from by simp; omega, bnd_some, cnd_f rfl]
  have h1 : n * m ≤ 16 * 1024 := Nat.mul_le_mul hn.2 hm.2
  have h2 : 1 * 64 ≤ n * m := Nat.mul_le_mul hn.1 hm.1
  have e : (n : Int) * (m : Int) = ((n * m : Nat) : Int) := by simp
  rw [e, wrap_i64n (by omega), repeat_eq (by omega) (by omega), bnd_some]
  have e2 : mkS 8 (0 : Int) (n : Int) (n : Int) = some (List.replicate n 0) := by
    unfold mkS
    rw [if_pos (by omega)]
    simp
  rw [e2]
  rfl
theorem newD_ok {n m : Nat} (hn : 1 ≤ n ∧ n ≤ 16) (hm : 64 ≤ m ∧ m ≤ 1024) : OkD (newD n m) := ⟨by show 64 ≤ (m : Int) ∧ (m : Int) ≤ 1024; omega, by show 1 ≤ (List.replicate n (0 : Int)).length ∧ (List.replicate n (0 : Int)).length ≤ 16; simpa using hn, by show ((List.replicate (n * m) (255 : Int)).length : Int) = ((List.replicate n (0 : Int)).length : Int) * (m : Int); simp, rng.rep (by omega), by show (0 : Int) ≤ 0 ∧ (0 : Int) ≤ 255; omega, by show (0 : Int) ≤ 0 ∧ (0 : Int) ≤ 9223372036854775807; omega⟩
theorem newD_sect {n m k : Nat} (h : k < n) : sect (newD n m) k = List.replicate m 255 := by
  unfold sect newD
  simp only [Int.toNat_natCast, List.drop_replicate, List.take_replicate]
  have : (k + 1) * m ≤ n * m := Nat.mul_le_mul (by omega) (Nat.le_refl m)
  rw [Nat.add_mul] at this
  congr 1
  omega
theorem secF_ff {m : Nat} (h : 5 ≤ m) : secF (List.replicate m 255) = none := by
  refine secF_st ?_
  rw [List.getD_eq_getElem?_getD, List.getElem?_replicate, if_pos (by omega)]
  simp
theorem newD_open {n m f : Nat} (hm : 5 ≤ m) (h : f + 1 < n) : openF (newD n m) f = os0 := by
  rw [openF_sel, newD_sect (by omega), newD_sect h, sel_none (secF_ff hm) (secF_ff hm)]
end Go.Proofs.Ytelepclajhpnfaa
end
section
namespace Go.Proofs.Ytelepclajhpnfaa
open Go
set_option linter.unusedSimpArgs false
set_option linter.unusedVariables false
theorem set_iff (x y : T_Setting) : x = y ↔ x.Key = y.Key ∧ x.Delete = y.Delete ∧ x.Value = y.Value := by
  cases x; cases y; simp only [T_Setting.mk.injEq]
  exact ⟨fun h => ⟨h.1, h.2.2, h.2.1⟩, fun h => ⟨h.1, h.2.2, h.2.1⟩⟩
instance : DecidableEq T_Setting := fun x y => decidable_of_iff _ (set_iff x y).symm
theorem all_eq {s : T_Store} {f : Nat} {o : OS} (hs : RelO s f o) (ho : OkK o.K) (d : T_Device) : m_settings_Store_All s d = some o.K := by
  obtain ⟨m, h1, h2, h3⟩ := hs.all
  unfold m_settings_Store_All
  have hl : m.length ≤ 1000 := by
    have := toL_len m
    have := ho.len
    rw [h3] at *
    omega
  rw [h1, sorted_eq h2 hl (fun k v hk => by have := (mgetS_ok h3 ho k v hk).1; omega), h3]
  rfl
theorem get_eq {s : T_Store} {f : Nat} {o : OS} (hs : RelO s f o) (ho : OkK o.K) (k : Int) (d : T_Device) : m_settings_Store_Get s k d = some ((look o.K k).getD [], (look o.K k).isSome) := by
  obtain ⟨m, h1, h2, h3⟩ := hs.all
  unfold m_settings_Store_Get
  have e : mget (kint .u8).eq (s.all.getD []) k = look o.K k := by
    rw [h1, ← h3, look_toL]
    rfl
  rw [e, clone_eq]
  · rfl
  · cases hk : look o.K k with
    | none => simp
    | some v =>
      have := (mgetS_ok h3 ho k v (by rw [← look_toL, h3]; exact hk)).1
      simp; omega
theorem put_eq (s : T_Store) (k : Int) (v : List Int) (d : T_Device) : m_settings_Store_Put s k v d = m_settings_Store_Update s [⟨k, v, false⟩] d := by
  unfold m_settings_Store_Put
  cases m_settings_Store_Update s [⟨k, v, false⟩] d <;> rfl
end Go.Proofs.Ytelepclajhpnfaa
end
section
namespace Go.Proofs.Ytelepclajhpnfaa
open Go
set_option linter.unusedSimpArgs false
set_option linter.unusedVariables false
def Short {α : Type} (l : List α) : Prop := l.length ≤ 140737488355328
def emp : ByteArray := ⟨#[]⟩
theorem str_emp (a : ByteArray) : (a.toList == (⟨#[]⟩ : ByteArray).toList) = decide (a = emp) := str_beq a emp
def badAt (l : List T_Known) (i : Nat) : Bool := match l[i]? with
  | none => false
  | some k => decide (k.Slot < 0) || (decide (k.Slot ≥ 16) || ((match l[i - 1]? with | some p => decide (0 < i) && decide (k.Slot ≤ p.Slot) | none => false) || (decide ((k.Serial.size : Int) > 23) || (!k.Good && !decide (k.Serial = emp)))))
def validB (l : List T_Known) : Bool := !(List.range l.length).any (badAt l)
theorem slotted_eq (s : Int) : m_inventory_slotted s = some (!decide (s < 0) && !decide (s ≥ 16)) := by
  unfold m_inventory_slotted
  by_cases h : s < 0
  · have h2 : ¬ (0 ≤ s) := by omega
    simp [h, h2]
  · have h2 : 0 ≤ s := by omega
    by_cases h3 : s < 16
    · have h4 : ¬ (16 ≤ s) := by omega
      simp [h2, h3]
    · have h4 : 16 ≤ s := by omega
      simp [h2, h3, h4]
theorem valid_loop {m : Int → Option (Step Int (Bool ⊕ Unit))} (l : List T_Known) (hs : ∀ i, i < l.length → m (i : Int) = some (bif badAt l i then .done (.inl false) else .next ((i + 1 : Nat) : Int))) (hd : m (l.length : Int) = some (.done (.inr ()))) :
    (bnd (loopM m 0) fun o1 => retOr o1 fun _ => some true) = some (validB l) := by
  have h := loop_any (m := m) (fun i => (i : Int)) l.length (badAt l) hs hd
  rw [show ((0 : Nat) : Int) = 0 from rfl] at h
  rw [h]
  unfold validB
  cases (List.range l.length).any (badAt l) <;> rfl
theorem prog_valid (l : List T_Known) (hl : Short l) : m_inventory_Valid l = some (validB l) := by
  unfold m_inventory_Valid
  refine valid_loop l (fun i hi => ?_) ?_
  · have hi2 : (i : Int) < (l.length : Int) := by omega
    have hw := wrap_succ hi hl
    simp only [hi2, decide_true, cond_true, elt_lt hi, bnd_some, hw, slotted_eq, str_emp]
    unfold badAt
    rw [List.getElem?_eq_getElem hi]
    by_cases h0 : i = 0
    · subst h0
      simp only [List.getElem?_eq_getElem hi, Int.ofNat_zero, gt_iff_lt, Int.lt_irrefl, Nat.lt_irrefl, decide_false, cond_false, Bool.false_and, Bool.false_or, Int.natCast_zero, Nat.zero_sub, bnd_some]
      generalize l[0] = k
      generalize decide (k.Slot < 0) = b1
      generalize decide (k.Slot ≥ 16) = b2
      generalize decide (23 < (k.Serial.size : Int)) = b3
      generalize k.Good = b4
      generalize decide (k.Serial = emp) = b5
      cases b1 <;> cases b2 <;> cases b3 <;> cases b4 <;> cases b5 <;> rfl
    · have hp : i - 1 < l.length := by omega
      have hw2 := wrap_pred (by omega) hi hl
      have h00 : (0 : Int) < (i : Int) := by omega
      have h01 : 0 < i := by omega
      simp only [hw2, elt_lt hp, bnd_some, List.getElem?_eq_getElem hp, gt_iff_lt, h00, h01, decide_true, cond_true, Bool.true_and]
      generalize l[i] = k
      generalize l[i - 1] = p
      generalize decide (k.Slot < 0) = b1
      generalize decide (k.Slot ≥ 16) = b2
      generalize decide (23 < (k.Serial.size : Int)) = b3
      generalize k.Good = b4
      generalize decide (k.Serial = emp) = b5
      generalize decide (k.Slot ≤ p.Slot) = b6
      cases b1 <;> cases b2 <;> cases b3 <;> cases b4 <;> cases b5 <;> cases b6 <;> rfl
  · simp
def zeroK : T_Known := ⟨0, false, ⟨#[]⟩, 0⟩
def atS (l : List T_Known) (s : Int) : T_Known × Bool := match l.find? (fun k => k.Slot == s) with | some k => (k, true) | none => (zeroK, false)
theorem prog_at (l : List T_Known) (s : Int) (hl : Short l) : m_inventory_at l s = some (atS l s) := by
  unfold m_inventory_at m_slices_IndexFunc__api_Known_api_Known_f47 atS
  simp only [m_inventory_at_1, bnd_some]
  have hf := find_range l (fun k => k.Slot == s) (fun i _ => (.inl (i : Int) : Int ⊕ Unit)) (fun i => if h : i < l.length then (if l[i].Slot == s then some (.inl (i : Int)) else none) else none) (fun i h => by simp [h])
  rw [show ((0 : Int)) = ((0 : Nat) : Int) from rfl, loop_find (fun i => (i : Int)) l.length (fun i => if h : i < l.length then (if l[i].Slot == s then some (.inl (i : Int)) else none) else none) (t := .inr ()) (fun i hi => ?_) (by simp)]
  · rcases hf with ⟨i, h, h1, h2, h3⟩ | ⟨h1, h2, h3⟩
    · rw [h3, h2]
      have : ¬ ((i : Int) < 0) := by omega
      simp [this, h]
    · rw [h3, h1]
      simp [zeroK]
  · have hi2 : (i : Int) < (l.length : Int) := by omega
    simp only [hi2, decide_true, cond_true, elt_lt hi, bnd_some, wrap_succ hi hl, dif_pos hi]
    cases l[i].Slot == s <;> rfl
def cnt (l : List T_Known) (s : ByteArray) : Nat := l.countP fun k => decide (k.Serial = s)
def idd (l : List T_Known) (s : ByteArray) : Bool := decide (s ≠ emp) && decide (cnt l s = 1)
def slotOf (l : List T_Known) (s : ByteArray) : Option Int := (l.find? fun k => decide (k.Serial = s)).map (·.Slot)
theorem cnt_le (l : List T_Known) (s : ByteArray) : cnt l s ≤ l.length := List.countP_le_length
def cntMap (l : List T_Known) : List (ByteArray × Int) := l.foldl (fun m k => mset kstr.eq m k.Serial (IntKind.wrap .i64 ((mget kstr.eq m k.Serial).getD 0 + 1))) []
def idMap (l0 l : List T_Known) : List (ByteArray × Int) := l.foldl (fun m k => bif idd l0 k.Serial then mset kstr.eq m k.Serial k.Slot else m) []
theorem cntMap_get (l : List T_Known) (s : ByteArray) : ∀ n, n ≤ l.length → Short l → (mget kstr.eq (cntMap (l.take n)) s).getD 0 = ((cnt (l.take n) s : Nat) : Int) := by
  intro n
  induction n generalizing s with
  | zero => intro _ _; simp [cntMap, mget, cnt]
  | succ n ih =>
    intro hn hl
    have hi : n < l.length := by omega
    have e : cntMap (l.take (n + 1)) = mset kstr.eq (cntMap (l.take n)) l[n].Serial (IntKind.wrap .i64 ((mget kstr.eq (cntMap (l.take n)) l[n].Serial).getD 0 + 1)) := by
      unfold cntMap
      rw [take_succ_get hi, List.foldl_append]
      rfl
    have hc : cnt (l.take (n + 1)) s = cnt (l.take n) s + if l[n].Serial = s then 1 else 0 := by
      unfold cnt
      rw [take_succ_get hi, List.countP_append]
      simp [List.countP_cons]
    have h1 := cnt_le (l.take n) l[n].Serial
    rw [List.length_take] at h1
    rw [e, mget_str, ih _ (by omega) hl, wrap_succ (i := cnt (l.take n) l[n].Serial) (n := l.length) (by omega) hl, hc]
    by_cases h : s = l[n].Serial
    · subst h; simp
    · have h2 : ¬ l[n].Serial = s := fun e => h e.symm
      simp [h, h2, ih s (by omega) hl]
theorem idMap_get (l0 l : List T_Known) (s : ByteArray) : ∀ n, n ≤ l.length → mget kstr.eq (idMap l0 (l.take n)) s = if idd l0 s then ((l.take n).filter fun k => decide (k.Serial = s)).getLast?.map (·.Slot) else none := by
  intro n
  induction n with
  | zero => intro _; simp [idMap, mget]
  | succ n ih =>
    intro hn
    have hi : n < l.length := by omega
    have e : idMap l0 (l.take (n + 1)) = bif idd l0 l[n].Serial then mset kstr.eq (idMap l0 (l.take n)) l[n].Serial l[n].Slot else idMap l0 (l.take n) := by
      unfold idMap
      rw [take_succ_get hi, List.foldl_append]
      rfl
    rw [e, take_succ_get hi, List.filter_append]
    by_cases h : s = l[n].Serial
    · subst h
      cases hd : idd l0 l[n].Serial
      · rw [cond_false, ih (by omega), hd]; simp
      · rw [cond_true, mget_str]; simp
    · have h2 : ¬ l[n].Serial = s := fun e => h e.symm
      cases hd : idd l0 l[n].Serial
      · rw [cond_false, ih (by omega)]; simp [h2]
      · rw [cond_true, mget_str, if_neg h, ih (by omega)]; simp [h2]
theorem prog_ident (l : List T_Known) (hl : Short l) : m_inventory_identified l = some (idMap l l) := by
  unfold m_inventory_identified
  rw [show ((0 : Int), ([] : List (ByteArray × Int))) = (fun i : Nat => ((i : Int), cntMap (l.take i))) 0 from rfl, loop_run (fun i : Nat => ((i : Int), cntMap (l.take i))) l.length (t := cntMap l) (fun i hi => ?_) (by simp)]
  · rw [bnd_some]
    rw [show ((fun i : Nat => ((i : Int), cntMap (l.take i))) 0) = (fun i : Nat => ((i : Int), idMap l (l.take i))) 0 from rfl, loop_run (fun i : Nat => ((i : Int), idMap l (l.take i))) l.length (t := idMap l l) (fun i hi => ?_) (by simp)]
    · rfl
    · have hi2 : (i : Int) < (l.length : Int) := by omega
      have hc := cntMap_get l l[i].Serial l.length (Nat.le_refl _) hl
      rw [List.take_length] at hc
      have e : idMap l (l.take (i + 1)) = bif idd l l[i].Serial then mset kstr.eq (idMap l (l.take i)) l[i].Serial l[i].Slot else idMap l (l.take i) := by
        unfold idMap
        rw [take_succ_get hi, List.foldl_append]
        rfl
      have e1 : ((cnt l l[i].Serial : Int) == 1) = decide (cnt l l[i].Serial = 1) := by
        rw [Bool.eq_iff_iff]; simp; omega
      simp only [hi2, decide_true, cond_true, elt_lt hi, bnd_some, wrap_succ hi hl, str_emp, hc, e, e1, idd]
      by_cases h : l[i].Serial = emp
      · simp [h]
      · by_cases h3 : cnt l l[i].Serial = 1 <;> simp [h, h3]
  · have hi2 : (i : Int) < (l.length : Int) := by omega
    have e : cntMap (l.take (i + 1)) = mset kstr.eq (cntMap (l.take i)) l[i].Serial (IntKind.wrap .i64 ((mget kstr.eq (cntMap (l.take i)) l[i].Serial).getD 0 + 1)) := by
      unfold cntMap
      rw [take_succ_get hi, List.foldl_append]
      rfl
    simp only [hi2, decide_true, cond_true, elt_lt hi, bnd_some, wrap_succ hi hl, e]
theorem ident_get (l : List T_Known) (s : ByteArray) : mget kstr.eq (idMap l l) s = if idd l s then slotOf l s else none := by
  have h := idMap_get l l s l.length (Nat.le_refl _)
  rw [List.take_length] at h
  rw [h]
  cases hd : idd l s
  · rfl
  · simp only [if_true]
    unfold idd at hd
    simp only [Bool.and_eq_true, decide_eq_true_eq] at hd
    obtain ⟨k, h1, h2, _⟩ := one_of_count (p := fun k : T_Known => decide (k.Serial = s)) (l := l) hd.2
    simp [slotOf, h1, h2]
end Go.Proofs.Ytelepclajhpnfaa
end
section
namespace Go.Proofs.Ytelepclajhpnfaa
open Go
set_option linter.unusedSimpArgs false
set_option linter.unusedVariables false
def orig (a b : List T_Known) (s : ByteArray) : Int := if idd b s = true ∧ idd a s = true then (slotOf a s).getD (-1) else -1
theorem idd_find {l : List T_Known} {s : ByteArray} (h : idd l s = true) : ∃ k, k ∈ l ∧ k.Serial = s ∧ slotOf l s = some k.Slot ∧ ∀ x ∈ l, x.Serial = s → x = k := by
  unfold idd at h
  simp only [Bool.and_eq_true, decide_eq_true_eq] at h
  obtain ⟨k, h1, h2, h3, h4, h5⟩ := one_of_count (p := fun k : T_Known => decide (k.Serial = s)) (l := l) h.2
  exact ⟨k, h3, by simpa using h4, by simp [slotOf, h2], fun x hx hs => h5 x hx (by simpa using hs)⟩
theorem prog_other (k : T_Known) (a b : List T_Known) : m_inventory_other k (idMap b b) (idMap a a) = some (orig a b k.Serial) := by
  unfold m_inventory_other orig
  rw [ident_get, ident_get]
  cases hb : idd b k.Serial
  · simp
  · cases ha : idd a k.Serial
    · obtain ⟨x, _, _, h, _⟩ := idd_find hb
      simp [h]
    · obtain ⟨x, _, _, h, _⟩ := idd_find hb
      obtain ⟨y, _, _, h2, _⟩ := idd_find ha
      simp [h, h2]
theorem valid_at {l : List T_Known} (hv : validB l = true) {i : Nat} (hi : i < l.length) : 0 ≤ l[i].Slot ∧ l[i].Slot < 16 ∧ (∀ h : 0 < i, l[i - 1].Slot < l[i].Slot) := by
  unfold validB at hv
  simp only [Bool.not_eq_true', List.any_eq_false, List.mem_range] at hv
  have := hv i hi
  unfold badAt at this
  rw [List.getElem?_eq_getElem hi] at this
  have hp : i - 1 < l.length := by omega
  rw [List.getElem?_eq_getElem hp] at this
  simp only [Bool.or_eq_true, Bool.and_eq_true, decide_eq_true_eq, not_or, not_and] at this
  refine ⟨by omega, by omega, fun h => ?_⟩
  have := this.2.2.1 h
  omega
theorem valid_mono {l : List T_Known} (hv : validB l = true) : ∀ (i j : Nat) (hi : i < l.length) (hj : j < l.length), i < j → l[i].Slot < l[j].Slot := by
  intro i j hi hj h
  induction j with
  | zero => omega
  | succ j ih =>
    have h1 := (valid_at hv hj).2.2 (by omega)
    simp only [Nat.add_sub_cancel] at h1
    by_cases hij : i = j
    · subst hij; exact h1
    · have := ih (by omega) (by omega)
      omega
theorem valid_slot {l : List T_Known} (hv : validB l = true) {x : T_Known} (hx : x ∈ l) : 0 ≤ x.Slot ∧ x.Slot < 16 := by
  obtain ⟨i, hi, rfl⟩ := List.getElem_of_mem hx
  have := valid_at hv hi
  exact ⟨this.1, this.2.1⟩
theorem orig_ge {a b : List T_Known} (ha : validB a = true) (s : ByteArray) : orig a b s = -1 ∨ (0 ≤ orig a b s ∧ idd a s = true ∧ idd b s = true) := by
  unfold orig
  split
  · rename_i h
    obtain ⟨k, h1, h2, h3, h4⟩ := idd_find h.2
    rw [h3]
    exact .inr ⟨(valid_slot ha h1).1, h.2, h.1⟩
  · exact .inl rfl
def foundB (a b : List T_Known) (s : ByteArray) : Bool := idd a s && idd b s
theorem atS_mem {l : List T_Known} {s : Int} (h : (atS l s).2 = true) : (atS l s).1 ∈ l := by
  unfold atS at *
  split
  · rename_i k hk
    exact List.mem_of_find?_eq_some hk
  · rename_i hk
    rw [hk] at h
    cases h
def diffAt (a b : List T_Known) (s : Int) : List T_Difference :=
  let o := atS a s
  let n := atS b s
  let lost := o.2 && !foundB a b o.1.Serial
  let from_ := bif n.2 then orig a b n.1.Serial else -1
  (bif lost && (!n.2 || from_ != -1) then [⟨2, s, 0⟩] else []) ++
  (bif !n.2 then [] else bif from_ != -1 && from_ != s then [⟨4, s, from_⟩] else bif from_ == s then (bif o.1.Sum != n.1.Sum then [⟨5, s, 0⟩] else [])
    else bif !lost then [⟨1, s, 0⟩] else bif !((o.1.Slot == n.1.Slot) && ((o.1.Good == n.1.Good) && ((o.1.Serial.toList == n.1.Serial.toList) && ((o.1.Sum == n.1.Sum) && true)))) then [⟨3, s, 0⟩] else [])
def diffs (a b : List T_Known) (n : Nat) : List T_Difference := (List.range n).flatMap fun i : Nat => diffAt a b (i : Int)
theorem diffAt_len (a b : List T_Known) (s : Int) : (diffAt a b s).length ≤ 2 := by
  unfold diffAt
  simp only [List.length_append]
  have h1 : ∀ (c : Bool) (x : T_Difference), (bif c then [x] else []).length ≤ 1 := fun c x => by cases c <;> simp
  have h2 : ∀ (c1 c2 c3 c4 c5 c6 : Bool) (x1 x2 x3 x4 : T_Difference), (bif c1 then [] else bif c2 then [x1] else bif c3 then (bif c4 then [x2] else []) else bif c5 then [x3] else bif c6 then [x4] else []).length ≤ 1 := fun c1 c2 c3 c4 c5 c6 _ _ _ _ => by
    cases c1 <;> cases c2 <;> cases c3 <;> cases c4 <;> cases c5 <;> cases c6 <;> simp
  exact Nat.add_le_add (h1 _ _) (h2 _ _ _ _ _ _ _ _ _ _)
theorem diffs_succ (a b : List T_Known) (n : Nat) : diffs a b (n + 1) = diffs a b n ++ diffAt a b (n : Int) := by
  unfold diffs
  rw [List.range_succ, List.flatMap_append]
  simp
theorem diffs_len (a b : List T_Known) (n : Nat) : (diffs a b n).length ≤ 2 * n := by
  induction n with
  | zero => simp [diffs]
  | succ n ih =>
    rw [diffs_succ, List.length_append]
    have := diffAt_len a b (n : Int)
    omega
theorem app_nil {α : Type} (b : Nat) (x : α) (h : b ≤ 140737488355328) : app b ([] : List α) [x] = some [x] := app_eq (by simpa using h) (by simp)
theorem app_one {α : Type} (b : Nat) (y x : α) (h : b ≤ 70368744177664) : app b [y] [x] = some [y, x] := app_eq (by simp; omega) (by simp)
theorem prog_compare (a b : List T_Known) (s : Int) (ha : Short a) (hb : Short b) (hva : validB a = true) (hvb : validB b = true) : m_inventory_compare a b s = some (diffAt a b s) := by
  unfold m_inventory_compare diffAt
  simp only [prog_ident a ha, prog_ident b hb, bnd_some, prog_at a s ha, prog_at b s hb, prog_other]
  have hlost : (orig b a (atS a s).1.Serial == -1) = !foundB a b (atS a s).1.Serial := by
    rcases orig_ge (a := b) (b := a) hvb (atS a s).1.Serial with h | ⟨h1, h2, h3⟩
    · have : foundB a b (atS a s).1.Serial = false := by
        unfold orig at h
        split at h
        · rename_i hc
          obtain ⟨k, k1, k2, k3, k4⟩ := idd_find hc.2
          have := valid_slot hvb k1
          rw [k3] at h
          simp at h
          omega
        · rename_i hc
          unfold foundB
          cases h1 : idd a (atS a s).1.Serial <;> cases h2 : idd b (atS a s).1.Serial <;> simp_all
      simp [h, this]
    · have : foundB a b (atS a s).1.Serial = true := by simp [foundB, h2, h3]
      have h4 : ¬ orig b a (atS a s).1.Serial = -1 := by omega
      simp [this, h4]
  simp only [hlost]
  generalize (atS a s) = o
  generalize (atS b s) = n
  obtain ⟨o, was⟩ := o
  obtain ⟨n, is⟩ := n
  simp only
  generalize foundB a b o.Serial = fd
  generalize orig a b n.Serial = og
  have e0 : ((-1 : Int) != -1) = false := rfl
  generalize ((o.Slot == n.Slot) && ((o.Good == n.Good) && ((o.Serial.toList == n.Serial.toList) && ((o.Sum == n.Sum) && true)))) = same
  generalize (o.Sum != n.Sum) = df
  cases was <;> cases is <;> cases fd <;> simp only [bnd_some, cond_true, cond_false, Bool.not_true, Bool.not_false, Bool.and_true, Bool.and_false, Bool.true_and, Bool.false_and, Bool.true_or, Bool.false_or, Bool.or_false, Bool.or_true, e0, app_nil, List.nil_append, List.append_nil, Nat.reduceLeDiff] <;>
    cases h1 : (og != -1) <;> cases h2 : (og != s) <;> cases h3 : (og == s) <;> cases df <;> cases same <;> simp [app_nil, app_one]
theorem prog_Compare (a b : List T_Known) (ha : Short a) (hb : Short b) : m_inventory_Compare a b = some (if validB a = true ∧ validB b = true then (diffs a b 16, 0) else ([], 1)) := by
  unfold m_inventory_Compare
  rw [prog_valid a ha, prog_valid b hb]
  cases hva : validB a
  · simp
  · cases hvb : validB b
    · simp
    · simp only [bnd_some, Bool.not_true, cond_false, and_self, if_true]
      rw [show (([] : List T_Difference), (0 : Int)) = (fun i : Nat => (diffs a b i, (i : Int))) 0 from rfl, loop_run (fun i : Nat => (diffs a b i, (i : Int))) 16 (t := diffs a b 16) (fun i hi => ?_) (by simp)]
      · rfl
      · have h1 : (i : Int) < 16 := by omega
        have h2 := diffs_len a b i
        have h3 := diffAt_len a b (i : Int)
        simp only [h1, decide_true, cond_true, prog_compare a b _ ha hb hva hvb, bnd_some]
        rw [app_eq (by omega) (by omega)]
        simp only [bnd_some, wrap_succ hi (by omega : 16 ≤ 140737488355328), diffs_succ]
theorem same_refl (l : List T_Difference) (hl : Short l) : m_ref19_SameDifferences l l = some true := by
  unfold m_ref19_SameDifferences
  simp only [bne_self_eq_false, cond_false]
  rw [show ((0 : Int)) = ((0 : Nat) : Int) from rfl, loop_run (fun i => (i : Int)) l.length (t := .inr ()) (fun i hi => ?_) (by simp)]
  · rfl
  · have hi2 : (i : Int) < (l.length : Int) := by omega
    simp only [hi2, decide_true, cond_true, elt_lt hi, bnd_some, wrap_succ hi hl]
    simp
end Go.Proofs.Ytelepclajhpnfaa
end
section
namespace Go.Proofs.Ytelepclajhpnfaa
open Go
set_option linter.unusedSimpArgs false
set_option linter.unusedVariables false
def Fair (d : T_Dice) : Prop := 0 ≤ d.At ∧ d.L.length ≤ 600
theorem mod_some (x n : Int) (hn : 0 < n) (hb : n ≤ 4611686018427387904) : ∃ r, m_made_Mod x n = some r ∧ 0 ≤ r ∧ r < n ∧ r = x % n := by
  unfold m_made_Mod remM
  have h0 : ¬ n = 0 := by omega
  rw [if_neg h0]
  simp only [bnd_some]
  have h1 := Int.lt_tmod_of_pos x hn
  have h2 := Int.tmod_lt_of_pos x hn
  have h3 : x.tmod n = x % n ∨ x.tmod n = x % n - n := by
    rw [Int.tmod_eq_emod]
    split
    · left; omega
    · right
      have : (n.natAbs : Int) = n := by omega
      omega
  have h4 := Int.emod_nonneg x h0
  have h5 := Int.emod_lt_of_pos x hn
  by_cases h : x.tmod n < 0
  · rw [show decide (x.tmod n < 0) = true from by simp [h], cond_true, wrap_i64 (by omega) (by omega)]
    exact ⟨_, rfl, by omega, by omega, by omega⟩
  · rw [show decide (x.tmod n < 0) = false from by simp [h], cond_false]
    exact ⟨_, rfl, by omega, by omega, by omega⟩
theorem next_some (d : T_Dice) (n : Int) (hd : Fair d) (hn : 0 < n) (hb : n ≤ 4611686018427387904) : ∃ d' r, m_made_Dice_Next d n = some (d', r) ∧ Fair d' ∧ 0 ≤ r ∧ r < n := by
  obtain ⟨h1, h2⟩ := hd
  unfold m_made_Dice_Next
  by_cases h : d.At ≥ (d.L.length : Int)
  · rw [show decide (d.At ≥ (d.L.length : Int)) = true from by simp [h], cond_true]
    exact ⟨_, _, rfl, ⟨h1, h2⟩, by omega, by omega⟩
  · rw [show decide (d.At ≥ (d.L.length : Int)) = false from by simp [h], cond_false, wrap_i64 (x := d.At + 1) (by omega) (by omega), wrap_i64 (by omega) (by omega)]
    obtain ⟨i, hi⟩ := Int.eq_ofNat_of_zero_le h1
    have e : d.At + 1 - 1 = (i : Int) := by omega
    have hi2 : i < d.L.length := by omega
    obtain ⟨r, hr, r1, r2, _⟩ := mod_some d.L[i] n hn hb
    rw [e, elt_lt hi2, bnd_some, hr, bnd_some]
    exact ⟨_, _, rfl, ⟨by simp only; omega, h2⟩, r1, r2⟩
theorem bool_some (d : T_Dice) (n : Int) (hd : Fair d) (hn : 0 < n) (hb : n ≤ 4611686018427387904) : ∃ d' r, m_made_Dice_Bool d n = some (d', r) ∧ Fair d' := by
  obtain ⟨d', r, h, hf, _⟩ := next_some d n hd hn hb
  unfold m_made_Dice_Bool
  rw [h]
  exact ⟨_, _, rfl, hf⟩
theorem roll_fair (l : List Int) (h : l.length ≤ 600) : Fair ⟨l, 0⟩ := ⟨by simp, h⟩
theorem valid_add {l : List T_Known} {k : T_Known} (hv : validB l = true) (hs : ∀ x ∈ l, x.Slot < k.Slot) (h0 : 0 ≤ k.Slot) (h1 : k.Slot < 16) (h2 : k.Serial.size ≤ 23) (h3 : k.Good = true ∨ k.Serial = emp) : validB (l ++ [k]) = true := by
  unfold validB at *
  simp only [Bool.not_eq_true', List.any_eq_false, List.mem_range] at *
  intro i hi
  rw [List.length_append, List.length_singleton] at hi
  by_cases hil : i < l.length
  · have e : badAt (l ++ [k]) i = badAt l i := by
      unfold badAt
      rw [List.getElem?_append_left hil, List.getElem?_append_left (show i - 1 < l.length by omega)]
    rw [e]
    exact hv i hil
  · obtain rfl : i = l.length := by omega
    unfold badAt
    rw [List.getElem?_append_right (Nat.le_refl _)]
    simp only [Nat.sub_self, List.getElem?_cons_zero, Bool.or_eq_true, Bool.and_eq_true, decide_eq_true_eq, not_or, not_and]
    refine ⟨by omega, by omega, ?_, by omega, ?_⟩
    · cases hl : l.length with
      | zero => simp
      | succ n =>
        have hn : n < l.length := by omega
        simp only [Nat.add_sub_cancel]
        rw [List.getElem?_append_left hn, List.getElem?_eq_getElem hn]
        simp only [Bool.and_eq_true, decide_eq_true_eq, not_and]
        intro _
        have := hs l[n] (List.getElem_mem hn)
        omega
    · rcases h3 with h3 | h3
      · simp [h3]
      · simp [h3]
def InvI (s : List T_Known × Int × List Int × Int) : Prop := Fair ⟨s.2.2.1, s.2.2.2⟩ ∧ 0 ≤ s.2.1 ∧ validB s.1 = true ∧ (∀ x ∈ s.1, x.Slot < s.2.1) ∧ (s.1.length : Int) ≤ s.2.1 ∧ ∀ x ∈ s.1, 0 ≤ x.Sum ∧ x.Sum ≤ 4294967295
noncomputable def invStep : List T_Known × Int × List Int × Int → Option (Step (List T_Known × Int × List Int × Int) (List T_Known × List Int × Int)) := fun (s1 : List T_Known × Int × List Int × Int) => bif decide (s1.2.1 < 16) then (bnd (m_made_Dice_Bool (⟨s1.2.2.1, s1.2.2.2⟩ : T_Dice) 5) fun r2 => bnd (m_made_Dice_Next r2.1 3) fun r3 => bif !r2.2 then (bnd (m_made_Dice_Next r3.1 6) fun r4 => bnd (elt ([⟨#[]⟩, ⟨#[65, 49]⟩, ⟨#[66, 50]⟩, ⟨#[67, 51]⟩, ⟨#[68, 52]⟩, ⟨#[69, 53]⟩]) r4.2) fun x1 => bnd (app 40 s1.1 ([(⟨s1.2.1, !r2.2, x1, IntKind.wrap .u32 r3.2⟩ : T_Known)])) fun l1 => bnd (m_made_Dice_Next r4.1 5) fun r5 => some (.next (l1, IntKind.wrap .i64 (s1.2.1 + (IntKind.wrap .i64 (1 + r5.2))), r5.1.L, r5.1.At))) else (bnd (app 40 s1.1 ([(⟨s1.2.1, !r2.2, ⟨#[]⟩, IntKind.wrap .u32 r3.2⟩ : T_Known)])) fun l2 => bnd (m_made_Dice_Next r3.1 5) fun r6 => some (.next (l2, IntKind.wrap .i64 (s1.2.1 + (IntKind.wrap .i64 (1 + r6.2))), r6.1.L, r6.1.At)))) else (some (.done (s1.1, s1.2.2.1, s1.2.2.2)))
theorem inv_step (s : List T_Known × Int × List Int × Int) (hI : InvI s) : (∃ s', invStep s = some (.next s') ∧ InvI s' ∧ (16 - s'.2.1).toNat < (16 - s.2.1).toNat) ∨ ∃ t, invStep s = some (.done t) ∧ (Fair ⟨t.2.1, t.2.2⟩ ∧ t.1.length ≤ 20 ∧ validB t.1 = true ∧ ∀ x ∈ t.1, 0 ≤ x.Sum ∧ x.Sum ≤ 4294967295) := by
  have hz : ([⟨#[]⟩, ⟨#[65, 49]⟩, ⟨#[66, 50]⟩, ⟨#[67, 51]⟩, ⟨#[68, 52]⟩, ⟨#[69, 53]⟩] : List ByteArray).length = 6 := rfl
  unfold invStep
  obtain ⟨out, s, L, at_⟩ := s
  obtain ⟨i1, i2, i3, i4, i5, i6⟩ := hI
  simp only at i1 i2 i3 i4 i5 i6 ⊢
  have hsum : ∀ (a : Int) (b c : Bool) (t : ByteArray) (k : Int), ∀ x ∈ out ++ [(⟨a, b, t, IntKind.wrap .u32 k⟩ : T_Known)], 0 ≤ x.Sum ∧ x.Sum ≤ 4294967295 := fun a b c t k x hx => by
    rcases List.mem_append.1 hx with hx | hx
    · exact i6 x hx
    · rw [List.mem_singleton] at hx
      subst hx
      show 0 ≤ IntKind.wrap .u32 k ∧ IntKind.wrap .u32 k ≤ 4294967295
      rw [wrap_u32_mod]
      omega
  by_cases hs : s < 16
  · left
    simp only [hs, decide_true, cond_true]
    obtain ⟨d2, b2, e2, f2⟩ := bool_some ⟨L, at_⟩ 5 i1 (by omega) (by omega)
    rw [e2, bnd_some]
    obtain ⟨d3, b3, e3, f3, _, _⟩ := next_some d2 3 f2 (by omega) (by omega)
    simp only [e3, bnd_some]
    have happ : ∀ k : T_Known, app 40 out [k] = some (out ++ [k]) := fun k => app_eq (by simp; omega) (by simp; omega)
    cases b2
    · simp only [Bool.not_false, cond_true]
      obtain ⟨d4, b4, e4, f4, g4, k4⟩ := next_some d3 6 f3 (by omega) (by omega)
      obtain ⟨j, hj⟩ := Int.eq_ofNat_of_zero_le g4
      have hj6 : j < 6 := by omega
      obtain ⟨d5, b5, e5, f5, g5, k5⟩ := next_some d4 5 f4 (by omega) (by omega)
      simp only [e4, bnd_some, hj, elt_lt (show j < ([⟨#[]⟩, ⟨#[65, 49]⟩, ⟨#[66, 50]⟩, ⟨#[67, 51]⟩, ⟨#[68, 52]⟩, ⟨#[69, 53]⟩] : List ByteArray).length by rw [hz]; exact hj6), happ, e5]
      rw [wrap_i64 (x := 1 + b5) (by omega) (by omega), wrap_i64 (by omega) (by omega)]
      refine ⟨_, rfl, ⟨f5, by simp only; omega, valid_add i3 i4 i2 hs ?_ (.inl rfl), ?_, ?_, hsum _ _ true _ _⟩, ?_⟩
      · have : ∀ j (h : j < 6), ([⟨#[]⟩, ⟨#[65, 49]⟩, ⟨#[66, 50]⟩, ⟨#[67, 51]⟩, ⟨#[68, 52]⟩, ⟨#[69, 53]⟩] : List ByteArray)[j].size ≤ 23 := by decide
        exact this j hj6
      · intro x hx
        simp only [List.mem_append, List.mem_singleton] at hx
        simp only
        rcases hx with hx | hx
        · have := i4 x hx; omega
        · subst hx; simp only; omega
      · simp only [List.length_append, List.length_singleton]; omega
      · simp only; omega
    · simp only [Bool.not_true, cond_false]
      obtain ⟨d5, b5, e5, f5, g5, k5⟩ := next_some d3 5 f3 (by omega) (by omega)
      simp only [happ, bnd_some, e5]
      rw [wrap_i64 (x := 1 + b5) (by omega) (by omega), wrap_i64 (by omega) (by omega)]
      refine ⟨_, rfl, ⟨f5, by simp only; omega, valid_add i3 i4 i2 hs (Nat.zero_le _) (.inr rfl), ?_, ?_, hsum _ _ true _ _⟩, ?_⟩
      · intro x hx
        simp only [List.mem_append, List.mem_singleton] at hx
        simp only
        rcases hx with hx | hx
        · have := i4 x hx; omega
        · subst hx; simp only; omega
      · simp only [List.length_append, List.length_singleton]; omega
      · simp only; omega
  · right
    simp only [hs, decide_false, cond_false]
    refine ⟨_, rfl, i1, ?_, i3, i6⟩
    simp only
    by_cases hn : out.length ≤ 20
    · exact hn
    · exfalso
      have h20 : 20 < out.length := by omega
      have : ∀ i (hi : i < out.length), (i : Int) ≤ out[i].Slot := by
        intro i
        induction i with
        | zero => intro hi; exact (valid_at i3 hi).1
        | succ i ih =>
          intro hi
          have g1 := ih (by omega)
          have g2 := valid_mono i3 i (i + 1) (by omega) hi (by omega)
          omega
      have g1 := this 20 h20
      have g2 := (valid_at i3 h20).2.1
      omega
theorem inventory_sum (d : T_Dice) (hd : Fair d) : ∃ d' l, m_made_Dice_Inventory d = some (d', l) ∧ Fair d' ∧ l.length ≤ 16 ∧ validB l = true ∧ ∀ x ∈ l, 0 ≤ x.Sum ∧ x.Sum ≤ 4294967295 := by
  unfold m_made_Dice_Inventory
  obtain ⟨d1, r1, h1, hf1, hr0, hr1⟩ := next_some d 3 hd (by omega) (by omega)
  rw [h1, bnd_some]
  obtain ⟨t, ht, hq⟩ := loop_inv (m := invStep) InvI (fun s => (16 - s.2.1).toNat) _ inv_step ([], r1, d1.L, d1.At) ⟨hf1, hr0, rfl, by simp, by simpa using hr0, by simp⟩
  unfold invStep at ht
  rw [ht, bnd_some]
  refine ⟨_, _, rfl, hq.1, ?_, hq.2.2⟩
  have hv := hq.2.2.1
  by_cases hl : t.1.length ≤ 16
  · exact hl
  · exfalso
    have h16 : 16 < t.1.length := by omega
    have : ∀ i (hi : i < t.1.length), (i : Int) ≤ t.1[i].Slot := by
      intro i
      induction i with
      | zero => intro hi; exact (valid_at hv hi).1
      | succ i ih =>
        intro hi
        have g1 := ih (by omega)
        have g2 := valid_mono hv i (i + 1) (by omega) hi (by omega)
        omega
    have g1 := this 16 h16
    have g2 := (valid_at hv h16).2.1
    omega
end Go.Proofs.Ytelepclajhpnfaa
end
section
namespace Go.Proofs.Ytelepclajhpnfaa
open Go
set_option linter.unusedSimpArgs false
set_option linter.unusedVariables false
def okR (b : Int) (l : List T_Setting) : Prop := ∀ x ∈ l, (0 ≤ x.Key ∧ x.Key ≤ b) ∧ rng x.Value ∧ x.Value.length ≤ 29
theorem Like.trans {d e g : T_Device} (h : Like d e) (k : Like e g) : Like d g := ⟨k.ok, k.size.trans h.size, k.wear.trans h.wear, k.torn.trans h.torn, k.len.trans h.len⟩
structure Sto (d : T_Device) (s : T_Store) (f : Nat) : Prop where
  ok : OkD d
  size : 1024 ≤ d.size
  first : f + 1 < d.wear.length
  down : d.down = false
  rel : RelO s f (openF d f)
theorem Sto.okK {d : T_Device} {s : T_Store} {f : Nat} (h : Sto d s f) : OkK (openF d f).K := openF_ok h.ok f
theorem open_sto {d : T_Device} (h : OkD d) (hd : d.down = false) (hz : 1024 ≤ d.size) {f : Nat} (hf : f + 1 < d.wear.length) : ∃ s, m_settings_Open d (f : Int) = some (d, some s, 0) ∧ Sto d s f := by
  obtain ⟨s, h1, h2⟩ := open_eq h hd hz hf
  exact ⟨s, h1, h, hz, hf, hd, h2⟩
theorem Sto.all {d : T_Device} {s : T_Store} {f : Nat} (h : Sto d s f) (e : T_Device) : m_settings_Store_All s e = some (openF d f).K := all_eq h.rel h.okK e
structure UpdS (d : T_Device) (s : T_Store) (f : Nat) (l : List T_Setting) (r : T_Store × T_Device × Int) : Prop where
  like : Like d r.2.1
  val : r.2 = (updF (openF d f) d f l).2
  cases : (r.2.2 = 0 ∧ Sto r.2.1 r.1 f ∧ chkF l = 0 ∧ (openF r.2.1 f).K = allK (openF d f).K l ∧ (openF r.2.1 f).gen ≤ (openF d f).gen + 1) ∨
    ((r.2.2 = 1 ∨ r.2.2 = 3 ∨ r.2.2 = 7) ∧ r.2.1 = d ∧ RelO r.1 f (openF d f)) ∨
    (r.2.2 = 10 ∧ r.2.1.down = true ∧ r.1 = endS ∧ chkF l = 0 ∧ ((openF r.2.1 f).K = (openF d f).K ∨ (openF r.2.1 f).K = allK (openF d f).K l) ∧ (openF r.2.1 f).gen ≤ (openF d f).gen + 1)
  calm : d.left = 0 → r.2.2 ≠ 10 ∧ r.2.1.left = 0
  done : chkF l = 0 → (allK (openF d f).K l).length ≤ 32 → (openF d f).gen < 2147483648 → r.2.2 = 0 ∨ r.2.2 = 10
def okU (l : List T_Setting) : Prop := l.length ≤ 1000000 ∧ ∀ x ∈ l, 0 ≤ x.Key ∧ x.Key ≤ 255 ∧ rng x.Value
theorem okR.okU {b : Int} {l : List T_Setting} (h : okR b l) (hb : b ≤ 255) (hl : l.length ≤ 1000000) : okU l := ⟨hl, fun x hx => by obtain ⟨h1, h2, h3⟩ := h x hx; exact ⟨h1.1, by omega, h2⟩⟩
theorem Sto.upd {d : T_Device} {s : T_Store} {f : Nat} (h : Sto d s f) {l : List T_Setting} (hl : okU l) : ∃ r, m_settings_Store_Update s l d = some r ∧ UpdS d s f l r := by
  have hO := openF_okO h.ok h.size h.first
  obtain ⟨s', h1, h2⟩ := update_eq h.rel hO h.ok h.size h.first hl.1 hl.2
  have hU := upd_ok h.ok h.down h.size h.first rfl hl.2
  refine ⟨_, h1, hU.like, rfl, ?_, fun hc => ?_, fun h3 h4 h5 => upd_done h.ok h.down h.size h.first rfl hl.2 h3 h4 h5⟩
  · rcases hU.cases with ⟨a1, a2, a3, a4, a5, a6⟩ | ⟨a1, a2, a3⟩ | ⟨a1, a2, a3, a4, a5, a6⟩
    · refine .inl ⟨a1, ⟨hU.like.ok, by rw [hU.like.size]; exact h.size, by rw [hU.like.wear]; exact h.first, a2, ?_⟩, a4, a5, a6⟩
      rw [a3] at h2
      exact h2
    · refine .inr (.inl ⟨a1, a3, ?_⟩)
      rw [a2] at h2
      exact h2
    · refine .inr (.inr ⟨a1, a2, ?_, a4, a5, a6⟩)
      rw [a3] at h2
      exact h2
  · have := updF_calm hc h.down (openF d f) f l
    exact ⟨this.1, this.2.1⟩
theorem asc_len : ∀ {K : List T_Setting} {a b : Int}, Asc K → (∀ x ∈ K, a ≤ x.Key ∧ x.Key ≤ b) → a ≤ b + 1 → (K.length : Int) ≤ b + 1 - a
  | [], a, b, _, _, h => by simp; omega
  | x :: r, a, b, h, hk, _ => by
    have hp := List.pairwise_cons.1 h
    have hx := hk x (by simp)
    have := asc_len (a := x.Key + 1) (b := b) hp.2 (fun y hy => ⟨by have := hp.1 y hy; omega, (hk y (by simp [hy])).2⟩) (by omega)
    rw [List.length_cons]
    omega
end Go.Proofs.Ytelepclajhpnfaa
end
section
namespace Go.Proofs.Ytelepclajhpnfaa
open Go
set_option linter.unusedSimpArgs false
set_option linter.unusedVariables false
def okP (l : List T_Setting) : Prop := (∀ x ∈ l, (0 ≤ x.Key ∧ x.Key ≤ 255) ∧ rng x.Value ∧ x.Value.length ≤ 28 ∧ (x.Delete = true → x.Value = [])) ∧ l.Pairwise fun a b => a.Key ≠ b.Key
theorem chkG_zero : ∀ {l : List T_Setting} {seen : List Int}, okP l → (∀ x ∈ l, x.Key ∉ seen) → chkG seen l = 0
  | [], _, _, _ => rfl
  | x :: r, seen, h, hs => by
    have hx := h.1 x (by simp)
    have hp := List.pairwise_cons.1 h.2
    unfold chkG
    rw [if_neg (fun hb => by
      rcases hb with hb | ⟨hb, hb2⟩
      · omega
      · rw [hx.2.2.2 hb] at hb2; simp at hb2), if_neg (hs x (by simp))]
    refine chkG_zero ⟨fun y hy => h.1 y (by simp [hy]), hp.2⟩ fun y hy hm => ?_
    rcases List.mem_cons.1 hm with hm | hm
    · exact hp.1 y hy hm.symm
    · exact hs y (by simp [hy]) hm
theorem chkF_zero {l : List T_Setting} (h : okP l) (hl : l.length ≤ 32) : chkF l = 0 := by
  unfold chkF
  rw [if_neg (by omega)]
  exact chkG_zero h fun x _ h => by cases h
theorem okP.okU {l : List T_Setting} (h : okP l) (hl : l.length ≤ 1000000) : okU l := ⟨hl, fun x hx => ⟨(h.1 x hx).1.1, (h.1 x hx).1.2, (h.1 x hx).2.1⟩⟩
theorem Sto.arm {d : T_Device} {s : T_Store} {f : Nat} (h : Sto d s f) {n t : Int} (hn : n ≤ 9223372036854775807) (ht : 0 ≤ t ∧ t ≤ 255) : Sto (armF d n t) s f := by
  have e : armF d n t = ⟨d.size, d.bytes, d.wear, d.steps, max n 0, t, d.down⟩ := by unfold armF; rw [if_neg (by simp [h.down])]
  refine ⟨armF_ok h.ok hn ht, ?_, ?_, ?_, ?_⟩
  · rw [e]; exact h.size
  · rw [e]; exact h.first
  · rw [e]; exact h.down
  · rw [openF_arm]; exact h.rel
structure Cut (d : T_Device) (f : Nat) (l : List T_Setting) (r : T_Store × T_Device × Int) (t : T_Store) : Prop where
  err : r.2.2 = 0 ∧ r.2.1.down = false ∧ Sto r.2.1 r.1 f ∨ r.2.2 = 10 ∧ r.2.1.down = true ∧ r.1 = endS
  open_ : m_settings_Open (restF r.2.1) (f : Int) = some (restF r.2.1, some t, 0)
  sto : Sto (restF r.2.1) t f
  list : (openF (restF r.2.1) f).K = allK (openF d f).K l ∨ r.2.2 = 10 ∧ (openF (restF r.2.1) f).K = (openF d f).K
  gen : (openF (restF r.2.1) f).gen ≤ (openF d f).gen + 1
  size : r.2.1.size = d.size
  wear : r.2.1.wear.length = d.wear.length
  val : r.2 = (updF (openF d f) d f l).2
theorem Sto.cut {d : T_Device} {s : T_Store} {f : Nat} (h : Sto d s f) {l : List T_Setting} (hl : okP l) (h32 : l.length ≤ 32) (hK : (allK (openF d f).K l).length ≤ 32) (hg : (openF d f).gen < 2147483648) : ∃ r, m_settings_Store_Update s l d = some r ∧ ∃ t, Cut d f l r t := by
  obtain ⟨r, h1, h2⟩ := h.upd (hl.okU (by omega))
  refine ⟨r, h1, ?_⟩
  have ok := h2.like.ok
  obtain ⟨t, h3, h4⟩ := open_sto (restF_ok ok) rfl (by show 1024 ≤ r.2.1.size; rw [h2.like.size]; exact h.size) (f := f) (by show f + 1 < r.2.1.wear.length; rw [h2.like.wear]; exact h.first)
  have hd := h2.done (chkF_zero hl h32) hK hg
  refine ⟨t, ?_⟩
  rcases h2.cases with ⟨a1, a2, a3, a4, a5⟩ | ⟨a1, _⟩ | ⟨a1, a2, a3, a4, a5, a6⟩
  · exact ⟨.inl ⟨a1, a2.down, a2⟩, h3, h4, .inl (by rw [openF_rest]; exact a4), by rw [openF_rest]; exact a5, h2.like.size, h2.like.wear, h2.val⟩
  · omega
  · refine ⟨.inr ⟨a1, a2, a3⟩, h3, h4, ?_, by rw [openF_rest]; exact a6, h2.like.size, h2.like.wear, h2.val⟩
    rw [openF_rest]
    rcases a5 with a5 | a5
    · exact .inr ⟨a1, a5⟩
    · exact .inl a5
theorem Cut.calm {d : T_Device} {f : Nat} {l : List T_Setting} {r : T_Store × T_Device × Int} {t : T_Store} (h : Cut d f l r t) : (restF r.2.1).left = 0 := rfl
theorem Sto.sure {d : T_Device} {s : T_Store} {f : Nat} (h : Sto d s f) (h0 : d.left = 0) {l : List T_Setting} (hl : okP l) (h32 : l.length ≤ 32) (hK : (allK (openF d f).K l).length ≤ 32) (hg : (openF d f).gen < 2147483648) : ∃ r, m_settings_Store_Update s l d = some r ∧ r.2.2 = 0 ∧ Sto r.2.1 r.1 f ∧ (openF r.2.1 f).K = allK (openF d f).K l ∧ (openF r.2.1 f).gen ≤ (openF d f).gen + 1 ∧ Like d r.2.1 ∧ r.2.1.left = 0 := by
  obtain ⟨r, h1, h2⟩ := h.upd (hl.okU (by omega))
  have hd := h2.done (chkF_zero hl h32) hK hg
  have hc := h2.calm h0
  rcases h2.cases with ⟨a1, a2, a3, a4, a5⟩ | ⟨a1, _⟩ | ⟨a1, _⟩
  · exact ⟨r, h1, a1, a2, a4, a5, h2.like, hc.2⟩
  · omega
  · exact absurd a1 hc.1
end Go.Proofs.Ytelepclajhpnfaa
end
section
namespace Go.Proofs.Ytelepclajhpnfaa
open Go
set_option linter.unusedSimpArgs false
set_option linter.unusedVariables false
theorem short_of {α : Type} {l : List α} {n : Nat} (h : l.length ≤ n) (hn : n ≤ 140737488355328) : Short l := Nat.le_trans h hn
theorem awake_true : m_law19_awake = some true := by
  unfold m_law19_awake
  simp only [m_law19_known, bnd_some]
  rw [prog_Compare _ _ (by simp [Short]) (by simp [Short])]
  have e : (if validB [(⟨0, true, ⟨#[65]⟩, 0⟩ : T_Known), ⟨1, true, ⟨#[66]⟩, 0⟩] = true ∧ validB [(⟨0, true, ⟨#[66]⟩, 0⟩ : T_Known), ⟨2, true, ⟨#[65]⟩, 0⟩] = true then (diffs [(⟨0, true, ⟨#[65]⟩, 0⟩ : T_Known), ⟨1, true, ⟨#[66]⟩, 0⟩] [(⟨0, true, ⟨#[66]⟩, 0⟩ : T_Known), ⟨2, true, ⟨#[65]⟩, 0⟩] 16, (0 : Int)) else ([], 1)) = ([(⟨4, 0, 1⟩ : T_Difference), (⟨4, 2, 0⟩ : T_Difference)], 0) := by kernel_rfl
  rw [e]
  simp only [bnd_some, beq_self_eq_true, cond_true, same_refl _ (show Short [(⟨4, 0, 1⟩ : T_Difference), (⟨4, 2, 0⟩ : T_Difference)] by simp [Short])]
end Go.Proofs.Ytelepclajhpnfaa
end
section
namespace Go.Proofs.Ytelepclajhpnfaa
open Go
set_option linter.unusedSimpArgs false
set_option linter.unusedVariables false
theorem iShl_u32 {a s : Nat} (hs : s ≤ 32) (h : a * 2 ^ s < 4294967296) : iShl .u32 (a : Int) (s : Int) = ((a * 2 ^ s : Nat) : Int) := by
  unfold iShl
  have : min (s : Int).toNat (IntKind.bits .u32) = s := by show min (s : Int).toNat 32 = s; omega
  rw [this]
  have e : ((a : Int) * 2 ^ s) = ((a * 2 ^ s : Nat) : Int) := by simp
  rw [e, wrap_u32n h]
theorem or4 {x y z t : Nat} (hx : x < 256) (hy : y < 256) (hz : z < 256) (ht : t < 256) : iOr .u32 (iOr .u32 (iOr .u32 (IntKind.wrap .u32 (x : Int)) (iShl .u32 (IntKind.wrap .u32 (y : Int)) 8)) (iShl .u32 (IntKind.wrap .u32 (z : Int)) 16)) (iShl .u32 (IntKind.wrap .u32 (t : Int)) 24) = ((x + y * 256 + z * 65536 + t * 16777216 : Nat) : Int) := by
  rw [wrap_u32n (by omega), wrap_u32n (by omega), wrap_u32n (by omega), wrap_u32n (by omega), show (8 : Int) = ((8 : Nat) : Int) from rfl, show (16 : Int) = ((16 : Nat) : Int) from rfl, show (24 : Int) = ((24 : Nat) : Int) from rfl, iShl_u32 (by omega) (by omega), iShl_u32 (by omega) (by omega), iShl_u32 (by omega) (by omega), iOr_u32 (by omega) (by omega), or_add (s := 8) (by omega), iOr_u32 (by omega) (by omega), or_add (s := 16) (by omega), iOr_u32 (by omega) (by omega), or_add (s := 24) (by omega)]
structure OkT (x : T_Setting) : Prop where
  key : 0 ≤ x.Key ∧ x.Key ≤ 255
  val : ∃ m, x.Value = iz m ∧ lt256 m ∧ m.length ≤ 1000
theorem OkT.len {x : T_Setting} (h : OkT x) : x.Value.length ≤ 1000 := by
  obtain ⟨m, h1, _, h2⟩ := h.val
  rw [h1, iz_len]
  exact h2
def valK (k : T_Known) : List Nat := [bif k.Good then 1 else 0, k.Sum.toNat % 256, k.Sum.toNat / 256 % 256, k.Sum.toNat / 65536 % 256, k.Sum.toNat / 16777216 % 256] ++ bs k.Serial
def saveS (l : List T_Known) (s : Nat) : T_Setting := bif (atS l s).2 then ⟨((16 + s : Nat) : Int), iz (valK (atS l s).1), false⟩ else ⟨((16 + s : Nat) : Int), [], true⟩
def saveL (l : List T_Known) : List T_Setting × Int := bif validB l then ((List.range 16).map (saveS l), 0) else ([], 1)
def SumR (l : List T_Known) : Prop := ∀ x ∈ l, 0 ≤ x.Sum ∧ x.Sum ≤ 4294967295
theorem save_eq (l : List T_Known) (i : Nat) : saveS l i = bif (atS l (i : Int)).2 then ⟨((16 + i : Nat) : Int), iz (valK (atS l (i : Int)).1), false⟩ else ⟨((16 + i : Nat) : Int), [], true⟩ := rfl
theorem take_map_succ (f : Nat → T_Setting) {i : Nat} (h : i < 16) : ((List.range 16).map f).take (i + 1) = ((List.range 16).map f).take i ++ [f i] := by
  rw [take_succ_get (by simpa using h)]
  simp
theorem at_facts {l : List T_Known} (hv : validB l = true) (hs : SumR l) {s : Int} (h : (atS l s).2 = true) : (atS l s).1.Serial.size ≤ 23 ∧ 0 ≤ (atS l s).1.Sum ∧ (atS l s).1.Sum ≤ 4294967295 := by
  have hm := atS_mem h
  refine ⟨?_, hs _ hm⟩
  obtain ⟨i, hi, he⟩ := List.mem_iff_getElem.1 hm
  have h1 : badAt l i = false := by
    unfold validB at hv
    rw [Bool.not_eq_true', List.any_eq_false] at hv
    simpa using hv i (List.mem_range.2 hi)
  unfold badAt at h1
  rw [List.getElem?_eq_getElem hi, he] at h1
  simp only [Bool.or_eq_false_iff, decide_eq_false_iff_not] at h1
  have := h1.2.2.2.1
  omega
theorem key_wrap {i : Nat} (h : i < 16) : IntKind.wrap .u8 (IntKind.wrap .i64 (16 + (i : Int))) = ((16 + i : Nat) : Int) := by
  rw [wrap_i64 (by omega) (by omega), wrap_u8 (by omega) (by omega)]
  omega
theorem val_len (k : T_Known) : (valK k).length = 5 + k.Serial.size := by
  unfold valK
  rw [List.length_append, bs_len]
  rfl
theorem val_lt (k : T_Known) : lt256 (valK k) := by
  refine lt256.app ?_ (bs_lt _)
  refine .cons ?_ (.cons (Nat.mod_lt _ (by omega)) (.cons (Nat.mod_lt _ (by omega)) (.cons (Nat.mod_lt _ (by omega)) (.cons (Nat.mod_lt _ (by omega)) .nil))))
  cases k.Good <;> decide
theorem save_prog {l : List T_Known} (hl : Short l) (hs : SumR l) : m_inventory_Save l = some (saveL l) := by
  unfold m_inventory_Save saveL
  rw [prog_valid l hl, bnd_some]
  cases hv : validB l
  · rfl
  rw [Bool.not_true, cond_false, cond_true]
  refine bnd_loop (fun i => (((List.range 16).map (saveS l)).take i, (i : Int))) 16 ((List.range 16).map (saveS l)) rfl (fun i hi => ?_) rfl rfl
  have happ : ∀ k : T_Setting, app 40 (((List.range 16).map (saveS l)).take i) [k] = some (((List.range 16).map (saveS l)).take i ++ [k]) := fun k => app_eq (by rw [List.length_take]; simp; omega) (by rw [List.length_take]; simp; omega)
  dsimp only
  rw [decide_eq_true (by omega : (i : Int) < 16), cond_true, prog_at l _ hl, bnd_some, take_map_succ _ hi, key_wrap hi, wrap_succ hi (by omega)]
  rw [save_eq]
  cases ha : (atS l (i : Int)).2
  · rw [cond_false, happ, bnd_some]
    rfl
  · obtain ⟨a1, a2, a3⟩ := at_facts hv hs ha
    rw [cond_true, cond_true]
    obtain ⟨m, hm⟩ : ∃ m : Nat, (atS l (i : Int)).1.Sum = (m : Int) := ⟨(atS l (i : Int)).1.Sum.toNat, by omega⟩
    refine bnd_eq (a := ((bif (atS l (i : Int)).1.Good then 1 else 0 : Nat) : Int)) (by cases (atS l (i : Int)).1.Good <;> rfl) ?_
    rw [hm, wrap_u8_modn, show (8 : Int) = ((8 : Nat) : Int) from rfl, show (16 : Int) = ((16 : Nat) : Int) from rfl, show (24 : Int) = ((24 : Nat) : Int) from rfl, iShr_n (by decide), iShr_n (by decide), iShr_n (by decide), wrap_u8_modn, wrap_u8_modn, wrap_u8_modn, bytesOf_iz]
    have hv2 : valK (atS l (i : Int)).1 = [bif (atS l (i : Int)).1.Good then 1 else 0, m % 256, m / 2 ^ 8 % 256, m / 2 ^ 16 % 256, m / 2 ^ 24 % 256] ++ bs (atS l (i : Int)).1.Serial := by
      unfold valK
      rw [hm]
      rfl
    refine bnd_eq (app_iz (l := [bif (atS l (i : Int)).1.Good then 1 else 0, m % 256, m / 2 ^ 8 % 256, m / 2 ^ 16 % 256, m / 2 ^ 24 % 256]) (m := bs (atS l (i : Int)).1.Serial) (b := 1) (by rw [bs_len]; simp; omega) (by rw [bs_len]; simp; omega)) ?_
    rw [← hv2, happ, bnd_some]
def skipT (x : T_Setting) : Bool := x.Delete || (decide (x.Key < 16) || decide (x.Key > 31))
theorem skip_prog {x : T_Setting} (h : OkT x) : (bif x.Delete then (some true) else (bnd (m_inventory_slotted (IntKind.wrap .i64 ((IntKind.wrap .i64 x.Key) - 16))) fun r1 => some (!r1)) : Option Bool) = some (skipT x) := by
  have hk := h.key
  unfold skipT
  cases x.Delete
  · rw [cond_false, wrap_i64 (x := x.Key) (by omega) (by omega), wrap_i64 (by omega) (by omega), slotted_eq, bnd_some, Bool.false_or]
    by_cases h1 : x.Key < 16
    · rw [decide_eq_true h1, decide_eq_true (by omega : x.Key - 16 < 0)]
      rfl
    · rw [decide_eq_false h1, decide_eq_false (by omega : ¬ x.Key - 16 < 0)]
      by_cases h2 : x.Key > 31
      · rw [decide_eq_true h2, decide_eq_true (by omega : x.Key - 16 ≥ 16)]
        rfl
      · rw [decide_eq_false h2, decide_eq_false (by omega : ¬ x.Key - 16 ≥ 16)]
        rfl
  · rfl
end Go.Proofs.Ytelepclajhpnfaa
end
section
namespace Go.Proofs.Ytelepclajhpnfaa
open Go
set_option linter.unusedSimpArgs false
set_option linter.unusedVariables false
def setK (k : T_Known) : T_Setting := ⟨16 + k.Slot, iz (valK k), false⟩
structure OkY (k : T_Known) : Prop where
  slot : 0 ≤ k.Slot ∧ k.Slot < 16
  len : k.Serial.size ≤ 23
  good : k.Good = false → k.Serial = emp
  sum : 0 ≤ k.Sum ∧ k.Sum ≤ 4294967295
theorem okY_of {l : List T_Known} (hv : validB l = true) (hs : SumR l) {k : T_Known} (hk : k ∈ l) : OkY k := by
  obtain ⟨i, hi, he⟩ := List.mem_iff_getElem.1 hk
  have h1 : badAt l i = false := by
    unfold validB at hv
    rw [Bool.not_eq_true', List.any_eq_false] at hv
    simpa using hv i (List.mem_range.2 hi)
  unfold badAt at h1
  rw [List.getElem?_eq_getElem hi, he] at h1
  simp only [Bool.or_eq_false_iff, decide_eq_false_iff_not] at h1
  refine ⟨by omega, by have := h1.2.2.2.1; omega, fun hg => ?_, hs k hk⟩
  have h2 := h1.2.2.2.2
  rw [hg] at h2
  simpa using h2
theorem pair_of {l : List T_Known} (hv : validB l = true) : l.Pairwise fun a b => a.Slot < b.Slot := by
  rw [List.pairwise_iff_getElem]
  exact fun i j hi hj h => valid_mono hv i j hi hj h
theorem iz_elt {m : List Nat} {i : Nat} {v : Nat} (h : m[i]? = some v) : elt (iz m) (i : Int) = some (v : Int) := by
  rw [elt_nat, iz_get, h]
  rfl
def inR (x : T_Setting) : Bool := !skipT x
noncomputable def ldStep (l_p0 : List T_Setting) : List T_Known × Int → Option (Step (List T_Known × Int) ((List T_Known × Int) ⊕ List T_Known)) :=
  (fun (s1 : List T_Known × Int) => bif decide (s1.2 < (l_p0.length : Int)) then (bnd (elt l_p0 s1.2) fun x1 => bnd ((bif x1.Delete then (some true) else (bnd (m_inventory_slotted (IntKind.wrap .i64 ((IntKind.wrap .i64 x1.Key) - 16))) fun r1 => some (!r1)) : Option Bool)) fun o3 => bif o3 then (some (.next (s1.1, IntKind.wrap .i64 (s1.2 + 1)))) else (bnd ((bif decide ((s1.1.length : Int) > 0) then (bnd (elt s1.1 (IntKind.wrap .i64 ((s1.1.length : Int) - 1))) fun x2 => some (s1.1, decide ((IntKind.wrap .i64 ((IntKind.wrap .i64 x1.Key) - 16)) ≤ x2.Slot))) else (some (s1.1, false)) : Option (List T_Known × Bool))) fun o4 => bif o4.2 then (some (.done (.inl ([], 1)))) else (bnd ((bif decide ((x1.Value.length : Int) < 5) then (some true) else (bif decide ((x1.Value.length : Int) > 28) then (some true) else (bnd (elt x1.Value 0) fun x3 => bif decide (x3 > 1) then (some true) else (bif (x3 == 0) then (some (decide ((x1.Value.length : Int) > 5))) else (some false)))) : Option Bool)) fun o5 => bif o5 then (some (.done (.inl ([], 6)))) else (bnd (elt x1.Value 1) fun x4 => bnd (elt x1.Value 2) fun x5 => bnd (elt x1.Value 3) fun x6 => bnd (elt x1.Value 4) fun x7 => bnd (elt x1.Value 0) fun x8 => bnd (sub x1.Value 5 (x1.Value.length : Int)) fun l1 => bnd (app 40 o4.1 [(⟨IntKind.wrap .i64 ((IntKind.wrap .i64 x1.Key) - 16), (x8 == 1), strOf l1, iOr .u32 (iOr .u32 (iOr .u32 (IntKind.wrap .u32 x4) (iShl .u32 (IntKind.wrap .u32 x5) 8)) (iShl .u32 (IntKind.wrap .u32 x6) 16)) (iShl .u32 (IntKind.wrap .u32 x7) 24)⟩ : T_Known)]) fun l2 => some (.next (l2, IntKind.wrap .i64 (s1.2 + 1))))))) else (some (.done (.inr s1.1))))
theorem ld_step {K : List T_Setting} (hK : K.length ≤ 1000) {i : Nat} (hi : i < K.length) (hx : OkT K[i]) {acc : List T_Known} (hacc : acc.length ≤ 1000) :
    (inR K[i] = false → ldStep K (acc, (i : Int)) = some (.next (acc, ((i + 1 : Nat) : Int)))) ∧
    (∀ k, OkY k → K[i] = setK k → (∀ y ∈ acc, y.Slot < k.Slot) → ldStep K (acc, (i : Int)) = some (.next (acc ++ [k], ((i + 1 : Nat) : Int)))) := by
  unfold ldStep
  constructor
  · intro h
    dsimp only
    rw [cnd_t (by simp; omega), elt_lt hi, bnd_some, skip_prog hx, bnd_some]
    have : skipT K[i] = true := by unfold inR at h; simpa using h
    rw [this, cond_true, wrap_succ hi (by omega)]
  · intro k hk he hlt
    have hs := hk.slot
    have hl := hk.len
    have hsum := hk.sum
    dsimp only
    rw [cnd_t (by simp; omega), elt_lt hi, bnd_some, skip_prog hx, bnd_some, he]
    have hsk : skipT (setK k) = false := by
      unfold skipT
      rw [show (setK k).Delete = false from rfl, show (setK k).Key = 16 + k.Slot from rfl, Bool.false_or, decide_eq_false (by omega), decide_eq_false (by omega)]
      rfl
    rw [hsk, cond_false, show (setK k).Key = 16 + k.Slot from rfl, show (setK k).Value = iz (valK k) from rfl]
    rw [wrap_i64 (x := 16 + k.Slot) (by omega) (by omega), wrap_i64 (x := 16 + k.Slot - 16) (by omega) (by omega), show 16 + k.Slot - 16 = k.Slot by omega]
    have ho4 : (bif decide ((acc.length : Int) > 0) then (bnd (elt acc (IntKind.wrap .i64 ((acc.length : Int) - 1))) fun x2 => some (acc, decide (k.Slot ≤ x2.Slot))) else (some (acc, false)) : Option (List T_Known × Bool)) = some (acc, false) := by
      by_cases h0 : acc.length = 0
      · rw [cnd_f (by rw [decide_eq_false_iff_not]; omega)]
      · have hj : acc.length - 1 < acc.length := by omega
        rw [cnd_t (by simp; omega), wrap_i64 (by omega) (by omega), show (acc.length : Int) - 1 = ((acc.length - 1 : Nat) : Int) by omega, elt_lt hj, bnd_some, decide_eq_false]
        have := hlt _ (List.getElem_mem hj)
        omega
    rw [ho4, bnd_some]
    dsimp only
    rw [cond_false]
    have hvl := val_len k
    have e0 : elt (iz (valK k)) 0 = some (((bif k.Good then 1 else 0 : Nat)) : Int) := iz_elt (i := 0) rfl
    have e1 : elt (iz (valK k)) 1 = some ((k.Sum.toNat % 256 : Nat) : Int) := iz_elt (i := 1) rfl
    have e2 : elt (iz (valK k)) 2 = some ((k.Sum.toNat / 256 % 256 : Nat) : Int) := iz_elt (i := 2) rfl
    have e3 : elt (iz (valK k)) 3 = some ((k.Sum.toNat / 65536 % 256 : Nat) : Int) := iz_elt (i := 3) rfl
    have e4 : elt (iz (valK k)) 4 = some ((k.Sum.toNat / 16777216 % 256 : Nat) : Int) := iz_elt (i := 4) rfl
    have hbad : (bif decide (((iz (valK k)).length : Int) < 5) then (some true) else (bif decide (((iz (valK k)).length : Int) > 28) then (some true) else (bnd (elt (iz (valK k)) 0) fun x3 => bif decide (x3 > 1) then (some true) else (bif (x3 == 0) then (some (decide (((iz (valK k)).length : Int) > 5))) else (some false)))) : Option Bool) = some false := by
      rw [iz_len, hvl, cnd_f (by simp; omega), cnd_f (by simp; omega), e0, bnd_some]
      cases hg : k.Good
      · have := hk.good hg
        rw [this]
        rfl
      · rfl
    rw [hbad, bnd_some, cond_false, e1, bnd_some, e2, bnd_some, e3, bnd_some, e4, bnd_some, e0, bnd_some]
    have hsub : Go.Proofs.Ytelepclajhpnfaa.sub (iz (valK k)) 5 ((iz (valK k)).length : Int) = some (iz (bs k.Serial)) := by
      rw [iz_len, hvl]
      have := sub_iz (l := valK k) (a := 5) (b := 5 + k.Serial.size) (by omega) (by rw [hvl]; omega)
      rw [show (5 : Int) = ((5 : Nat) : Int) from rfl, this]
      congr 2
      rw [List.take_of_length_le (by rw [hvl]; omega)]
      rfl
    rw [hsub, bnd_some, strOf_iz, sb_bs, or4 (by omega) (by omega) (by omega) (by omega), app_eq (by simp; omega) (by simp; omega), bnd_some, wrap_succ hi (by omega)]
    have hsm : ((k.Sum.toNat % 256 + k.Sum.toNat / 256 % 256 * 256 + k.Sum.toNat / 65536 % 256 * 65536 + k.Sum.toNat / 16777216 % 256 * 16777216 : Nat) : Int) = k.Sum := by omega
    have hgd : ((((bif k.Good then 1 else 0 : Nat)) : Int) == 1) = k.Good := by cases k.Good <;> rfl
    rw [hsm, hgd]
theorem ld_loop {K : List T_Setting} (hK : K.length ≤ 1000) (hx : ∀ x ∈ K, OkT x) : ∀ (n i : Nat) (acc ys : List T_Known), i + n = K.length → (K.drop i).filter inR = ys.map setK → acc.length + ys.length ≤ 1000 → (acc ++ ys).Pairwise (fun a b => a.Slot < b.Slot) → (∀ y ∈ ys, OkY y) → loopM (ldStep K) (acc, (i : Int)) = some (.inr (acc ++ ys))
  | 0, i, acc, ys, h, hf, hl, hp, ho => by
    rw [List.drop_eq_nil_of_le (by omega)] at hf
    have : ys = [] := by simpa using hf.symm
    subst this
    refine loop_done ?_
    unfold ldStep
    dsimp only
    rw [cnd_f (by simp; omega), List.append_nil]
  | n + 1, i, acc, ys, h, hf, hl, hp, ho => by
    have hi : i < K.length := by omega
    have hs := ld_step hK hi (hx _ (List.getElem_mem hi)) (acc := acc) (by omega)
    rw [← List.getElem_cons_drop (h := hi), List.filter_cons] at hf
    cases hr : inR K[i]
    · rw [hr, if_neg (by simp)] at hf
      exact loop_next (hs.1 hr) (ld_loop hK hx n (i + 1) acc ys (by omega) hf hl hp ho)
    · rw [hr, if_pos rfl] at hf
      match ys, hf with
      | k :: ys, hf =>
        rw [List.map_cons] at hf
        obtain ⟨h1, h2⟩ := List.cons.inj hf
        have hlt : ∀ y ∈ acc, y.Slot < k.Slot := fun y hy => (List.pairwise_append.1 hp).2.2 y hy k (by simp)
        have hn := hs.2 k (ho k (by simp)) h1 hlt
        have := ld_loop hK hx n (i + 1) (acc ++ [k]) ys (by omega) h2 (by simp only [List.length_append, List.length_cons, List.length_nil] at *; omega) (by rw [List.append_assoc]; exact hp) (fun y hy => ho y (by simp [hy]))
        rw [List.append_assoc] at this
        exact loop_next hn this
theorem load_is {K : List T_Setting} (hK : K.length ≤ 1000) (hx : ∀ x ∈ K, OkT x) {y : List T_Known} (hf : K.filter inR = y.map setK) (hv : validB y = true) (hs : SumR y) (hl : y.length ≤ 16) : m_inventory_Load K = some (y, 0) := by
  have := ld_loop hK hx K.length 0 [] y (by omega) hf (by simp; omega) (pair_of hv) (fun k hk => okY_of hv hs hk)
  unfold ldStep at this
  unfold m_inventory_Load
  exact bnd_eq this rfl
def valAt (y : List T_Known) (q : Int) : Option (List Int) := if (atS y (q - 16)).2 = true then some (iz (valK (atS y (q - 16)).1)) else none
theorem last_save (y : List T_Known) (q : Int) (o : Option (List Int)) : ∀ n : Nat, lastS ((List.range n).map (saveS y)) q o = if 16 ≤ q ∧ q < 16 + n then valAt y q else o
  | 0 => by
    rw [if_neg (by omega)]
    rfl
  | n + 1 => by
    have ih := last_save y q o n
    unfold lastS at ih ⊢
    rw [List.range_succ, List.map_append, List.foldl_append, ih]
    simp only [List.map_cons, List.map_nil, List.foldl_cons, List.foldl_nil]
    have hk : (saveS y n).Key = 16 + (n : Int) := by unfold saveS; cases (atS y (n : Int)).2 <;> simp
    rw [hk]
    by_cases hq : q = 16 + (n : Int)
    · rw [if_pos hq, if_pos (show 16 ≤ q ∧ q < 16 + ((n + 1 : Nat) : Int) by omega)]
      unfold saveS valAt
      rw [show q - 16 = (n : Int) by omega]
      cases (atS y (n : Int)).2 <;> simp
    · rw [if_neg hq]
      by_cases hr : 16 ≤ q ∧ q < 16 + (n : Int)
      · rw [if_pos hr, if_pos (by omega)]
      · rw [if_neg hr, if_neg (by omega)]
theorem look_map (y : List T_Known) (q : Int) : look (y.map setK) q = valAt y q := by
  unfold look valAt atS
  rw [List.find?_map, Option.map_map]
  have : (fun x : T_Setting => x.Key == q) ∘ setK = fun k : T_Known => k.Slot == q - 16 := by
    funext k
    show (16 + k.Slot == q) = _
    rw [Bool.eq_iff_iff]
    simp only [beq_iff_eq]
    omega
  rw [this]
  cases y.find? fun k => k.Slot == q - 16 with
  | none => rfl
  | some k => rfl
theorem filter_save {K : List T_Setting} (hK : OkK K) {y : List T_Known} (hv : validB y = true) (hs : SumR y) : (allK K (saveL y).1).filter inR = y.map setK := by
  have hsl : (saveL y).1 = (List.range 16).map (saveS y) := by unfold saveL; rw [hv]; rfl
  have ha : Asc (allK K (saveL y).1) := allK_asc hK.asc
  have hn : Nd (allK K (saveL y).1) := allK_nd hK.nd
  have hb : ∀ x ∈ allK K (saveL y).1, inR x = decide (16 ≤ x.Key ∧ x.Key ≤ 31) := fun x hx => by
    unfold inR skipT
    rw [hn x hx, Bool.false_or, Bool.eq_iff_iff]
    simp
  refine asc_ext (List.Pairwise.filter _ ha) ?_ (fun x hx => hn x (List.mem_filter.1 hx).1) ?_ (fun q => ?_)
  · unfold Asc
    rw [List.pairwise_map]
    exact (pair_of hv).imp fun h => by show 16 + _ < 16 + _; omega
  · intro x hx
    obtain ⟨k, _, rfl⟩ := List.mem_map.1 hx
    rfl
  · rw [look_map]
    by_cases hq : 16 ≤ q ∧ q ≤ 31
    · rw [look_filter _ _ _ (fun x hx hk => by rw [hb x hx, hk]; simpa using hq), look_allK, hsl, last_save, if_pos (by omega)]
    · rw [look_filter_none _ _ _ (fun x hx hk => by rw [hb x hx, hk]; simpa using hq)]
      unfold valAt
      rw [if_neg]
      intro h
      have := valid_slot hv (atS_mem h)
      have h2 : (atS y (q - 16)).1.Slot = q - 16 := by
        unfold atS at h ⊢
        cases hf : y.find? fun k => k.Slot == q - 16 with
        | none => rw [hf] at h; cases h
        | some k =>
          have := List.find?_some hf
          simpa using this
      omega
theorem look_save {K : List T_Setting} {y : List T_Known} (hv : validB y = true) {q : Int} (hq : q < 16 ∨ 31 < q) : look (allK K (saveL y).1) q = look K q := by
  have hsl : (saveL y).1 = (List.range 16).map (saveS y) := by unfold saveL; rw [hv]; rfl
  rw [look_allK, hsl, last_save, if_neg (by omega)]
theorem save_okP {y : List T_Known} (hv : validB y = true) (hs : SumR y) : okP (saveL y).1 ∧ (saveL y).1.length ≤ 32 ∧ ∀ x ∈ (saveL y).1, 16 ≤ x.Key ∧ x.Key ≤ 31 := by
  have hsl : (saveL y).1 = (List.range 16).map (saveS y) := by unfold saveL; rw [hv]; rfl
  have hk : ∀ n : Nat, (saveS y n).Key = 16 + (n : Int) := fun n => by unfold saveS; cases (atS y (n : Int)).2 <;> simp
  rw [hsl]
  refine ⟨⟨fun x hx => ?_, ?_⟩, by simp, fun x hx => ?_⟩
  · obtain ⟨s, h1, rfl⟩ := List.mem_map.1 hx
    have h2 := List.mem_range.1 h1
    refine ⟨by rw [hk]; omega, ?_⟩
    unfold saveS
    cases ha : (atS y (s : Int)).2
    · exact ⟨rng.nil, by simp, fun _ => rfl⟩
    · obtain ⟨a1, a2, a3⟩ := at_facts hv hs ha
      refine ⟨fun z hz => ?_, by show (iz (valK _)).length ≤ 28; rw [iz_len, val_len]; omega, fun h => by cases h⟩
      obtain ⟨n, hn, rfl⟩ := List.mem_map.1 hz
      have := val_lt _ n hn
      omega
  · rw [List.pairwise_map]
    exact List.pairwise_lt_range.imp fun h => by rw [hk, hk]; omega
  · obtain ⟨s, h1, rfl⟩ := List.mem_map.1 hx
    have h2 := List.mem_range.1 h1
    rw [hk]
    omega
theorem same19 {l : List T_Known} (hl : l.length ≤ 1000) : m_ref19_Same l l = some true := by
  unfold m_ref19_Same
  rw [bne_self_eq_false, cond_false]
  refine bnd_loop (fun i => (i : Int)) l.length (.inr ()) rfl (fun i hi => ?_) ?_ rfl
  · have hi2 : (i : Int) < (l.length : Int) := by omega
    simp only [hi2, decide_true, cond_true, elt_lt hi, bnd_some, wrap_succ hi (by omega : l.length ≤ 140737488355328)]
    simp
  · rw [decide_eq_false (by omega : ¬ (l.length : Int) < (l.length : Int))]
    rfl
theorem same19_ex {a b : List T_Known} (hl : a.length ≤ 1000) : ∃ o, m_ref19_Same a b = some o := by
  unfold m_ref19_Same
  by_cases h : a.length = b.length
  · rw [cnd_f (by simp; omega)]
    obtain ⟨t, h1, _⟩ := loop_inv (m := (fun (s1 : Int) => bif decide (s1 < (a.length : Int)) then (bnd (elt a s1) fun x1 => bnd (elt b s1) fun x2 => bif !((x1.Slot == x2.Slot) && ((x1.Good == x2.Good) && ((x1.Serial.toList == x2.Serial.toList) && ((x1.Sum == x2.Sum) && true)))) then (some (.done (.inl false))) else (some (.next (IntKind.wrap .i64 (s1 + 1))))) else (some (.done (.inr ()) : Step Int (Bool ⊕ Unit))))) (fun s => 0 ≤ s ∧ s ≤ a.length) (fun s => ((a.length : Int) - s).toNat) (fun _ => True) (fun s hs => by
      by_cases hlt : s < (a.length : Int)
      · obtain ⟨i, rfl⟩ : ∃ i : Nat, s = (i : Int) := ⟨s.toNat, by omega⟩
        have hi : i < a.length := by omega
        have hi2 : i < b.length := by omega
        rw [cnd_t (by simp; omega), elt_lt hi, bnd_some, elt_lt hi2, bnd_some]
        cases hc : !((a[i].Slot == b[i].Slot) && ((a[i].Good == b[i].Good) && ((a[i].Serial.toList == b[i].Serial.toList) && ((a[i].Sum == b[i].Sum) && true))))
        · left
          rw [cond_false, wrap_succ hi (by omega)]
          exact ⟨_, rfl, by omega, by omega⟩
        · right
          exact ⟨_, rfl, trivial⟩
      · right
        rw [cnd_f (by simpa using hlt)]
        exact ⟨_, rfl, trivial⟩) 0 (by omega)
    rw [h1, bnd_some]
    cases t <;> exact ⟨_, rfl⟩
  · rw [cnd_t (by simp; omega)]
    exact ⟨_, rfl⟩
theorem okC_T {x : T_Setting} (h : OkC x) : OkT x := by
  refine ⟨h.key, x.Value.map Int.toNat, ?_, fun n hn => ?_, by have := h.len; simp; omega⟩
  · unfold iz
    rw [List.map_map]
    conv => lhs; rw [← List.map_id x.Value]
    apply List.map_congr_left
    intro z hz
    have := h.rng z hz
    simp only [id, Function.comp]
    omega
  · obtain ⟨z, hz, rfl⟩ := List.mem_map.1 hn
    have := h.rng z hz
    omega
theorem kept_read {d : T_Device} {t : T_Store} (h : Sto d t 0) {K : List T_Setting} (hK : OkK K) {y : List T_Known} (hv : validB y = true) (hs : SumR y) (hl : y.length ≤ 16) (he : (openF d 0).K = allK K (saveL y).1) {v : List Int} (h32 : look K 32 = some v) :
    ∃ L, m_settings_Store_All t d = some L ∧ m_inventory_Load L = some (y, 0) ∧ m_settings_Store_Get t 32 d = some (v, true) := by
  have hO := h.okK
  refine ⟨_, h.all d, ?_, ?_⟩
  · have := hO.len
    refine load_is (by omega) (fun x hx => okC_T (hO.ok x hx)) ?_ hv hs hl
    rw [he]
    exact filter_save hK hv hs
  · rw [get_eq h.rel hO, he, look_save hv (by omega), h32]
    rfl
theorem kept_law {l m : List Int} (hl : l.length ≤ 600) (hm : m.length ≤ 600) {other : List Int} (ho : rng other) (h28 : other.length ≤ 28) (n : Int) (hn : n ≤ 9223372036854775807) {torn : Int} (ht : 0 ≤ torn ∧ torn ≤ 255) {x y : List T_Known} (hx : validB x = true) (sx : SumR x) (lx : x.length ≤ 16) (hy : validB y = true) (sy : SumR y) (ly : y.length ≤ 16) {s : T_Store} (hS : Sto (newD 2 1024) s 0) :
    ∃ r1 r2 r3 r4 t, m_settings_Store_Put s 15 other (newD 2 1024) = some r1 ∧ r1.2.2 = 0 ∧ m_settings_Store_Put r1.1 32 other r1.2.1 = some r2 ∧ r2.2.2 = 0 ∧ m_settings_Store_Update r2.1 (saveL x).1 r2.2.1 = some r3 ∧ r3.2.2 = 0 ∧
      m_settings_Store_Update r3.1 (saveL y).1 (armF r3.2.1 n torn) = some r4 ∧ (r4.2.2 = 0 ∨ r4.2.2 = 10) ∧ m_settings_Open (restF (armF r4.2.1 0 0)) 0 = some (restF (armF r4.2.1 0 0), some t, 0) ∧
      ∃ L z, m_settings_Store_All t (restF (armF r4.2.1 0 0)) = some L ∧ m_inventory_Load L = some (z, 0) ∧ (z = y ∨ r4.2.2 = 10 ∧ z = x) ∧ m_settings_Store_Get t 32 (restF (armF r4.2.1 0 0)) = some (other, true) := by
  have hp : ∀ k : Int, 0 ≤ k ∧ k ≤ 255 → okP [⟨k, other, false⟩] := fun k hk => ⟨fun z hz => by
    rw [List.mem_singleton] at hz
    subst hz
    exact ⟨hk, ho, h28, fun h => by cases h⟩, List.pairwise_singleton _ _⟩
  have h0 : (openF (newD 2 1024) 0).K = [] := by rw [newD_open (by omega) (by omega)]; rfl
  have g0 : (openF (newD 2 1024) 0).gen = 0 := by rw [newD_open (by omega) (by omega)]; rfl
  obtain ⟨px, lsx, kx⟩ := save_okP hx sx
  obtain ⟨py, lsy, ky⟩ := save_okP hy sy
  -- keys
  have hlen : ∀ {K : List T_Setting}, Asc K → (∀ z ∈ K, 15 ≤ z.Key ∧ z.Key ≤ 32) → K.length ≤ 32 := fun ha hk => by
    have := asc_len ha hk (by omega)
    omega
  have b1 : ∀ z ∈ allK [] [(⟨15, other, false⟩ : T_Setting)], 15 ≤ z.Key ∧ z.Key ≤ 32 := fun z hz => by
    rcases allK_mem hz with h | h
    · cases h
    · rw [List.mem_singleton] at h; subst h; exact ⟨by show (15 : Int) ≤ 15; omega, by show (15 : Int) ≤ 32; omega⟩
  obtain ⟨r1, e1, z1, s1, k1, q1, _, w1⟩ := hS.sure rfl (hp 15 (by omega)) (by simp) (by rw [h0]; exact hlen (allK_asc List.Pairwise.nil) b1) (by omega)
  rw [h0] at k1
  have b2 : ∀ z ∈ allK (openF r1.2.1 0).K [(⟨32, other, false⟩ : T_Setting)], 15 ≤ z.Key ∧ z.Key ≤ 32 := fun z hz => by
    rcases allK_mem hz with h | h
    · rw [k1] at h; exact b1 z h
    · rw [List.mem_singleton] at h; subst h; exact ⟨by show (15 : Int) ≤ 32; omega, by show (32 : Int) ≤ 32; omega⟩
  obtain ⟨r2, e2, z2, s2, k2, q2, _, w2⟩ := s1.sure w1 (hp 32 (by omega)) (by simp) (hlen (allK_asc s1.okK.asc) b2) (by omega)
  have b3 : ∀ z ∈ allK (openF r2.2.1 0).K (saveL x).1, 15 ≤ z.Key ∧ z.Key ≤ 32 := fun z hz => by
    rcases allK_mem hz with h | h
    · rw [k2] at h; exact b2 z h
    · have := kx z h; omega
  obtain ⟨r3, e3, z3, s3, k3, q3, _, w3⟩ := s2.sure w2 px lsx (hlen (allK_asc s2.okK.asc) b3) (by omega)
  have b4 : ∀ z ∈ allK (openF r3.2.1 0).K (saveL y).1, 15 ≤ z.Key ∧ z.Key ≤ 32 := fun z hz => by
    rcases allK_mem hz with h | h
    · rw [k3] at h; exact b3 z h
    · have := ky z h; omega
  have s4 := s3.arm hn ht (n := n) (t := torn)
  have ka : (openF (armF r3.2.1 n torn) 0) = openF r3.2.1 0 := openF_arm _ _ _ _
  obtain ⟨r4, e4, t, hc⟩ := s4.cut py lsy (by rw [ka]; exact hlen (allK_asc s3.okK.asc) b4) (by rw [ka]; omega)
  have hlist := hc.list
  rw [ka, openF_rest] at hlist
  have l32 : look (openF r2.2.1 0).K 32 = some other := by
    rw [k2]
    show look (appK (openF r1.2.1 0).K ⟨32, other, false⟩) 32 = _
    rw [look_appK]
    rfl
  have l32' : look (openF r3.2.1 0).K 32 = some other := by rw [k3, look_save hx (by omega), l32]
  have hread : ∀ {D : T_Device} {t : T_Store}, Sto D t 0 → (openF D 0).K = (openF r4.2.1 0).K → ∃ L z, m_settings_Store_All t D = some L ∧ m_inventory_Load L = some (z, 0) ∧ (z = y ∨ r4.2.2 = 10 ∧ z = x) ∧ m_settings_Store_Get t 32 D = some (other, true) := by
    intro D t hD hk
    rcases hlist with h | ⟨h, h'⟩
    · obtain ⟨L, a1, a2, a3⟩ := kept_read hD s3.okK hy sy ly (by rw [hk, h]) l32'
      exact ⟨L, y, a1, a2, .inl rfl, a3⟩
    · obtain ⟨L, a1, a2, a3⟩ := kept_read hD s2.okK hx sx lx (by rw [hk, h', k3]) l32
      exact ⟨L, x, a1, a2, .inr ⟨h, rfl⟩, a3⟩
  rcases hc.err with ⟨c1, c2, c3⟩ | ⟨c1, c2, c3⟩
  · have hok : OkD (restF (armF r4.2.1 0 0)) := restF_ok (armF_ok c3.ok (by omega) (by omega))
    have harm : armF r4.2.1 0 0 = ⟨r4.2.1.size, r4.2.1.bytes, r4.2.1.wear, r4.2.1.steps, max 0 0, 0, r4.2.1.down⟩ := by unfold armF; rw [if_neg (by simp [c2])]
    obtain ⟨t', f1, f2⟩ := open_sto hok rfl (by rw [harm]; exact c3.size) (f := 0) (by rw [harm]; exact c3.first)
    obtain ⟨L, z, f3, f4, f5, f6⟩ := hread f2 (by rw [openF_rest, openF_arm])
    exact ⟨r1, r2, r3, r4, t', by rw [put_eq]; exact e1, z1, by rw [put_eq]; exact e2, z2, e3, z3, e4, .inl c1, f1, L, z, f3, f4, f5, f6⟩
  · have harm : armF r4.2.1 0 0 = r4.2.1 := by unfold armF; rw [if_pos c2]
    obtain ⟨L, z, f3, f4, f5, f6⟩ := hread hc.sto (by rw [openF_rest])
    rw [← harm] at f3 f6
    have ho := hc.open_
    refine ⟨r1, r2, r3, r4, t, by rw [put_eq]; exact e1, z1, by rw [put_eq]; exact e2, z2, e3, z3, e4, .inr c1, ?_, L, z, f3, f4, f5, f6⟩
    rw [harm]
    exact ho
theorem kept_true (l m other : List Int) (at_ torn : Int) (_ : okL (inK .i64) l) (_ : okL (inK .i64) m) (h3 : okL (inK .u8) other) (_ : inK .i64 at_) (h5 : inK .u8 torn) : m_law19_InventoryKept l m other at_ torn = some true := by
  have ht : 0 ≤ torn ∧ torn ≤ 255 := h5
  unfold m_law19_InventoryKept m_made_Light m_made_Roll
  have hin : ∃ b, (bnd (some (decide ((l.length : Int) ≤ 600))) fun r1 => bif !r1 then (some true) else (bnd (some (decide ((m.length : Int) ≤ 600))) fun r2 => bif !r2 then (some true) else (some (decide ((other.length : Int) > 28)))) : Option Bool) = some b ∧ (b = false → l.length ≤ 600 ∧ m.length ≤ 600 ∧ other.length ≤ 28) := by
    rw [bnd_some, bnd_some]
    by_cases a1 : l.length ≤ 600
    · rw [cnd_f (by simp; omega)]
      by_cases a2 : m.length ≤ 600
      · rw [cnd_f (by simp; omega)]
        refine ⟨_, rfl, fun h => ?_⟩
        rw [decide_eq_false_iff_not] at h
        omega
      · exact ⟨true, by rw [cnd_t (by simp; omega)], fun h => by cases h⟩
    · exact ⟨true, by rw [cnd_t (by simp; omega)], fun h => by cases h⟩
  obtain ⟨b, e0, hb⟩ := hin
  rw [e0, bnd_some]
  cases b
  case true => rw [cond_true, awake_true, bnd_some]
  obtain ⟨b1, b2, b3⟩ := hb rfl
  obtain ⟨dx, x, ex, _, lx, hx, sx⟩ := inventory_sum ⟨l, 0⟩ (roll_fair l b1)
  obtain ⟨dy, y, ey, _, ly, hy, sy⟩ := inventory_sum ⟨m, 0⟩ (roll_fair m b2)
  obtain ⟨q, eq, q0, q1⟩ : ∃ r, m_made_Mod at_ 400 = some r ∧ 0 ≤ r ∧ r < 400 := by
    obtain ⟨r, h1, h2, h3, _⟩ := mod_some at_ 400 (by omega) (by omega)
    exact ⟨r, h1, h2, h3⟩
  have hok := newD_ok (n := 2) (m := 1024) (by omega) (by omega)
  obtain ⟨s, o1, o2⟩ := open_sto (f := 0) hok rfl (by show (1024 : Int) ≤ 1024; omega) (by show 0 + 1 < (List.replicate 2 (0 : Int)).length; simp)
  obtain ⟨r1, r2, r3, r4, t, a1, a2, a3, a4, a5, a6, a7, a8, a9, L, z, c1, c2, c3, c4⟩ := kept_law b1 b2 (fun v hv => h3.1 v hv) b3 (1 + q) (by omega) ht hx sx lx hy sy ly o2
  have hN : m_flash_New 2 1024 = some (some (newD 2 1024), 0) := new_eq (n := 2) (m := 1024) (by omega) (by omega)
  have o1' : m_settings_Open (newD 2 1024) 0 = some (newD 2 1024, some s, 0) := o1
  generalize newD 2 1024 = D at hN o1' a1
  have vx : saveL x = ((saveL x).1, 0) := by unfold saveL; rw [hx]; rfl
  have vy : saveL y = ((saveL y).1, 0) := by unfold saveL; rw [hy]; rfl
  rw [cond_false, bnd_some, ex, bnd_some, bnd_some, ey, bnd_some, hN, bnd_some]
  show (bif ((0 : Int) != 0) then (some false) else _) = _
  rw [cnd_f (by rfl)]
  show bnd (m_settings_Open D 0) _ = _
  rw [o1', bnd_some]
  show (bif ((0 : Int) != 0) then (some false) else _) = _
  rw [cnd_f (by rfl), save_prog (short_of lx (by omega)) sx, bnd_some, save_prog (short_of ly (by omega)) sy, bnd_some]
  refine bnd_eq (a := (false, r3.2.1, r3.1)) ?_ ?_
  · rw [vx, vy]
    dsimp only
    rw [cnd_f (by rfl), cnd_f (by rfl), a1, bnd_some, cnd_f (by simp [a2]), a3, bnd_some, cnd_f (by simp [a4]), a5, bnd_some, a6]
    rfl
  dsimp only
  rw [cond_false, eq, bnd_some, wrap_i64 (by omega) (by omega), arm_eq, bnd_some, a7, bnd_some, arm_eq, bnd_some, rest_eq, bnd_some, a9, bnd_some]
  dsimp only [optM]
  have hB : (bif ((0 : Int) != 0) then (some true) else (bif (r4.2.2 != 0) then (some (r4.2.2 != 10)) else (some false)) : Option Bool) = some false := by
    rcases a8 with h | h <;> simp [h]
  rw [hB, bnd_some, cond_false, c1, bnd_some, c2, bnd_some, c4, bnd_some]
  dsimp only
  rw [cnd_t (by rfl)]
  have htail : ∀ K : Option Bool, (bif true then (bif ((strOf other).toList == (strOf other).toList) then K else (some false)) else (some false)) = K := fun K => by
    rw [cond_true, cnd_t (by simp)]
  rcases c3 with rfl | ⟨h10, rfl⟩
  · rw [same19 (by omega), bnd_some, cond_true, htail, awake_true]
    rfl
  · obtain ⟨o, ho⟩ := same19_ex (a := z) (b := y) (by omega)
    rw [ho, bnd_some]
    cases o
    · rw [cond_false, cnd_t (by simp [h10]), same19 (by omega), bnd_some, cond_true, htail, awake_true]
      rfl
    · rw [cond_true, htail, awake_true]
      rfl
end Go.Proofs.Ytelepclajhpnfaa
end
