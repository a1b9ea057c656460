/-
  The law of exchanged units answers true.
  Conditions: none.
-/
import Derived.Test.YtnolaefjmjgfbaaInvLaw4
namespace Go.Proofs.Ytnolaefjmjgfbaa
open Go
set_option linter.unusedSimpArgs false
set_option linter.unusedVariables false

def abc : ByteArray := ⟨#[65, 66, 67, 68, 69, 70, 71, 72, 73, 74, 75, 76, 77, 78, 79, 80]⟩
def snd_ : ByteArray := ⟨#[83, 78, 45]⟩
/-- The serial number of a unit. -/
def ser (i : Nat) : ByteArray := snd_ ++ abc.extract i (i + 1)

theorem ser_facts : ∀ i, i < 16 → (abc.extract i (i + 1)).size = 1 ∧ (ser i).size = 4 ∧ ser i ≠ emp ∧ ∀ j, j < 16 → ser i = ser j → i = j := by decide +kernel

theorem sub_abc {i : Nat} (h : i < 16) : subS abc (i : Int) ((i + 1 : Nat) : Int) = some (abc.extract i (i + 1)) := by
  unfold subS
  have hs : abc.size = 16 := rfl
  rw [if_pos ⟨by omega, by omega, by rw [hs]; omega⟩]
  simp
theorem cat_abc {i : Nat} (h : i < 16) : catS snd_ (abc.extract i (i + 1)) = some (ser i) := by
  unfold catS
  have hs : snd_.size = 3 := rfl
  have := (ser_facts i h).1
  rw [if_pos (by rw [hs, this]; omega)]
  rfl

/-- Numbers below m, all apart. -/
def PermI (m : Nat) (l : List Int) : Prop := l.length = m ∧ (∀ i (h : i < l.length), 0 ≤ l[i] ∧ l[i] < (m : Int)) ∧ ∀ i j (hi : i < l.length) (hj : j < l.length), l[i] = l[j] → i = j

theorem setE_nat {α : Type} {l : List α} {i : Nat} (h : i < l.length) (v : α) : setE l (i : Int) v = some (l.set i v) := by
  unfold setE
  rw [if_pos ⟨by omega, by omega⟩]
  simp

theorem swap_perm {m : Nat} {l : List Int} (h : PermI m l) {p q : Nat} (hp : p < l.length) (hq : q < l.length) : PermI m ((l.set p l[q]).set q l[p]) := by
  obtain ⟨h1, h2, h3⟩ := h
  have hlen : ((l.set p l[q]).set q l[p]).length = l.length := by simp
  have hget : ∀ i (hi : i < ((l.set p l[q]).set q l[p]).length), ∃ k, ∃ hk : k < l.length, ((l.set p l[q]).set q l[p])[i] = l[k] ∧ (k = if i = q then p else if i = p then q else i) := fun i hi => by
    rw [hlen] at hi
    by_cases hiq : i = q
    · subst hiq
      exact ⟨p, hp, by simp, by simp⟩
    · by_cases hip : i = p
      · subst hip
        refine ⟨q, hq, ?_, by simp [hiq]⟩
        rw [List.getElem_set_ne (fun e => hiq e.symm)]
        simp
      · refine ⟨i, hi, ?_, by simp [hiq, hip]⟩
        rw [List.getElem_set_ne (fun e => hiq e.symm), List.getElem_set_ne (fun e => hip e.symm)]
  refine ⟨hlen.trans h1, fun i hi => ?_, fun i j hi hj he => ?_⟩
  · obtain ⟨k, hk, e, _⟩ := hget i hi
    rw [e]
    exact h2 k hk
  · obtain ⟨k, hk, e1, e2⟩ := hget i hi
    obtain ⟨k', hk', e3, e4⟩ := hget j hj
    rw [e1, e3] at he
    have := h3 k k' hk hk' he
    subst this
    rw [e2] at e4
    revert e4
    repeat' split
    all_goals omega

/-! ## The loops of the law -/

theorem fill_loop (m : Nat) (hm : m ≤ 16) : ∃ l, loopM (fun (s1 : Int × List Int) => bif decide (s1.1 < (m : Int)) then (bnd (elt s1.2 s1.1) fun x1 => bnd (setE s1.2 s1.1 s1.1) fun l2 => some (.next (IntKind.wrap .i64 (s1.1 + 1), l2))) else (some (.done s1.2))) (0, List.replicate m 0) = some l ∧ PermI m l := by
  refine loop_inv (fun s : Int × List Int => 0 ≤ s.1 ∧ s.1 ≤ m ∧ s.2.length = m ∧ ∀ j (h : j < s.2.length), (j : Int) < s.1 → s.2[j] = j) (fun s => ((m : Int) - s.1).toNat) (PermI m) ?_ (0, List.replicate m 0) ⟨by simp, by simp, by simp, fun j h h2 => by simp at h2; omega⟩
  rintro ⟨i, l⟩ ⟨h0, h1, h2, h3⟩
  simp only at h0 h1 h2 h3 ⊢
  obtain ⟨k, rfl⟩ := Int.eq_ofNat_of_zero_le h0
  by_cases hk : (k : Int) < (m : Int)
  · left
    have hkl : k < l.length := by omega
    simp only [hk, decide_true, cond_true, elt_lt hkl, bnd_some, setE_nat hkl, wrap_succ hkl (by omega : l.length ≤ 140737488355328)]
    refine ⟨_, rfl, ⟨by simp only; omega, by simp only; omega, by simp [h2], fun j hj hji => ?_⟩, by simp only; omega⟩
    simp only at hj hji ⊢
    rw [List.length_set] at hj
    by_cases hjk : j = k
    · subst hjk; simp
    · rw [List.getElem_set_ne (fun e => hjk e.symm)]
      exact h3 j hj (by omega)
  · right
    simp only [hk, decide_false, cond_false]
    refine ⟨_, rfl, h2, fun i hi => ?_, fun i j hi hj he => ?_⟩
    · rw [h3 i hi (by omega)]; omega
    · rw [h3 i hi (by omega), h3 j hj (by omega)] at he; omega

theorem swap_loop (order : List Int) (ho : order.length ≤ 40) (m : Nat) (hm0 : 1 ≤ m) (hm : m ≤ 16) (l : List Int) (hl : PermI m l) : ∃ l', loopM (fun (s2 : Int × List Int) => bif decide ((IntKind.wrap .i64 (s2.1 + 1)) < (order.length : Int)) then (bnd (elt order s2.1) fun x2 => bnd (m_made_Mod x2 (m : Int)) fun r3 => bnd (elt order (IntKind.wrap .i64 (s2.1 + 1))) fun x3 => bnd (m_made_Mod x3 (m : Int)) fun r4 => bnd (elt s2.2 r4) fun x4 => bnd (elt s2.2 r3) fun x5 => bnd (elt s2.2 r3) fun x6 => bnd (setE s2.2 r3 x4) fun l3 => bnd (elt l3 r4) fun x7 => bnd (setE l3 r4 x5) fun l4 => some (.next (IntKind.wrap .i64 (s2.1 + 2), l4))) else (some (.done s2.2))) (0, l) = some l' ∧ PermI m l' := by
  refine loop_inv (fun s : Int × List Int => 0 ≤ s.1 ∧ s.1 ≤ 42 ∧ PermI m s.2) (fun s => (42 - s.1).toNat) (PermI m) ?_ (0, l) ⟨by simp, by simp, hl⟩
  rintro ⟨i, l⟩ ⟨h0, h1, h2⟩
  simp only at h0 h1 h2 ⊢
  obtain ⟨k, rfl⟩ := Int.eq_ofNat_of_zero_le h0
  have e1 : IntKind.wrap .i64 ((k : Int) + 1) = ((k + 1 : Nat) : Int) := by rw [wrap_i64 (by omega) (by omega)]; omega
  have e2 : IntKind.wrap .i64 ((k : Int) + 2) = ((k + 2 : Nat) : Int) := by rw [wrap_i64 (by omega) (by omega)]; omega
  rw [e1, e2]
  by_cases hk : ((k + 1 : Nat) : Int) < (order.length : Int)
  · left
    have hk1 : k < order.length := by omega
    have hk2 : k + 1 < order.length := by omega
    obtain ⟨p, ep, p0, p1, _⟩ := mod_some order[k] (m : Int) (by omega) (by omega)
    obtain ⟨q, eq_, q0, q1, _⟩ := mod_some order[k + 1] (m : Int) (by omega) (by omega)
    obtain ⟨p, rfl⟩ := Int.eq_ofNat_of_zero_le p0
    obtain ⟨q, rfl⟩ := Int.eq_ofNat_of_zero_le q0
    have hlm := h2.1
    have hp : p < l.length := by omega
    have hq : q < l.length := by omega
    have hq2 : q < (l.set p l[q]).length := by simpa using hq
    simp only [hk, decide_true, cond_true, elt_lt hk1, elt_lt hk2, bnd_some, ep, eq_, elt_lt hp, elt_lt hq, setE_nat hp, elt_lt hq2, setE_nat hq2]
    exact ⟨_, rfl, ⟨by simp only; omega, by simp only; omega, swap_perm h2 hp hq⟩, by simp only; omega⟩
  · right
    simp only [hk, decide_false, cond_false]
    exact ⟨_, rfl, h2⟩

def unitAt (i : Nat) (s : ByteArray) : T_Known := ⟨i, true, s, 0⟩
def xsL (i : Nat) : List T_Known := (List.range i).map fun j => unitAt j (ser j)
def ysL (l : List Int) (i : Nat) : List T_Known := (List.range i).map fun j => unitAt j (ser (l.getD j 0).toNat)
def wsL (l : List Int) (i : Nat) : List T_Difference := (List.range i).flatMap fun j => bif (l.getD j 0 != (j : Int)) then [⟨4, j, l.getD j 0⟩] else []

theorem wsL_len (l : List Int) : ∀ i, (wsL l i).length ≤ i
  | 0 => by simp [wsL]
  | i + 1 => by
    have := wsL_len l i
    unfold wsL at this ⊢
    rw [List.range_succ, List.flatMap_append, List.length_append]
    simp only [List.flatMap_cons, List.flatMap_nil, List.append_nil]
    have hb : ∀ (c : Bool) (x : T_Difference), (bif c then [x] else []).length ≤ 1 := fun c x => by cases c <;> simp
    have := hb (l.getD i 0 != (i : Int)) ⟨4, i, l.getD i 0⟩
    omega

theorem build_loop (m : Nat) (hm : m ≤ 16) (l : List Int) (hl : PermI m l) : loopM (fun (s3 : List T_Known × List T_Known × List T_Difference × Int) => bif decide (s3.2.2.2 < (m : Int)) then (bnd (subS abc s3.2.2.2 (IntKind.wrap .i64 (s3.2.2.2 + 1))) fun t1 => bnd (catS snd_ t1) fun t2 => bnd (m_law19_known s3.2.2.2 t2) fun r5 => bnd (app 40 s3.1 ([r5])) fun l5 => bnd (elt l s3.2.2.2) fun x8 => bnd (subS abc x8 (IntKind.wrap .i64 (x8 + 1))) fun t3 => bnd (catS snd_ t3) fun t4 => bnd (m_law19_known s3.2.2.2 t4) fun r6 => bnd (app 40 s3.2.1 ([r6])) fun l6 => bif (x8 != s3.2.2.2) then (bnd (app 24 s3.2.2.1 ([(⟨4, s3.2.2.2, x8⟩ : T_Difference)])) fun l7 => some (Step.next (l5, l6, l7, IntKind.wrap .i64 (s3.2.2.2 + 1)))) else (some (Step.next (l5, l6, s3.2.2.1, IntKind.wrap .i64 (s3.2.2.2 + 1))))) else (some (Step.done (s3.1, s3.2.1, s3.2.2.1)))) ([], [], [], 0) = some (xsL m, ysL l m, wsL l m) := by
  rw [show (([] : List T_Known), ([] : List T_Known), ([] : List T_Difference), (0 : Int)) = (fun i : Nat => (xsL i, ysL l i, wsL l i, (i : Int))) 0 from rfl, loop_run (fun i : Nat => (xsL i, ysL l i, wsL l i, (i : Int))) m (t := (xsL m, ysL l m, wsL l m)) (fun i hi => ?_) (by simp)]
  have hlm := hl.1
  have hil : i < l.length := by omega
  have hi2 : (i : Int) < (m : Int) := by omega
  have hx := hl.2.1 i hil
  obtain ⟨k, hk⟩ := Int.eq_ofNat_of_zero_le hx.1
  have hk16 : k < 16 := by omega
  have hi16 : i < 16 := by omega
  have hgd : l.getD i 0 = (k : Int) := by simp [hil, hk]
  have hw := wsL_len l i
  simp only [hi2, decide_true, cond_true, wrap_succ hi (by omega : m ≤ 140737488355328), sub_abc hi16, cat_abc hi16, bnd_some, m_law19_known, elt_lt hil, hk, wrap_succ hk16 (by omega : 16 ≤ 140737488355328), sub_abc hk16, cat_abc hk16]
  rw [app_eq (show ((xsL i).length + _) * 40 ≤ _ by simp [xsL]; omega) (by simp [xsL]; omega), bnd_some, app_eq (show ((ysL l i).length + _) * 40 ≤ _ by simp [ysL]; omega) (by simp [ysL]; omega), bnd_some]
  have ex : xsL (i + 1) = xsL i ++ [⟨i, true, ser i, 0⟩] := by unfold xsL; rw [List.range_succ, List.map_append]; rfl
  have ey : ysL l (i + 1) = ysL l i ++ [⟨i, true, ser k, 0⟩] := by
    unfold ysL
    rw [List.range_succ, List.map_append]
    simp only [List.map_cons, List.map_nil, hgd]
    rfl
  have ew : wsL l (i + 1) = wsL l i ++ bif ((k : Int) != (i : Int)) then [⟨4, i, k⟩] else [] := by
    unfold wsL
    rw [List.range_succ, List.flatMap_append]
    simp only [List.flatMap_cons, List.flatMap_nil, List.append_nil, hgd]
  rw [ex, ey, ew]
  cases h : ((k : Int) != (i : Int))
  · simp
  · simp only [cond_true]
    rw [app_eq (by simp; omega) (by simp; omega)]
    rfl

theorem cnt_range (f : Nat → T_Known) (s : ByteArray) : ∀ n, cnt ((List.range n).map f) s = sm n fun j => if (f j).Serial = s then 1 else 0
  | 0 => rfl
  | n + 1 => by
    rw [List.range_succ, List.map_append, sm, ← cnt_range f s n]
    unfold cnt
    rw [List.countP_append]
    simp [List.countP_cons]

theorem units_valid (g : Nat → ByteArray) (hg : ∀ i, (g i).size ≤ 23) : ∀ m, m ≤ 16 → validB ((List.range m).map fun j => unitAt j (g j)) = true
  | 0, _ => rfl
  | m + 1, h => by
    rw [List.range_succ, List.map_append]
    refine valid_add (units_valid g hg m (by omega)) (fun x hx => ?_) (by simp [unitAt]) (by simp [unitAt]; omega) (hg m) (.inl rfl)
    simp only [List.mem_map, List.mem_range] at hx
    obtain ⟨j, hj, rfl⟩ := hx
    simp only [unitAt]
    omega

theorem units_at (g : Nat → ByteArray) (hg : ∀ i, (g i).size ≤ 23) (m : Nat) (hm : m ≤ 16) (s : Nat) : atS ((List.range m).map fun j => unitAt j (g j)) (s : Int) = if s < m then (unitAt s (g s), true) else (zeroK, false) := by
  by_cases h : s < m
  · rw [if_pos h]
    exact atS_of (units_valid g hg m hm) (k := unitAt s (g s)) (List.mem_map.2 ⟨s, List.mem_range.2 h, rfl⟩)
  · rw [if_neg h]
    unfold atS
    rw [List.find?_eq_none.2 fun x hx => by
      simp only [List.mem_map, List.mem_range] at hx
      obtain ⟨j, hj, rfl⟩ := hx
      simp only [unitAt, beq_iff_eq]
      omega]

theorem sm_le {f g : Nat → Nat} : ∀ {n : Nat}, (∀ i, i < n → f i ≤ g i) → sm n f ≤ sm n g
  | 0, _ => Nat.le_refl _
  | n + 1, h => Nat.add_le_add (sm_le (n := n) fun i hi => h i (Nat.lt_succ_of_lt hi)) (h n (Nat.lt_succ_self n))
theorem sm_eq {f g : Nat → Nat} : ∀ {n : Nat}, (∀ i, i < n → f i ≤ g i) → sm n f = sm n g → ∀ i, i < n → f i = g i
  | 0, _, _, i, hi => by omega
  | n + 1, h, he, i, hi => by
    have h1 := sm_le (n := n) fun i hi => h i (Nat.lt_succ_of_lt hi)
    have h2 := h n (Nat.lt_succ_self n)
    have he' : sm n f + f n = sm n g + g n := he
    by_cases hin : i = n
    · subst hin; omega
    · have h3 : sm n f = sm n g := by omega
      exact sm_eq (n := n) (fun i hi => h i (Nat.lt_succ_of_lt hi)) h3 i (by omega)

theorem units_idd (g : Nat → ByteArray) (m : Nat) (he : ∀ i, i < m → g i ≠ emp) (hi : ∀ i j, i < m → j < m → g i = g j → i = j) {i : Nat} (h : i < m) : idd ((List.range m).map fun j => unitAt j (g j)) (g i) = true ∧ slotOf ((List.range m).map fun j => unitAt j (g j)) (g i) = some (i : Int) := by
  have h1 : idd ((List.range m).map fun j => unitAt j (g j)) (g i) = true := by
    unfold idd
    have hc : cnt ((List.range m).map fun j => unitAt j (g j)) (g i) = 1 := by
      rw [cnt_range, sm_congr (g := fun j => if j = i then 1 else 0) fun j hj => ?_, sm_one, if_pos h]
      by_cases hji : j = i
      · subst hji; simp [unitAt]
      · have : ¬ (unitAt j (g j)).Serial = g i := fun e => hji (hi j i hj h e)
        rw [if_neg this, if_neg hji]
    simp [he i h, hc]
  refine ⟨h1, ?_⟩
  obtain ⟨k, k1, k2, k3, k4⟩ := idd_find h1
  have := k4 (unitAt i (g i)) (List.mem_map.2 ⟨i, List.mem_range.2 h, rfl⟩) rfl
  rw [k3, ← this]
  rfl

theorem flatMap_cut {α : Type} (f g : Nat → List α) (m : Nat) (h1 : ∀ i, i < m → f i = g i) (h2 : ∀ i, m ≤ i → f i = []) : ∀ n, m ≤ n → (List.range n).flatMap f = (List.range m).flatMap g
  | 0, h => by
    obtain rfl : m = 0 := by omega
    rfl
  | n + 1, h => by
    rw [List.range_succ, List.flatMap_append]
    by_cases hm : m = n + 1
    · subst hm
      rw [List.range_succ, List.flatMap_append]
      have e : (List.range n).flatMap f = (List.range n).flatMap g := by
        rw [List.flatMap_def, List.flatMap_def]
        congr 1
        exact List.map_congr_left fun i hi => h1 i (by have := List.mem_range.1 hi; omega)
      rw [e]
      simp [h1 n (by omega)]
    · rw [flatMap_cut f g m h1 h2 n (by omega)]
      simp [h2 n (by omega)]

theorem swaps_diffs (m : Nat) (hm : m ≤ 16) (l : List Int) (hl : PermI m l) : validB (xsL m) = true ∧ validB (ysL l m) = true ∧ diffs (xsL m) (ysL l m) 16 = wsL l m := by
  obtain ⟨h1, h2, h3⟩ := hl
  have ht : ∀ i, i < m → ∃ k : Nat, l.getD i 0 = (k : Int) ∧ k < m := fun i hi => by
    have hil : i < l.length := by omega
    have := h2 i hil
    obtain ⟨k, hk⟩ := Int.eq_ofNat_of_zero_le this.1
    exact ⟨k, by simp [hil, hk], by omega⟩
  have hser : ∀ i, i < 16 → (ser i).size ≤ 23 ∧ ser i ≠ emp := fun i hi => ⟨by rw [(ser_facts i hi).2.1]; omega, (ser_facts i hi).2.2.1⟩
  have hsz : ∀ i, (ser i).size ≤ 23 := fun i => by
    unfold ser
    have : (snd_ ++ abc.extract i (i + 1)).size = 3 + (abc.extract i (i + 1)).size := by rw [ByteArray.size_append]; rfl
    rw [this, ByteArray.size_extract]
    omega
  have gx : ∀ i j, i < m → j < m → ser i = ser j → i = j := fun i j hi hj e => (ser_facts i (by omega)).2.2.2 j (by omega) e
  have gy : ∀ i j, i < m → j < m → ser (l.getD i 0).toNat = ser (l.getD j 0).toNat → i = j := fun i j hi hj e => by
    obtain ⟨p, hp, hpm⟩ := ht i hi
    obtain ⟨q, hq, hqm⟩ := ht j hj
    have : p = q := gx p q hpm hqm (by simpa only [hp, hq, Int.toNat_natCast] using e)
    have hil : i < l.length := by omega
    have hjl : j < l.length := by omega
    refine h3 i j hil hjl ?_
    have e1 : l.getD i 0 = l[i] := by simp [hil]
    have e2 : l.getD j 0 = l[j] := by simp [hjl]
    rw [← e1, ← e2, hp, hq, this]
  have va : validB (xsL m) = true := units_valid ser hsz m hm
  have vb : validB (ysL l m) = true := units_valid (fun j => ser (l.getD j 0).toNat) (fun i => hsz _) m hm
  have hfr : ∀ i : Nat, i < m → fr (xsL m) (ysL l m) (i : Int) = l.getD i 0 := fun i hi => by
    obtain ⟨k, hk, hkm⟩ := ht i hi
    have ea : atS (ysL l m) (i : Int) = (unitAt i (ser (l.getD i 0).toNat), true) := by
      have := units_at (fun j => ser (l.getD j 0).toNat) (fun i => hsz _) m hm i
      rw [if_pos hi] at this
      exact this
    have ib := units_idd (fun j => ser (l.getD j 0).toNat) m (fun i hi => by
      obtain ⟨k, hk, hkm⟩ := ht i hi
      simp only [hk]
      exact (hser k (by omega)).2) gy hi
    have ia := units_idd ser m (fun i hi => (hser i (by omega)).2) gx hkm
    have e : ser (l.getD i 0).toNat = ser k := by rw [hk]; rfl
    have ho : orig (xsL m) (ysL l m) (ser (l.getD i 0).toNat) = l.getD i 0 := by
      unfold orig
      rw [if_pos ⟨ib.1, by rw [e]; exact ia.1⟩, e, show slotOf (xsL m) (ser k) = some (k : Int) from ia.2, hk]
      rfl
    unfold fr
    rw [ea]
    exact ho
  have hno : ∀ i : Nat, m ≤ i → fr (xsL m) (ysL l m) (i : Int) = -1 ∧ (atS (xsL m) (i : Int)).2 = false := fun i hi => by
    have e1 := units_at (fun j => ser (l.getD j 0).toNat) (fun i => hsz _) m hm i
    have e2 := units_at ser hsz m hm i
    rw [if_neg (by omega)] at e1 e2
    constructor
    · unfold fr
      rw [show atS (ysL l m) (i : Int) = _ from e1]
      rfl
    · rw [show atS (xsL m) (i : Int) = _ from e2]
  have hba : ∀ i : Nat, i < m → fr (ysL l m) (xsL m) (i : Int) ≠ -1 := fun i hi => by
    have hs := paired_sum va vb
    have hle : ∀ i : Nat, i < 16 → b2n (fr (ysL l m) (xsL m) (i : Int) != -1) ≤ b2n (fr (xsL m) (ysL l m) (i : Int) != -1) := fun i _ => by
      by_cases him : i < m
      · obtain ⟨k, hk, _⟩ := ht i him
        rw [hfr i him, hk]
        have : ((k : Int) != -1) = true := by rw [Bool.eq_iff_iff]; simp
        rw [this]
        cases (fr (ysL l m) (xsL m) (i : Int) != -1) <;> simp [b2n]
      · have := fr_un (a := ysL l m) (b := xsL m) vb (i : Int)
        rw [this, (hno i (by omega)).2]
        simp [b2n]
    have := sm_eq hle hs.symm i (by omega)
    obtain ⟨k, hk, _⟩ := ht i hi
    rw [hfr i hi, hk] at this
    have e : ((k : Int) != -1) = true := by rw [Bool.eq_iff_iff]; simp
    rw [e] at this
    intro hc
    rw [hc] at this
    simp [b2n] at this
  refine ⟨va, vb, ?_⟩
  unfold diffs wsL
  refine flatMap_cut _ _ m (fun i hi => ?_) (fun i hi => ?_) 16 hm
  · obtain ⟨k, hk, hkm⟩ := ht i hi
    have u1 : un (xsL m) (ysL l m) (i : Int) = false := by
      have h := fr_un (a := ysL l m) (b := xsL m) vb (i : Int)
      have h' : (fr (ysL l m) (xsL m) (i : Int) != -1) = true := by simpa using hba i hi
      rw [h'] at h
      cases hu : un (xsL m) (ysL l m) (i : Int)
      · rfl
      · rw [hu] at h; simp at h
    have hne : (fr (xsL m) (ysL l m) (i : Int) != -1) = true := by rw [hfr i hi, hk, Bool.eq_iff_iff]; simp
    have u2 : un (ysL l m) (xsL m) (i : Int) = false := by
      have h := fr_un (a := xsL m) (b := ysL l m) va (i : Int)
      rw [hne] at h
      cases hu : un (ysL l m) (xsL m) (i : Int)
      · rfl
      · rw [hu] at h; simp at h
    have sx : (atS (xsL m) (i : Int)).1.Sum = 0 := by
      have e2 := units_at ser hsz m hm i
      rw [if_pos hi] at e2
      rw [show atS (xsL m) (i : Int) = _ from e2]; rfl
    have sy : (atS (ysL l m) (i : Int)).1.Sum = 0 := by
      have e1 := units_at (fun j => ser (l.getD j 0).toNat) (fun i => hsz _) m hm i
      rw [if_pos hi] at e1
      rw [show atS (ysL l m) (i : Int) = _ from e1]; rfl
    rw [diffAt_eq va (by omega), u1, u2, hne, sx, sy, hfr i hi]
    cases (l.getD i 0 != (i : Int)) <;> simp
  · have h := hno i hi
    have u1 : un (xsL m) (ysL l m) (i : Int) = false := by unfold un; rw [h.2]; rfl
    have u2 : un (ysL l m) (xsL m) (i : Int) = false := by
      have e1 := units_at (fun j => ser (l.getD j 0).toNat) (fun i => hsz _) m hm i
      rw [if_neg (by omega)] at e1
      unfold un
      rw [show atS (ysL l m) (i : Int) = _ from e1]
      rfl
    rw [diffAt_eq va (by omega), u1, u2, h.1]
    have e : ((-1 : Int) == (i : Int)) = false := by rw [Bool.eq_iff_iff]; simp
    simp [e]

theorem swaps_true (n : Int) (order : List Int) : m_law19_InventorySwaps n order = some true := by
  unfold m_law19_InventorySwaps
  by_cases ho : order.length ≤ 40
  · have ho2 : ¬ ((order.length : Int) > 40) := by omega
    obtain ⟨r, er, r0, r1, _⟩ := mod_some n 16 (by omega) (by omega)
    obtain ⟨k, rfl⟩ := Int.eq_ofNat_of_zero_le r0
    have hw : IntKind.wrap .i64 (1 + (k : Int)) = ((k + 1 : Nat) : Int) := by rw [wrap_i64 (by omega) (by omega)]; omega
    have hmk : mkS 8 (0 : Int) ((k + 1 : Nat) : Int) ((k + 1 : Nat) : Int) = some (List.replicate (k + 1) 0) := by
      unfold mkS
      rw [if_pos ⟨by omega, by omega, by omega, by omega⟩]
      rfl
    obtain ⟨l1, e1, p1⟩ := fill_loop (k + 1) (by omega)
    obtain ⟨l2, e2, p2⟩ := swap_loop order ho (k + 1) (by omega) (by omega) l1 p1
    have e3 := build_loop (k + 1) (by omega) l2 p2
    obtain ⟨va, vb, hd⟩ := swaps_diffs (k + 1) (by omega) l2 p2
    unfold abc snd_ at e3
    simp only [ho2, decide_false, cond_false, er, bnd_some, hw, hmk, e1, e2, e3]
    have sw := wsL_len l2 (k + 1)
    rw [prog_Compare _ _ (by simp [Short, xsL]; omega) (by simp [Short, ysL]; omega), va, vb, hd]
    simp only [and_self, if_true, bnd_some, beq_self_eq_true, cond_true, same_refl _ (short_of sw (by omega)), awake_true]
  · have ho2 : ((order.length : Int) > 40) := by omega
    simp [ho2, awake_true]

end Go.Proofs.Ytnolaefjmjgfbaa
