/-
  The dice: what they give, and that they always give something.
  Conditions: none.
-/
import Derived.Test.YtnolaefjmjgfbaaInv2
namespace Go.Proofs.Ytnolaefjmjgfbaa
open Go
set_option linter.unusedSimpArgs false
set_option linter.unusedVariables false

/-- Dice as they are in use. -/
def Fair (d : T_Dice) : Prop := 0 ≤ d.At ∧ d.L.length ≤ 600

theorem mod_some (x n : Int) (hn : 0 < n) (hb : n ≤ 4611686018427387904) : ∃ r, m_made_Mod x n = some r ∧ 0 ≤ r ∧ r < n ∧ r = x % n := by
  unfold m_made_Mod remM
  have h0 : ¬ n = 0 := by omega
  rw [if_neg h0]
  simp only [bnd_some]
  have h1 := Int.lt_tmod_of_pos x hn
  have h2 := Int.tmod_lt_of_pos x hn
  have h3 : x.tmod n = x % n ∨ x.tmod n = x % n - n := by
    rw [Int.tmod_eq_emod]
    split
    · left; omega
    · right
      have : (n.natAbs : Int) = n := by omega
      omega
  have h4 := Int.emod_nonneg x h0
  have h5 := Int.emod_lt_of_pos x hn
  by_cases h : x.tmod n < 0
  · rw [show decide (x.tmod n < 0) = true from by simp [h], cond_true, wrap_i64 (by omega) (by omega)]
    exact ⟨_, rfl, by omega, by omega, by omega⟩
  · rw [show decide (x.tmod n < 0) = false from by simp [h], cond_false]
    exact ⟨_, rfl, by omega, by omega, by omega⟩

theorem next_some (d : T_Dice) (n : Int) (hd : Fair d) (hn : 0 < n) (hb : n ≤ 4611686018427387904) : ∃ d' r, m_made_Dice_Next d n = some (d', r) ∧ Fair d' ∧ 0 ≤ r ∧ r < n := by
  obtain ⟨h1, h2⟩ := hd
  unfold m_made_Dice_Next
  by_cases h : d.At ≥ (d.L.length : Int)
  · rw [show decide (d.At ≥ (d.L.length : Int)) = true from by simp [h], cond_true]
    exact ⟨_, _, rfl, ⟨h1, h2⟩, by omega, by omega⟩
  · rw [show decide (d.At ≥ (d.L.length : Int)) = false from by simp [h], cond_false, wrap_i64 (x := d.At + 1) (by omega) (by omega), wrap_i64 (by omega) (by omega)]
    obtain ⟨i, hi⟩ := Int.eq_ofNat_of_zero_le h1
    have e : d.At + 1 - 1 = (i : Int) := by omega
    have hi2 : i < d.L.length := by omega
    obtain ⟨r, hr, r1, r2, _⟩ := mod_some d.L[i] n hn hb
    rw [e, elt_lt hi2, bnd_some, hr, bnd_some]
    exact ⟨_, _, rfl, ⟨by simp only; omega, h2⟩, r1, r2⟩

theorem bool_some (d : T_Dice) (n : Int) (hd : Fair d) (hn : 0 < n) (hb : n ≤ 4611686018427387904) : ∃ d' r, m_made_Dice_Bool d n = some (d', r) ∧ Fair d' := by
  obtain ⟨d', r, h, hf, _⟩ := next_some d n hd hn hb
  unfold m_made_Dice_Bool
  rw [h]
  exact ⟨_, _, rfl, hf⟩

theorem roll_fair (l : List Int) (h : l.length ≤ 600) : Fair ⟨l, 0⟩ := ⟨by simp, h⟩

/-! ## Inventories out of dice -/

theorem valid_add {l : List T_Known} {k : T_Known} (hv : validB l = true) (hs : ∀ x ∈ l, x.Slot < k.Slot) (h0 : 0 ≤ k.Slot) (h1 : k.Slot < 16) (h2 : k.Serial.size ≤ 23) (h3 : k.Good = true ∨ k.Serial = emp) : validB (l ++ [k]) = true := by
  unfold validB at *
  simp only [Bool.not_eq_true', List.any_eq_false, List.mem_range] at *
  intro i hi
  rw [List.length_append, List.length_singleton] at hi
  by_cases hil : i < l.length
  · have e : badAt (l ++ [k]) i = badAt l i := by
      unfold badAt
      rw [List.getElem?_append_left hil, List.getElem?_append_left (show i - 1 < l.length by omega)]
    rw [e]
    exact hv i hil
  · obtain rfl : i = l.length := by omega
    unfold badAt
    rw [List.getElem?_append_right (Nat.le_refl _)]
    simp only [Nat.sub_self, List.getElem?_cons_zero, Bool.or_eq_true, Bool.and_eq_true, decide_eq_true_eq, not_or, not_and]
    refine ⟨by omega, by omega, ?_, by omega, ?_⟩
    · cases hl : l.length with
      | zero => simp
      | succ n =>
        have hn : n < l.length := by omega
        simp only [Nat.add_sub_cancel]
        rw [List.getElem?_append_left hn, List.getElem?_eq_getElem hn]
        simp only [Bool.and_eq_true, decide_eq_true_eq, not_and]
        intro _
        have := hs l[n] (List.getElem_mem hn)
        omega
    · rcases h3 with h3 | h3
      · simp [h3]
      · simp [h3]

/-- What the loop of 'Inventory' keeps. -/
def InvI (s : List T_Known × Int × List Int × Int) : Prop := Fair ⟨s.2.2.1, s.2.2.2⟩ ∧ 0 ≤ s.2.1 ∧ validB s.1 = true ∧ (∀ x ∈ s.1, x.Slot < s.2.1) ∧ (s.1.length : Int) ≤ s.2.1 ∧ ∀ x ∈ s.1, 0 ≤ x.Sum ∧ x.Sum ≤ 4294967295

noncomputable def invStep : List T_Known × Int × List Int × Int → Option (Step (List T_Known × Int × List Int × Int) (List T_Known × List Int × Int)) := fun (s1 : List T_Known × Int × List Int × Int) => bif decide (s1.2.1 < 16) then (bnd (m_made_Dice_Bool (⟨s1.2.2.1, s1.2.2.2⟩ : T_Dice) 5) fun r2 => bnd (m_made_Dice_Next r2.1 3) fun r3 => bif !r2.2 then (bnd (m_made_Dice_Next r3.1 6) fun r4 => bnd (elt ([⟨#[]⟩, ⟨#[65, 49]⟩, ⟨#[66, 50]⟩, ⟨#[67, 51]⟩, ⟨#[68, 52]⟩, ⟨#[69, 53]⟩]) r4.2) fun x1 => bnd (app 40 s1.1 ([(⟨s1.2.1, !r2.2, x1, IntKind.wrap .u32 r3.2⟩ : T_Known)])) fun l1 => bnd (m_made_Dice_Next r4.1 5) fun r5 => some (.next (l1, IntKind.wrap .i64 (s1.2.1 + (IntKind.wrap .i64 (1 + r5.2))), r5.1.L, r5.1.At))) else (bnd (app 40 s1.1 ([(⟨s1.2.1, !r2.2, ⟨#[]⟩, IntKind.wrap .u32 r3.2⟩ : T_Known)])) fun l2 => bnd (m_made_Dice_Next r3.1 5) fun r6 => some (.next (l2, IntKind.wrap .i64 (s1.2.1 + (IntKind.wrap .i64 (1 + r6.2))), r6.1.L, r6.1.At)))) else (some (.done (s1.1, s1.2.2.1, s1.2.2.2)))

theorem inv_step (s : List T_Known × Int × List Int × Int) (hI : InvI s) : (∃ s', invStep s = some (.next s') ∧ InvI s' ∧ (16 - s'.2.1).toNat < (16 - s.2.1).toNat) ∨ ∃ t, invStep s = some (.done t) ∧ (Fair ⟨t.2.1, t.2.2⟩ ∧ t.1.length ≤ 20 ∧ validB t.1 = true ∧ ∀ x ∈ t.1, 0 ≤ x.Sum ∧ x.Sum ≤ 4294967295) := by
  have hz : ([⟨#[]⟩, ⟨#[65, 49]⟩, ⟨#[66, 50]⟩, ⟨#[67, 51]⟩, ⟨#[68, 52]⟩, ⟨#[69, 53]⟩] : List ByteArray).length = 6 := rfl
  unfold invStep
  obtain ⟨out, s, L, at_⟩ := s
  obtain ⟨i1, i2, i3, i4, i5, i6⟩ := hI
  simp only at i1 i2 i3 i4 i5 i6 ⊢
  have hsum : ∀ (a : Int) (b c : Bool) (t : ByteArray) (k : Int), ∀ x ∈ out ++ [(⟨a, b, t, IntKind.wrap .u32 k⟩ : T_Known)], 0 ≤ x.Sum ∧ x.Sum ≤ 4294967295 := fun a b c t k x hx => by
    rcases List.mem_append.1 hx with hx | hx
    · exact i6 x hx
    · rw [List.mem_singleton] at hx
      subst hx
      show 0 ≤ IntKind.wrap .u32 k ∧ IntKind.wrap .u32 k ≤ 4294967295
      rw [wrap_u32_mod]
      omega
  by_cases hs : s < 16
  · left
    simp only [hs, decide_true, cond_true]
    obtain ⟨d2, b2, e2, f2⟩ := bool_some ⟨L, at_⟩ 5 i1 (by omega) (by omega)
    rw [e2, bnd_some]
    obtain ⟨d3, b3, e3, f3, _, _⟩ := next_some d2 3 f2 (by omega) (by omega)
    simp only [e3, bnd_some]
    have happ : ∀ k : T_Known, app 40 out [k] = some (out ++ [k]) := fun k => app_eq (by simp; omega) (by simp; omega)
    cases b2
    · simp only [Bool.not_false, cond_true]
      obtain ⟨d4, b4, e4, f4, g4, k4⟩ := next_some d3 6 f3 (by omega) (by omega)
      obtain ⟨j, hj⟩ := Int.eq_ofNat_of_zero_le g4
      have hj6 : j < 6 := by omega
      obtain ⟨d5, b5, e5, f5, g5, k5⟩ := next_some d4 5 f4 (by omega) (by omega)
      simp only [e4, bnd_some, hj, elt_lt (show j < ([⟨#[]⟩, ⟨#[65, 49]⟩, ⟨#[66, 50]⟩, ⟨#[67, 51]⟩, ⟨#[68, 52]⟩, ⟨#[69, 53]⟩] : List ByteArray).length by rw [hz]; exact hj6), happ, e5]
      rw [wrap_i64 (x := 1 + b5) (by omega) (by omega), wrap_i64 (by omega) (by omega)]
      refine ⟨_, rfl, ⟨f5, by simp only; omega, valid_add i3 i4 i2 hs ?_ (.inl rfl), ?_, ?_, hsum _ _ true _ _⟩, ?_⟩
      · have : ∀ j (h : j < 6), ([⟨#[]⟩, ⟨#[65, 49]⟩, ⟨#[66, 50]⟩, ⟨#[67, 51]⟩, ⟨#[68, 52]⟩, ⟨#[69, 53]⟩] : List ByteArray)[j].size ≤ 23 := by decide
        exact this j hj6
      · intro x hx
        simp only [List.mem_append, List.mem_singleton] at hx
        simp only
        rcases hx with hx | hx
        · have := i4 x hx; omega
        · subst hx; simp only; omega
      · simp only [List.length_append, List.length_singleton]; omega
      · simp only; omega
    · simp only [Bool.not_true, cond_false]
      obtain ⟨d5, b5, e5, f5, g5, k5⟩ := next_some d3 5 f3 (by omega) (by omega)
      simp only [happ, bnd_some, e5]
      rw [wrap_i64 (x := 1 + b5) (by omega) (by omega), wrap_i64 (by omega) (by omega)]
      refine ⟨_, rfl, ⟨f5, by simp only; omega, valid_add i3 i4 i2 hs (Nat.zero_le _) (.inr rfl), ?_, ?_, hsum _ _ true _ _⟩, ?_⟩
      · intro x hx
        simp only [List.mem_append, List.mem_singleton] at hx
        simp only
        rcases hx with hx | hx
        · have := i4 x hx; omega
        · subst hx; simp only; omega
      · simp only [List.length_append, List.length_singleton]; omega
      · simp only; omega
  · right
    simp only [hs, decide_false, cond_false]
    refine ⟨_, rfl, i1, ?_, i3, i6⟩
    simp only
    by_cases hn : out.length ≤ 20
    · exact hn
    · exfalso
      have h20 : 20 < out.length := by omega
      have : ∀ i (hi : i < out.length), (i : Int) ≤ out[i].Slot := by
        intro i
        induction i with
        | zero => intro hi; exact (valid_at i3 hi).1
        | succ i ih =>
          intro hi
          have g1 := ih (by omega)
          have g2 := valid_mono i3 i (i + 1) (by omega) hi (by omega)
          omega
      have g1 := this 20 h20
      have g2 := (valid_at i3 h20).2.1
      omega

theorem inventory_sum (d : T_Dice) (hd : Fair d) : ∃ d' l, m_made_Dice_Inventory d = some (d', l) ∧ Fair d' ∧ l.length ≤ 16 ∧ validB l = true ∧ ∀ x ∈ l, 0 ≤ x.Sum ∧ x.Sum ≤ 4294967295 := by
  unfold m_made_Dice_Inventory
  obtain ⟨d1, r1, h1, hf1, hr0, hr1⟩ := next_some d 3 hd (by omega) (by omega)
  rw [h1, bnd_some]
  obtain ⟨t, ht, hq⟩ := loop_inv (m := invStep) InvI (fun s => (16 - s.2.1).toNat) _ inv_step ([], r1, d1.L, d1.At) ⟨hf1, hr0, rfl, by simp, by simpa using hr0, by simp⟩
  unfold invStep at ht
  rw [ht, bnd_some]
  refine ⟨_, _, rfl, hq.1, ?_, hq.2.2⟩
  have hv := hq.2.2.1
  by_cases hl : t.1.length ≤ 16
  · exact hl
  · exfalso
    have h16 : 16 < t.1.length := by omega
    have : ∀ i (hi : i < t.1.length), (i : Int) ≤ t.1[i].Slot := by
      intro i
      induction i with
      | zero => intro hi; exact (valid_at hv hi).1
      | succ i ih =>
        intro hi
        have g1 := ih (by omega)
        have g2 := valid_mono hv i (i + 1) (by omega) hi (by omega)
        omega
    have g1 := this 16 h16
    have g2 := (valid_at hv h16).2.1
    omega

theorem inventory_some (d : T_Dice) (hd : Fair d) : ∃ d' l, m_made_Dice_Inventory d = some (d', l) ∧ Fair d' ∧ l.length ≤ 16 ∧ validB l = true := by
  obtain ⟨d', l, h1, h2, h3, h4, _⟩ := inventory_sum d hd
  exact ⟨d', l, h1, h2, h3, h4⟩

end Go.Proofs.Ytnolaefjmjgfbaa
