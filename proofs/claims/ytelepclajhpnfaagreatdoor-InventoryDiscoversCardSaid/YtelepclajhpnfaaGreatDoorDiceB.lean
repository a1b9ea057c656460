/-
  The dice: what they give, and that they always give something.
  Conditions: none.
-/
import Derived.Test.YtelepclajhpnfaaGreatDoorGenInventoryDiscovers
import Derived.Test.YtelepclajhpnfaaGreatDoorPureC
namespace Go.Proofs.YtelepclajhpnfaaGreatDoor
open Go
set_option linter.unusedSimpArgs false
set_option linter.unusedVariables false
def Fair (d : T_Dice) : Prop := 0 ≤ d.At ∧ d.L.length ≤ 600
theorem mod_some (x n : Int) (hn : 0 < n) (hb : n ≤ 4611686018427387904) : ∃ r, m_made_Mod x n = some r ∧ 0 ≤ r ∧ r < n ∧ r = x % n := by
  unfold m_made_Mod remM
  have h0 : ¬ n = 0 := by omega
  rw [if_neg h0]
  simp only [bnd_some]
  have h1 := Int.lt_tmod_of_pos x hn
  have h2 := Int.tmod_lt_of_pos x hn
  have h3 : x.tmod n = x % n ∨ x.tmod n = x % n - n := by
    rw [Int.tmod_eq_emod]
    split
    · left; omega
    · right
      have : (n.natAbs : Int) = n := by omega
      omega
  have h4 := Int.emod_nonneg x h0
  have h5 := Int.emod_lt_of_pos x hn
  by_cases h : x.tmod n < 0
  · rw [show decide (x.tmod n < 0) = true from by simp [h], cond_true, wrap_i64 (by omega) (by omega)]
    exact ⟨_, rfl, by omega, by omega, by omega⟩
  · rw [show decide (x.tmod n < 0) = false from by simp [h], cond_false]
    exact ⟨_, rfl, by omega, by omega, by omega⟩
theorem next_some (d : T_Dice) (n : Int) (hd : Fair d) (hn : 0 < n) (hb : n ≤ 4611686018427387904) : ∃ d' r, m_made_Dice_Next d n = some (d', r) ∧ Fair d' ∧ 0 ≤ r ∧ r < n := by
  obtain ⟨h1, h2⟩ := hd
  unfold m_made_Dice_Next
  by_cases h : d.At ≥ (d.L.length : Int)
  · rw [show decide (d.At ≥ (d.L.length : Int)) = true from by simp [h], cond_true]
    exact ⟨_, _, rfl, ⟨h1, h2⟩, by omega, by omega⟩
  · rw [show decide (d.At ≥ (d.L.length : Int)) = false from by simp [h], cond_false, wrap_i64 (x := d.At + 1) (by omega) (by omega), wrap_i64 (by omega) (by omega)]
    obtain ⟨i, hi⟩ := Int.eq_ofNat_of_zero_le h1
    have e : d.At + 1 - 1 = (i : Int) := by omega
    have hi2 : i < d.L.length := by omega
    obtain ⟨r, hr, r1, r2, _⟩ := mod_some d.L[i] n hn hb
    rw [e, elt_lt hi2, bnd_some, hr, bnd_some]
    exact ⟨_, _, rfl, ⟨by simp only; omega, h2⟩, r1, r2⟩
theorem bool_some (d : T_Dice) (n : Int) (hd : Fair d) (hn : 0 < n) (hb : n ≤ 4611686018427387904) : ∃ d' r, m_made_Dice_Bool d n = some (d', r) ∧ Fair d' := by
  obtain ⟨d', r, h, hf, _⟩ := next_some d n hd hn hb
  unfold m_made_Dice_Bool
  rw [h]
  exact ⟨_, _, rfl, hf⟩
theorem roll_fair (l : List Int) (h : l.length ≤ 600) : Fair ⟨l, 0⟩ := ⟨by simp, h⟩
theorem bool_ex (d : T_Dice) (n : Int) (hd : Fair d) (hn : 0 < n) (hb : n ≤ 4611686018427387904) : ∃ x, m_made_Dice_Bool d n = some x ∧ Fair x.1 := by
  obtain ⟨d', r, h, k⟩ := bool_some d n hd hn hb
  exact ⟨_, h, k⟩
theorem next_ex (d : T_Dice) (n : Int) (hd : Fair d) (hn : 0 < n) (hb : n ≤ 4611686018427387904) : ∃ x, m_made_Dice_Next d n = some x ∧ Fair x.1 ∧ 0 ≤ x.2 ∧ x.2 < n := by
  obtain ⟨d', r, h, k⟩ := next_some d n hd hn hb
  exact ⟨_, h, k⟩
theorem byte_ex (d : T_Dice) (hd : Fair d) : ∃ x, m_made_Dice_Byte d = some x ∧ Fair x.1 ∧ ∃ n : Nat, n < 256 ∧ x.2 = (n : Int) := by
  unfold m_made_Dice_Byte
  refine bnd_ex (bool_ex d 3 hd (by omega) (by omega)) fun a ha => ?_
  cases a.2
  · rw [cond_false]
    refine bnd_ex (next_ex a.1 256 ha (by omega) (by omega)) fun c ⟨h1, h2, h3⟩ => ?_
    refine ⟨_, rfl, h1, c.2.toNat, by omega, ?_⟩
    show IntKind.wrap .u8 c.2 = _
    rw [wrap_u8 (by omega) (by omega)]
    omega
  · rw [cond_true]
    refine bnd_ex (next_ex a.1 8 ha (by omega) (by omega)) fun c ⟨h1, h2, h3⟩ => ?_
    obtain ⟨k, hk⟩ : ∃ k : Nat, c.2 = (k : Int) := ⟨c.2.toNat, by omega⟩
    have hk8 : k < 8 := by omega
    have he : ∀ k : Nat, k < 8 → elt ([0, 1, 127, 128, 254, 255, 15, 240] : List Int) (k : Int) = some ((([0, 1, 127, 128, 254, 255, 15, 240] : List Nat).getD k 0 : Nat) : Int) ∧ ([0, 1, 127, 128, 254, 255, 15, 240] : List Nat).getD k 0 < 256 := by decide +kernel
    rw [hk, (he k hk8).1, bnd_some]
    exact ⟨_, rfl, h1, _, (he k hk8).2, rfl⟩
theorem bytes_ex (d : T_Dice) (n : Int) (hd : Fair d) (hn : 0 ≤ n) (hb : n ≤ 1000) : ∃ x, m_made_Dice_Bytes d n = some x ∧ Fair x.1 ∧ ∃ l : List Nat, lt256 l ∧ (l.length : Int) ≤ n ∧ x.2 = iz l := by
  unfold m_made_Dice_Bytes
  rw [wrap_i64 (by omega) (by omega)]
  refine bnd_ex (next_ex d (n + 1) hd (by omega) (by omega)) fun a ⟨h1, h2, h3⟩ => ?_
  refine bnd_loop_inv (fun s => Fair ⟨s.2.2.1, s.2.2.2⟩ ∧ 0 ≤ s.2.1 ∧ ∃ l : List Nat, lt256 l ∧ (l.length : Int) + s.2.1 ≤ n ∧ s.1 = iz l) (fun s => s.2.1.toNat) (fun t => Fair ⟨t.2.1, t.2.2⟩ ∧ ∃ l : List Nat, lt256 l ∧ (l.length : Int) ≤ n ∧ t.1 = iz l)
    ⟨h1, h2, [], lt256.nil, by simp; omega, rfl⟩ (fun s ⟨i1, i2, l, i3, i4, i5⟩ => ?_) (fun t ⟨t1, l, t2, t3, t4⟩ => ⟨_, rfl, t1, l, t2, t3, t4⟩)
  by_cases hs : s.2.1 > 0
  · rw [decide_eq_true hs, cond_true]
    obtain ⟨x, hx, hf, b, hb256, hbe⟩ := byte_ex ⟨s.2.2.1, s.2.2.2⟩ i1
    have ha : app 1 s.1 [x.2] = some (iz (l ++ [b])) := by
      rw [i5, hbe]
      have := app_iz (l := l) (m := [b]) (b := 1) (by simp; omega) (by simp; omega)
      rw [iz_cons, iz_nil] at this
      exact this
    rw [hx, bnd_some, ha, bnd_some, wrap_i64 (by omega) (by omega)]
    refine .inl ⟨_, rfl, ⟨hf, by show 0 ≤ s.2.1 - 1; omega, l ++ [b], i3.app (lt256.cons hb256 lt256.nil), ?_, rfl⟩, ?_⟩
    · simp; omega
    · show (s.2.1 - 1).toNat < s.2.1.toNat
      omega
  · rw [decide_eq_false hs, cond_false]
    exact .inr ⟨_, rfl, i1, l, i3, by omega, i5⟩
theorem text_ex (d : T_Dice) (a : ByteArray) (n : Int) (hd : Fair d) (ha : 0 < a.size) (ha2 : a.size ≤ 1000) (hn : 0 ≤ n) (hb : n ≤ 1000) : ∃ x, m_made_Dice_Text d a n = some x ∧ Fair x.1 ∧ ((bs x.2).length : Int) = n ∧ ∀ y ∈ bs x.2, y ∈ bs a := by
  unfold m_made_Dice_Text
  refine bnd_loop_inv (fun s => Fair ⟨s.2.2.1, s.2.2.2⟩ ∧ 0 ≤ s.2.1 ∧ s.2.1 ≤ n ∧ ((bs s.1).length : Int) = s.2.1 ∧ ∀ y ∈ bs s.1, y ∈ bs a) (fun s => (n - s.2.1).toNat) (fun t => Fair ⟨t.2.1, t.2.2⟩ ∧ ((bs t.1).length : Int) = n ∧ ∀ y ∈ bs t.1, y ∈ bs a)
    ⟨hd, by simp, hn, rfl, fun y hy => by cases hy⟩ (fun s ⟨i1, i2, i3, i4, i5⟩ => ?_) (fun t ⟨t1, t2, t3⟩ => ⟨_, rfl, t1, t2, t3⟩)
  by_cases hs : s.2.1 < n
  · rw [decide_eq_true hs, cond_true]
    obtain ⟨x, hx, hf, x1, x2⟩ := next_ex ⟨s.2.2.1, s.2.2.2⟩ (a.size : Int) i1 (by omega) (by omega)
    obtain ⟨k, hk⟩ : ∃ k : Nat, x.2 = (k : Int) := ⟨x.2.toNat, by omega⟩
    have hka : k < (bs a).length := by rw [bs_len]; omega
    have hsub : subS a x.2 (IntKind.wrap .i64 (x.2 + 1)) = some (sb [(bs a)[k]]) := by
      have h1 : IntKind.wrap .i64 ((k : Int) + 1) = ((k + 1 : Nat) : Int) := by rw [wrap_i64 (by omega) (by omega)]; omega
      rw [hk, h1, subS_bs (by omega) (by omega)]
      congr 2
      rw [take_succ_get hka, List.drop_append_of_le_length (by simp; omega), List.drop_of_length_le (by simp; omega)]
      rfl
    have h256 : lt256 [(bs a)[k]] := lt256.cons ((bs_lt a).get hka) lt256.nil
    have hs1 : s.1.size = (bs s.1).length := (bs_len s.1).symm
    have hcat : catS s.1 (sb [(bs a)[k]]) = some (sb (bs s.1 ++ [(bs a)[k]])) := by
      rw [catS_bs (by rw [sb_size]; simp; omega), bs_sb h256]
    rw [hx, bnd_some, hsub, bnd_some, hcat, bnd_some, wrap_i64 (by omega) (by omega)]
    have hbs := bs_sb ((bs_lt s.1).app h256)
    refine .inl ⟨_, rfl, ⟨hf, by show 0 ≤ s.2.1 + 1; omega, by show s.2.1 + 1 ≤ n; omega, ?_, ?_⟩, ?_⟩
    · show ((bs (sb (bs s.1 ++ [(bs a)[k]]))).length : Int) = s.2.1 + 1
      rw [hbs, List.length_append]
      simp only [List.length_cons, List.length_nil]
      omega
    · show ∀ y ∈ bs (sb (bs s.1 ++ [(bs a)[k]])), y ∈ bs a
      rw [hbs]
      intro y hy
      rcases List.mem_append.1 hy with hy | hy
      · exact i5 y hy
      · rw [List.mem_singleton] at hy
        subst hy
        exact List.getElem_mem hka
    · show (n - (s.2.1 + 1)).toNat < (n - s.2.1).toNat
      omega
  · rw [decide_eq_false hs, cond_false]
    exact .inr ⟨_, rfl, i1, by show ((bs s.1).length : Int) = n; omega, i5⟩
end Go.Proofs.YtelepclajhpnfaaGreatDoor
