/-
  Made infos: the values that the laws' dice give.
  Conditions: none.
-/
import Derived.Test.YtelepclajhpnfaaGreatDoorUni3
import Derived.Test.YtelepclajhpnfaaGreatDoorFldD
namespace Go.Proofs.YtelepclajhpnfaaGreatDoor
open Go
set_option linter.unusedSimpArgs false
set_option linter.unusedVariables false
theorem val_size {f : T_Field} (h : valT f = true) : f.Value.size ≤ 126 := by
  have := valid_size' (k := f.Kind) (v := bs f.Value) h
  rwa [bs_len] at this
theorem app24F (l : List T_Field) (x : T_Field) (h : l.length ≤ 1000) : app 24 l [x] = some (l ++ [x]) := app_eq (by simp; omega) (by simp; omega)
structure GoodA (a : T_Area) (least : Nat) (board : Bool) : Prop where
  code : 0 ≤ a.Code ∧ a.Code ≤ 255
  mins : 0 ≤ a.Minutes ∧ a.Minutes < (if board = true then 16777216 else 1)
  none : a.Present = false → a = ⟨false, 0, 0, []⟩
  most : a.Fields.length ≤ 16
  more : a.Present = true → least ≤ a.Fields.length
  vals : ∀ f ∈ a.Fields, valT f = true
theorem fields_ex (d : T_Dice) (hd : Fair d) (least : Nat) (hl : least ≤ 7) : ∃ x, m_made_Dice_Fields d (least : Int) = some x ∧ Fair x.1 ∧ least ≤ x.2.length ∧ x.2.length ≤ 16 ∧ ∀ f ∈ x.2, valT f = true := by
  unfold m_made_Dice_Fields
  refine bnd_ex (next_ex d 3 hd (by omega) (by omega)) fun a ⟨a1, a2, a3⟩ => ?_
  have hn : ∃ y : Int × List Int × Int, (bnd (m_made_Dice_Bool a.1 10) fun r2 => bif r2.2 then (some (16, r2.1.L, r2.1.At)) else (some (IntKind.wrap .i64 ((least : Int) + a.2), r2.1.L, r2.1.At)) : Option (Int × List Int × Int)) = some y ∧ (least : Int) ≤ y.1 ∧ y.1 ≤ 16 ∧ Fair ⟨y.2.1, y.2.2⟩ := by
    obtain ⟨b, hb, hb1⟩ := bool_ex a.1 10 a1 (by omega) (by omega)
    rw [hb, bnd_some, wrap_i64 (by omega) (by omega)]
    cases b.2
    · exact ⟨_, rfl, by dsimp only; omega, by dsimp only; omega, hb1⟩
    · exact ⟨_, rfl, by dsimp only; omega, by dsimp only; omega, hb1⟩
  refine bnd_ex hn fun y ⟨y1, y2, y3⟩ => ?_
  refine bnd_loop_inv (fun s => Fair ⟨s.2.2.1, s.2.2.2⟩ ∧ (s.1.length : Int) = s.2.1 ∧ s.2.1 ≤ y.1 ∧ ∀ f ∈ s.1, valT f = true) (fun s => (16 - s.2.1).toNat) (fun t => Fair ⟨t.2.1, t.2.2⟩ ∧ (t.1.length : Int) = y.1 ∧ ∀ f ∈ t.1, valT f = true)
    ⟨y3, by simp, by dsimp only; omega, fun f hf => by cases hf⟩ (fun s ⟨i1, i2, i3, i4⟩ => ?_) (fun t ⟨t1, t2, t3⟩ => ⟨_, rfl, t1, by dsimp only; omega, by dsimp only; omega, t3⟩)
  have hmin : min y.1 16 = y.1 := by omega
  rw [hmin]
  by_cases hs : s.2.1 < y.1
  · rw [decide_eq_true hs, cond_true]
    obtain ⟨x, hx, hx1, hx2⟩ := field_ex ⟨s.2.2.1, s.2.2.2⟩ i1
    rw [hx, bnd_some, app24F _ _ (by omega), bnd_some, wrap_i64 (by omega) (by omega)]
    refine .inl ⟨_, rfl, ⟨hx1, by simp only [List.length_append, List.length_singleton]; omega, by dsimp only; omega, fun f hf => ?_⟩, by dsimp only; omega⟩
    rcases List.mem_append.1 hf with hf | hf
    · exact i4 f hf
    · rw [List.mem_singleton] at hf
      rw [hf]
      exact hx2
  · rw [decide_eq_false hs, cond_false]
    exact .inr ⟨_, rfl, i1, by dsimp only; omega, i4⟩
theorem area_ex (d : T_Dice) (hd : Fair d) (least : Nat) (hl : least ≤ 7) (board : Bool) : ∃ x, m_made_Dice_Area d (least : Int) board = some x ∧ Fair x.1 ∧ GoodA x.2 least board := by
  unfold m_made_Dice_Area
  refine bnd_ex (bool_ex d 3 hd (by omega) (by omega)) fun a a1 => ?_
  cases a.2
  · rw [cond_false]
    refine bnd_ex (byte_ex a.1 a1) fun b ⟨b1, n, hn, hb⟩ => ?_
    refine bnd_ex (fields_ex b.1 b1 least hl) fun c ⟨c1, c2, c3, c4⟩ => ?_
    cases board
    · exact ⟨_, rfl, c1, ⟨by dsimp only; omega, ⟨by dsimp only; omega, by simp⟩, (fun h => by cases h), c3, fun _ => c2, c4⟩⟩
    · refine bnd_ex (next_ex c.1 16777216 c1 (by omega) (by omega)) fun e ⟨e1, e2, e3⟩ => ?_
      rw [wrap_u32 (by omega) (by omega)]
      exact ⟨_, rfl, e1, ⟨by dsimp only; omega, ⟨e2, by simpa using e3⟩, (fun h => by cases h), c3, fun _ => c2, c4⟩⟩
  · exact ⟨_, rfl, a1, ⟨by dsimp only; omega, ⟨by dsimp only; omega, by dsimp only; split <;> omega⟩, fun _ => rfl, by simp, (fun h => by cases h), fun f hf => by cases hf⟩⟩
theorem GoodA.r {a : T_Area} {least : Nat} {board : Bool} (h : GoodA a least board) : AreaR a := by
  have hm := h.mins
  have hn := h.most
  refine ⟨h.code, ⟨hm.1, ?_⟩, fun f hf => ?_, by omega⟩
  · split at hm <;> omega
  · have := val_size (h.vals f hf)
    omega
theorem GoodA.s {a : T_Area} {least : Nat} {board : Bool} (h : GoodA a least board) : ∀ f ∈ a.Fields, f.Value.size ≤ 400 := fun f hf => by
  have := val_size (h.vals f hf)
  omega
theorem GoodA.v {a : T_Area} {k : Nat} {board : Bool} (h : GoodA a (leastN k) board) (hb : board = decide (k = 1)) : vA a k = true := by
  unfold vA
  cases hp : a.Present
  · rw [if_pos rfl, h.none hp]
    rfl
  · rw [if_neg (by simp)]
    have hm := h.mins.2
    rw [hb] at hm
    have hm' : a.Minutes < if k = 1 then 16777216 else 1 := by
      by_cases hk : k = 1
      · rw [if_pos hk]
        rwa [if_pos (by simpa using hk)] at hm
      · rw [if_neg hk]
        rwa [if_neg (by simpa using hk)] at hm
    rw [decide_eq_true hm', decide_eq_true (h.more hp), decide_eq_true h.most, List.all_eq_true.2 h.vals]
    rfl
theorem okL_of {l : List Nat} (h : lt256 l) (hn : l.length ≤ 1000000) : okL (inK .u8) (iz l) := by
  refine ⟨fun x hx => ?_, by rw [iz_len]; unfold maxLen; omega⟩
  obtain ⟨n, hn, rfl⟩ := List.mem_map.1 hx
  have := h n hn
  exact ⟨by show (0 : Int) ≤ (n : Int); omega, by show (n : Int) ≤ 255; omega⟩
theorem info_ex (d : T_Dice) (hd : Fair d) : ∃ x, m_made_Dice_Info d = some x ∧ Fair x.1 ∧ OkI x.2 ∧ vI x.2 = true ∧ x.2.Multi.length ≤ 20 ∧ (∃ b, GoodA x.2.Chassis 2 b) ∧ (∃ b, GoodA x.2.Board 5 b) ∧ (∃ b, GoodA x.2.Product 7 b) := by
  unfold m_made_Dice_Info
  refine bnd_ex (area_ex d hd 2 (by omega) false) fun a ⟨a1, a2⟩ => ?_
  refine bnd_ex (area_ex a.1 a1 5 (by omega) true) fun b ⟨b1, b2⟩ => ?_
  refine bnd_ex (area_ex b.1 b1 7 (by omega) false) fun c ⟨c1, c2⟩ => ?_
  refine bnd_ex (bytes_ex c.1 20 c1 (by omega) (by omega)) fun e ⟨e1, l, e2, e3, e4⟩ => ?_
  have hml : e.2.length ≤ 20 := by rw [e4, iz_len]; omega
  have hmu : okL (inK .u8) e.2 := by rw [e4]; exact okL_of e2 (by omega)
  have hall : OkI ⟨a.2, b.2, c.2, e.2⟩ := ⟨⟨a2.r, b2.r, c2.r, hmu⟩, a2.s, b2.s, c2.s, by dsimp only; omega⟩
  rw [rValid hall, bnd_some]
  have hnone : ∀ (n : Nat) (bb : Bool), GoodA ⟨false, 0, 0, []⟩ n bb := fun n bb => ⟨by dsimp only; omega, ⟨by dsimp only; omega, by dsimp only; split <;> omega⟩, fun _ => rfl, by simp, (fun h => by cases h), fun f hf => by cases hf⟩
  cases hv : vI ⟨a.2, b.2, c.2, e.2⟩
  · rw [Bool.not_false, cond_true]
    have hone : OkI ⟨a.2, ⟨false, 0, 0, []⟩, ⟨false, 0, 0, []⟩, e.2⟩ := ⟨⟨a2.r, noneR, noneR, hmu⟩, a2.s, (fun f hf => by cases hf), (fun f hf => by cases hf), by dsimp only; omega⟩
    refine ⟨_, rfl, e1, hone, ?_, hml, ⟨_, a2⟩, ⟨true, hnone 5 true⟩, ⟨false, hnone 7 false⟩⟩
    have hel := encI_len hone.r.m
    have va : vA a.2 0 = true := GoodA.v (k := 0) a2 rfl
    have q1 : (partN a.2 0).length ≤ 1039 := by
      unfold partN
      cases hp : a.2.Present
      · rw [if_neg (by simp)]
        simp
      · rw [if_pos rfl]
        have := a2.most
        have := areaN_len (a := a.2) (k := 0) (List.all_eq_true.2 a2.vals) a2.most
        omega
    have hz : ∀ k, partN ⟨false, 0, 0, []⟩ k = [] := fun k => by unfold partN; rw [if_neg (by simp)]
    have har : (areasN ⟨a.2, ⟨false, 0, 0, []⟩, ⟨false, 0, 0, []⟩, e.2⟩).length ≤ 1039 := by
      unfold areasN
      dsimp only
      rw [hz, hz, List.append_nil, List.append_nil]
      exact q1
    unfold vI
    dsimp only at hel ⊢
    rw [va, decide_eq_true (by omega)]
    rfl
  · rw [Bool.not_true, cond_false]
    exact ⟨_, rfl, e1, hall, hv, hml, ⟨_, a2⟩, ⟨_, b2⟩, ⟨_, c2⟩⟩
end Go.Proofs.YtelepclajhpnfaaGreatDoor
