/-
  The law of the bytes.
  Conditions: none.
-/
import Derived.Test.YtcekbbbjagfacaaDoorUniI
import Derived.Test.YtcekbbbjagfacaaDoorGenUnitinfoBytes
namespace Go.Proofs.YtcekbbbjagfacaaDoor
open Go
set_option linter.unusedSimpArgs false
set_option linter.unusedVariables false

/-- A field that is often not valid: it is not long. -/
theorem oddField_ex (d : T_Dice) (hd : Fair d) : ∃ x, m_made_Dice_OddField d = some x ∧ Fair x.1 ∧ x.2.Value.size ≤ 300 := by
  unfold m_made_Dice_OddField
  refine bnd_ex (field_ex d hd) fun a ⟨a1, a2⟩ => ?_
  have hs := valid_size' a2
  rw [bs_len] at hs
  refine bnd_ex (next_ex a.1 5 a1 (by omega) (by omega)) fun b ⟨b1, b2, b3⟩ => ?_
  have hcat : ∀ t : ByteArray, t.size ≤ 150 → ∃ u, catS a.2.Value t = some u ∧ u.size ≤ 300 := fun t ht => ⟨_, catS_bs (by omega), by rw [sb_size]; simp; omega⟩
  by_cases k0 : b.2 = 0
  · rw [k0]
    simp only [show ((0 : Int) == 0) = true from rfl, cond_true]
    refine bnd_ex (next_ex b.1 7 b1 (by omega) (by omega)) fun c ⟨c1, c2, c3⟩ => ?_
    exact ⟨_, rfl, c1, by show a.2.Value.size ≤ 300; omega⟩
  by_cases k1 : b.2 = 1
  · rw [k1]
    simp only [show ((1 : Int) == 0) = false from rfl, show ((1 : Int) == 1) = true from rfl, cond_true, cond_false]
    refine bnd_ex (text_ex b.1 _ 1 b1 (by decide) (by decide) (by omega) (by omega)) fun c ⟨c1, c2, c3⟩ => ?_
    obtain ⟨u, hu, hl⟩ := hcat c.2 (by rw [← bs_len]; omega)
    rw [hu, bnd_some]
    exact ⟨_, rfl, c1, hl⟩
  by_cases k2 : b.2 = 2
  · rw [k2]
    simp only [show ((2 : Int) == 0) = false from rfl, show ((2 : Int) == 1) = false from rfl, show ((2 : Int) == 2) = true from rfl, cond_true, cond_false]
    refine bnd_ex (next_ex b.1 70 b1 (by omega) (by omega)) fun c ⟨c1, c2, c3⟩ => ?_
    rw [wrap_i64 (by omega) (by omega)]
    refine bnd_ex (text_ex c.1 _ (60 + c.2) c1 (by decide) (by decide) (by omega) (by omega)) fun e ⟨e1, e2, e3⟩ => ?_
    obtain ⟨u, hu, hl⟩ := hcat e.2 (by rw [← bs_len]; omega)
    rw [hu, bnd_some]
    exact ⟨_, rfl, e1, hl⟩
  · have h0 : (b.2 == 0) = false := by simpa using k0
    have h1 : (b.2 == 1) = false := by simpa using k1
    have h2 : (b.2 == 2) = false := by simpa using k2
    rw [h0, cond_false, h1, cond_false, h2, cond_false]
    exact ⟨_, rfl, b1, by show a.2.Value.size ≤ 300; omega⟩


theorem area_r0 (d : T_Dice) (least : Int) (b : Bool) : m_made_Dice_Area_r0 d least b = m_made_Dice_Area d least b := rfl
theorem info_r0 (d : T_Dice) : m_made_Dice_Info_r0 d = m_made_Dice_Info d := rfl

theorem rep63 : mkS 1 (0 : Int) 63 63 = some (iz (List.replicate 63 0)) := mkS_iz (b := 1) (n := 63) (by omega) (by omega)

/-- An info that is often not valid: it is not long. -/
theorem odd_ex (d : T_Dice) (hd : Fair d) : ∃ x, m_law17_odd d = some x ∧ OkI x.2 := by
  unfold m_law17_odd
  rw [info_r0]
  refine bnd_ex (P := fun x => Fair x.1 ∧ OkI x.2 ∧ x.2.Multi.length ≤ 20 ∧ x.2.Chassis.Fields.length ≤ 16 ∧ x.2.Board.Fields.length ≤ 16 ∧ x.2.Product.Fields.length ≤ 16)
    (by obtain ⟨x, h1, h2, h3, _, h5, ⟨_, h6⟩, ⟨_, h7⟩, ⟨_, h8⟩⟩ := info_ex d hd; exact ⟨x, h1, h2, h3, h5, h6.most, h7.most, h8.most⟩) fun a ⟨a1, a2, a3, a4, a5, a6⟩ => ?_
  obtain ⟨⟨rc, rb, rp, rm⟩, sc, sb, sp, sm⟩ := a2
  refine bnd_ex (next_ex a.1 9 a1 (by omega) (by omega)) fun b ⟨b1, b2, b3⟩ => ?_
  cases k0 : (b.2 == 0)
  · rw [cond_false]
    cases k1 : (b.2 == 1)
    · rw [cond_false]
      cases k2 : (b.2 == 2)
      · rw [cond_false]
        cases k3 : (b.2 == 3)
        · rw [cond_false]
          cases k4 : (b.2 == 4)
          · rw [cond_false]
            cases k5 : (b.2 == 5)
            · rw [cond_false]
              cases k6 : (b.2 == 6)
              · rw [cond_false]
                exact ⟨_, rfl, ⟨⟨rc, rb, rp, rm⟩, sc, sb, sp, sm⟩⟩
              · rw [cond_true]
                refine bnd_loop_inv (fun s : Int × List T_Field => 0 ≤ s.1 ∧ s.1 ≤ 20 ∧ (s.2.length : Int) = a.2.Product.Fields.length + s.1 ∧ ∀ f ∈ s.2, f.Value.size ≤ 400) (fun s => (20 - s.1).toNat) (fun t : List T_Field => 20 ≤ t.length ∧ t.length ≤ 36 ∧ ∀ f ∈ t, f.Value.size ≤ 400)
                  ⟨by dsimp only; omega, by dsimp only; omega, by simp, sp⟩ (fun s ⟨i1, i2, i3, i4⟩ => ?_) (fun t ⟨t1, t2, t3⟩ => ?_)
                · by_cases hs : s.1 < 20
                  · rw [decide_eq_true hs, cond_true, rep63, bnd_some, strOf_iz, app24F _ _ (by omega), bnd_some, wrap_i64 (by omega) (by omega)]
                    refine .inl ⟨_, rfl, ⟨by dsimp only; omega, by dsimp only; omega, by simp only [List.length_append, List.length_singleton]; omega, fun f hf => ?_⟩, by dsimp only; omega⟩
                    rcases List.mem_append.1 hf with hf | hf
                    · exact i4 f hf
                    · rw [List.mem_singleton] at hf
                      rw [hf]
                      dsimp only
                      rw [sb_size, List.length_replicate]
                      omega
                  · rw [decide_eq_false hs, cond_false]
                    exact .inr ⟨_, rfl, by omega, by omega, i4⟩
                · refine bnd_ex (next_ex b.1 2 b1 (by omega) (by omega)) fun c ⟨c1, c2, c3⟩ => ?_
                  rw [wrap_i64 (by omega) (by omega)]
                  have hsub : sub t 0 (16 + c.2) = some (t.take (16 + c.2).toNat) := by
                    unfold sub
                    rw [if_pos ⟨by omega, by omega, by omega⟩]
                    simp
                  rw [hsub, bnd_some]
                  have hP : AreaR ⟨a.2.Product.Present, a.2.Product.Code, a.2.Product.Minutes, t.take (16 + c.2).toNat⟩ := ⟨rp.code, rp.mins, fun f hf => by have := t3 f (List.mem_of_mem_take hf); omega, by dsimp only; rw [List.length_take]; omega⟩
                  have hS : ∀ f ∈ t.take (16 + c.2).toNat, f.Value.size ≤ 400 := fun f hf => t3 f (List.mem_of_mem_take hf)
                  exact ⟨_, rfl, ⟨⟨rc, hP, hP, rm⟩, sc, hS, hS, sm⟩⟩
            · rw [cond_true]
              exact ⟨_, rfl, ⟨⟨rc, rb, ⟨rp.code, rp.mins, (fun f hf => by cases hf), by simp⟩, rm⟩, sc, sb, (fun f hf => by cases hf), sm⟩⟩
          · rw [cond_true]
            refine bnd_ex (next_ex b.1 60 b1 (by omega) (by omega)) fun c ⟨c1, c2, c3⟩ => ?_
            obtain ⟨n, hn⟩ : ∃ n : Nat, c.2 = (n : Int) := ⟨c.2.toNat, by omega⟩
            have hw : IntKind.wrap .i64 (2000 + c.2) = ((2000 + n : Nat) : Int) := by rw [wrap_i64 (by omega) (by omega)]; omega
            rw [hw, mkS_iz (b := 1) (n := 2000 + n) (by omega) (by omega), bnd_some]
            refine ⟨_, rfl, ⟨⟨rc, rb, rp, okL_of (lt_replicate _) (by rw [List.length_replicate]; omega)⟩, sc, sb, sp, ?_⟩⟩
            dsimp only
            rw [iz_len, List.length_replicate]
            omega
        · rw [cond_true]
          exact ⟨_, rfl, ⟨⟨rc, ⟨rb.code, rb.mins, rb.vals, rb.len⟩, rp, rm⟩, sc, sb, sp, sm⟩⟩
      · rw [cond_true]
        refine bnd_ex (next_ex b.1 2 b1 (by omega) (by omega)) fun c ⟨c1, c2, c3⟩ => ?_
        rw [wrap_u32 (x := c.2) (by omega) (by omega), wrap_u32 (by omega) (by omega)]
        exact ⟨_, rfl, ⟨⟨rc, ⟨rb.code, ⟨by dsimp only; omega, by dsimp only; omega⟩, rb.vals, rb.len⟩, rp, rm⟩, sc, sb, sp, sm⟩⟩
    · rw [cond_true]
      refine bnd_ex (next_ex b.1 2 b1 (by omega) (by omega)) fun c ⟨c1, c2, c3⟩ => ?_
      rw [wrap_u32 (by omega) (by omega)]
      exact ⟨_, rfl, ⟨⟨rc, rb, ⟨rp.code, ⟨by dsimp only; omega, by dsimp only; omega⟩, rp.vals, rp.len⟩, rm⟩, sc, sb, sp, sm⟩⟩
  · rw [cond_true]
    refine bnd_ex (oddField_ex b.1 b1) fun c ⟨c1, c2⟩ => ?_
    rw [app24F _ _ (by omega), bnd_some]
    have hv : ∀ f ∈ a.2.Chassis.Fields ++ [c.2], f.Value.size ≤ 400 := fun f hf => by
      rcases List.mem_append.1 hf with hf | hf
      · exact sc f hf
      · rw [List.mem_singleton] at hf
        rw [hf]
        omega
    exact ⟨_, rfl, ⟨⟨⟨rc.code, rc.mins, (fun f hf => by have := hv f hf; omega), by simp only [List.length_append, List.length_singleton]; omega⟩, rb, rp, rm⟩, hv, sb, sp, sm⟩⟩

/-! ## Raw infos -/

theorem short_ex (a : T_Area) : ∃ r, m_law17_short a = some r ∧ (r = true → a.Fields.length ≤ 30 ∧ ∀ f ∈ a.Fields, f.Value.size ≤ 200) := by
  unfold m_law17_short
  by_cases c1 : 30 < a.Fields.length
  · rw [cnd_t (decide_eq_true (by omega))]
    exact ⟨_, rfl, fun h => by cases h⟩
  rw [cnd_f (decide_eq_false (by omega))]
  refine ⟨a.Fields.all fun f => decide (f.Value.size ≤ 200), ?_, fun h => ⟨by omega, fun f hf => by simpa using List.all_eq_true.1 h f hf⟩⟩
  refine bnd_loop_any (fun i => (i : Int)) a.Fields.length (fun i => !((a.Fields[i]?.map fun f => decide (f.Value.size ≤ 200)).getD true)) (.inl false) (.inr ()) rfl (fun i hi => ?_) (by simp) ?_
  · rw [decide_eq_true (by omega : (i : Int) < (a.Fields.length : Int)), cond_true]
    refine bnd_eq (elt_lt hi) ?_
    rw [List.getElem?_eq_getElem hi, wrap_succ hi (by omega)]
    have : decide ((a.Fields[i].Value.size : Int) > 200) = !decide (a.Fields[i].Value.size ≤ 200) := by
      rw [Bool.eq_iff_iff]
      simp
      omega
    rw [this]
    simp only [Option.map_some, Option.getD_some]
    cases decide (a.Fields[i].Value.size ≤ 200) <;> rfl
  · have : (List.range a.Fields.length).any (fun i => !((a.Fields[i]?.map fun f => decide (f.Value.size ≤ 200)).getD true)) = !(a.Fields.all fun f => decide (f.Value.size ≤ 200)) := by
      rw [any_range a.Fields (fun f => !decide (f.Value.size ≤ 200)) _ fun i h => by rw [List.getElem?_eq_getElem h]; rfl, List.not_all_eq_any_not]
    rw [this]
    cases (a.Fields.all fun f => decide (f.Value.size ≤ 200)) <;> rfl

theorem ok_area {a : T_Area} (h : ok_T_Area a) (hs : a.Fields.length ≤ 30 ∧ ∀ f ∈ a.Fields, f.Value.size ≤ 200) : AreaR a ∧ ∀ f ∈ a.Fields, f.Value.size ≤ 400 := by
  obtain ⟨_, h1, h2, _⟩ := h
  have h1' : 0 ≤ a.Code ∧ a.Code ≤ 255 := h1
  have h2' : 0 ≤ a.Minutes ∧ a.Minutes ≤ 4294967295 := h2
  exact ⟨⟨h1', h2', fun f hf => by have := hs.2 f hf; omega, by omega⟩, fun f hf => by have := hs.2 f hf; omega⟩

theorem light_ex (i : T_Info) (h : ok_T_Info i) : ∃ r, m_law17_light i = some r ∧ (r = true → OkI i) := by
  obtain ⟨k1, k2, k3, k4⟩ := h
  unfold m_law17_light
  obtain ⟨r1, e1, h1⟩ := short_ex i.Chassis
  rw [e1, bnd_some]
  cases r1
  · exact ⟨_, rfl, fun h => by cases h⟩
  obtain ⟨r2, e2, h2⟩ := short_ex i.Board
  rw [cond_true, e2, bnd_some]
  cases r2
  · exact ⟨_, rfl, fun h => by cases h⟩
  obtain ⟨r3, e3, h3⟩ := short_ex i.Product
  rw [cond_true, e3, bnd_some]
  cases r3
  · exact ⟨_, rfl, fun h => by cases h⟩
  rw [cond_true, bnd_some]
  refine ⟨_, rfl, fun h => ?_⟩
  have hm : i.Multi.length ≤ 3000 := by
    have := of_decide_eq_true h
    omega
  obtain ⟨q1, q2⟩ := ok_area k1 (h1 rfl)
  obtain ⟨q3, q4⟩ := ok_area k2 (h2 rfl)
  obtain ⟨q5, q6⟩ := ok_area k3 (h3 rfl)
  exact ⟨⟨q1, q3, q5, k4⟩, q2, q4, q6, hm⟩

/-! ## Serial numbers -/

theorem serial_step (a : T_Area) (k : Nat) (g : Option ByteArray) (hg : ∃ s, g = some s) :
    ∃ s, (bnd ((bif a.Present then (bif decide ((k : Int) < (a.Fields.length : Int)) then (bnd (elt a.Fields (k : Int)) fun x1 => some (!(x1.Value.toList == ((⟨#[]⟩) : ByteArray).toList))) else (some false)) else (some false) : Option Bool)) fun o1 => bif o1 then (bnd (elt a.Fields (k : Int)) fun x2 => some x2.Value) else g) = some s := by
  cases a.Present
  · exact hg
  · rw [cond_true]
    by_cases hk : k < a.Fields.length
    · rw [decide_eq_true (by omega : (k : Int) < (a.Fields.length : Int)), cond_true, elt_lt hk, bnd_some, bnd_some]
      cases (!(a.Fields[k].Value.toList == ((⟨#[]⟩) : ByteArray).toList))
      · exact hg
      · exact ⟨_, rfl⟩
    · rw [decide_eq_false (by omega : ¬ (k : Int) < (a.Fields.length : Int))]
      exact hg
theorem serial_ex (i : T_Info) : ∃ s, m_unitinfo_Serial i = some s := by
  unfold m_unitinfo_Serial
  exact serial_step i.Product 4 _ (serial_step i.Board 2 _ (serial_step i.Chassis 1 _ ⟨_, rfl⟩))
theorem serial_ref (i : T_Info) : m_ref17_Serial i = m_unitinfo_Serial i := by
  have e0 : elt ([4, 2, 1] : List Int) 0 = some 4 := rfl
  have e1 : elt ([4, 2, 1] : List Int) 1 = some 2 := rfl
  have e2 : elt ([4, 2, 1] : List Int) 2 = some 1 := rfl
  unfold m_ref17_Serial m_unitinfo_Serial
  simp only [e0, e1, e2, bnd_some]

theorem rEncode {i : T_Info} (h : OkI i) : m_ref17_Encode i = some (if vI i = true then (iz (encI i), 0) else ([], 1)) := by
  unfold m_ref17_Encode
  refine bnd_eq (bytes_ref h) ?_
  cases vI i <;> rfl

theorem encI_small {i : T_Info} (h : vI i = true) : (encI i).length ≤ 2048 := by
  unfold vI at h
  simp only [Bool.and_eq_true, decide_eq_true_eq] at h
  exact h.2.2.2

theorem same_self (l : List Nat) (h : l.length ≤ 1000000) : m_ref01_Same (iz l) (iz l) = some true := by
  rw [same_nat _ _ (by omega)]
  simp

theorem check_ok {x : T_Info} (h : OkI x) (g : Bool → Option Bool) :
    (bnd (m_unitinfo_Encode x) fun r7 => bnd (m_ref17_Encode x) fun r8 => bnd ((bnd (m_unitinfo_Valid x) fun r9 => bnd (m_ref17_Valid x) fun r10 => bif !(r9 == r10) then (some true) else (bif (r7.2 != r8.2) then (some true) else (bnd (m_ref01_Same r7.1 r8.1) fun r11 => bif !r11 then (some true) else (bnd (m_unitinfo_Serial x) fun r12 => bnd (m_ref17_Serial x) fun r13 => some (!(r12.toList == r13.toList))))) : Option Bool)) g) = g false := by
  have hm := h.m
  rw [uEncode_prog h.r (by omega), bnd_some, rEncode h, bnd_some, uValid_prog h.r (by omega), bnd_some, rValid h, bnd_some, cnd_f (by simp), cnd_f (by simp)]
  obtain ⟨s, hs⟩ := serial_ex x
  rw [serial_ref, hs, bnd_some, bnd_some]
  have hsame : m_ref01_Same (if vI x = true then (iz (encI x), (0 : Int)) else ([], 1)).1 (if vI x = true then (iz (encI x), (0 : Int)) else ([], 1)).1 = some true := by
    cases hv : vI x
    · exact same_self [] (by simp)
    · rw [if_pos rfl]
      have := encI_small hv
      exact same_self _ (by omega)
  rw [hsame, bnd_some, Bool.not_true, cond_false, bnd_some]
  simp

theorem bytes_true (i : T_Info) (l : List Int) (hi : ok_T_Info i) (_ : okL (inK .i64) l) : m_law17_UnitinfoBytes i l = some true := by
  unfold m_law17_UnitinfoBytes
  obtain ⟨r, e1, h1⟩ := light_ex i hi
  rw [e1, bnd_some, awake_ok]
  cases r
  · rfl
  rw [Bool.not_true, cond_false]
  by_cases hl : l.length ≤ 600
  · have : m_made_Light l = some true := by unfold m_made_Light; rw [decide_eq_true (by omega)]
    rw [this, bnd_some, Bool.not_true, bnd_some, cond_false]
    have hroll : m_made_Roll l = some ⟨l, 0⟩ := rfl
    rw [hroll, bnd_some]
    have hf := roll_fair l hl
    obtain ⟨x, hx, hx1, hx2, _, _, _, _, _⟩ := info_ex ⟨l, 0⟩ hf
    rw [hx, bnd_some]
    obtain ⟨y, hy, hy1⟩ := odd_ex x.1 hx1
    rw [hy, bnd_some]
    rw [check_ok (h1 rfl), cond_false, check_ok hx2, cond_false, check_ok hy1, cond_false]
    rfl
  · have : m_made_Light l = some false := by unfold m_made_Light; rw [decide_eq_false (by omega)]
    rw [this]
    rfl

end Go.Proofs.YtcekbbbjagfacaaDoor
