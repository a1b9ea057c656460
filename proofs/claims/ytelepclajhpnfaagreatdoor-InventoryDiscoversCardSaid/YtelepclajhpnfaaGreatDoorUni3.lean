/-
  The bytes of a unit's data: the reference.
  Conditions: none.
-/
import Derived.Test.YtelepclajhpnfaaGreatDoorUni2
namespace Go.Proofs.YtelepclajhpnfaaGreatDoor
open Go
set_option linter.unusedSimpArgs false
set_option linter.unusedVariables false
theorem encT_len (f : T_Field) (h : f.Value.size ≤ 400) : (encT f).length ≤ 402 := by
  unfold encT encF dataF
  rw [← bs_len] at h
  split
  · rw [List.length_cons, bcd_len]; omega
  · split
    · rw [List.length_cons, rep_len]; unfold sixN; omega
    · rw [List.length_cons]; omega
theorem encL_len' : ∀ (fs : List T_Field), (∀ f ∈ fs, f.Value.size ≤ 400) → (encL fs).length ≤ 402 * fs.length
  | [], _ => by simp [encL]
  | f :: r, h => by
    have h1 := encL_len' r fun x hx => h x (by simp [hx])
    have h2 := encT_len f (h f (by simp))
    unfold encL at *
    simp only [List.flatMap_cons, List.length_append, List.length_cons]
    omega
theorem EncodeList_ref (fs : List T_Field) (hs : ∀ f ∈ fs, f.Value.size ≤ 400) : m_ref02_EncodeList fs = some (if 16 < fs.length then ([], 3) else if fs.all valT = true then (iz (encL fs ++ [193]), 0) else ([], 1)) := by
  unfold m_ref02_EncodeList
  by_cases h16 : 16 < fs.length
  · rw [show decide ((fs.length : Int) > 16) = true from decide_eq_true (by omega), if_pos h16]
    rfl
  rw [show decide ((fs.length : Int) > 16) = false from decide_eq_false (by omega), if_neg h16, cond_false]
  have hcl : ∀ i, (encL (fs.take i)).length ≤ 6500 := fun i => by
    have := encL_len' (fs.take i) fun f hf => hs f (List.mem_of_mem_take hf)
    rw [List.length_take] at this
    omega
  refine bnd_loop_any (fun i => (iz (encL (fs.take i)), (i : Int))) fs.length (fun i => !((fs[i]?.map valT).getD true)) (.inl ([], 1)) (.inr (iz (encL fs))) rfl (fun i hi => ?_) ?_ ?_
  · have h1 : decide ((i : Int) < (fs.length : Int)) = true := decide_eq_true (by omega)
    have hsi := hs _ (List.getElem_mem hi)
    dsimp only
    rw [h1, cond_true]
    refine bnd_eq (elt_lt hi) ?_
    refine bnd_eq (Encode_ref _ (by omega)) ?_
    rw [List.getElem?_eq_getElem hi]
    simp only [Option.map_some, Option.getD_some]
    have hv : validF fs[i].Kind (bs fs[i].Value) = valT fs[i] := rfl
    rw [hv]
    cases valT fs[i]
    · rfl
    · simp only [if_true, show ((0 : Int) != 0) = false from rfl, cond_false, Bool.not_true]
      refine bnd_eq (app16 (l := encL (fs.take i)) (m := encF fs[i].Kind (bs fs[i].Value)) ?_) ?_
      · have h1 := hcl i
        have h2 := encT_len fs[i] hsi
        unfold encT at h2
        omega
      · rw [wrap_succ hi (by omega), encL_succ hi]
        rfl
  · have h1 : decide ((fs.length : Int) < (fs.length : Int)) = false := decide_eq_false (by omega)
    dsimp only
    rw [h1, cond_false, List.take_length]
  · have : (List.range fs.length).any (fun i => !((fs[i]?.map valT).getD true)) = !fs.all valT := by
      rw [List.all_eq_not_any_not]
      simp only [Bool.not_not]
      exact any_range fs (fun x => !valT x) _ fun i h => by simp [h]
    rw [this]
    have hl := hcl fs.length
    rw [List.take_length] at hl
    cases fs.all valT
    · rfl
    · exact bnd_eq (app2 (by omega) 193) rfl
theorem Sum8_ref {l : List Nat} (hb : lt256 l) (hl : l.length ≤ 1000000) : m_ref01_Sum8 (iz l) = some ((negN (sumN l) : Nat) : Int) := by
  unfold m_ref01_Sum8
  refine bnd_loop (fun i => (((sumN (l.take i) : Nat) : Int), (i : Int))) l.length ((sumN l : Nat) : Int) rfl (fun i hi => ?_) ?_ ?_
  · have hx := hb.get hi
    have hs := sumN_lt (l.take i)
    dsimp only
    rw [decide_eq_true (by rw [iz_len]; omega : (i : Int) < ((iz l).length : Int)), cond_true]
    refine bnd_eq (elt_iz hi) ?_
    rw [sumN_succ hi, wrap_succ hi (by omega), wrap_i64n (by omega), ← Int.natCast_add, wrap_i64n (by omega), show (256 : Int) = ((256 : Nat) : Int) from rfl, tmod_n]
  · dsimp only
    rw [decide_eq_false (by rw [iz_len]; omega : ¬ (l.length : Int) < ((iz l).length : Int)), cond_false, List.take_length]
  · have := sumN_lt l
    have hw : IntKind.wrap .i64 (256 - ((sumN l : Nat) : Int)) = ((256 - sumN l : Nat) : Int) := by rw [wrap_i64 (by omega) (by omega)]; omega
    rw [hw, show (256 : Int) = ((256 : Nat) : Int) from rfl, tmod_n, wrap_u8n (by omega)]
    rfl
theorem Copy_ref {l : List Nat} (hl : l.length ≤ 1000000) : m_ref01_Copy (iz l) = some (iz l) := by
  unfold m_ref01_Copy
  refine bnd_loop (fun i => (iz (l.take i), (i : Int))) l.length (iz l) rfl (fun i hi => ?_) ?_ rfl
  · dsimp only
    rw [decide_eq_true (by rw [iz_len]; omega : (i : Int) < ((iz l).length : Int)), cond_true]
    refine bnd_eq (elt_iz hi) ?_
    refine bnd_eq (app2 (by rw [List.length_take]; omega) _) ?_
    rw [take_succ_get hi, wrap_succ hi (by omega)]
  · dsimp only
    rw [decide_eq_false (by rw [iz_len]; omega : ¬ (l.length : Int) < ((iz l).length : Int)), cond_false, List.take_length]
theorem Seal8_ref {l : List Nat} (hb : lt256 l) (hl : l.length ≤ 1000000) : m_ref01_Seal8 (iz l) = some (iz (sealN l)) := by
  unfold m_ref01_Seal8
  refine bnd_eq (Copy_ref hl) ?_
  refine bnd_eq (Sum8_ref hb hl) ?_
  exact bnd_eq (app2 hl _) rfl
theorem Little_ref (m : Nat) (h : m < 4294967296) : m_ref01_Little (m : Int) 3 = some (iz [m % 256, m / 256 % 256, m / 65536 % 256]) := by
  unfold m_ref01_Little
  refine bnd_loop (fun i => (((m / 256 ^ i : Nat) : Int), iz (([m % 256, m / 256 % 256, m / 65536 % 256] : List Nat).take i), (i : Int))) 3 (iz [m % 256, m / 256 % 256, m / 65536 % 256]) (by simp) (fun i hi => ?_) ?_ rfl
  · dsimp only
    rw [decide_eq_true (by omega : (i : Int) < 3), cond_true, show (256 : Int) = ((256 : Nat) : Int) from rfl, tmod_n, tdiv_n, wrap_u8n (Nat.mod_lt _ (by omega))]
    refine bnd_eq (app2 (by rw [List.length_take]; simp; omega) _) ?_
    have hq : m / 256 ^ i / 256 = m / 256 ^ (i + 1) := by rw [Nat.div_div_eq_div_mul, Nat.pow_succ]
    have hq2 : m / 256 ^ (i + 1) ≤ m := Nat.div_le_self _ _
    rw [hq, wrap_u64n (by omega), wrap_succ hi (by omega)]
    have h3 : i = 0 ∨ i = 1 ∨ i = 2 := by omega
    rcases h3 with rfl | rfl | rfl <;> simp
  · dsimp only
    rw [decide_eq_false (by omega : ¬ ((3 : Nat) : Int) < 3), cond_false]
    rfl
theorem lt_headN {a : T_Area} (hr : AreaR a) (k : Nat) : lt256 (headN a k) := by
  have hc := hr.code
  unfold headN
  refine (lt256.cons (by omega) (.cons (by omega) (.cons (by omega) .nil))).app ?_
  split
  · exact .cons (Nat.mod_lt _ (by omega)) (.cons (Nat.mod_lt _ (by omega)) (.cons (Nat.mod_lt _ (by omega)) .nil))
  · exact .nil
theorem lt_replicate (n : Nat) : lt256 (List.replicate n 0) := fun x hx => by rw [List.eq_of_mem_replicate hx]; omega
theorem lt_rawN {a : T_Area} (hr : AreaR a) (k : Nat) (hv : a.Fields.all valT = true) : lt256 (rawN a k) := by
  unfold rawN padN
  exact ((lt_headN hr k).app ((encL_lt _ (List.all_eq_true.1 hv)).app (.cons (by omega) .nil))).app (lt_replicate _)
theorem lt_set {l : List Nat} (h : lt256 l) (i : Nat) {x : Nat} (hx : x < 256) : lt256 (l.set i x) := fun y hy => by
  rcases List.mem_or_eq_of_mem_set hy with hy | rfl
  · exact h y hy
  · exact hx
theorem lt_seal {l : List Nat} (h : lt256 l) : lt256 (sealN l) := h.app (.cons (Nat.mod_lt _ (by omega)) .nil)
theorem lt_areaN {a : T_Area} (hr : AreaR a) (k : Nat) (hv : a.Fields.all valT = true) (hn : a.Fields.length ≤ 16) : lt256 (areaN a k) := by
  have := rawN_len (k := k) hv hn
  exact lt_seal (lt_set (lt_rawN hr k hv) _ (by omega))
theorem ref_least {k : Nat} (hk : k < 3) : m_ref17_least (k : Int) = some ((leastN k : Nat) : Int) := by
  have h : k = 0 ∨ k = 1 ∨ k = 2 := by omega
  rcases h with rfl | rfl | rfl <;> rfl
theorem area_ref {a : T_Area} (hr : AreaR a) (hs : ∀ f ∈ a.Fields, f.Value.size ≤ 400) {k : Nat} (hk : k < 3) : m_ref17_area (k : Int) a = some (if vA a k = true then iz (partN a k) else [], vA a k) := by
  have hc := hr.code
  have hm := hr.mins
  unfold m_ref17_area
  cases hp : a.Present
  · rw [Bool.not_false, cond_true]
    have e3 : ((a.Fields.length : Int) == 0) = decide (a.Fields.length = 0) := by
      rw [Bool.eq_iff_iff]
      simp
    have hv : vA a k = (decide (a.Code = 0) && (decide (a.Minutes = 0) && decide (a.Fields.length = 0))) := by
      unfold vA
      rw [if_pos hp]
    have hpart : partN a k = [] := by
      unfold partN
      rw [if_neg (by rw [hp]; simp)]
    rw [hv, hpart, e3, show (a.Code == 0) = decide (a.Code = 0) from rfl, show (a.Minutes == 0) = decide (a.Minutes = 0) from rfl]
    cases decide (a.Code = 0) <;> cases decide (a.Minutes = 0) <;> cases decide (a.Fields.length = 0) <;> rfl
  · rw [Bool.not_true, cond_false]
    have hv : vA a k = (decide (a.Minutes < if k = 1 then 16777216 else 1) && (decide (leastN k ≤ a.Fields.length) && (decide (a.Fields.length ≤ 16) && a.Fields.all valT))) := by
      unfold vA
      rw [if_neg (by rw [hp]; simp)]
    have hpart : partN a k = areaN a k := by
      unfold partN
      rw [if_pos hp]
    have ho2 : (bnd (m_ref17_least (k : Int)) fun r1 => bif decide ((a.Fields.length : Int) < r1) then (some true) else (bif decide (a.Minutes ≥ 16777216) then (some true) else (bif ((k : Int) != 1) then (some (a.Minutes != 0)) else (some false))) : Option Bool) =
        some (!(decide (leastN k ≤ a.Fields.length) && decide (a.Minutes < if k = 1 then 16777216 else 1))) := by
      rw [ref_least hk, bnd_some]
      by_cases c1 : leastN k ≤ a.Fields.length
      · rw [decide_eq_false (by omega : ¬ (a.Fields.length : Int) < ((leastN k : Nat) : Int)), cond_false, decide_eq_true c1]
        by_cases c2 : k = 1
        · subst c2
          rw [show (((1 : Nat) : Int) != 1) = false from rfl, if_pos rfl]
          by_cases c3 : a.Minutes ≥ 16777216
          · rw [decide_eq_true c3, decide_eq_false (by omega : ¬ a.Minutes < 16777216)]
            rfl
          · rw [decide_eq_false c3, decide_eq_true (by omega : a.Minutes < 16777216)]
            rfl
        · rw [show ((k : Int) != 1) = true by simp; omega, if_neg c2]
          by_cases c3 : a.Minutes ≥ 16777216
          · rw [decide_eq_true c3, decide_eq_false (by omega : ¬ a.Minutes < 1)]
            rfl
          · rw [decide_eq_false c3]
            have : (a.Minutes != 0) = !decide (a.Minutes < 1) := by
              rw [Bool.eq_iff_iff]
              simp
              omega
            rw [this]
            rfl
      · rw [decide_eq_true (by omega : (a.Fields.length : Int) < ((leastN k : Nat) : Int)), cond_true, decide_eq_false c1]
        rfl
    rw [hv, hpart]
    refine bnd_eq ho2 ?_
    cases hA : decide (leastN k ≤ a.Fields.length)
    · rw [Bool.false_and, Bool.not_false, cond_true, Bool.false_and, Bool.and_false]
      rfl
    cases hB : decide (a.Minutes < if k = 1 then 16777216 else 1)
    · rfl
    rw [Bool.true_and, Bool.not_true, cond_false, Bool.true_and, Bool.true_and]
    refine bnd_eq (EncodeList_ref _ hs) ?_
    by_cases h16 : 16 < a.Fields.length
    · rw [if_pos h16, decide_eq_false (by omega : ¬ a.Fields.length ≤ 16)]
      rfl
    rw [if_neg h16, decide_eq_true (by omega : a.Fields.length ≤ 16), Bool.true_and]
    cases hall : a.Fields.all valT
    · rfl
    rw [if_pos rfl, if_pos rfl]
    dsimp only
    rw [show ((0 : Int) != 0) = false from rfl, cond_false]
    have hh : (bif ((k : Int) == 1) then (bnd (m_ref01_Little (IntKind.wrap .u64 a.Minutes) 3) fun r3 => bnd (app 1 ([1, 0, a.Code]) r3) fun l1 => some l1) else (some ([1, 0, a.Code])) : Option (List Int)) = some (iz (headN a k)) := by
      unfold headN
      obtain ⟨c, hc'⟩ : ∃ c : Nat, a.Code = (c : Int) := ⟨a.Code.toNat, by omega⟩
      obtain ⟨m, hm'⟩ : ∃ m : Nat, a.Minutes = (m : Int) := ⟨a.Minutes.toNat, by omega⟩
      rw [hc', hm']
      by_cases h1 : k = 1
      · subst h1
        rw [if_pos rfl, cnd_t (by rfl), wrap_u64n (by omega), Little_ref m (by omega)]
        rfl
      · rw [if_neg h1, cnd_f (by simp; omega)]
        rfl
    refine bnd_eq hh ?_
    have hn : a.Fields.length ≤ 16 := by omega
    have h1 := headN_len a k
    have h2 := encL_len a.Fields (List.all_eq_true.1 hall)
    have h3 := rawN_len (k := k) hall hn
    refine bnd_eq (app16 (by rw [List.length_append, List.length_singleton]; omega)) ?_
    generalize hL : headN a k ++ (encL a.Fields ++ [193]) = l
    have hl : l.length ≤ 1100 := by
      rw [← hL]
      simp only [List.length_append, List.length_cons, List.length_nil]
      omega
    have hraw : rawN a k = padN l := by unfold rawN; rw [hL]
    have hp8 : padn l.length < 8 := by unfold padn; omega
    refine bnd_loop (fun i => iz (l ++ List.replicate i 0)) (padn l.length) (iz (padN l)) (by simp) (fun i hi => ?_) ?_ ?_
    · have hw : ((iz (l ++ List.replicate i 0)).length : Int) = ((l.length + i : Nat) : Int) := by
        rw [iz_len, List.length_append, List.length_replicate]
      have hne : (l.length + i) % 8 ≠ 7 := by unfold padn at hi; omega
      rw [hw, show (8 : Int) = ((8 : Nat) : Int) from rfl, tmod_n, cnd_t (by simp; omega)]
      refine bnd_eq (app2 (by rw [List.length_append, List.length_replicate]; omega) 0) ?_
      rw [List.append_assoc, ← List.replicate_succ']
    · have hw : ((iz (l ++ List.replicate (padn l.length) 0)).length : Int) = ((l.length + padn l.length : Nat) : Int) := by
        rw [iz_len, List.length_append, List.length_replicate]
      have he : (l.length + padn l.length) % 8 = 7 := by unfold padn; omega
      rw [hw, show (8 : Int) = ((8 : Nat) : Int) from rfl, tmod_n, he]
      rfl
    · rw [← hraw]
      have hb : (rawN a k).length ≤ 1200 := by rw [hraw]; have := padN_len l; omega
      have hw : IntKind.wrap .i64 (((iz (rawN a k)).length : Int) + 1) = (((rawN a k).length + 1 : Nat) : Int) := by
        rw [iz_len, wrap_i64 (by omega) (by omega)]
        omega
      rw [hw, cnd_f (decide_eq_false (by omega))]
      refine bnd_eq (elt_iz (i := 1) (by omega)) ?_
      rw [show (8 : Int) = ((8 : Nat) : Int) from rfl, tdiv_n, wrap_i64n (by omega), wrap_u8n (by omega), show ((rawN a k).length + 1) / 8 = (rawN a k).length / 8 + 1 by omega]
      refine bnd_eq (setE_iz (i := 1) (by omega) _) ?_
      refine bnd_eq (Seal8_ref (lt_set (lt_rawN hr k hall) _ (by omega)) (by rw [List.length_set]; omega)) rfl
theorem ref_step {a : T_Area} (hr : AreaR a) (hs : ∀ f ∈ a.Fields, f.Value.size ≤ 400) {k : Nat} (hk : k < 3) {l : List Nat} (hl : l.length ≤ 10000) (oi : Int) (ho : oi = ((8 + l.length : Nat) : Int)) :
    (bnd (m_ref17_area (k : Int) a) fun r1 => bif !r1.2 then (some (.inl ([], false))) else (bif decide ((r1.1.length : Int) > 0) then (bnd (app 1 (iz l) r1.1) fun l1 => some (.inr (l1, IntKind.wrap .u8 (IntKind.wrap .i64 (oi.tdiv 8))))) else (bnd (app 1 (iz l) r1.1) fun l2 => some (.inr (l2, 0)))) : Option (((List Int) × Bool) ⊕ (List Int × Int))) =
      some (if vA a k = true then .inr (iz (l ++ partN a k), ((offN a l.length : Nat) : Int)) else .inl ([], false)) := by
  refine bnd_eq (area_ref hr hs hk) ?_
  cases hv : vA a k
  · rfl
  · rw [if_pos rfl, if_pos rfl]
    dsimp only
    rw [Bool.not_true, cond_false, iz_len]
    have hc := vA_can hv
    have hlen := (partN_len hc k).1
    unfold partN offN at *
    cases hp : a.Present
    · rw [if_neg (by simp), if_neg (by simp), List.append_nil]
      rw [decide_eq_false (by simp)]
      exact bnd_eq (app_iz (m := []) (by simp; omega) (by simp; omega)) (by rw [List.append_nil]; rfl)
    · rw [hp] at hlen
      rw [if_pos rfl] at hlen
      obtain ⟨h1, h2⟩ := hc hp
      have hpos := areaN_len (k := k) h1 h2
      rw [if_pos rfl, if_pos rfl, decide_eq_true (by omega : ((areaN a k).length : Int) > 0), cond_true]
      refine bnd_eq (app_iz (by omega) (by omega)) ?_
      rw [ho, show (8 : Int) = ((8 : Nat) : Int) from rfl, tdiv_n, wrap_i64n (by omega), wrap_u8_modn]
structure OkI (i : T_Info) : Prop where
  r : InfoR i
  c : ∀ f ∈ i.Chassis.Fields, f.Value.size ≤ 400
  b : ∀ f ∈ i.Board.Fields, f.Value.size ≤ 400
  p : ∀ f ∈ i.Product.Fields, f.Value.size ≤ 400
  m : i.Multi.length ≤ 3000
theorem lt_headI (i : T_Info) : lt256 (headI i) := by
  have h : ∀ (a : T_Area) n, offN a n < 256 := fun a n => by
    unfold offN
    split
    · exact Nat.mod_lt _ (by omega)
    · omega
  unfold headI
  refine .cons (by omega) (.cons (by omega) (.cons (h _ _) (.cons (h _ _) (.cons (h _ _) (.cons ?_ (.cons (by omega) .nil))))))
  split
  · exact Nat.mod_lt _ (by omega)
  · omega
theorem bytes_ref {i : T_Info} (h : OkI i) : m_ref17_bytes i = some (if vI i = true then (iz (encI i), true) else ([], false)) := by
  obtain ⟨m1, m2, m3⟩ := mul_iz h.r.m
  have hm := h.m
  unfold m_ref17_bytes
  refine bnd_eq (ref_step h.r.c h.c (k := 0) (by omega) (l := []) (by simp) 8 rfl) ?_
  cases h1 : vA i.Chassis 0
  · have : vI i = false := by unfold vI; rw [h1]; rfl
    rw [this]
    rfl
  have q1 := (partN_len (vA_can h1) 0).1
  rw [if_pos rfl, retOr_inr, List.nil_append]
  refine bnd_eq (ref_step h.r.b h.b (k := 1) (by omega) (by omega) _ (by rw [iz_len, wrap_i64 (by omega) (by omega)]; omega)) ?_
  cases h2 : vA i.Board 1
  · have : vI i = false := by unfold vI; rw [h1, h2]; rfl
    rw [this]
    rfl
  have q2 := (partN_len (vA_can h2) 1).1
  rw [if_pos rfl, retOr_inr]
  refine bnd_eq (ref_step h.r.p h.p (k := 2) (by omega) (by rw [List.length_append]; omega) _ (by rw [iz_len, List.length_append, wrap_i64 (by omega) (by omega)]; omega)) ?_
  cases h3 : vA i.Product 2
  · have : vI i = false := by unfold vI; rw [h1, h2, h3]; rfl
    rw [this]
    rfl
  have q3 := (partN_len (vA_can h3) 2).1
  rw [if_pos rfl, retOr_inr]
  dsimp only
  have hbody : (partN i.Chassis 0 ++ partN i.Board 1) ++ partN i.Product 2 = areasN i := by unfold areasN; rw [List.append_assoc]
  have hblen : (areasN i).length ≤ 3300 := by rw [← hbody]; simp only [List.length_append]; omega
  rw [hbody]
  have hel := encI_len h.r.m
  have hv : vI i = decide ((encI i).length ≤ 2048) := by unfold vI; rw [h1, h2, h3]; rfl
  have ho7 : (bif decide ((i.Multi.length : Int) > 2048) then (some true) else (some (decide ((IntKind.wrap .i64 ((IntKind.wrap .i64 (8 + ((iz (areasN i)).length : Int))) + (i.Multi.length : Int))) > 2048))) : Option Bool) = some (!vI i) := by
    rw [hv, hel, iz_len, wrap_i64 (x := 8 + ((areasN i).length : Int)) (by omega) (by omega), wrap_i64 (by omega) (by omega)]
    by_cases c1 : 2048 < i.Multi.length
    · rw [decide_eq_true (by omega : (i.Multi.length : Int) > 2048), decide_eq_false (by omega : ¬ 8 + (areasN i).length + i.Multi.length ≤ 2048)]
      rfl
    · rw [decide_eq_false (by omega : ¬ (i.Multi.length : Int) > 2048), cond_false]
      congr 1
      rw [Bool.eq_iff_iff]
      simp
      omega
  refine bnd_eq ho7 ?_
  cases hvI : vI i
  · rfl
  rw [if_pos rfl, Bool.not_true, cond_false]
  have hw : IntKind.wrap .u8 (IntKind.wrap .i64 ((IntKind.wrap .i64 (8 + ((iz (areasN i)).length : Int))).tdiv 8)) = (((8 + (areasN i).length) / 8 % 256 : Nat) : Int) := by
    rw [iz_len, show (8 : Int) + ((areasN i).length : Int) = ((8 + (areasN i).length : Nat) : Int) by omega, wrap_i64n (by omega), show (8 : Int) = ((8 : Nat) : Int) from rfl, tdiv_n, wrap_i64n (by omega), wrap_u8_modn]
  rw [hw]
  have hhead : ∀ x : Nat, ([1, 0, ((offN i.Chassis ([] : List Nat).length : Nat) : Int), ((offN i.Board (partN i.Chassis 0).length : Nat) : Int), ((offN i.Product (partN i.Chassis 0 ++ partN i.Board 1).length : Nat) : Int), ((x : Nat) : Int), 0] : List Int) =
      iz [1, 0, offN i.Chassis 0, offN i.Board (partN i.Chassis 0).length, offN i.Product ((partN i.Chassis 0).length + (partN i.Board 1).length), x, 0] := fun x => by
    rw [List.length_append]
    rfl
  have hlt := lt_headI i
  have hfin : ∀ hd : List Nat, lt256 hd → hd.length = 7 → (bnd (m_ref01_Seal8 (iz hd)) fun r4 => bnd (app 1 r4 (iz (areasN i))) fun l7 => bnd (app 1 l7 i.Multi) fun l8 => some (l8, true)) = some (iz (sealN hd ++ (areasN i ++ mulN i)), true) := fun hd hl7 hh => by
    have hsl : (sealN hd).length = 8 := by unfold sealN; rw [List.length_append, hh]; rfl
    refine bnd_eq (Seal8_ref hl7 (by omega)) ?_
    refine bnd_eq (app_iz (by omega) (by omega)) ?_
    rw [m1]
    refine bnd_eq (app_iz (by rw [List.length_append]; omega) (by rw [List.length_append]; omega)) ?_
    rw [List.append_assoc]
  unfold encI
  unfold headI at hlt ⊢
  by_cases h0 : 0 < i.Multi.length
  · rw [if_pos h0] at hlt ⊢
    rw [cnd_t (decide_eq_true (by omega)), hhead, hfin _ hlt rfl]
  · rw [if_neg h0] at hlt ⊢
    rw [cnd_f (decide_eq_false (by omega))]
    have := hhead 0
    rw [show (((0 : Nat) : Int)) = (0 : Int) from rfl] at this
    rw [this, hfin _ hlt rfl]
theorem rValid {i : T_Info} (h : OkI i) : m_ref17_Valid i = some (vI i) := by
  unfold m_ref17_Valid
  refine bnd_eq (bytes_ref h) ?_
  cases vI i <;> rfl
end Go.Proofs.YtelepclajhpnfaaGreatDoor
