/-
  The law of what is known of any units.
  Conditions: none.
-/
import Derived.Test.YtelepclajhpnfaaGreatDoorUniR
import Derived.Test.YtelepclajhpnfaaGreatDoorUniI
import Derived.Test.YtelepclajhpnfaaGreatDoorInv2
import Derived.Test.YtelepclajhpnfaaGreatDoorCrc
namespace Go.Proofs.YtelepclajhpnfaaGreatDoor
open Go
set_option linter.unusedSimpArgs false
set_option linter.unusedVariables false
theorem loop_exD {σ τ ρ : Type} {m : σ → Option (Step σ τ)} {s0 : σ} {k : τ → Option ρ} {R : ρ → Prop} (I : σ → Prop) (μ : σ → Nat) (Q : τ → Prop) (h0 : I s0)
    (h : ∀ s, I s → ∃ r, m s = some r ∧ match r with | .next s' => I s' ∧ μ s' < μ s | .done t => Q t) (hk : ∀ t, Q t → ∃ r, k t = some r ∧ R r) : ∃ r, bnd (loopM m s0) k = some r ∧ R r := by
  refine bnd_loop_inv I μ Q h0 (fun s hI => ?_) hk
  obtain ⟨r, h1, h2⟩ := h s hI
  cases r with
  | next s' => exact .inl ⟨s', h1, h2.1, h2.2⟩
  | done t => exact .inr ⟨t, h1, h2⟩
def hasN (a : T_Area) (k : Nat) : Bool := a.Present && match a.Fields[k]? with | some f => !(f.Value.toList == (⟨#[]⟩ : ByteArray).toList) | none => false
def valN (a : T_Area) (k : Nat) : ByteArray := match a.Fields[k]? with | some f => f.Value | none => ⟨#[]⟩
def serN (i : T_Info) : ByteArray := bif hasN i.Product 4 then valN i.Product 4 else bif hasN i.Board 2 then valN i.Board 2 else bif hasN i.Chassis 1 then valN i.Chassis 1 else ⟨#[]⟩
theorem has_prog (a : T_Area) (k : Nat) (ki : Int) (hk : ki = (k : Int)) (g : Option ByteArray) :
    (bnd ((bif a.Present then (bif decide (ki < (a.Fields.length : Int)) then (bnd (elt a.Fields ki) fun x1 => some (!(x1.Value.toList == ((⟨#[]⟩) : ByteArray).toList))) else (some false)) else (some false) : Option Bool)) fun o1 => bif o1 then (bnd (elt a.Fields ki) fun x2 => some x2.Value) else g) = bif hasN a k then some (valN a k) else g := by
  subst hk
  unfold hasN valN
  cases a.Present
  · rfl
  · by_cases h : k < a.Fields.length
    · rw [decide_eq_true (by omega), cond_true, cond_true, elt_lt h, List.getElem?_eq_getElem h]
      rfl
    · rw [decide_eq_false (by omega), List.getElem?_eq_none (by omega)]
      rfl
theorem has_ref (a : T_Area) (k : Nat) (j : Int) (hj : elt ([4, 2, 1] : List Int) j = some (k : Int)) (g : Option ByteArray) :
    (bnd ((bif a.Present then (bnd (elt ([4, 2, 1] : List Int) j) fun x1 => bif decide ((a.Fields.length : Int) > x1) then (bnd (elt ([4, 2, 1] : List Int) j) fun x2 => bnd (elt a.Fields x2) fun x3 => some (!(x3.Value.toList == ((⟨#[]⟩) : ByteArray).toList))) else (some false)) else (some false) : Option Bool)) fun o1 => bif o1 then (bnd (elt ([4, 2, 1] : List Int) j) fun x4 => bnd (elt a.Fields x4) fun x5 => some x5.Value) else g) = bif hasN a k then some (valN a k) else g := by
  rw [hj]
  unfold hasN valN
  cases a.Present
  · rfl
  · rw [cond_true, bnd_some, bnd_some, bnd_some]
    by_cases h : k < a.Fields.length
    · rw [decide_eq_true (by omega), cond_true, elt_lt h, List.getElem?_eq_getElem h]
      rfl
    · rw [decide_eq_false (by omega), List.getElem?_eq_none (by omega)]
      rfl
theorem Serial_prog (i : T_Info) : m_unitinfo_Serial i = some (serN i) := by
  unfold m_unitinfo_Serial
  rw [has_prog i.Product 4 4 rfl, has_prog i.Board 2 2 rfl, has_prog i.Chassis 1 1 rfl]
  unfold serN
  cases hasN i.Product 4 <;> cases hasN i.Board 2 <;> cases hasN i.Chassis 1 <;> rfl
theorem Serial_ref (i : T_Info) : m_ref17_Serial i = some (serN i) := by
  unfold m_ref17_Serial
  rw [has_ref i.Product 4 0 rfl, has_ref i.Board 2 1 rfl, has_ref i.Chassis 1 2 rfl]
  unfold serN
  cases hasN i.Product 4 <;> cases hasN i.Board 2 <;> cases hasN i.Chassis 1 <;> rfl
def cutS (t : ByteArray) : ByteArray := t.extract 0 (min (t.size : Int) 23).toNat
theorem cut_sub (t : ByteArray) : subS t 0 (min (t.size : Int) 23) = some (cutS t) := by
  unfold subS
  rw [if_pos ⟨by omega, by omega, by omega⟩]
  rfl
theorem cut_size (t : ByteArray) : (cutS t).size ≤ 23 := by
  unfold cutS
  rw [ByteArray.size_extract]
  omega
def crcV (b : List Int) : Int := IntKind.wrap .u32 (4294967295 - crcAll b)
def kOf (u : T_Unit) : T_Known := if (dI (u.Data.map Int.toNat)).2 = 0 then ⟨u.Slot, true, cutS (serN (dI (u.Data.map Int.toNat)).1), crcV u.Data⟩ else ⟨u.Slot, false, ⟨#[]⟩, crcV u.Data⟩
def okU (u : T_Unit) : Prop := ∃ m, u.Data = iz m ∧ lt256 m ∧ m.length ≤ 100000
theorem iz_nat (m : List Nat) : (iz m).map Int.toNat = m := by
  unfold iz
  rw [List.map_map]
  exact (List.map_congr_left fun x _ => rfl).trans (List.map_id m)
def fU (l : List T_Unit) (i : Nat) : Option (((List T_Known) × Int) ⊕ List T_Known) := match l[i]? with
  | none => none
  | some u => bif decide (u.Slot < 0) || decide (u.Slot ≥ 16) then some (.inl ([], 2)) else bif (decide (0 < i) && match l[i - 1]? with | some p => decide (u.Slot ≤ p.Slot) | none => false) then some (.inl ([], 1)) else none
def endU (l : List T_Unit) : (List T_Known × Int) ⊕ List T_Known := ((List.range l.length).findSome? (fU l)).getD (.inr (l.map kOf))
def disN (l : List T_Unit) : List T_Known × Int := match endU l with | .inl r => r | .inr k => (k, 0)
theorem dis_end (l : List T_Unit) : (retOr (endU l) fun o2 => some (o2, (0 : Int))) = some (disN l) := by
  unfold disN
  cases endU l <;> rfl
theorem prev_eq (l : List T_Unit) (hl : l.length ≤ 1000) {i : Nat} (hi : i < l.length) (x : T_Unit) :
    ((bif decide ((i : Int) > 0) then (bnd (elt l (IntKind.wrap .i64 ((i : Int) - 1))) fun x2 => some (decide (x.Slot ≤ x2.Slot))) else (some false) : Option Bool)) = some (decide (0 < i) && match l[i - 1]? with | some p => decide (x.Slot ≤ p.Slot) | none => false) := by
  by_cases h : 0 < i
  · rw [decide_eq_true (by omega : (i : Int) > 0), cond_true, wrap_pred h hi (by omega), elt_lt (by omega : i - 1 < l.length), bnd_some, decide_eq_true h, List.getElem?_eq_getElem (by omega : i - 1 < l.length)]
    rfl
  · rw [decide_eq_false (by omega : ¬ (i : Int) > 0), decide_eq_false h]
    rfl
theorem dis_prog {l : List T_Unit} (hl : l.length ≤ 1000) (hu : ∀ u ∈ l, okU u) : m_inventory_Discover l = some (disN l) := by
  unfold m_inventory_Discover
  refine bnd_loop_find (fun i => ((l.take i).map kOf, (i : Int))) l.length (fU l) (.inr (l.map kOf)) rfl (fun i hi => ?_) ?_ ?_
  · obtain ⟨m, hm1, hm2, hm3⟩ := hu l[i] (List.getElem_mem hi)
    have hk : kOf l[i] = if (dI m).2 = 0 then ⟨l[i].Slot, true, cutS (serN (dI m).1), crcV l[i].Data⟩ else ⟨l[i].Slot, false, ⟨#[]⟩, crcV l[i].Data⟩ := by
      unfold kOf
      rw [hm1, iz_nat]
    have hlen : ((l.take i).map kOf).length = i := by rw [List.length_map, List.length_take]; omega
    have happ : ∀ k : T_Known, app 40 ((l.take i).map kOf) [k] = some ((l.take i).map kOf ++ [k]) := fun k => app_eq (by rw [hlen]; simp; omega) (by rw [hlen]; simp; omega)
    have hnx : (l.take (i + 1)).map kOf = (l.take i).map kOf ++ [kOf l[i]] := by rw [take_succ_get hi, List.map_append]; rfl
    dsimp only
    rw [decide_eq_true (by omega : (i : Int) < (l.length : Int)), cond_true, elt_lt hi, bnd_some, slotted_eq, bnd_some, prev_eq l hl hi]
    unfold fU
    rw [List.getElem?_eq_getElem hi]
    dsimp only
    cases h1 : decide (l[i].Slot < 0) <;> cases h2 : decide (l[i].Slot ≥ 16) <;> try rfl
    simp only [Bool.not_false, Bool.and_true, Bool.not_true, Bool.or_false, cond_false, bnd_some]
    cases h3 : (decide (0 < i) && match l[i - 1]? with | some p => decide (l[i].Slot ≤ p.Slot) | none => false)
    · simp only [cond_false]
      rw [hnx, hk, prog_crc _ (by rw [hm1, iz_len]; omega), bnd_some, hm1, uDecode_prog hm2 hm3, bnd_some]
      by_cases hd : (dI m).2 = 0
      · rw [hd, if_pos rfl, BEq.rfl, cond_true, Serial_prog, bnd_some, cut_sub, bnd_some, happ, bnd_some, wrap_succ hi (by omega)]
        rfl
      · rw [if_neg hd, beq_false_of_ne hd, cond_false, happ, bnd_some, wrap_succ hi (by omega)]
        rfl
    · rfl
  · dsimp only
    rw [decide_eq_false (by omega : ¬ (l.length : Int) < (l.length : Int)), cond_false, List.take_length]
  · exact dis_end l
theorem dis_ref {l : List T_Unit} (hl : l.length ≤ 1000) (hu : ∀ u ∈ l, okU u) : m_ref19_Discover l = some (disN l) := by
  unfold m_ref19_Discover
  refine bnd_loop_find (fun i => ((l.take i).map kOf, (i : Int))) l.length (fU l) (.inr (l.map kOf)) rfl (fun i hi => ?_) ?_ ?_
  · obtain ⟨m, hm1, hm2, hm3⟩ := hu l[i] (List.getElem_mem hi)
    have hk : kOf l[i] = if (dI m).2 = 0 then ⟨l[i].Slot, true, cutS (serN (dI m).1), crcV l[i].Data⟩ else ⟨l[i].Slot, false, ⟨#[]⟩, crcV l[i].Data⟩ := by
      unfold kOf
      rw [hm1, iz_nat]
    have hlen : ((l.take i).map kOf).length = i := by rw [List.length_map, List.length_take]; omega
    have happ : ∀ k : T_Known, app 40 ((l.take i).map kOf) [k] = some ((l.take i).map kOf ++ [k]) := fun k => app_eq (by rw [hlen]; simp; omega) (by rw [hlen]; simp; omega)
    have hnx : (l.take (i + 1)).map kOf = (l.take i).map kOf ++ [kOf l[i]] := by rw [take_succ_get hi, List.map_append]; rfl
    dsimp only
    rw [decide_eq_true (by omega : (i : Int) < (l.length : Int)), cond_true, elt_lt hi, bnd_some, prev_eq l hl hi]
    unfold fU
    rw [List.getElem?_eq_getElem hi]
    dsimp only
    cases h1 : decide (l[i].Slot < 0) <;> cases h2 : decide (l[i].Slot ≥ 16) <;> try rfl
    simp only [Bool.or_false, cond_false, bnd_some]
    cases h3 : (decide (0 < i) && match l[i - 1]? with | some p => decide (l[i].Slot ≤ p.Slot) | none => false)
    · simp only [cond_false]
      rw [hnx, hk, ref_crc _ (by rw [hm1, iz_len]; omega), bnd_some, hm1, Decode_refU hm2 hm3, bnd_some]
      by_cases hd : (dI m).2 = 0
      · rw [hd, if_pos rfl, BEq.rfl, cond_true, Serial_ref, bnd_some, cut_sub, bnd_some, happ, bnd_some, wrap_succ hi (by omega)]
        rfl
      · rw [if_neg hd, beq_false_of_ne hd, cond_false, happ, bnd_some, wrap_succ hi (by omega)]
        rfl
    · rfl
  · dsimp only
    rw [decide_eq_false (by omega : ¬ (l.length : Int) < (l.length : Int)), cond_false, List.take_length]
  · exact dis_end l
theorem same_known (l : List T_Known) (hl : Short l) : m_ref19_Same l l = some true := by
  unfold m_ref19_Same
  rw [bne_self_eq_false, cond_false]
  refine bnd_loop (fun i => (i : Int)) l.length (.inr ()) rfl (fun i hi => ?_) ?_ rfl
  · have hi2 : (i : Int) < (l.length : Int) := by omega
    simp only [hi2, decide_true, cond_true, elt_lt hi, bnd_some, wrap_succ hi hl]
    simp
  · rw [decide_eq_false (by omega : ¬ (l.length : Int) < (l.length : Int))]
    rfl
theorem fU_inl {l : List T_Unit} {i : Nat} {x : (List T_Known × Int) ⊕ List T_Known} (h : fU l i = some x) : ∃ e : Int, e ≠ 0 ∧ x = .inl ([], e) := by
  unfold fU at h
  cases hg : l[i]? with
  | none => rw [hg] at h; cases h
  | some u =>
    rw [hg] at h
    dsimp only at h
    cases h1 : (decide (u.Slot < 0) || decide (u.Slot ≥ 16))
    · rw [h1, cond_false] at h
      cases h2 : (decide (0 < i) && match l[i - 1]? with | some p => decide (u.Slot ≤ p.Slot) | none => false)
      · rw [h2] at h; cases h
      · rw [h2] at h; injection h with h; exact ⟨1, by omega, h.symm⟩
    · rw [h1] at h; injection h with h; exact ⟨2, by omega, h.symm⟩
theorem kOf_slot (u : T_Unit) : (kOf u).Slot = u.Slot := by unfold kOf; split <;> rfl
theorem kOf_size (u : T_Unit) : (kOf u).Serial.size ≤ 23 := by
  unfold kOf
  split
  · exact cut_size _
  · show (0 : Nat) ≤ 23
    omega
theorem kOf_good (u : T_Unit) : (!(kOf u).Good && !decide ((kOf u).Serial = emp)) = false := by
  unfold kOf
  split
  · rfl
  · show (!false && !decide ((⟨#[]⟩ : ByteArray) = emp)) = false
    rw [decide_eq_true (show (⟨#[]⟩ : ByteArray) = emp from rfl)]
    rfl
theorem dis_valid {l : List T_Unit} : (disN l).1.length ≤ l.length ∧ ((disN l).2 = 0 → validB (disN l).1 = true) := by
  unfold disN endU
  cases hf : (List.range l.length).findSome? (fU l) with
  | some x =>
    obtain ⟨i, _, hx⟩ := List.exists_of_findSome?_eq_some hf
    obtain ⟨e, he, rfl⟩ := fU_inl hx
    exact ⟨by simp, fun h => absurd h he⟩
  | none =>
    refine ⟨by simp, fun _ => ?_⟩
    show validB (l.map kOf) = true
    unfold validB
    rw [Bool.not_eq_true', List.any_eq_false]
    intro i hi
    rw [List.length_map, List.mem_range] at hi
    have h1 := List.findSome?_eq_none_iff.1 hf i (List.mem_range.2 hi)
    unfold fU at h1
    unfold badAt
    rw [List.getElem?_eq_getElem hi] at h1
    rw [List.getElem?_map, List.getElem?_eq_getElem hi, List.getElem?_map]
    dsimp only [Option.map_some] at h1 ⊢
    have hs := kOf_size l[i]
    rw [kOf_slot, kOf_good, decide_eq_false (by omega : ¬ ((kOf l[i]).Serial.size : Int) > 23)]
    cases q1 : decide (l[i].Slot < 0) <;> cases q2 : decide (l[i].Slot ≥ 16) <;> rw [q1, q2] at h1 <;> try (cases h1; done)
    by_cases h0 : 0 < i
    · have hp : i - 1 < l.length := by omega
      rw [List.getElem?_eq_getElem hp, decide_eq_true h0] at h1
      rw [List.getElem?_eq_getElem hp, decide_eq_true h0]
      dsimp only [Option.map_some] at h1 ⊢
      rw [kOf_slot]
      cases q3 : decide (l[i].Slot ≤ l[i - 1].Slot)
      · simp
      · rw [q3] at h1; cases h1
    · rw [decide_eq_false h0]
      cases hq : l[i - 1]? <;> simp
theorem chk_units {l : List T_Unit} (hl : l.length ≤ 1000) (hu : ∀ u ∈ l, okU u) (K : Option Bool) :
    (bnd (m_inventory_Discover l) fun r20 => bnd (m_ref19_Discover l) fun r21 => bnd ((bif (r20.2 != r21.2) then (some true) else (bnd (m_ref19_Same r20.1 r21.1) fun r22 => bif !r22 then (some true) else (bif (r20.2 == 0) then (bnd (m_inventory_Valid r20.1) fun r23 => some (!r23)) else (some false))) : Option Bool)) fun o9 => bif o9 then (some false) else K) = K := by
  obtain ⟨h1, h2⟩ := dis_valid (l := l)
  have hs : Short (disN l).1 := Nat.le_trans h1 (by omega)
  rw [dis_prog hl hu, dis_ref hl hu, bnd_some, bnd_some, bne_self_eq_false, cond_false, same_known _ hs, bnd_some, Bool.not_true, cond_false, prog_valid _ hs]
  by_cases h : (disN l).2 = 0
  · rw [h2 h, h]
    rfl
  · rw [beq_false_of_ne h]
    rfl
theorem awakeD : m_law19_awake = some true := by
  unfold m_law19_awake
  simp only [m_law19_known, bnd_some]
  rw [prog_Compare _ _ (by simp [Short]) (by simp [Short])]
  have e : (if validB [(⟨0, true, ⟨#[65]⟩, 0⟩ : T_Known), ⟨1, true, ⟨#[66]⟩, 0⟩] = true ∧ validB [(⟨0, true, ⟨#[66]⟩, 0⟩ : T_Known), ⟨2, true, ⟨#[65]⟩, 0⟩] = true then (diffs [(⟨0, true, ⟨#[65]⟩, 0⟩ : T_Known), ⟨1, true, ⟨#[66]⟩, 0⟩] [(⟨0, true, ⟨#[66]⟩, 0⟩ : T_Known), ⟨2, true, ⟨#[65]⟩, 0⟩] 16, (0 : Int)) else ([], 1)) = ([(⟨4, 0, 1⟩ : T_Difference), (⟨4, 2, 0⟩ : T_Difference)], 0) := by kernel_rfl
  rw [e]
  simp only [bnd_some, beq_self_eq_true, cond_true, same_refl _ (show Short [(⟨4, 0, 1⟩ : T_Difference), (⟨4, 2, 0⟩ : T_Difference)] by simp [Short])]
theorem best_ex (s : ByteArray) (h : s.size ≤ 1000000) : ∃ r, m_ref02_Best s = some r ∧ r.1.Value.size ≤ 1000000 := by
  unfold m_ref02_Best
  refine loop_exD (fun s1 => 1 ≤ s1.2.1 ∧ s1.2.1 ≤ 4 ∧ s1.2.2.2.size ≤ 1000000) (fun s1 => (4 - s1.2.1).toNat) (fun t => t.2.2.size ≤ 1000000) ⟨by simp, by simp, by show (0 : Nat) ≤ 1000000; omega⟩ (fun s1 ⟨i1, i2, i3⟩ => ?_) (fun t ht => ?_)
  · by_cases hs : s1.2.1 ≤ 3
    · rw [decide_eq_true hs, cond_true, valid_ref ⟨_, s⟩ h, bnd_some]
      have hw : IntKind.wrap .i64 (s1.2.1 + 1) = s1.2.1 + 1 := wrap_i64 (by omega) (by omega)
      have hn : ∀ (a b : Int) (c : ByteArray), c.size ≤ 1000000 → (1 ≤ ((a, s1.2.1 + 1, b, c) : Int × Int × Int × ByteArray).2.1 ∧ ((a, s1.2.1 + 1, b, c) : Int × Int × Int × ByteArray).2.1 ≤ 4 ∧ ((a, s1.2.1 + 1, b, c) : Int × Int × Int × ByteArray).2.2.2.size ≤ 1000000) ∧ (4 - ((a, s1.2.1 + 1, b, c) : Int × Int × Int × ByteArray).2.1).toNat < (4 - s1.2.1).toNat := fun a b c hc => by dsimp only; omega
      rw [hw]
      cases hv : validF ((⟨s1.2.1, s⟩ : T_Field).Kind) (bs (⟨s1.2.1, s⟩ : T_Field).Value)
      · exact ⟨_, rfl, hn _ _ _ i3⟩
      · rw [data_ref ⟨s1.2.1, s⟩ hv, bnd_some, Bool.not_true, cond_false]
        refine bnd_ex (P := fun _ => True) ?_ fun o _ => ?_
        · cases decide (s1.1 < 0) <;> exact ⟨_, rfl, trivial⟩
        · cases o
          · exact ⟨_, rfl, hn _ _ _ i3⟩
          · exact ⟨_, rfl, hn _ _ _ h⟩
    · rw [decide_eq_false hs]
      exact ⟨_, rfl, i3⟩
  · cases decide (t.1 < 0)
    · exact ⟨_, rfl, ht⟩
    · exact ⟨_, rfl, by show (0 : Nat) ≤ 1000000; omega⟩
theorem valid_szT {f : T_Field} (h : valT f = true) : f.Value.size ≤ 126 := val_size h
theorem serial_ex (s : ByteArray) (h : s.size ≤ 1000) {c : Int} (hc : 0 ≤ c ∧ c ≤ 255) : ∃ x, m_made_SerialInfo s c = some x ∧ OkI x := by
  unfold m_made_SerialInfo
  have hsz : ∀ f : T_Field, f.Value.size ≤ 400 → OkI ⟨⟨true, c, 0, [⟨3, ⟨#[]⟩⟩, f]⟩, ⟨false, 0, 0, []⟩, ⟨false, 0, 0, []⟩, []⟩ := fun f hf => by
    have hall : ∀ g ∈ [(⟨3, ⟨#[]⟩⟩ : T_Field), f], g.Value.size ≤ 400 := fun g hg => by
      rcases List.mem_cons.1 hg with rfl | hg
      · show (0 : Nat) ≤ 400
        omega
      · rw [List.mem_singleton] at hg
        subst hg
        exact hf
    exact ⟨⟨⟨hc, by dsimp only; omega, fun g hg => Nat.le_trans (hall g hg) (by omega), by simp⟩, noneR, noneR, ⟨(fun x hx => by cases hx), by simp⟩⟩, hall, (fun g hg => by cases hg), (fun g hg => by cases hg), by simp⟩
  refine bnd_ex (best_ex s (by omega)) fun r hr => ?_
  refine bnd_ex (P := fun o : Int × ByteArray => o.2.size ≤ 1000000) ?_ fun o ho => ?_
  · cases (r.2 != 0)
    · exact ⟨_, rfl, hr⟩
    · exact ⟨_, rfl, by dsimp only; omega⟩
  rw [valid_ref ⟨o.1, o.2⟩ ho, bnd_some]
  cases hv : validF ((⟨o.1, o.2⟩ : T_Field).Kind) (bs (⟨o.1, o.2⟩ : T_Field).Value)
  · exact ⟨_, rfl, hsz ⟨0, ⟨#[]⟩⟩ (by show (0 : Nat) ≤ 400; omega)⟩
  · exact ⟨_, rfl, hsz _ (Nat.le_trans (valid_szT (f := ⟨o.1, o.2⟩) hv) (by omega))⟩
theorem enc_ex {i : T_Info} (h : OkI i) : ∃ r, m_ref17_Encode i = some r ∧ ∃ m, r.1 = iz m ∧ lt256 m ∧ m.length ≤ 2048 := by
  unfold m_ref17_Encode
  rw [bytes_ref h, bnd_some]
  cases hv : vI i
  · rw [if_neg (by simp)]
    exact ⟨_, rfl, [], rfl, (fun x hx => by cases hx), by simp⟩
  · rw [if_pos rfl]
    exact ⟨_, rfl, _, rfl, lt_encI h.r hv, (vI_parts hv).2.2.2⟩
theorem discovers_true (units : List T_Unit) (l : List Int) (hu : okL ok_T_Unit units) (_ : okL (inK .i64) l) : m_law19_InventoryDiscovers units l = some true := by
  unfold m_law19_InventoryDiscovers
  by_cases c1 : 20 < units.length
  · rw [decide_eq_true (by omega : (units.length : Int) > 20), cond_true, bnd_some, cond_true, awakeD]
    rfl
  rw [decide_eq_false (by omega : ¬ (units.length : Int) > 20), cond_false]
  by_cases hl : l.length ≤ 600
  rotate_left
  · rw [show m_made_Light l = some false by unfold m_made_Light; rw [decide_eq_false (by omega)], bnd_some, bnd_some, Bool.not_false, cond_true, awakeD]
    rfl
  rw [show m_made_Light l = some true by unfold m_made_Light; rw [decide_eq_true (by omega)], bnd_some, bnd_some, Bool.not_true, cond_false]
  refine bnd_loop_any (fun i => (i : Int)) units.length (fun i => match units[i]? with | some u => decide (300 < u.Data.length) | none => false) (.inl true) (.inr ()) rfl (fun i hi => ?_) ?_ ?_
  · rw [decide_eq_true (by omega : (i : Int) < (units.length : Int)), cond_true, elt_lt hi, bnd_some, List.getElem?_eq_getElem hi]
    dsimp only
    by_cases h : 300 < units[i].Data.length
    · rw [decide_eq_true h, decide_eq_true (by omega : (units[i].Data.length : Int) > 300), cond_true, awakeD]
      rfl
    · rw [decide_eq_false h, decide_eq_false (by omega : ¬ (units[i].Data.length : Int) > 300), cond_false, wrap_succ hi (by omega)]
      rfl
  · rw [decide_eq_false (by omega : ¬ (units.length : Int) < (units.length : Int))]
    rfl
  cases hany : (List.range units.length).any fun i => match units[i]? with | some u => decide (300 < u.Data.length) | none => false
  rotate_left
  · rfl
  rw [cond_false, retOr_inr]
  have hok : ∀ u ∈ units, okU u := fun u hm => by
    obtain ⟨i, hi, rfl⟩ := List.mem_iff_getElem.1 hm
    have h1 := List.any_eq_false.1 hany i (List.mem_range.2 hi)
    rw [List.getElem?_eq_getElem hi] at h1
    obtain ⟨m, h2, h3⟩ := okL_iz (hu.1 _ hm).2
    exact ⟨m, h3, h2, by
      have : units[i].Data.length = m.length := by rw [h3, iz_len]
      have : ¬ 300 < units[i].Data.length := by simpa using h1
      omega⟩
  suffices h : ∃ r, (_ : Option Bool) = some r ∧ r = true by
    obtain ⟨r, h1, rfl⟩ := h
    exact h1
  rw [show m_made_Roll l = some ⟨l, 0⟩ from rfl, bnd_some]
  refine bnd_ex (next_ex ⟨l, 0⟩ 3 (roll_fair l hl) (by omega) (by omega)) fun r5 ⟨f5, g5, k5⟩ => ?_
  refine loop_exD (fun s => Fair ⟨s.2.2.1, s.2.2.2⟩ ∧ 0 ≤ s.2.1 ∧ s.2.1 ≤ 30 ∧ (s.1.length : Int) ≤ s.2.1 ∧ ∀ u ∈ s.1, okU u) (fun s => (30 - s.2.1).toNat) (fun t => Fair ⟨t.2.1, t.2.2⟩ ∧ t.1.length ≤ 30 ∧ ∀ u ∈ t.1, okU u) ⟨f5, g5, by dsimp only; omega, by simpa using g5, fun u hm => by cases hm⟩ (fun s ⟨i1, i2, i3, i4, i5⟩ => ?_) (fun t ⟨t1, t2, t3⟩ => ?_)
  · by_cases hs : s.2.1 < 16
    · rw [decide_eq_true hs, cond_true]
      refine bnd_ex (info_ex _ i1) fun r6 ⟨f6, g6, _, _, _, _, _⟩ => ?_
      refine bnd_ex (enc_ex g6) fun r7 h7 => ?_
      refine bnd_ex (P := fun o : List Int × List Int × Int => Fair ⟨o.2.1, o.2.2⟩ ∧ ∃ m, o.1 = iz m ∧ lt256 m ∧ m.length ≤ 2048) ?_ fun o5 ⟨p1, m5, p2, p3, p4⟩ => ?_
      · refine bnd_ex (bool_ex r6.1 3 f6 (by omega) (by omega)) fun r8 f8 => ?_
        cases r8.2
        · exact ⟨_, rfl, f8, h7⟩
        · rw [cond_true]
          refine bnd_ex (next_ex r8.1 30 f8 (by omega) (by omega)) fun r9 ⟨f9, g9, k9⟩ => ?_
          refine bnd_ex (text_ex r9.1 _ r9.2 f9 (by decide) (by decide) g9 (by omega)) fun r10 ⟨f10, g10, _⟩ => ?_
          refine bnd_ex (byte_ex r10.1 f10) fun r11 ⟨f11, n, hn, hne⟩ => ?_
          refine bnd_ex (serial_ex r10.2 (by rw [← bs_len]; omega) (by omega : 0 ≤ r11.2 ∧ r11.2 ≤ 255)) fun r12 h12 => ?_
          refine bnd_ex (enc_ex h12) fun r13 h13 => ?_
          exact ⟨_, rfl, f11, h13⟩
      refine bnd_ex (P := fun o : List Int × List Int × Int => Fair ⟨o.2.1, o.2.2⟩ ∧ ∃ m, o.1 = iz m ∧ lt256 m ∧ m.length ≤ 2048) ?_ fun o6 ⟨q1, m6, q2, q3, q4⟩ => ?_
      · refine bnd_ex (P := fun o : Bool × List Int × Int => Fair ⟨o.2.1, o.2.2⟩ ∧ (o.1 = true → 0 < m5.length)) ?_ fun o7 ⟨w1, w2⟩ => ?_
        · refine bnd_ex (bool_ex ⟨o5.2.1, o5.2.2⟩ 6 p1 (by omega) (by omega)) fun r14 f14 => ?_
          cases r14.2
          · exact ⟨_, rfl, f14, fun h => by cases h⟩
          · refine ⟨_, rfl, f14, fun h => ?_⟩
            have := of_decide_eq_true h
            rw [p2, iz_len] at this
            omega
        · cases ho : o7.1
          · exact ⟨_, rfl, w1, m5, p2, p3, p4⟩
          · have h0 := w2 ho
            rw [cond_true, p2, iz_len]
            refine bnd_ex (next_ex ⟨o7.2.1, o7.2.2⟩ (m5.length : Int) w1 (by omega) (by omega)) fun r15 ⟨f15, g15, k15⟩ => ?_
            refine bnd_ex (byte_ex r15.1 f15) fun r16 ⟨f16, n, hn, hne⟩ => ?_
            obtain ⟨k, hk⟩ : ∃ k : Nat, r15.2 = (k : Int) := ⟨r15.2.toNat, by omega⟩
            rw [hk, hne, elt_gN (by omega), bnd_some, setE_iz (by omega), bnd_some]
            exact ⟨_, rfl, f16, _, rfl, lt_set p3 _ hn, by rw [List.length_set]; exact p4⟩
      rw [app_eq (by simp; omega) (by simp; omega), bnd_some]
      refine bnd_ex (next_ex ⟨o6.2.1, o6.2.2⟩ 6 q1 (by omega) (by omega)) fun r17 ⟨f17, g17, k17⟩ => ?_
      rw [wrap_i64 (x := 1 + r17.2) (by omega) (by omega), wrap_i64 (by omega) (by omega)]
      refine ⟨_, rfl, ⟨f17, by dsimp only; omega, by dsimp only; omega, ?_, ?_⟩, by dsimp only; omega⟩
      · dsimp only
        rw [List.length_append]
        simp only [List.length_cons, List.length_nil]
        omega
      · intro u hm
        rcases List.mem_append.1 hm with hm | hm
        · exact i5 u hm
        · rw [List.mem_singleton] at hm
          subst hm
          exact ⟨m6, q2, q3, by omega⟩
    · rw [decide_eq_false hs]
      exact ⟨_, rfl, i1, by dsimp only; omega, i5⟩
  · refine bnd_ex (P := fun o : List T_Unit × List Int × Int => o.1.length ≤ 31 ∧ ∀ u ∈ o.1, okU u) ?_ fun o8 ⟨w1, w2⟩ => ?_
    · refine bnd_ex (bool_ex ⟨t.2.1, t.2.2⟩ 10 t1 (by omega) (by omega)) fun r18 f18 => ?_
      cases r18.2
      · exact ⟨_, rfl, by dsimp only; omega, t3⟩
      · rw [cond_true]
        refine bnd_ex (next_ex r18.1 20 f18 (by omega) (by omega)) fun r19 ⟨f19, g19, k19⟩ => ?_
        rw [app_eq (by simp; omega) (by simp; omega), bnd_some]
        refine ⟨_, rfl, by simp; omega, fun u hm => ?_⟩
        rcases List.mem_append.1 hm with hm | hm
        · exact t3 u hm
        · rw [List.mem_singleton] at hm
          subst hm
          exact ⟨[], rfl, (fun x hx => by cases hx), by simp⟩
    rw [chk_units (by omega) hok, chk_units (by omega) w2, awakeD]
    exact ⟨_, rfl, rfl⟩
end Go.Proofs.YtelepclajhpnfaaGreatDoor
