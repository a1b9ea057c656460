/-
  The law of the events of differences answers true.
  Conditions: none.
-/
import Derived.Test.YtnolaefjmjgfbaaInvLaw1
namespace Go.Proofs.Ytnolaefjmjgfbaa
open Go
set_option linter.unusedSimpArgs false
set_option linter.unusedVariables false

/-- What is wrong with a difference. -/
def badD (d : T_Difference) : Bool := decide (d.Kind < 1) || (decide (d.Kind > 5) || (decide (d.Slot < 0) || decide (d.Slot ≥ 16)))
def evS (d : T_Difference) : T_Event := ⟨0, 0, 32, 37, IntKind.wrap .u8 d.Slot, 111, !(d.Kind != 2), ⟨IntKind.wrap .u8 0, IntKind.wrap .u8 d.Kind, 255⟩⟩

theorem prog_State (n : Int) (q : Bool) : m_event_State 37 n 0 q = some (⟨0, 0, 32, 37, n, 111, !q, ⟨IntKind.wrap .u8 0, 255, 255⟩⟩, 0) := rfl
theorem ref_State (n : Int) (q : Bool) : m_ref07_State 37 n 0 q = some (⟨0, 0, 32, 37, n, 111, !q, ⟨IntKind.wrap .u8 0, 255, 255⟩⟩, 0) := rfl

def evList (l : List T_Difference) : List T_Event × Int := if l.any badD then ([], 2) else (l.map evS, 0)

theorem events_loop {m : List T_Event × Int → Option (Step (List T_Event × Int) (((List T_Event) × Int) ⊕ List T_Event))} (l : List T_Difference)
    (hs : ∀ i (h : i < l.length), m ((l.take i).map evS, (i : Int)) = some (bif badD l[i] then .done (.inl ([], 2)) else .next ((l.take (i + 1)).map evS, ((i + 1 : Nat) : Int)))) (hd : m (l.map evS, (l.length : Int)) = some (.done (.inr (l.map evS)))) :
    (bnd (loopM m ([], 0)) fun o1 => retOr o1 fun o2 => some (o2, (0 : Int))) = some (evList l) := by
  rw [show (([] : List T_Event), (0 : Int)) = (fun i : Nat => ((l.take i).map evS, (i : Int))) 0 from rfl, loop_any (fun i : Nat => ((l.take i).map evS, (i : Int))) l.length (fun i => match l[i]? with | some x => badD x | none => false) (u := .inl ([], 2)) (t := .inr (l.map evS)) (fun i hi => by
    rw [hs i hi, List.getElem?_eq_getElem hi]) (by simpa using hd), any_range l badD _ (fun i h => by rw [List.getElem?_eq_getElem h])]
  unfold evList
  cases l.any badD <;> rfl

theorem prog_Events (l : List T_Difference) (hl : l.length ≤ 1000000) : m_inventory_Events l = some (evList l) := by
  unfold m_inventory_Events
  refine events_loop l (fun i hi => ?_) (by simp)
  have hi2 : (i : Int) < (l.length : Int) := by omega
  have e : app 20 ((l.take i).map evS) [(⟨0, 0, 32, 37, IntKind.wrap .u8 l[i].Slot, 111, !(l[i].Kind != 2), (⟨IntKind.wrap .u8 0, IntKind.wrap .u8 l[i].Kind, 255⟩ : (Arr3 Int))⟩ : T_Event)] = some ((l.take (i + 1)).map evS) := by
    rw [app_eq (by simp; omega) (by simp; omega), take_succ_get hi, List.map_append]
    rfl
  simp only [hi2, decide_true, cond_true, elt_lt hi, bnd_some, prog_State, e, wrap_succ hi (show l.length ≤ 140737488355328 by omega), slotted_eq]
  unfold badD
  generalize decide (l[i].Kind < 1) = b1
  generalize decide (l[i].Kind > 5) = b2
  generalize decide (l[i].Slot < 0) = b3
  generalize decide (l[i].Slot ≥ 16) = b4
  cases b1 <;> cases b2 <;> cases b3 <;> cases b4 <;> rfl

theorem ref_Events (l : List T_Difference) (hl : l.length ≤ 1000000) : m_ref19_Events l = some (evList l) := by
  unfold m_ref19_Events
  refine events_loop l (fun i hi => ?_) (by simp)
  have hi2 : (i : Int) < (l.length : Int) := by omega
  have e : app 20 ((l.take i).map evS) [(⟨0, 0, 32, 37, IntKind.wrap .u8 l[i].Slot, 111, !(l[i].Kind != 2), (⟨IntKind.wrap .u8 0, IntKind.wrap .u8 l[i].Kind, 255⟩ : (Arr3 Int))⟩ : T_Event)] = some ((l.take (i + 1)).map evS) := by
    rw [app_eq (by simp; omega) (by simp; omega), take_succ_get hi, List.map_append]
    rfl
  simp only [hi2, decide_true, cond_true, elt_lt hi, bnd_some, ref_State, e, wrap_succ hi (show l.length ≤ 140737488355328 by omega)]
  unfold badD
  generalize decide (l[i].Kind < 1) = b1
  generalize decide (l[i].Kind > 5) = b2
  generalize decide (l[i].Slot < 0) = b3
  generalize decide (l[i].Slot ≥ 16) = b4
  cases b1 <;> cases b2 <;> cases b3 <;> cases b4 <;> rfl

theorem sameList_refl (l : List T_Event) (hl : Short l) : m_ref07_SameList l l = some true := by
  unfold m_ref07_SameList
  simp only [bne_self_eq_false, cond_false]
  rw [show ((0 : Int)) = ((0 : Nat) : Int) from rfl, loop_run (fun i => (i : Int)) l.length (t := .inr ()) (fun i hi => ?_) (by simp)]
  · rfl
  · have hi2 : (i : Int) < (l.length : Int) := by omega
    simp only [hi2, decide_true, cond_true, elt_lt hi, bnd_some, wrap_succ hi hl]
    simp

theorem evList_short (l : List T_Difference) (hl : l.length ≤ 1000000) : Short (evList l).1 := by
  unfold evList
  split
  · simp [Short]
  · unfold Short; simp; omega

theorem events_some (l : List T_Difference) (hl : l.length ≤ 1000000) : m_inventory_Events l = some (evList l) ∧ m_ref19_Events l = some (evList l) ∧ m_ref07_SameList (evList l).1 (evList l).1 = some true :=
  ⟨prog_Events l hl, ref_Events l hl, sameList_refl _ (evList_short l hl)⟩

noncomputable def evStep : List T_Difference × Int × List Int × Int → Option (Step (List T_Difference × Int × List Int × Int) (List T_Difference × List Int × Int)) := (fun (s1 : List T_Difference × Int × List Int × Int) => bif decide (s1.2.1 > 0) then (bnd (m_made_Dice_Next (⟨s1.2.2.1, s1.2.2.2⟩ : T_Dice) 5) fun r5 => bnd (m_made_Dice_Next r5.1 16) fun r6 => bnd (m_made_Dice_Next r6.1 9) fun r7 => bnd ((bnd (m_made_Dice_Bool r7.1 40) fun r8 => bif r8.2 then (bnd (m_made_Dice_Next r8.1 8) fun r9 => some (IntKind.wrap .i64 (r9.2 - 1), r9.1.L, r9.1.At)) else (some (IntKind.wrap .i64 (1 + r5.2), r8.1.L, r8.1.At)) : Option (Int × List Int × Int))) fun o3 => bnd (m_made_Dice_Bool (⟨o3.2.1, o3.2.2⟩ : T_Dice) 40) fun r10 => bif r10.2 then (bnd (m_made_Dice_Next r10.1 19) fun r11 => bnd (app 24 s1.1 ([(⟨o3.1, IntKind.wrap .i64 (r11.2 - 2), r7.2⟩ : T_Difference)])) fun l1 => some (.next (l1, IntKind.wrap .i64 (s1.2.1 - 1), r11.1.L, r11.1.At))) else (bnd (app 24 s1.1 ([(⟨o3.1, r6.2, r7.2⟩ : T_Difference)])) fun l2 => some (.next (l2, IntKind.wrap .i64 (s1.2.1 - 1), r10.1.L, r10.1.At)))) else (some (.done (s1.1, s1.2.2.1, s1.2.2.2))))

def EvI (s : List T_Difference × Int × List Int × Int) : Prop := Fair ⟨s.2.2.1, s.2.2.2⟩ ∧ 0 ≤ s.2.1 ∧ (s.1.length : Int) + s.2.1 ≤ 12

theorem ev_step (s : List T_Difference × Int × List Int × Int) (hI : EvI s) : (∃ s', evStep s = some (.next s') ∧ EvI s' ∧ s'.2.1.toNat < s.2.1.toNat) ∨ ∃ t, evStep s = some (.done t) ∧ t.1.length ≤ 12 := by
  obtain ⟨out, k, L, at_⟩ := s
  obtain ⟨i1, i2, i3⟩ := hI
  unfold evStep
  simp only at i1 i2 i3 ⊢
  by_cases hk : k > 0
  · left
    simp only [hk, decide_true, cond_true]
    obtain ⟨d5, b5, e5, f5, _, _⟩ := next_some ⟨L, at_⟩ 5 i1 (by omega) (by omega)
    obtain ⟨d6, b6, e6, f6, _, _⟩ := next_some d5 16 f5 (by omega) (by omega)
    obtain ⟨d7, b7, e7, f7, _, _⟩ := next_some d6 9 f6 (by omega) (by omega)
    obtain ⟨d8, b8, e8, f8⟩ := bool_some d7 40 f7 (by omega) (by omega)
    have happ : ∀ x : T_Difference, app 24 out [x] = some (out ++ [x]) := fun x => app_eq (by simp; omega) (by simp; omega)
    simp only [e5, bnd_some, e6, e7, e8]
    have h3 : ∃ o3 : Int × List Int × Int, (bif b8 then (bnd (m_made_Dice_Next d8 8) fun r9 => some (IntKind.wrap .i64 (r9.2 - 1), r9.1.L, r9.1.At)) else (some (IntKind.wrap .i64 (1 + b5), d8.L, d8.At))) = some o3 ∧ Fair ⟨o3.2.1, o3.2.2⟩ := by
      cases b8
      · exact ⟨_, rfl, f8⟩
      · obtain ⟨d9, b9, e9, f9, _, _⟩ := next_some d8 8 f8 (by omega) (by omega)
        rw [cond_true, e9]
        exact ⟨_, rfl, f9⟩
    obtain ⟨o3, e3, f3⟩ := h3
    rw [e3, bnd_some]
    obtain ⟨d10, b10, e10, f10⟩ := bool_some ⟨o3.2.1, o3.2.2⟩ 40 f3 (by omega) (by omega)
    rw [e10, bnd_some]
    cases b10
    · simp only [cond_false, happ, bnd_some]
      rw [wrap_i64 (x := k - 1) (by omega) (by omega)]
      refine ⟨_, rfl, ⟨f10, by simp only; omega, ?_⟩, by simp only; omega⟩
      simp only [List.length_append, List.length_singleton]; omega
    · obtain ⟨d11, b11, e11, f11, _, _⟩ := next_some d10 19 f10 (by omega) (by omega)
      simp only [cond_true, e11, happ, bnd_some]
      rw [wrap_i64 (x := k - 1) (by omega) (by omega)]
      refine ⟨_, rfl, ⟨f11, by simp only; omega, ?_⟩, by simp only; omega⟩
      simp only [List.length_append, List.length_singleton]; omega
  · right
    simp only [hk, decide_false, cond_false]
    exact ⟨_, rfl, by simp only; omega⟩

theorem events_true (l : List T_Difference) (n : List Int) : m_law19_InventoryEvents l n = some true := by
  unfold m_law19_InventoryEvents
  simp only [made_light, bnd_some, awake_true]
  by_cases hl : l.length ≤ 60
  · have hl2 : ¬ ((l.length : Int) > 60) := by omega
    by_cases hn : n.length ≤ 600
    · obtain ⟨d4, b4, e4, f4, g4, k4⟩ := next_some ⟨n, 0⟩ 12 (roll_fair n hn) (by omega) (by omega)
      obtain ⟨t, ht, hq⟩ := loop_inv (m := evStep) EvI (fun s => s.2.1.toNat) (fun t => t.1.length ≤ 12) ev_step ([], b4, d4.L, d4.At) ⟨f4, g4, by simp; omega⟩
      unfold evStep at ht
      obtain ⟨p1, q1, r1⟩ := events_some l (by omega)
      obtain ⟨p2, q2, r2⟩ := events_some t.1 (by omega)
      simp only [hl2, hn, decide_true, decide_false, cond_false, Bool.not_true, bnd_some, m_made_Roll, e4, ht, p1, q1, r1, p2, q2, r2, bne_self_eq_false]
    · simp [hl2, hn]
  · have hl2 : ((l.length : Int) > 60) := by omega
    simp [hl2]

end Go.Proofs.Ytnolaefjmjgfbaa
