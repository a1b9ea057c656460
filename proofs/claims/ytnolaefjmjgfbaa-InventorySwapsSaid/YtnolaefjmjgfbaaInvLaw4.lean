/-
  The law of exchanged inventories answers true.
  Conditions: none.
-/
import Derived.Test.YtnolaefjmjgfbaaInvLaw3
namespace Go.Proofs.Ytnolaefjmjgfbaa
open Go
set_option linter.unusedSimpArgs false
set_option linter.unusedVariables false

theorem sameK_refl (k : T_Known) : sameK k k = true := by simp [sameK]

theorem fr_self {a : List T_Known} (ha : validB a = true) {s : Int} (hs : 0 ≤ s) : (fr a a s != -1) = true → fr a a s = s := fun h => by
  rcases fr_cases (b := a) ha s with h1 | h1
  · rw [h1] at h; simp at h
  · have h2 := fr_to ha ha h1 rfl
    unfold fr at h1 ⊢
    cases hn : (atS a s).2
    · rw [hn] at h1; simp at h1; 
    · rw [hn] at h1
      simp only [cond_true] at h1 ⊢
      have m1 := atS_mem hn
      have m2 := atS_slot hn
      unfold orig at h1 ⊢
      split
      · rename_i hc
        obtain ⟨k, k1, k2, k3, k4⟩ := idd_find hc.1
        rw [k3, ← k4 _ m1 rfl]
        exact m2
      · rename_i hc
        rw [if_neg hc] at h1
        omega

theorem diffs_self {a : List T_Known} (ha : validB a = true) : diffs a a 16 = [] := by
  unfold diffs
  rw [List.flatMap_eq_nil_iff]
  intro i _
  rw [diffAt_eq ha (by omega)]
  have h := fr_self ha (s := (i : Int)) (by omega)
  rw [sameK_refl]
  cases h1 : (fr a a (i : Int) != -1)
  · have h2 : (fr a a (i : Int) == (i : Int)) = false := by
      simp only [bne_eq_false_iff_eq] at h1
      rw [h1, Bool.eq_iff_iff]; simp
    rw [h2]
    cases un a a (i : Int) <;> simp
  · have h3 := h h1
    rw [h3]
    cases un a a (i : Int) <;> simp

theorem diffAt_slot {a b : List T_Known} {s : Int} (ha : validB a = true) (hs : 0 ≤ s) {d : T_Difference} (h : d ∈ diffAt a b s) : d.Slot = s := by
  rw [diffAt_eq ha hs, List.mem_append] at h
  have one : ∀ (c : Bool) (x : T_Difference), d ∈ (bif c then [x] else []) → d = x := fun c x h => by cases c <;> simp at h; exact h
  rcases h with h | h
  · rw [one _ _ h]
  · cases h1 : (fr a b s != -1 && fr a b s != s)
    · rw [h1, cond_false] at h
      cases h2 : (fr a b s == s)
      · rw [h2, cond_false] at h
        cases h3 : (un b a s && !un a b s)
        · rw [h3, cond_false] at h; rw [one _ _ h]
        · rw [h3] at h; simp at h; rw [h]
      · rw [h2, cond_true] at h; rw [one _ _ h]
    · rw [h1] at h; simp at h; rw [h]

theorem diffAt_moved {a b : List T_Known} {s : Int} (ha : validB a = true) (hs : 0 ≤ s) {d : T_Difference} (h : d ∈ diffAt a b s) (hk : d.Kind = 4) : d = ⟨4, s, fr a b s⟩ ∧ 0 ≤ fr a b s ∧ fr a b s ≠ s := by
  rw [diffAt_eq ha hs, List.mem_append] at h
  have one : ∀ (c : Bool) (x : T_Difference), d ∈ (bif c then [x] else []) → d = x := fun c x h => by cases c <;> simp at h; exact h
  rcases h with h | h
  · rw [one _ _ h] at hk; simp at hk
  · cases h1 : (fr a b s != -1 && fr a b s != s)
    · rw [h1, cond_false] at h
      cases h2 : (fr a b s == s)
      · rw [h2, cond_false] at h
        cases h3 : (un b a s && !un a b s)
        · rw [h3, cond_false] at h; rw [one _ _ h] at hk; simp at hk
        · rw [h3] at h; simp at h; rw [h] at hk; simp at hk
      · rw [h2, cond_true] at h; rw [one _ _ h] at hk; simp at hk
    · rw [h1] at h
      simp only [cond_true, List.mem_singleton] at h
      simp only [Bool.and_eq_true, bne_iff_ne] at h1
      rcases fr_cases (b := b) ha s with h4 | h4
      · exact absurd h4 h1.1
      · exact ⟨h, h4, h1.2⟩

theorem moved_mem {a b : List T_Known} {s : Int} (ha : validB a = true) (hs : 0 ≤ s) (h1 : 0 ≤ fr a b s) (h2 : fr a b s ≠ s) : (⟨4, s, fr a b s⟩ : T_Difference) ∈ diffAt a b s := by
  rw [diffAt_eq ha hs, List.mem_append]
  right
  have h : (fr a b s != -1 && fr a b s != s) = true := by
    simp only [Bool.and_eq_true, bne_iff_ne]
    exact ⟨by omega, h2⟩
  rw [h]
  simp

theorem mem_diffs {a b : List T_Known} {n : Nat} {d : T_Difference} : d ∈ diffs a b n ↔ ∃ i, i < n ∧ d ∈ diffAt a b (i : Int) := by
  unfold diffs
  rw [List.mem_flatMap]
  simp

theorem diffs_sorted {a b : List T_Known} (ha : validB a = true) : ∀ n, (diffs a b n).Pairwise fun x y => x.Slot ≤ y.Slot
  | 0 => List.Pairwise.nil
  | n + 1 => by
    rw [diffs_succ, List.pairwise_append]
    refine ⟨diffs_sorted ha n, List.pairwise_iff_forall_sublist.2 fun {x y} h => ?_, fun x hx y hy => ?_⟩
    · have h1 := diffAt_slot ha (by omega) (h.subset (List.mem_cons_self ..) : x ∈ diffAt a b (n : Int))
      have h2 := diffAt_slot ha (by omega) (h.subset (by simp) : y ∈ diffAt a b (n : Int))
      omega
    · obtain ⟨i, hi, h1⟩ := mem_diffs.1 hx
      have h1 := diffAt_slot ha (by omega) h1
      have h2 := diffAt_slot ha (by omega) hy
      omega

/-- Each move has one the other way round. -/
theorem move_back {a b : List T_Known} (ha : validB a = true) (hb : validB b = true) {d : T_Difference} (h : d ∈ diffs a b 16) (hk : d.Kind = 4) : (diffs b a 16).any (fun x => (x.Kind == 4) && ((x.Slot == d.From) && (x.From == d.Slot))) = true := by
  obtain ⟨i, hi, h1⟩ := mem_diffs.1 h
  obtain ⟨rfl, h2, h3⟩ := diffAt_moved ha (by omega) h1 hk
  have h4 := fr_to ha hb h2 rfl
  obtain ⟨k, hk2⟩ := Int.eq_ofNat_of_zero_le h2
  rw [List.any_eq_true]
  refine ⟨⟨4, fr a b (i : Int), fr b a (fr a b (i : Int))⟩, mem_diffs.2 ⟨k, by omega, ?_⟩, by rw [h4.1]; simp⟩
  rw [hk2] at h4 ⊢
  exact moved_mem hb (by omega) (by rw [h4.1]; omega) (by rw [h4.1]; omega)

theorem turns_true (l m : List Int) : m_law19_InventoryTurns l m = some true := by
  unfold m_law19_InventoryTurns
  simp only [made_light, bnd_some, awake_true]
  by_cases hl : l.length ≤ 600
  · by_cases hm : m.length ≤ 600
    · obtain ⟨d1, x, e1, _, x1, vx⟩ := inventory_some ⟨l, 0⟩ (roll_fair l hl)
      obtain ⟨d2, y, e2, _, y1, vy⟩ := inventory_some ⟨m, 0⟩ (roll_fair m hm)
      have hx : Short x := short_of x1 (by omega)
      have hy : Short y := short_of y1 (by omega)
      have la := diffs_len x y 16
      have lb := diffs_len y x 16
      have sa : Short (diffs x y 16) := short_of la (by omega)
      have sb : Short (diffs y x 16) := short_of lb (by omega)
      have k12 := kind1 vx vy
      have k21 := kind1 vy vx
      have k3 := kind3 vx vy
      have k4 := kind4 vx vy
      have k5 := kind5 vx vy
      have hlen := lens vx vy
      have c1 : cK (diffs x y 16) 1 ≤ (diffs x y 16).length := List.countP_le_length
      have c2 : cK (diffs x y 16) 2 ≤ (diffs x y 16).length := List.countP_le_length
      have hw : IntKind.wrap .i64 (IntKind.wrap .i64 ((x.length : Int) + (cK (diffs x y 16) 1 : Int)) - (cK (diffs x y 16) 2 : Int)) = (y.length : Int) := by
        rw [wrap_i64 (x := (x.length : Int) + _) (by omega) (by omega), wrap_i64 (by omega) (by omega)]
        omega
      have hw' := hw
      rw [k12] at hw'
      simp only [hl, hm, decide_true, Bool.not_true, cond_false, m_made_Roll, bnd_some, e1, e2, prog_Compare _ _ hx hx, prog_Compare _ _ hx hy, prog_Compare _ _ hy hx, vx, vy, and_self, if_true, diffs_self vx, List.length_nil, bne_self_eq_false, law_count _ _ sa, law_count _ _ sb, hw', k12, k21, k3, k4, k5, Int.natCast_zero, Int.ofNat_zero]
      generalize hA : diffs x y 16 = A at *
      generalize hB : diffs y x 16 = B at *
      rw [show ((0 : Int)) = ((0 : Nat) : Int) from rfl, loop_run (fun i => (i : Int)) A.length (t := .inr ()) (fun i hi => ?_) (by simp)]
      · rfl
      · have hi2 : (i : Int) < (A.length : Int) := by omega
        simp only [hi2, decide_true, cond_true, elt_lt hi, bnd_some, wrap_succ hi sa]
        have hs : (bif decide ((i : Int) > ((0 : Nat) : Int)) then (bnd (elt A (IntKind.wrap .i64 ((i : Int) - 1))) fun x2 => some (decide (A[i].Slot < x2.Slot))) else (some false) : Option Bool) = some false := by
          by_cases h0 : i = 0
          · subst h0; rfl
          · have h00 : (i : Int) > ((0 : Nat) : Int) := by omega
            have hp : i - 1 < A.length := by omega
            simp only [h00, decide_true, cond_true, wrap_pred (by omega) hi sa, elt_lt hp, bnd_some]
            have := List.pairwise_iff_getElem.1 (hA ▸ diffs_sorted (b := y) vx 16) (i - 1) i hp hi (by omega)
            congr 1
            simp
            omega
        rw [hs]
        simp only [bnd_some, cond_false]
        by_cases hk : A[i].Kind = 4
        · have hk2 : (A[i].Kind != 4) = false := by simp [hk]
          rw [hk2]
          simp only [cond_false]
          let p : T_Difference → Bool := fun z => (z.Kind == 4) && ((z.Slot == A[i].From) && (z.From == A[i].Slot))
          rw [show (false, ((0 : Nat) : Int)) = (fun k : Nat => ((B.take k).any p, (k : Int))) 0 from by simp, loop_run (fun k : Nat => ((B.take k).any p, (k : Int))) B.length (t := B.any p) (fun k hk3 => ?_) (by simp)]
          · have hmem : A[i] ∈ diffs x y 16 := by rw [hA]; exact List.getElem_mem hi
            have hf := move_back vx vy hmem hk
            rw [hB] at hf
            have : B.any p = true := hf
            rw [this]
            rfl
          · have hk4 : (k : Int) < (B.length : Int) := by omega
            have et : (B.take (k + 1)).any p = ((B.take k).any p || p B[k]) := by
              rw [take_succ_get hk3, List.any_append]
              simp
            simp only [hk4, decide_true, cond_true, elt_lt hk3, bnd_some, wrap_succ hk3 sb, et]
            generalize (B.take k).any p = q
            show (bif q then some (Step.next (true, _)) else bif B[k].Kind == 4 then bif B[k].Slot == A[i].From then some (Step.next (B[k].From == A[i].Slot, _)) else some (Step.next (false, _)) else some (Step.next (false, _))) = some (Step.next (q || ((B[k].Kind == 4) && ((B[k].Slot == A[i].From) && (B[k].From == A[i].Slot))), _))
            cases q <;> cases (B[k].Kind == 4) <;> cases (B[k].Slot == A[i].From) <;> rfl
        · have hk2 : (A[i].Kind != 4) = true := by simp [hk]
          rw [hk2]
          rfl
    · simp [hl, hm]
  · simp [hl]

end Go.Proofs.Ytnolaefjmjgfbaa
