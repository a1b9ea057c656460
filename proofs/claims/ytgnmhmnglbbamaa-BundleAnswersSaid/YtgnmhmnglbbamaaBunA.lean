/-
  The law of the answers.
  Conditions: none.
-/
import Derived.Test.YtgnmhmnglbbamaaBunC
import Derived.Test.YtgnmhmnglbbamaaGenBundleAnswers
namespace Go.Proofs.Ytgnmhmnglbbamaa
open Go
set_option linter.unusedSimpArgs false
set_option linter.unusedVariables false

theorem Find_ref (b : T_Bundle) (s : ByteArray) (hn : b.Images.length ≤ 1000000) : m_ref28_Find b s = some (findB b.Images s) := by
  unfold m_ref28_Find
  refine find_both b.Images s hn _ (fun i hi => ?_) (by simp)
  rw [show decide ((i : Int) < (b.Images.length : Int)) = true from decide_eq_true (by omega), cond_true]
  refine bnd_eq (elt_lt hi) ?_
  cases (b.Images[i].Name.toList == s.toList) <;> rfl


theorem small_ok (b : T_Bundle) : ∃ r, m_law28_small b = some r ∧ (r = true → b.Images.length ≤ 20) := by
  unfold m_law28_small
  refine bnd_loop_inv (fun s => 0 ≤ s.2 ∧ s.2 ≤ 20) (fun s => (20 - s.2).toNat) (fun _ => True) ⟨by decide, by decide⟩ (fun s hs => ?_) fun t _ => ?_
  · obtain ⟨n, i⟩ := s
    obtain ⟨h0, h1⟩ := hs
    dsimp only at h0 h1 ⊢
    by_cases hi : i < (b.Images.length : Int) ∧ i < 20
    · left
      obtain ⟨x, e1, _⟩ := elt_ok h0 hi.1
      have hw3 : IntKind.wrap .i64 (i + 1) = i + 1 := wrap_i64 (by omega) (by omega)
      rw [decide_eq_true hi.1, cond_true, decide_eq_true hi.2, bnd_some, cond_true, e1, bnd_some, hw3]
      exact ⟨_, rfl, ⟨by dsimp only; omega, by dsimp only; omega⟩, by dsimp only; omega⟩
    · right
      have : (bif decide (i < (b.Images.length : Int)) then (some (decide (i < 20))) else (some false) : Option Bool) = some false := by
        by_cases h : i < (b.Images.length : Int)
        · rw [decide_eq_true h, cond_true, decide_eq_false fun h2 => hi ⟨h, h2⟩]
        · rw [decide_eq_false h, cond_false]
      rw [this]
      exact ⟨_, rfl, trivial⟩
  · by_cases h : (b.Images.length : Int) ≤ 20
    · rw [decide_eq_true h, cond_true]
      cases decide ((b.Needs.length : Int) ≤ 40)
      · exact ⟨_, rfl, fun h => by cases h⟩
      · exact ⟨_, rfl, fun _ => by omega⟩
    · rw [decide_eq_false h]
      exact ⟨_, rfl, fun h => by cases h⟩

theorem answers_true (codes : List Int) (raw : T_Bundle) (name : ByteArray) (h : okL (inK .u8) codes) (_ : ok_T_Bundle raw) (_ : okS name) : m_law28_BundleAnswers codes raw name = some true := by
  unfold m_law28_BundleAnswers
  rw [awake_true, bnd_some, Bool.not_true, cond_false]
  obtain ⟨r, e1, hr⟩ := small_ok raw
  rw [e1, bnd_some]
  cases r
  · rfl
  rw [Bool.not_true, cond_false]
  obtain ⟨c, e2, hc⟩ := new_codes h (most := 300) (by omega) (by omega)
  rw [e2, bnd_some]
  obtain ⟨c', made, e3, _, _, hm, _⟩ := bundle_ok hc
  rw [e3, bnd_some]
  have hr := hr rfl
  refine bnd_loop (fun i => (i : Int)) 2 (.inr ()) rfl (fun i hi => ?_) rfl rfl
  dsimp only
  rw [decide_eq_true (by omega : (i : Int) < ((2 : Nat) : Int)), cond_true]
  obtain ⟨x, ex, hx⟩ : ∃ x, elt ([raw, made] : List T_Bundle) (i : Int) = some x ∧ x.Images.length ≤ 20 := by
    match i, hi with
    | 0, _ => exact ⟨raw, rfl, hr⟩
    | 1, _ => exact ⟨made, rfl, by omega⟩
  refine bnd_eq ex ?_
  refine bnd_eq (Encode_prog x) ?_
  refine bnd_eq (Encode_ref x) ?_
  refine bnd_eq (a := false) ?_ ?_
  · refine bnd_eq (Valid_prog x) ?_
    refine bnd_eq (Valid_ref x) ?_
    rw [cnd_f (by simp), cnd_f (by simp), cnd_f (by simp)]
    refine bnd_eq (Find_prog x name (by omega)) ?_
    refine bnd_eq (Find_ref x name (by omega)) ?_
    simp
  rw [cond_false]
  refine bnd_loop (fun i => (i : Int)) x.Images.length (.inr ()) rfl (fun j hj => ?_) (by simp) ?_
  · rw [decide_eq_true (by omega : (j : Int) < (x.Images.length : Int)), cond_true]
    refine bnd_eq (elt_lt hj) ?_
    refine bnd_eq (a := false) ?_ ?_
    · refine bnd_eq (right_prog _) ?_
      refine bnd_eq (right_ref _) ?_
      rw [cnd_f (by simp)]
      refine bnd_eq (sum_prog _) ?_
      refine bnd_eq (sum_ref _) ?_
      rw [cnd_f (by simp)]
      refine bnd_eq (Find_prog x _ (by omega)) ?_
      refine bnd_eq (Find_ref x _ (by omega)) ?_
      simp
    · rw [cond_false, wrap_succ hj (by omega)]
  · unfold retOrW
    rw [wrap_succ hi (by omega)]

end Go.Proofs.Ytgnmhmnglbbamaa
