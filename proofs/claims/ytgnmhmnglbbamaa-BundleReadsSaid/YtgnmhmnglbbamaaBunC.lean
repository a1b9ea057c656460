/-
  Bundles out of codes: they exist, and their bytes are bytes.
  Conditions: none.
-/
import Derived.Test.YtgnmhmnglbbamaaCodes
import Derived.Test.YtgnmhmnglbbamaaBun7
namespace Go.Proofs.Ytgnmhmnglbbamaa
open Go
set_option linter.unusedSimpArgs false
set_option linter.unusedVariables false

theorem elt_ok {α : Type} {l : List α} {x : Int} (h0 : 0 ≤ x) (h1 : x < (l.length : Int)) : ∃ y, elt l x = some y ∧ y ∈ l := by
  obtain ⟨k, rfl⟩ : ∃ k : Nat, x = (k : Int) := ⟨x.toNat, by omega⟩
  have : k < l.length := by omega
  exact ⟨l[k], elt_lt this, List.getElem_mem this⟩
theorem next_in {c : T_Codes} (h : CodesOk c) {n : Int} (hn : 1 ≤ n) : ∃ c' x, m_field_Codes_Next c n = some (c', x) ∧ CodesOk c' ∧ 0 ≤ x ∧ x < n := by
  obtain ⟨c', x, h1, h2, h3, h4⟩ := next_ok h n
  exact ⟨c', x, h1, h2, h3, by omega⟩
theorem setE_ok {α : Type} {l : List α} {x : Int} (y : α) (h0 : 0 ≤ x) (h1 : x < (l.length : Int)) : ∃ l', setE l x y = some l' ∧ l'.length = l.length ∧ ∀ z ∈ l', z ∈ l ∨ z = y := by
  obtain ⟨k, rfl⟩ : ∃ k : Nat, x = (k : Int) := ⟨x.toNat, by omega⟩
  have : k < l.length := by omega
  refine ⟨l.set k y, ?_, by simp, fun z hz => List.mem_or_eq_of_mem_set hz⟩
  unfold setE
  simp [this]

theorem need_ok {c : T_Codes} (h : CodesOk c) : ∃ c' n, m_field_Codes_Need c = some (c', n) ∧ CodesOk c' := by
  unfold m_field_Codes_Need m_field_names
  rw [bnd_some]
  obtain ⟨c1, x1, e1, h1, a1, b1⟩ := next_in h (n := 4) (by omega)
  rw [e1, bnd_some]
  obtain ⟨y1, g1, _⟩ := elt_ok (l := ([⟨#[98, 105, 111, 115]⟩, ⟨#[99, 112, 108, 100]⟩, ⟨#[109, 101]⟩, ⟨#[112, 115, 117]⟩, ⟨#[120, 45, 49]⟩, ⟨#[122, 122]⟩] : List ByteArray)) a1 (by simp; omega)
  rw [g1, bnd_some]
  obtain ⟨c2, x2, e2, h2, a2, b2⟩ := next_in h1 (n := 3) (by omega)
  rw [e2, bnd_some]
  obtain ⟨c3, x3, e3, h3, a3, b3⟩ := next_in h2 (n := 4) (by omega)
  rw [e3, bnd_some]
  obtain ⟨y2, g2, _⟩ := elt_ok (l := ([⟨#[98, 105, 111, 115]⟩, ⟨#[99, 112, 108, 100]⟩, ⟨#[109, 101]⟩, ⟨#[112, 115, 117]⟩, ⟨#[120, 45, 49]⟩, ⟨#[122, 122]⟩] : List ByteArray)) a3 (by simp; omega)
  rw [g2, bnd_some]
  obtain ⟨c4, x4, e4, h4, a4, b4⟩ := next_in h3 (n := 3) (by omega)
  rw [e4, bnd_some]
  cases (y1.toList == y2.toList)
  · exact ⟨_, _, rfl, h4⟩
  · obtain ⟨c5, x5, e5, h5, a5, b5⟩ := next_in h4 (n := 6) (by omega)
    rw [cond_true, e5, bnd_some, bnd_some]
    cases decide (x5 < 5)
    · exact ⟨_, _, rfl, h5⟩
    · exact ⟨_, _, rfl, h5⟩

theorem needs_ok {c : T_Codes} (h : CodesOk c) : ∃ c' l, m_field_Codes_Needs c 3 = some (c', l) ∧ CodesOk c' ∧ l.length ≤ 3 := by
  unfold m_field_Codes_Needs
  obtain ⟨c1, k, e1, hc1, k0, k1⟩ := next_in h (n := IntKind.wrap .i64 (3 + 1)) (by decide)
  have hw : IntKind.wrap .i64 (3 + 1) = 4 := by decide
  rw [hw] at e1 k1 ⊢
  rw [e1]
  simp only [bnd_some]
  refine (bnd_loop_inv (R := fun r : T_Codes × List T_Need => CodesOk r.1 ∧ r.2.length ≤ 3) (fun s => CodesOk ⟨s.2.2.1, s.2.2.2⟩ ∧ 0 ≤ s.2.1 ∧ (s.1.length : Int) + s.2.1 ≤ 3) (fun s => s.2.1.toNat)
    (fun t => CodesOk ⟨t.2.1, t.2.2⟩ ∧ t.1.length ≤ 3) ⟨hc1, k0, by simp; omega⟩ (fun s hs => ?_) fun t ht => ⟨_, rfl, ht⟩).elim fun r hr => ⟨r.1, r.2, hr⟩
  obtain ⟨l, k, L, At⟩ := s
  obtain ⟨g1, g2, g3⟩ := hs
  simp only at g1 g2 g3
  by_cases hk : k > 0
  · left
    obtain ⟨c2, x, e2, hc2⟩ := need_ok g1
    dsimp only
    rw [decide_eq_true hk, cond_true, e2, bnd_some, append80 _ _ (by omega), bnd_some]
    have hw3 : IntKind.wrap .i64 (k - 1) = k - 1 := wrap_i64 (by omega) (by omega)
    rw [hw3]
    exact ⟨_, rfl, ⟨hc2, by dsimp only; omega, by simp only [List.length_append, List.length_singleton]; omega⟩, by dsimp only; omega⟩
  · right
    dsimp only
    rw [decide_eq_false hk, cond_false]
    exact ⟨_, rfl, g1, by dsimp only; omega⟩

def okI (i : T_Image) : Prop := okD i ∧ i.Data.length ≤ 600

theorem bundle_ok {c : T_Codes} (h : CodesOk c) : ∃ c' b, m_field_Codes_Bundle c = some (c', b) ∧ CodesOk c' ∧ (∀ i ∈ b.Images, okI i) ∧ b.Images.length ≤ 6 ∧ b.Needs.length ≤ 3 := by
  unfold m_field_Codes_Bundle m_field_names
  rw [bnd_some]
  refine (bnd_loop_inv (R := fun r : T_Codes × T_Bundle => CodesOk r.1 ∧ (∀ i ∈ r.2.Images, okI i) ∧ r.2.Images.length ≤ 6 ∧ r.2.Needs.length ≤ 3)
    (fun s => CodesOk ⟨s.2.2.2.1, s.2.2.2.2⟩ ∧ 0 ≤ s.1 ∧ s.1 ≤ 6 ∧ (s.2.2.1.length : Int) ≤ s.1 ∧ s.2.1 = [] ∧ ∀ i ∈ s.2.2.1, okI i) (fun s => (6 - s.1).toNat)
    (fun t => CodesOk ⟨t.2.2.1, t.2.2.2⟩ ∧ t.2.1.length ≤ 6 ∧ ∀ i ∈ t.2.1, okI i) ⟨h, by dsimp only; omega, by dsimp only; omega, by simp, rfl, fun i hi => by cases hi⟩ (fun s hs => ?_) fun t ht => ?_).elim fun r hr => ⟨r.1, r.2, hr⟩
  · obtain ⟨k, z, l, L, At⟩ := s
    obtain ⟨g1, g2, g3, g4, g5, g6⟩ := hs
    simp only at g1 g2 g3 g4 g5 g6
    dsimp only
    by_cases hk : k < 6
    · left
      rw [decide_eq_true (by simpa using hk), cond_true]
      obtain ⟨y1, e1, _⟩ := elt_ok (l := ([⟨#[98, 105, 111, 115]⟩, ⟨#[99, 112, 108, 100]⟩, ⟨#[109, 101]⟩, ⟨#[112, 115, 117]⟩, ⟨#[120, 45, 49]⟩, ⟨#[122, 122]⟩] : List ByteArray)) g2 (by simp; omega)
      rw [e1, bnd_some]
      obtain ⟨c2, x, e2, hc2, x0, x1⟩ := next_in g1 (n := 3) (by omega)
      have hw3 : IntKind.wrap .i64 (k + 1) = k + 1 := wrap_i64 (by omega) (by omega)
      rw [e2, bnd_some, hw3]
      cases (x == 0)
      · exact ⟨_, rfl, ⟨hc2, by dsimp only; omega, by dsimp only; omega, by dsimp only; omega, g5, g6⟩, by dsimp only; omega⟩
      · obtain ⟨c3, i, e3, hc3, i1, i2, i3, i4, i5, i6⟩ := image_ok hc2 y1
        rw [cond_true, e3, bnd_some, append64 _ _ (by omega), bnd_some]
        refine ⟨_, rfl, ⟨hc3, by dsimp only; omega, by dsimp only; omega, by simp only [List.length_append, List.length_singleton]; omega, g5, fun j hj => ?_⟩, by dsimp only; omega⟩
        rcases List.mem_append.1 hj with hj | hj
        · exact g6 j hj
        · simp only [List.mem_singleton] at hj
          subst hj
          exact ⟨⟨i3, by unfold maxLen; omega⟩, i1⟩
    · right
      rw [decide_eq_false (by simpa using hk), cond_false]
      exact ⟨_, rfl, g1, by dsimp only; omega, g6⟩
  · obtain ⟨z, l, L, At⟩ := t
    obtain ⟨g1, g2, g3⟩ := ht
    simp only at g1 g2 g3
    dsimp only
    obtain ⟨c4, ne, e4, hc4, n4⟩ := needs_ok g1
    rw [e4, bnd_some]
    obtain ⟨c5, x, e5, hc5, x0, x1⟩ := next_in hc4 (n := 20) (by omega)
    rw [e5, bnd_some]
    by_cases hx : (x == 19) = true ∧ (l.length : Int) > 1
    · rw [hx.1, cond_true, bnd_some, decide_eq_true hx.2, cond_true]
      obtain ⟨a, ea, ma⟩ := elt_ok (l := l) (x := 1) (by omega) (by omega)
      obtain ⟨b, eb, mb⟩ := elt_ok (l := l) (x := 0) (by omega) (by omega)
      obtain ⟨l2, e2, h2, m2⟩ := setE_ok (l := l) (x := 0) a (by omega) (by omega)
      obtain ⟨d, ed, md⟩ := elt_ok (l := l2) (x := 1) (by omega) (by omega)
      obtain ⟨l3, e3, h3, m3⟩ := setE_ok (l := l2) (x := 1) b (by omega) (by omega)
      rw [ea, bnd_some, bnd_some, eb, bnd_some, bnd_some, e2, bnd_some, ed, bnd_some, e3, bnd_some]
      refine ⟨_, rfl, hc5, fun i hi => ?_, by dsimp only; omega, n4⟩
      rcases m3 i hi with hi | rfl
      · rcases m2 i hi with hi | rfl
        · exact g3 i hi
        · exact g3 i ma
      · exact g3 i mb
    · have : (bif (x == 19) then (some (decide ((l.length : Int) > 1), c5.L, c5.At)) else (some (false, c5.L, c5.At)) : Option (Bool × List Int × Int)) = some (false, c5.L, c5.At) := by
        cases hx1 : (x == 19)
        · rfl
        · rw [cond_true, decide_eq_false fun h => hx ⟨hx1, h⟩]
      rw [this, bnd_some, cond_false]
      exact ⟨_, rfl, hc5, g3, g2, n4⟩

end Go.Proofs.Ytgnmhmnglbbamaa
