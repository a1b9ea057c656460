/-
  From contracts of laws to the given statements, second part: arguments with slices inside, and in which ranges their numbers are.
  Conditions: none.
-/
import Derived.Test.YthdpagcklakahaaFin
import Derived.Test.YthdpagcklakahaaCoreN
import Derived.OpenShut
import Derived.DataShut
namespace Go.Proofs.Ythdpagcklakahaa
open Go Go.ChangeShapes Go.WideShapes Go.RowKit
set_option linter.unusedSectionVars false

/-- What is read at a type, as a value of ours. -/
def ReadsC {α : Type} (P : Program) (E : Cod α) (φ : α → Prop) (t : TypeId) : Prop := ∀ {H : Type} {enc : TypeId × Value → H} {w : World} {base : Nat} {sp : Nat → Bool} {held : Bool} {fuel : Nat} {cs : List Value} {x : DataW H × List MemPlace},
  DataW.trod enc P w base sp held fuel t cs = some x → ∃ y : α, E.rel (hp w) y cs ∧ φ y

abbrev RdL {α : Type} (P : Program) (ls : List (LC α)) (φ : α → Prop) (t : TypeId) : Prop := ReadsC P (codL ls) φ t

section
variable {H : Type} {enc : TypeId × Value → H} {P : Program} {w : World} {base : Nat} {sp : Nat → Bool} {held : Bool} {fuel : Nat} {cs : List Value} {x : DataW H × List MemPlace}

theorem rdl_int {k : IntKind} {t : TypeId} (ht : P.underlying t = some (.int k)) : RdL P [.v (fun x => .int k x) (fun _ => rfl)] (inK k) t := fun h => by
  obtain ⟨n, h1, _, h3⟩ := DataW.trod_int ht h
  subst h1
  exact ⟨n, ⟨rfl, trivial⟩, (Lit.wf_int_iff _ _).1 h3⟩
/-- .. of a type with no memory of its own. -/
theorem rdc_flat {α : Type} {E : Enc α} {ls : List (LC α)} {φ : α → Prop} {t : TypeId} (h : RdL P ls φ t) (he : ∀ y ex, valsL y ls ex = E.enc y) : ReadsC P (cod E) φ t := fun hd => by
  obtain ⟨y, h1, h2⟩ := h hd
  obtain ⟨ex, h3, _⟩ := openL h1
  exact ⟨y, h3.trans (he y ex), h2⟩

theorem rows_slpC {α : Type} {E : Cod α} {φ : α → Prop} {ad : Addr} {n : Nat} (hpos : 0 < E.n) (hr : ∀ i, i < n → ∃ (y : α) (cs : List Value), E.rel (hp w) y cs ∧ φ y ∧ ∀ j, j < E.n → w.cell? (ad.add (i * E.n + j)) = cs[j]?) :
    ∃ xs : List α, xs.length = n ∧ (∀ x ∈ xs, φ x) ∧ ∀ j x, xs[j]? = some x → ad.spot = none ∧ ∃ cs, E.rel (hp w) x cs ∧ ∀ i u, cs[i]? = some u → cellm (hp w) ad.block (ad.off + j * E.n + i) = some u := by
  induction n with
  | zero => exact ⟨[], rfl, (fun x h => by cases h), fun j x h => by simp at h⟩
  | succ n ih =>
    obtain ⟨xs, h1, hφ, h2⟩ := ih fun i hi => hr i (by omega)
    obtain ⟨y, cy, hrel, hy0, hy⟩ := hr n (by omega)
    refine ⟨xs ++ [y], by simp [h1], fun x hx => ?_, fun j x hj => ?_⟩
    · rcases List.mem_append.1 hx with hx | hx
      · exact hφ x hx
      · simp only [List.mem_singleton] at hx
        subst hx
        exact hy0
    by_cases hjn : j < n
    · rw [List.getElem?_append_left (by omega)] at hj
      exact h2 j x hj
    · have hl := (List.getElem?_eq_some_iff.1 hj).1
      simp only [List.length_append, List.length_singleton, h1] at hl
      obtain rfl : j = n := by omega
      rw [← h1] at hj
      simp only [List.getElem?_append_right (Nat.le_refl _), Nat.sub_self, List.getElem?_cons_zero, Option.some.injEq] at hj
      subst hj
      have hspot : ad.spot = none := by
        cases hsp : ad.spot with
        | none => rfl
        | some q =>
          obtain ⟨y0, c0, hrel0, _, hc0⟩ := hr 0 (by omega)
          have h := hc0 0 hpos
          have hl0 := E.len _ _ _ hrel0
          rw [List.getElem?_eq_getElem (by omega), show 0 * E.n + 0 = 0 by omega] at h
          have e : ad.add 0 = ad := rfl
          rw [e] at h
          unfold World.cell? at h
          split at h
          · rw [hsp] at h; simp at h
          · cases h
      refine ⟨hspot, cy, hrel, fun i u hu => ?_⟩
      have hi : i < E.n := by rw [← E.len _ _ _ hrel]; exact (List.getElem?_eq_some_iff.1 hu).1
      have h := hy i hi
      rw [hu] at h
      rw [cellm_hp]
      rw [← h]
      congr 1
      obtain ⟨b, o, s⟩ := ad
      simp only at hspot
      subst hspot
      unfold Addr.add
      split
      · rename_i hz; simp only [Addr.mk.injEq, true_and, and_true]; omega
      · simp only [Addr.mk.injEq, true_and, and_true]; omega

theorem rdl_slice {α : Type} {E : Cod α} {φ : α → Prop} {t e : TypeId} (ht : P.underlying t = some (.slice e)) (hC : P.cellsOf e = E.n) (hpos : 0 < E.n) (hE : ReadsC P E φ e) : RdL P [.s E (fun x => x)] (okL φ) t := fun {H enc w base sp held fuel cs x} hf => by
  rcases Deep.open_slice ht hf with ⟨h1, _⟩ | ⟨a, len, cap, m, n, D, Pl, hcs, hb, hl, hm, hmm, _, hi⟩
  · subst h1
    exact ⟨[], ⟨⟨none, 0, rfl, by simp, by simp [maxLen], fun _ => rfl, (fun ad h => by cases h)⟩, trivial⟩, (fun x h => by cases h), by simp⟩
  · subst hcs
    have hlm : len ≤ m := by rw [hmm]; split <;> omega
    obtain ⟨xs, h1, hφ, h2⟩ := rows_slpC (w := w) (E := E) (φ := φ) (ad := a) (n := len) hpos (fun i hin => by
      obtain ⟨cs', hc, ht'⟩ := hi i (by omega)
      obtain ⟨y, hy, hy2⟩ := hE ht'
      obtain ⟨_, _, hat⟩ := World.cells?_some hc
      refine ⟨y, cs', hy, hy2, fun j hj => ?_⟩
      have := hat j (by omega)
      rw [Deep.add_add, hC] at this
      exact this)
    subst h1
    refine ⟨xs, ⟨⟨some a, cap, rfl, hl, hm, (fun h => by cases h), fun ad had => ?_⟩, trivial⟩, hφ, by omega⟩
    injection had with had
    subst had
    exact h2

/-- An argument. -/
theorem open_arg {α : Type} {ls : List (LC α)} {φ : α → Prop} {t : TypeId} {v : Value} {d : DataW H} {ps : List MemPlace} (hE : RdL P ls φ t) (h : DataW.Trod enc P w base sp held t v d ps) :
    ∃ (y : α) (ex : ExL ls), v.cells.toList = valsL y ls ex ∧ φ y ∧ ∀ r, As.ro r ∈ factsL y ls ex → r.p (hp w) := by
  obtain ⟨fuel, hf⟩ := h
  obtain ⟨y, h1, h2⟩ := hE hf
  obtain ⟨ex, h3, h4⟩ := openL h1
  exact ⟨y, ex, h3, h2, h4⟩

end
end Go.Proofs.Ythdpagcklakahaa
