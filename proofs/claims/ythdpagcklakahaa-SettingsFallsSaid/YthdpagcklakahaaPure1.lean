/-
  Plain laws of the words in which the models are written: numbers, lists, loops, maps.
  Conditions: none.
-/
import Derived.Test.YthdpagcklakahaaCore9
namespace Go.Proofs.Ythdpagcklakahaa
open Go
set_option linter.unusedSimpArgs false
set_option linter.unusedVariables false

@[simp] theorem bnd_some {α β : Type} (a : α) (f : α → Option β) : bnd (some a) f = f a := rfl
@[simp] theorem bnd_none {α β : Type} (f : α → Option β) : bnd none f = none := rfl
@[simp] theorem retOr_inl {ρ σ : Type} (r : ρ) (f : σ → Option ρ) : retOr (.inl r) f = some r := rfl
@[simp] theorem retOr_inr {ρ σ : Type} (s : σ) (f : σ → Option ρ) : retOr (.inr s) f = f s := rfl
/-! ## Numbers -/

theorem wrap_i64 {x : Int} (h1 : -9223372036854775808 ≤ x) (h2 : x ≤ 9223372036854775807) : IntKind.wrap .i64 x = x := by
  unfold IntKind.wrap
  simp only [IntKind.bits, IntKind.signed]
  simp
  omega
theorem wrap_u64 {x : Int} (h1 : 0 ≤ x) (h2 : x ≤ 18446744073709551615) : IntKind.wrap .u64 x = x := by
  unfold IntKind.wrap
  simp only [IntKind.bits, IntKind.signed]
  simp
  omega
theorem wrap_u8 {x : Int} (h1 : 0 ≤ x) (h2 : x ≤ 255) : IntKind.wrap .u8 x = x := by
  unfold IntKind.wrap
  simp only [IntKind.bits, IntKind.signed]
  simp
  omega
theorem wrap_u8_mod (x : Int) : IntKind.wrap .u8 x = x % 256 := by unfold IntKind.wrap; simp [IntKind.bits, IntKind.signed]
/-- The next index. -/
theorem wrap_succ {i n : Nat} (h : i < n) (hn : n ≤ 140737488355328) : IntKind.wrap .i64 ((i : Int) + 1) = ((i + 1 : Nat) : Int) := by
  rw [wrap_i64 (by omega) (by omega)]
  omega
/-! ## Lists and texts -/

@[simp] theorem elt_nat {α : Type} (xs : List α) (i : Nat) : elt xs (i : Int) = xs[i]? := by simp [elt]
theorem elt_lt {α : Type} {xs : List α} {i : Nat} (h : i < xs.length) : elt xs (i : Int) = some xs[i] := by simp [h]

theorem app_eq {α : Type} {b : Nat} {xs ys : List α} (h : (xs.length + ys.length) * b ≤ 140737488355328) (h2 : xs.length + ys.length ≤ 9223372036854775807) : app b xs ys = some (xs ++ ys) := by
  simp [app, h, h2]

/-! ## Maps -/

theorem mget_mset {α β : Type} [DecidableEq α] {K : KeyC α} (hK : ∀ a b, K.eq a b = true ↔ a = b) (m : List (α × β)) (k k' : α) (v : β) : mget K.eq (mset K.eq m k v) k' = if k' = k then some v else mget K.eq m k' := by
  have hf : ∀ a b, a ≠ b → K.eq a b = false := fun a b h => by
    cases hc : K.eq a b
    · rfl
    · exact absurd ((hK a b).1 hc) h
  have ht : ∀ a, K.eq a a = true := fun a => (hK a a).2 rfl
  induction m with
  | nil =>
    by_cases h : k' = k
    · subst h; simp [mset, mget, ht]
    · simp [mset, mget, hf _ _ h, h]
  | cons x r ih =>
    by_cases hx : k = x.1
    · subst hx
      by_cases h : k' = x.1
      · subst h; simp [mset, mget, ht]
      · simp [mset, mget, ht, hf _ _ h, h]
    · by_cases h : k' = x.1
      · subst h
        have : x.1 ≠ k := fun e => hx e.symm
        simp [mset, mget, hf _ _ hx, ht, this]
      · simp [mset, mget, hf _ _ hx, hf _ _ h, ih]
/-! ## Loops -/

theorem loop_done {σ τ : Type} {m : σ → Option (Step σ τ)} {s : σ} {t : τ} (h : m s = some (.done t)) : loopM m s = some t :=
  loopM_some.2 ⟨1, by simp [iter, h]⟩
theorem loop_next {σ τ : Type} {m : σ → Option (Step σ τ)} {s s' : σ} {t : τ} (h : m s = some (.next s')) (k : loopM m s' = some t) : loopM m s = some t := by
  obtain ⟨n, hn⟩ := loopM_some.1 k
  exact loopM_some.2 ⟨n + 1, by simp [iter, h, hn]⟩

/-- A loop of n rounds whose states are known. -/
theorem loop_run {σ τ : Type} {m : σ → Option (Step σ τ)} (S : Nat → σ) (n : Nat) {t : τ} (hs : ∀ i, i < n → m (S i) = some (.next (S (i + 1)))) (hd : m (S n) = some (.done t)) : loopM m (S 0) = some t := by
  have : ∀ k i, i + k = n → loopM m (S i) = some t := by
    intro k
    induction k with
    | zero => intro i hi; obtain rfl : i = n := by omega
              exact loop_done hd
    | succ k ih => intro i hi; exact loop_next (hs i (by omega)) (ih (i + 1) (by omega))
  exact this n 0 (by omega)

/-- .. that may end before. -/
theorem loop_find {σ τ : Type} {m : σ → Option (Step σ τ)} (S : Nat → σ) (n : Nat) (f : Nat → Option τ) {t : τ} (hs : ∀ i, i < n → m (S i) = some (match f i with | some u => .done u | none => .next (S (i + 1)))) (hd : m (S n) = some (.done t)) :
    loopM m (S 0) = some (((List.range n).findSome? f).getD t) := by
  have : ∀ k i, i + k = n → loopM m (S i) = some (((List.range' i k).findSome? f).getD t) := by
    intro k
    induction k with
    | zero => intro i hi; obtain rfl : i = n := by omega
              exact loop_done hd
    | succ k ih =>
      intro i hi
      have h1 := hs i (by omega)
      rw [List.range'_succ, List.findSome?_cons]
      cases hf : f i with
      | some u => rw [hf] at h1; simpa using loop_done h1
      | none => rw [hf] at h1; exact loop_next h1 (ih (i + 1) (by omega))
  simpa [List.range_eq_range'] using this n 0 (by omega)

/-- .. a search that answers yes or no. -/
theorem loop_any {σ τ : Type} {m : σ → Option (Step σ τ)} (S : Nat → σ) (n : Nat) (p : Nat → Bool) {u t : τ} (hs : ∀ i, i < n → m (S i) = some (bif p i then .done u else .next (S (i + 1)))) (hd : m (S n) = some (.done t)) :
    loopM m (S 0) = some (bif (List.range n).any p then u else t) := by
  rw [loop_find S n (fun i => bif p i then some u else none) (t := t) (fun i hi => ?_) hd]
  · congr 1
    generalize List.range n = l
    induction l with
    | nil => rfl
    | cons x r ih =>
      rw [List.findSome?_cons, List.any_cons]
      cases p x
      · simpa using ih
      · rfl
  · rw [hs i hi]
    cases p i <;> rfl

end Go.Proofs.Ythdpagcklakahaa
