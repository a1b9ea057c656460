/-
  Bytes and texts as lists of numbers, and loops met where they stand.
  Conditions: none.
-/
import Derived.Test.YthdpagcklakahaaCoreT
import Derived.Test.YthdpagcklakahaaPure2
namespace Go.Proofs.Ythdpagcklakahaa
open Go
set_option linter.unusedSimpArgs false
set_option linter.unusedVariables false

/-! ## Loops where they stand -/

theorem bnd_loop {σ τ ρ : Type} {m : σ → Option (Step σ τ)} {s0 : σ} {k : τ → Option ρ} {r : Option ρ} (S : Nat → σ) (n : Nat) (t : τ) (h0 : s0 = S 0) (hs : ∀ i, i < n → m (S i) = some (.next (S (i + 1)))) (hd : m (S n) = some (.done t)) (hk : k t = r) :
    bnd (loopM m s0) k = r := by
  subst h0
  rw [loop_run S n hs hd]
  exact hk

theorem bnd_loop_any {σ τ ρ : Type} {m : σ → Option (Step σ τ)} {s0 : σ} {k : τ → Option ρ} {r : Option ρ} (S : Nat → σ) (n : Nat) (p : Nat → Bool) (u t : τ) (h0 : s0 = S 0) (hs : ∀ i, i < n → m (S i) = some (bif p i then .done u else .next (S (i + 1)))) (hd : m (S n) = some (.done t))
    (hk : k (bif (List.range n).any p then u else t) = r) : bnd (loopM m s0) k = r := by
  subst h0
  rw [loop_any S n p hs hd]
  exact hk

/-- A loop that keeps something: its outcome is one that is known of. -/
theorem bnd_loop_inv {σ τ ρ : Type} {m : σ → Option (Step σ τ)} {s0 : σ} {k : τ → Option ρ} {R : ρ → Prop} (I : σ → Prop) (μ : σ → Nat) (Q : τ → Prop) (h0 : I s0) (h : ∀ s, I s → (∃ s', m s = some (.next s') ∧ I s' ∧ μ s' < μ s) ∨ ∃ t, m s = some (.done t) ∧ Q t)
    (hk : ∀ t, Q t → ∃ r, k t = some r ∧ R r) : ∃ r, bnd (loopM m s0) k = some r ∧ R r := by
  obtain ⟨t, h1, h2⟩ := loop_inv I μ Q h s0 h0
  rw [h1]
  exact hk t h2

theorem bnd_eq {α β : Type} {x : Option α} {f : α → Option β} {a : α} {r : Option β} (h : x = some a) (k : f a = r) : bnd x f = r := by rw [h]; exact k
theorem bnd_ex {α β : Type} {x : Option α} {f : α → Option β} {P : α → Prop} {R : β → Prop} (h : ∃ a, x = some a ∧ P a) (k : ∀ a, P a → ∃ r, f a = some r ∧ R r) : ∃ r, bnd x f = some r ∧ R r := by
  obtain ⟨a, h1, h2⟩ := h
  rw [h1]
  exact k a h2

/-! ## Bytes as numbers -/

/-- Numbers as the model has them. -/
def iz (l : List Nat) : List Int := l.map fun (n : Nat) => (n : Int)
def lt256 (l : List Nat) : Prop := ∀ x ∈ l, x < 256
/-- The bytes of a text. -/
def bs (s : ByteArray) : List Nat := s.data.toList.map (·.toNat)
/-- The text of some bytes. -/
def sb (l : List Nat) : ByteArray := ⟨(l.map UInt8.ofNat).toArray⟩

@[simp] theorem iz_len (l : List Nat) : (iz l).length = l.length := by simp [iz]
@[simp] theorem iz_nil : iz [] = [] := rfl
@[simp] theorem iz_cons (x : Nat) (l : List Nat) : iz (x :: l) = (x : Int) :: iz l := rfl
theorem iz_app (l m : List Nat) : iz l ++ iz m = iz (l ++ m) := by simp [iz]
theorem okL_iz {b : List Int} (h : okL (inK .u8) b) : ∃ l, lt256 l ∧ b = iz l := by
  have h' : ∀ x ∈ b, 0 ≤ x ∧ x ≤ 255 := h.1
  refine ⟨b.map Int.toNat, fun x hx => ?_, ?_⟩
  · obtain ⟨y, hy, rfl⟩ := List.mem_map.1 hx
    have := h' y hy
    omega
  · unfold iz
    rw [List.map_map]
    conv => lhs; rw [← List.map_id b]
    apply List.map_congr_left
    intro y hy
    have := h' y hy
    simp only [id, Function.comp]
    omega

@[simp] theorem bs_len (s : ByteArray) : (bs s).length = s.size := by simp [bs]
theorem bs_lt (s : ByteArray) : lt256 (bs s) := fun x hx => by
  obtain ⟨b, _, rfl⟩ := List.mem_map.1 hx
  exact b.toNat_lt
@[simp] theorem sb_size (l : List Nat) : (sb l).size = l.length := by
  show (l.map UInt8.ofNat).toArray.size = _
  simp
theorem lt256.app {l m : List Nat} (h : lt256 l) (k : lt256 m) : lt256 (l ++ m) := fun x hx => by
  rcases List.mem_append.1 hx with hx | hx
  · exact h x hx
  · exact k x hx
theorem lt256.nil : lt256 [] := fun x hx => by cases hx
theorem lt256.cons {x : Nat} {l : List Nat} (h : x < 256) (k : lt256 l) : lt256 (x :: l) := fun y hy => by
  rcases List.mem_cons.1 hy with rfl | hy
  · exact h
  · exact k y hy
theorem lt256.sub {l m : List Nat} (h : lt256 l) (k : ∀ x ∈ m, x ∈ l) : lt256 m := fun x hx => h x (k x hx)
theorem lt256.take {l : List Nat} (h : lt256 l) (n : Nat) : lt256 (l.take n) := h.sub fun _ hx => List.mem_of_mem_take hx
theorem lt256.drop {l : List Nat} (h : lt256 l) (n : Nat) : lt256 (l.drop n) := h.sub fun _ hx => List.mem_of_mem_drop hx
theorem lt256.get {l : List Nat} (h : lt256 l) {i : Nat} (hi : i < l.length) : l[i] < 256 := h _ (List.getElem_mem hi)

theorem app_iz {l m : List Nat} {b : Nat} (h : (l.length + m.length) * b ≤ 140737488355328) (h2 : l.length + m.length ≤ 9223372036854775807) : app b (iz l) (iz m) = some (iz (l ++ m)) := by
  rw [app_eq (by simpa using h) (by simpa using h2), iz_app]
theorem cnd_t {α : Type} {c : Bool} (h : c = true) (x y : α) : (bif c then x else y) = x := by rw [h]; rfl
theorem cnd_f {α : Type} {c : Bool} (h : c = false) (x y : α) : (bif c then x else y) = y := by rw [h]; rfl

end Go.Proofs.Ythdpagcklakahaa
