/-
  ActivationChains: the order on a chain, and that a ring of needs has none.
  Conditions: none.
-/
import Derived.Test.YteaoblglgcpdnaaAct4
import Derived.Test.YteaoblglgcpdnaaAct6
import Derived.Test.YteaoblglgcpdnaaGenActivationChains
namespace Go.Proofs.Yteaoblglgcpdnaa
open Go
set_option linter.unusedSimpArgs false
set_option linter.unusedVariables false

def names8 : List ByteArray := [⟨#[97]⟩, ⟨#[98]⟩, ⟨#[99]⟩, ⟨#[100]⟩, ⟨#[101]⟩, ⟨#[102]⟩, ⟨#[103]⟩, ⟨#[104]⟩]
def nm8 (i : Nat) : ByteArray := (names8[i]?).getD ⟨#[]⟩
def chNeed (k i : Nat) : T_Need := ⟨nm8 i, ⟨2, 0, 0⟩, nm8 ((i + 1) % k), ⟨2, 0, 0⟩⟩
def chNow (l : List ByteArray) : List T_Installed := l.map fun x => ⟨x, ⟨1, 0, 0⟩⟩
def chNext (l : List ByteArray) : List T_Installed := l.map fun x => ⟨x, ⟨2, 0, 0⟩⟩
def chNeeds (k c : Nat) : List T_Need := (List.range c).map (chNeed k)
def chCount (ring : Bool) (k i : Nat) : Nat := if ring = true then i else min i (k - 1)
def chainP (k : Nat) (ring : Bool) : T_Plan := ⟨chNow (names8.take k), chNext (names8.take k), chNeeds k (chCount ring k k)⟩

set_option maxRecDepth 100000 in
theorem chain_line : ∀ k, k < 9 → 2 ≤ k → validN (chainP k false) = 0 ∧ orderP (chainP k false) = some (List.range k).reverse := by decide +kernel
set_option maxRecDepth 100000 in
theorem chain_ring : ∀ k, k < 9 → 2 ≤ k → validN (chainP k true) = 0 ∧ orderP (chainP k true) = none ∧ fullP (chainP k true) ≠ 0 ∧ ∀ i, i < k → goodP (chainP k true) (2 ^ i) = false := by decide +kernel

theorem ring_stuck {k : Nat} (h1 : k < 9) (h2 : 2 ≤ k) : StuckP (chainP k true) [0] := by
  obtain ⟨a, _, c, d⟩ := chain_ring k h1 h2
  refine ⟨a, [0], ⟨rfl, by simp, fun S hS => by simp at hS; subst hS; exact sub2.zero _⟩, rfl, by simpa using c, fun S hS i hi _ _ => ?_⟩
  simp at hS
  subst hS
  have hl : (chainP k true).Now.length = k := by
    show (chNow (names8.take k)).length = k
    unfold chNow
    rw [List.length_map, List.length_take]
    show min k 8 = k
    omega
  rw [hl] at hi
  rw [Nat.zero_or]
  exact d i hi

theorem chains_true (n : Int) (ring : Bool) (hn : inK .u8 n) (hr : okB ring) : m_law31_ActivationChains n ring = some true := by
  unfold m_law31_ActivationChains
  rw [awake_eq]
  simp only [bnd_some, Bool.not_true, cond_false]
  obtain ⟨x, rfl⟩ : ∃ x : Nat, n = (x : Int) := ⟨n.toNat, by have := hn.1; simp [IntKind.min, IntKind.signed] at this; omega⟩
  have hx : x ≤ 255 := by have := hn.2; simp [IntKind.max, IntKind.signed, IntKind.bits] at this; omega
  have hmod : (IntKind.wrap .i64 (x : Int)).tmod 7 = ((x % 7 : Nat) : Int) := by rw [wrap_i64n (by omega)]; exact tmod_n x 7
  rw [hmod]
  have hm7 : x % 7 < 7 := Nat.mod_lt _ (by omega)
  rw [wrap_i64 (x := 2 + ((x % 7 : Nat) : Int)) (by omega) (by omega)]
  obtain ⟨k, hk⟩ : ∃ k : Nat, k = 2 + x % 7 := ⟨_, rfl⟩
  have hk2 : 2 ≤ k := by omega
  have hk9 : k < 9 := by omega
  have hkk : 2 + ((x % 7 : Nat) : Int) = (k : Int) := by omega
  rw [hkk]
  have hsub : sub names8 0 (k : Int) = some (names8.take k) := by
    unfold sub
    rw [if_pos ⟨by omega, by omega, by show (k : Int) ≤ ((8 : Nat) : Int); omega⟩]
    rfl
  refine bnd_eq hsub ?_
  generalize hl1 : names8.take k = l1
  have hlen : l1.length = k := by
    rw [← hl1, List.length_take]
    show min k 8 = k
    omega
  have hget : ∀ i (hi : i < l1.length), l1[i] = nm8 i := fun i hi => by
    subst hl1
    rw [List.getElem_take]
    have : i < names8.length := by show i < 8; omega
    unfold nm8
    rw [List.getElem?_eq_getElem this]
    rfl
  refine bnd_loop (fun (i : Nat) => ((i : Int), chNow (l1.take i), chNext (l1.take i), chNeeds k (chCount ring k i))) l1.length (chNow l1, chNext l1, chNeeds k (chCount ring k k)) ?_ (fun i hi => ?_) ?_ ?_
  · have e0 : chNeeds k (chCount ring k 0) = [] := by
      unfold chCount
      cases ring <;> simp [chNeeds]
    rw [List.take_zero, e0]
    rfl
  · have d0 : decide ((i : Int) < (l1.length : Int)) = true := by simp; omega
    have hcl : (chNeeds k (chCount ring k i)).length ≤ 8 := by
      unfold chNeeds chCount
      rw [List.length_map, List.length_range]
      split
      · omega
      · omega
    simp only [d0, cond_true, elt_lt hi, bnd_some, wrap_succ hi (by omega)]
    rw [app_eq (by simp [chNow]; omega) (by simp [chNow]; omega), bnd_some, app_eq (by simp [chNext]; omega) (by simp [chNext]; omega), bnd_some]
    have e1 : chNow (l1.take i) ++ [⟨l1[i], ⟨1, 0, 0⟩⟩] = chNow (l1.take (i + 1)) := by unfold chNow; rw [take_succ_get hi, List.map_append]; rfl
    have e2 : chNext (l1.take i) ++ [⟨l1[i], ⟨2, 0, 0⟩⟩] = chNext (l1.take (i + 1)) := by unfold chNext; rw [take_succ_get hi, List.map_append]; rfl
    rw [e1, e2]
    have hgo : (decide (((i + 1 : Nat) : Int) < (l1.length : Int)) = true ∨ ring = true) → chCount ring k i = i ∧ chCount ring k (i + 1) = i + 1 := fun h => by
      unfold chCount
      rcases h with h | h
      · have : i + 1 < k := by simp at h; omega
        cases ring
        · exact ⟨by rw [if_neg (by simp)]; omega, by rw [if_neg (by simp)]; omega⟩
        · exact ⟨by rw [if_pos rfl], by rw [if_pos rfl]⟩
      · subst h
        exact ⟨by rw [if_pos rfl], by rw [if_pos rfl]⟩
    have hyes : (decide (((i + 1 : Nat) : Int) < (l1.length : Int)) = true ∨ ring = true) → (bnd (remM (((i + 1 : Nat) : Int)) (l1.length : Int)) fun q1 => bnd (elt l1 q1) fun x2 => bnd (app 80 (chNeeds k (chCount ring k i)) [(⟨l1[i], (⟨2, 0, 0⟩ : T_Version), x2, (⟨2, 0, 0⟩ : T_Version)⟩ : T_Need)]) fun l4 => some (Step.next (τ := List T_Installed × List T_Installed × List T_Need) (((i + 1 : Nat) : Int), chNow (l1.take (i + 1)), chNext (l1.take (i + 1)), l4))) = some (.next (((i + 1 : Nat) : Int), chNow (l1.take (i + 1)), chNext (l1.take (i + 1)), chNeeds k (chCount ring k (i + 1)))) := fun h => by
      obtain ⟨g1, g2⟩ := hgo h
      have hq : (i + 1) % l1.length < l1.length := Nat.mod_lt _ (by omega)
      have g3 : l1[(i + 1) % l1.length] = nm8 ((i + 1) % k) := by rw [hget _ hq, hlen]
      have e5 : (⟨l1[i], ⟨2, 0, 0⟩, l1[(i + 1) % l1.length], ⟨2, 0, 0⟩⟩ : T_Need) = chNeed k i := by unfold chNeed; rw [hget i hi, g3]
      rw [remM_n (by omega), bnd_some, elt_lt hq, bnd_some, app_eq (by simp; omega) (by simp; omega), bnd_some, e5, g1, g2]
      have e6 : chNeeds k i ++ [chNeed k i] = chNeeds k (i + 1) := by unfold chNeeds; rw [List.range_succ, List.map_append]; rfl
      rw [e6]
    cases hd : decide (((i + 1 : Nat) : Int) < (l1.length : Int))
    · cases hring : ring
      · have e7 : chCount false k i = chCount false k (i + 1) := by
          have := of_decide_eq_false hd
          unfold chCount
          rw [if_neg (by simp), if_neg (by simp)]
          omega
        subst hring
        simp only [cond_false, bnd_some]
        rw [e7]
      · subst hring
        simp only [cond_false, bnd_some, cond_true]
        exact hyes (.inr rfl)
    · simp only [cond_true, bnd_some]
      exact hyes (.inl hd)
  · have d0 : decide ((l1.length : Int) < (l1.length : Int)) = false := by simp
    simp only [d0, cond_false, List.take_length]
    rw [hlen]
  · have hord := order_eq (chainP k ring)
    have hpl : chainP k ring = ⟨chNow l1, chNext l1, chNeeds k (chCount ring k k)⟩ := by rw [← hl1]; rfl
    cases ring
    · obtain ⟨a, b⟩ := chain_line k hk9 hk2
      rw [if_pos a, b, hpl] at hord
      refine bnd_eq hord ?_
      simp only [cond_false]
      refine bnd_loop (fun (i : Nat) => (i : Int)) k (.inr ()) rfl (fun i hi => ?_) ?_ ?_
      · have hl : i < (List.range k).reverse.length := by simpa using hi
        have d0 : decide ((i : Int) < ((iz (List.range k).reverse).length : Int)) = true := by simp; omega
        have hw : IntKind.wrap .i64 ((IntKind.wrap .i64 ((l1.length : Int) - 1)) - (i : Int)) = ((k - 1 - i : Nat) : Int) := by
          rw [wrap_i64 (x := (l1.length : Int) - 1) (by omega) (by omega), wrap_i64 (by omega) (by omega)]
          omega
        simp only [d0, cond_true, elt_iz hl, bnd_some, hw]
        have he : ((((List.range k).reverse[i] : Nat) : Int) != ((k - 1 - i : Nat) : Int)) = false := by simp
        rw [he]
        simp only [cond_false, wrap_succ hi (by omega)]
      · have d0 : decide ((k : Int) < ((iz (List.range k).reverse).length : Int)) = false := by simp
        simp only [d0, cond_false]
      · simp only [retOr_inr, BEq.rfl, cond_true, bnd_some]
        simp [hlen]
    · obtain ⟨a, b, _, _⟩ := chain_ring k hk9 hk2
      rw [if_pos a, b, hpl] at hord
      refine bnd_eq hord ?_
      simp only [cond_true, BEq.rfl]
      obtain ⟨b', h1, h2⟩ := stuck_eq (p := chainP k true) (sets := [0]) (fun x hx => by simp at hx; subst hx; exact ⟨by decide, by decide⟩) (by simp)
      have hb : b' = true := h2.2 (ring_stuck hk9 hk2)
      subst hb
      have h1' : m_activation_Stuck ⟨chNow l1, chNext l1, chNeeds k (chCount true k k)⟩ [0] = some true := by
        rw [← hl1]
        exact h1
      rw [h1']
      rfl
end Go.Proofs.Yteaoblglgcpdnaa
