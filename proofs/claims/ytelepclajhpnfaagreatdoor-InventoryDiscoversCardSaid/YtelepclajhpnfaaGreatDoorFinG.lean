/-
  A table of numbers that the row's list of variables tells, as a fact of the core.
  Conditions: none.
-/
import Derived.Test.YtelepclajhpnfaaGreatDoorFin2
import Derived.Test.YtelepclajhpnfaaGreatDoorCoreT
import Derived.OpenShut
import Derived.LaidLaws
import Derived.LaidSub
namespace Go.Proofs.YtelepclajhpnfaaGreatDoor
open Go
set_option linter.unusedVariables false
theorem laidVars_mem {P : Program} {w : World} {n : String} {d : DataW Unit} : ∀ {l : List (String × DataW Unit)} {ps : List MemPlace}, DataW.LaidVars P w l ps → (n, d) ∈ l →
    ∃ g t cs fuel p, P.globalNamed n = some g ∧ (P.globals[g]?).map (·.type) = some t ∧ w.var? P n = some cs ∧ DataW.trod (fun _ => ()) P w 0 (fun _ => true) false fuel t cs.toList = some (d, p)
  | [], _, _, h => by cases h
  | (m, e) :: r, ps, hl, h => by
    obtain ⟨g, t, cs, fuel, p, q, h1, h2, h3, h4, h5, _⟩ := hl
    rcases List.mem_cons.1 h with h | h
    · injection h with ha hb
      subst ha; subst hb
      exact ⟨g, t, cs, fuel, p, h1, h2, h3, h4⟩
    · exact laidVars_mem h5 h
theorem laid_ints {P : Program} {k : IntKind} {W : World} {l : List (String × DataW Unit)} {nm : String} {g t e n : Nat} {vals : List Int} (hL : laidMet P l W) (hmem : (nm, DataW.agg (vals.map fun v => .lit (.int k v))) ∈ l)
    (hg : P.globalNamed nm = some g) (ht : (P.globals[g]?).map (·.type) = some t) (hu : P.underlying t = some (.array n e)) (he : P.underlying e = some (.int k)) (hsz : P.cellsOf e = 1) :
    ∀ (i : Nat) v, vals[i]? = some v → cellm (hp W) g i = some (.int k v) := by
  intro i v hv
  obtain ⟨ps, hl, _, _⟩ := hL
  obtain ⟨g', t', cs, fuel, p, h1, h2, h3, h4⟩ := laidVars_mem hl hmem
  rw [hg] at h1
  injection h1 with h1
  subst h1
  rw [ht] at h2
  injection h2 with h2
  subst h2
  obtain ⟨xs, m, _, hx, _, hlen, hf⟩ := DataW.trod_array hu h4
  injection hx with hx _
  injection hx with hx
  have hi : i < vals.length := (List.getElem?_eq_some_iff.1 hv).1
  have hxl : xs.length = vals.length := by
    have := congrArg List.length hx
    simpa using this.symm
  have hxi : xs[i]?.map (·.1) = some (.lit (.int k v)) := by
    rw [← List.getElem?_map, ← hx, List.getElem?_map, hv]
    rfl
  cases hxx : xs[i]? with
  | none => rw [hxx] at hxi; cases hxi
  | some x =>
    rw [hxx] at hxi
    simp only [Option.map_some, Option.some.injEq] at hxi
    have hfi := hf i (by omega)
    rw [hsz, hxx] at hfi
    obtain ⟨z, hz, hz2, _⟩ := DataW.trod_int he hfi
    rw [hz2] at hxi
    injection hxi with hxi
    injection hxi with _ hxi
    subst hxi
    have hci : cs[i]? = some (.int k z) := by
      have : ((cs.toList.drop (i * 1)).take 1)[0]? = some (.int k z) := by rw [hz]; rfl
      rw [List.getElem?_take_of_lt (by omega), List.getElem?_drop] at this
      simpa using this
    unfold World.var? at h3
    rw [hg, Option.bind_some] at h3
    unfold cellm hp
    cases ho : W.heap[g]? with
    | none => rw [ho] at h3; cases h3
    | some o =>
      rw [ho] at h3
      cases o with
      | cells c1 _ _ =>
        simp only [Option.some.injEq] at h3
        subst h3
        exact hci
      | _ => cases h3
theorem laid_sl {P : Program} {k : IntKind} {W : World} {l : List (String × DataW Unit)} {nm : String} {g t e n : Nat} (E : Enc Int) (vals : List Int) (hE : ∀ x, E.enc x = [.int k x]) (hs : E.sz = 1) (hL : laidMet P l W) (hmem : (nm, DataW.agg (vals.map fun v => .lit (.int k v))) ∈ l)
    (hg : P.globalNamed nm = some g) (ht : (P.globals[g]?).map (·.type) = some t) (hu : P.underlying t = some (.array n e)) (he : P.underlying e = some (.int k)) (hsz : P.cellsOf e = 1) (hb : vals.length ≤ 1000000) :
    (SlL E (some ⟨g, 0, none⟩) vals.length vals).p (hp W) := by
  have h := laid_ints hL hmem hg ht hu he hsz
  refine ⟨Nat.le_refl _, by unfold maxLen; omega, fun h => (by cases h), fun ad had j x hx => ?_⟩
  injection had with had
  subst had
  refine ⟨rfl, E.enc x, rfl, fun i u hi => ?_⟩
  rw [hE] at hi
  have h0 : i = 0 := by
    rcases Nat.eq_zero_or_pos i with h0 | h0
    · exact h0
    · rw [List.getElem?_eq_none (by simp; omega)] at hi
      cases hi
  subst h0
  simp only [List.getElem?_cons_zero, Option.some.injEq] at hi
  subst hi
  have : (cod E).n = 1 := hs
  rw [this]
  simpa using h j x hx
end Go.Proofs.YtelepclajhpnfaaGreatDoor
