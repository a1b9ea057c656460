/-
  The core: maps.Clone by the shelf's contract.
  Conditions: none.
-/
import Derived.Test.YthdpagcklakahaaCoreM
import Derived.Test.YthdpagcklakahaaTypes
import Derived.Shelf.SlMaps.Clone
namespace Go.Proofs.Ythdpagcklakahaa
open Go
set_option linter.unusedSectionVars false
set_option linter.unusedVariables false
set_option maxRecDepth 10000

theorem MapV.new {α β : Type} {K : KeyC α} {E : Cod β} {g : Nat} {l : List (α × List β)} {es : Array MapEntry} {cl : Nat} {F : List As} {w : World} (hf : Sat (.res (MapV K E (some g) (some l)) :: F) w) (ho : w.heap[g]? = some (.map es cl))
    (hE : EntsP K E (frz (blocks (.res (MapV K E (some g) (some l)) :: F)) w) l es.toList) (hS : Stm es.toList cl) : Sat (.res (MapV K E (some w.heap.size) (some l)) :: .res (MapV K E (some g) (some l)) :: F) (w.alloc (.map es cl)) := by
  refine hf.add_res (Ext.alloc w _) _ (by simp [MapV]) (fun k hk => by simp [MapV] at hk; subst hk; simp) trivial ⟨es, cl, hp_alloc w _, hE.mono ?_, hS⟩
  intro k o hk
  unfold frz at *
  split at hk
  · cases hk
  · rename_i hn
    have hlt := (Array.getElem?_eq_some_iff.1 hk).1
    have hn2 : k ∉ (MapV K E (some w.heap.size) (some l)).gs ++ blocks (.res (MapV K E (some g) (some l)) :: F) := by
      intro hm
      rcases List.mem_append.1 hm with hm | hm
      · simp [MapV] at hm; omega
      · exact hn hm
    rw [if_neg hn2, (Ext.alloc w _).block k hlt]
    exact hk

/-- maps.Clone -/
theorem clone_fun {P : Program} {ρ : Shelf.Ren} (L : SlLaysW.n5 P ρ) {α β : Type} (K : KeyC α) (E : Cod β) (A : Option Nat) (m : Option (List (α × List β))) :
    Fun P (ρ.f 5) [.map A] [.res (MapV K E A m)] (fun v F' => ∃ B, v = .map B ∧ F' = [.res (MapV K E B m), .res (MapV K E A m)]) := by
  intro w R hsat
  have hf : Sat (.res (MapV K E A m) :: R) w := hsat
  rcases MapV.get (hf.resq (List.mem_cons_self ..)) with ⟨rfl, rfl⟩ | ⟨g, l, es, cl, rfl, rfl, ho, hE⟩
  · refine (AnyW.maps_Clone_nil L w).mono fun e w' ⟨he, hw⟩ => ?_
    subst he; subst hw
    exact ⟨_, _, rfl, ⟨none, rfl, rfl⟩, hf.nilV K E, Same.refl _⟩
  · have ho' : w.heap[g]? = some (.map es cl) := ho
    refine (AnyW.maps_Clone L g es cl w ho').mono fun e w' ⟨he, hw⟩ => ?_
    subst he; subst hw
    exact ⟨_, _, rfl, ⟨some w.heap.size, rfl, rfl⟩, MapV.new hf ho' hE (MapV.stm (hf.resq (List.mem_cons_self ..)) ho), (Ext.alloc w _).toSame⟩

def cloneRen : Shelf.Ren := ⟨fun x => if x = 5 then 66 else if x = 7 then 78 else x, fun x => if x = 3 then 37 else if x = 4 then 4 else if x = 20 then 20 else if x = 23 then 71 else if x = 25 then 5 else x, fun x => x⟩
theorem cloneLays : SlLaysW.n5 Try.prog cloneRen where
  mixed := by kernel_rfl
  f5 := ⟨Try.f66.name, by kernel_rfl, by kernel_rfl⟩
  f7 := by kernel_rfl
  t4 := by kernel_rfl
  a4 := fun _ => rfl
  z4 := fun _ => rfl
  v4 := fun _ => rfl
  t20 := by kernel_rfl
  a20 := fun _ => rfl
  z20 := fun _ => rfl
  v20 := fun _ => rfl
  t23 := by kernel_rfl
  a23 := fun _ => rfl
  z23 := fun _ => rfl
  v23 := fun _ => rfl

def m_mapsClone (m : Option (List (Int × List Int))) : Option (Option (List (Int × List Int))) := some m
theorem c_mapsClone {A : Option Nat} {m r : Option (List (Int × List Int))} (h : m_mapsClone m = some r) :
    Fun Try.prog 66 [.map A] [.res (MapV (kint .u8) (cod eu8) A m)] (fun v F' => ∃ B, v = .map B ∧ F' = [.res (MapV (kint .u8) (cod eu8) A m), .res (MapV (kint .u8) (cod eu8) B r)]) := by
  injection h with h
  subst h
  intro w R hs
  exact (clone_fun cloneLays (kint .u8) (cod eu8) A m w R hs).mono fun e w' ⟨v, F', h1, ⟨B, h2, h3⟩, h4, h5⟩ => by
    subst h3
    exact ⟨v, _, h1, ⟨B, h2, rfl⟩, h4.perm (List.Perm.swap ..), h5⟩

end Go.Proofs.Ythdpagcklakahaa
