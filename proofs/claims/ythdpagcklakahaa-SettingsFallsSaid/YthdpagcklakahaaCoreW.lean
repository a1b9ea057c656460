/-
  The core: maps.Keys and slices.Sorted of the keys of a map.
  Conditions: none.
-/
import Derived.Test.YthdpagcklakahaaCoreRZ
import Derived.Test.YthdpagcklakahaaSortX
namespace Go.Proofs.Ythdpagcklakahaa
open Go
set_option linter.unusedSectionVars false
set_option linter.unusedVariables false
set_option maxRecDepth 10000

def m_mapKeys (m : Option (List (Int × List Int))) : Option Unit := some ()
theorem c_mapKeys {A : Option Nat} {m : Option (List (Int × List Int))} {r : Unit} (h : m_mapKeys m = some r) :
    Fun Try.prog 65 [.map A] [.res (MapV (kint .u8) (cod eu8) A m)]
      (fun v F' => ∃ g, v = .func (.func 77) #[] #[.pointer (some ⟨g, 0, none⟩)] ∧ F' = [.res (Box g 71 [.map A]), .res (MapV (kint .u8) (cod eu8) A m)]) := by
  refine Fun.intro Try.func65 rfl rfl rfl fun w R => ?_
  refine St.seq ?_
  refine St.region ?_
  refine St.box rfl rfl fun g => ?_
  refine St.p rfl rfl ?_
  refine St.done ?_
  refine St.thenN ?_
  refine St.seq ?_
  refine St.region ?_
  iterate 2 refine St.p rfl rfl ?_
  refine St.done ?_
  refine St.thenN ?_
  refine St.ret ?_
  exact St.finR Try.results65 (.tmp rfl .nil) rfl [.res (Box g 71 [.map A]), .res (MapV (kint .u8) (cod eu8) A m)] ⟨g, rfl, rfl⟩ (fun _ w => w)

/-- The keys of a map, ascending. -/
def m_sortedKeys (m : Option (List (Int × List Int))) : Option (List Int) :=
  if (m.getD []).length ≤ 1000 then some (((m.getD []).map (·.1)).mergeSort fun x y => decide (x ≤ y)) else none

theorem perm_sort {l l' : List Int} (h : l.Perm l') : (l.mergeSort fun x y => decide (x ≤ y)) = l'.mergeSort fun x y => decide (x ≤ y) := by
  have ht : ∀ (a b c : Int), decide (a ≤ b) = true → decide (b ≤ c) = true → decide (a ≤ c) = true := fun a b c h1 h2 => by simp at *; omega
  have hT : ∀ (a b : Int), (decide (a ≤ b) || decide (b ≤ a)) = true := fun a b => by simp; omega
  refine List.Perm.eq_of_pairwise (le := fun x y => decide (x ≤ y) = true) (fun a b _ _ h1 h2 => by simp at h1 h2; omega) (List.pairwise_mergeSort ht hT _) (List.pairwise_mergeSort ht hT _) ?_
  exact (List.mergeSort_perm _ _).trans (h.trans (List.mergeSort_perm _ _).symm)
theorem perm_keys {l l' : List Int} (h : (l.map (kint .u8).v).Perm (l'.map (kint .u8).v)) : l.Perm l' := by
  have e : ∀ l : List Int, (l.map (kint .u8).v).filterMap (fun v => match v with | .int _ x => some x | _ => none) = l := fun l => by
    induction l with
    | nil => rfl
    | cons x r ih => rw [List.map_cons, List.filterMap_cons]; show x :: _ = _; rw [ih]
  have := h.filterMap (fun v => match v with | .int _ x => some x | _ => none)
  rw [e, e] at this
  exact this
theorem entAppendSeq : Ent Try.prog 82 := ⟨_, Try.func82, by kernel_rfl, by kernel_rfl⟩
theorem entCollect : Ent Try.prog 75 := ⟨_, Try.func75, by kernel_rfl, by kernel_rfl⟩
theorem entSort8 : Ent Try.prog 76 := ⟨_, Try.func76, by kernel_rfl, by kernel_rfl⟩
theorem c_collect {g : Nat} {A : Option Nat} {m : Option (List (Int × List Int))} (hm : (keysOf m).length ≤ 1000) :
    Fun Try.prog 75 [.func (.func 77) #[] #[.pointer (some ⟨g, 0, none⟩)]] [.res (Box g 71 [.map A]), .res (MapV (kint .u8) (cod eu8) A m)]
      (fun v F' => ∃ B c ss, (ss.map (kint .u8).v).Perm ((keysOf m).map (kint .u8).v) ∧ v = .slice B ss.length c ∧ F' = [.res (Box g 71 [.map A]), .res (MapV (kint .u8) (cod eu8) A m), .res (OwnL eu8 5 B c ss)]) := by
  refine Fun.intro Try.func75 rfl rfl rfl fun w R => ?_
  refine St.seq ?_
  refine St.region ?_
  refine St.p rfl rfl ?_
  refine St.done ?_
  refine St.thenN ?_
  refine St.seq ?_
  refine St.region ?_
  refine St.p rfl rfl ?_
  refine St.call (c_appendSeq hm) entAppendSeq rfl rfl rfl (fun _ w => w) ?_
  rintro _ _ ⟨B, c, ss, hp, rfl, rfl⟩
  refine St.p rfl rfl ?_
  refine St.done ?_
  refine St.thenN ?_
  refine St.ret ?_
  exact St.finR Try.results75 (.tmp rfl .nil) rfl [.res (Box g 71 [.map A]), .res (MapV (kint .u8) (cod eu8) A m), .res (OwnL eu8 5 B c ss)] ⟨B, c, ss, hp, rfl, rfl⟩ (fun _ w => w)
theorem c_sortedKeys {g : Nat} {A : Option Nat} {m : Option (List (Int × List Int))} {r : List Int} (h : m_sortedKeys m = some r) :
    Fun Try.prog 64 [.func (.func 77) #[] #[.pointer (some ⟨g, 0, none⟩)]] [.res (Box g 71 [.map A]), .res (MapV (kint .u8) (cod eu8) A m)]
      (fun v F' => ∃ B c, v = .slice B r.length c ∧ F' = [.res (Box g 71 [.map A]), .res (MapV (kint .u8) (cod eu8) A m), .res (OwnL eu8 5 B c r)]) := by
  unfold m_sortedKeys at h
  split at h
  · rename_i hl
    injection h with h
    have hm : (keysOf m).length ≤ 1000 := by simpa [keysOf] using hl
    refine Fun.intro Try.func64 rfl rfl rfl fun w R => ?_
    refine St.seq ?_
    refine St.region ?_
    refine St.p rfl rfl ?_
    refine St.done ?_
    refine St.thenN ?_
    refine St.seq ?_
    refine St.region ?_
    refine St.p rfl rfl ?_
    refine St.call (c_collect hm) entCollect rfl rfl rfl (fun _ w => w) ?_
    rintro _ _ ⟨B, c, ss, hp, rfl, rfl⟩
    refine St.p rfl rfl ?_
    refine St.done ?_
    refine St.thenN ?_
    have hpk := perm_keys hp
    have hlen : ss.length ≤ 1000 := by rw [hpk.length_eq]; exact hm
    have hr : ss.mergeSort (fun x y => decide (x ≤ y)) = r := by rw [perm_sort hpk]; exact h
    have hs8 := sort8 hlen
    rw [hr] at hs8
    have hrl : ss.length = r.length := by rw [← hr]; exact ((List.mergeSort_perm _ _).length_eq).symm
    refine St.seq ?_
    refine St.region ?_
    refine St.p rfl rfl ?_
    refine St.call (R := .res (Box g 71 [.map A]) :: .res (MapV (kint .u8) (cod eu8) A m) :: R) (c_slices_Sort__uint8_uint8 hs8) entSort8 rfl rfl rfl (fun _ w => w.front (.s (.s .z))) ?_
    rintro _ _ ⟨rfl, rfl⟩
    refine St.done ?_
    refine St.thenN ?_
    refine St.seq ?_
    refine St.region ?_
    iterate 2 refine St.p rfl rfl ?_
    refine St.done ?_
    refine St.thenN ?_
    refine St.ret ?_
    exact St.finR Try.results64 (.tmp rfl .nil) rfl [.res (Box g 71 [.map A]), .res (MapV (kint .u8) (cod eu8) A m), .res (OwnL eu8 5 B c r)] ⟨B, c, by rw [hrl], rfl⟩ (fun _ w => (w.front (.s (.s .z))).front (.s (.s .z)))
  · cases h

end Go.Proofs.Ythdpagcklakahaa
