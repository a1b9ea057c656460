/-
 The core: slices.Grow of the nil slice by the shelf's contract; elements of a package-level table that stays.
 Conditions: none.
-/
import Derived.Test.YtelepclajhpnfaaGreatDoorCoreT
import Derived.Shelf.Spec.SlicesGrow
namespace Go.Proofs.YtelepclajhpnfaaGreatDoor
open Go
set_option linter.unusedSectionVars false
set_option linter.unusedVariables false
theorem grow_fun {P : Program} {ρ : Shelf.Ren} (L : Lays8.n4 P ρ) {i0 : TypeInfo} {z : Value} (hi : P.info? (ρ.t 25) = some i0) (hz : i0.zero = some z) (hs : 0 < i0.size) (hzs : z.cells.size = i0.size) {n : Nat} (hb : n * i0.bytes ≤ 140737488355328) (h63 : n ≤ 140737488355328) :
  Fun P (ρ.f 4) [.slice none 0 0, .int .i64 (n : Int)] [] (fun v F' => ∃ A c, v = .slice A 0 c ∧ F' = [.res (Own i0.size (ρ.t 25) A 0 c [])]) := by
 intro w R hsat
 have hR : Sat R w := hsat
 have hrows : ∀ r ∈ ([] : List (List Value)), r.length = i0.size ∧ ∀ u ∈ r, u.oneCell' = true := fun r hr => by cases hr
 by_cases h0 : n = 0
 ·subst h0
  refine (Any8.slices_Grow_room L none 0 0 0 w (by omega) (by omega) (by omega) (by omega)).mono fun e w' he => ?_
  obtain ⟨rfl, rfl⟩ := he
  refine ⟨_, _, rfl, ⟨none, 0, rfl, rfl⟩, ?_, Same.refl _⟩
  exact hR.add_res (Ext.refl _) _ (by simp [Own, blkOf]) (fun k hk => by simp [Own, blkOf] at hk) ⟨rfl, hrows, .inl ⟨rfl, rfl⟩⟩
 ·refine (Any8.slices_Grow_grow L i0 z hi hz hs none 0 0 n [] w (by omega) (by omega) (by rw [Nat.zero_add]; exact hb) (by omega) (by simp) (fun _ => rfl) (fun a ha => by cases ha)).mono fun e w' he => ?_
  obtain ⟨rfl, rfl⟩ := he
  have hge := grownCap_ge w (0 + n) 0 (ρ.t 25)
  have hcm := grownCap_le_maxLen w (0 + n) 0 (ρ.t 25) (by unfold maxLen; omega)
  refine ⟨_, _, rfl, ⟨_, _, rfl, rfl⟩, ?_, ((Ext.drew w).trans (Ext.alloc _ _)).toSame⟩
  refine hR.add_res ((Ext.drew w).trans (Ext.alloc _ _)) _ (blkOf_nodup _ _) (fun k hk => ?_) ⟨rfl, hrows, .inr ⟨w.heap.size, _, (0, 0), by omega, rfl, hp_alloc w.drew _, ?_, by omega, hcm, ?_, fun i _ hh => by omega⟩⟩
  ·obtain ⟨_, a, ha, hk⟩ := mem_blkOf.1 hk
   injection ha with ha
   subst ha
   subst hk
   exact ⟨Nat.le_refl _, by simp⟩
  ·rw [Array.size_append, Array.size_append, List.size_toArray, size_zeroCells, size_zeroCells, hzs, List.length_nil, Nat.zero_add, ← Nat.add_mul]
   congr 1
   omega
  ·simp
def growM (n : Int) : Option (List Int) := if 0 ≤ n ∧ n ≤ 140737488355328 then some [] else none
theorem growM_some {n : Int} {r : List Int} (h : growM n = some r) : r = [] ∧ ∃ k : Nat, n = (k : Int) ∧ k ≤ 140737488355328 := by
 unfold growM at h
 split at h
 ·rename_i hn
  injection h with h
  exact ⟨h.symm, n.toNat, by omega, by omega⟩
 ·cases h
section
variable {P : Program} [T : HasTT P] {w0 : World} {nt : Nat} {Γ Γ' : Env} {F F' G R : List As} {Q : Exit → Act → World → Prop} {ops : Array Oper} {rest : List Oper}
variable {d : Nat} {op : Op} {ty : Nat} {pos : String} {af : Array Edge} {X : List Oper → Act → World → Prop} {Post : Value → List As → Prop}
theorem St.ixG [W : Walk P ops X] {α : Type} {E : Enc α} {t e g len c : Nat} {i j : TI} {x ix : Operand} {kk : IntKind} {q : Int} {ys : List α} {y : α} (hy : elt ys q = some y) (hd : Nat.blt d nt = true) (hx : ev Γ x = some (.pointer (some ⟨g, 0, none⟩))) (hq : ev Γ ix = some (.int kk q))
  (hm : As.ro (SlL E (some ⟨g, 0, none⟩) c ys) ∈ F) (hlen : len = ys.length) (hi : tget T.tt t = some i) (hdesc : i.desc = .array len e) (hj : tget T.tt e = some j) (hn : j.size = E.sz)
  (k : ∀ b o, St w0 nt ((d, .pointer (some ⟨b, o, none⟩)) :: Γ) (.ro (Cells b o (E.enc y)) :: F) (X rest)) : St w0 nt Γ F (X (⟨some d, .indexAddr t x ix, ty, pos, af, none⟩ :: rest)) :=
 St.ixA hy hd hx hq hlen hi hdesc hj hn (St.asrt (fun _ w => Sat.addC ⟨0, rfl, (Nat.zero_add _).symm⟩ hm hy w) (k g _))
theorem Rd.ixG {α : Type} {E : Enc α} {t e g len : Nat} {i j : TI} {x ix : Operand} {kk : IntKind} {q : Int} {xs : List α} {y : α} {b o : Nat} (hA : ∃ oA, (some ⟨g, 0, none⟩ : Option Addr) = some ⟨b, oA, none⟩ ∧ o = oA + q.toNat * E.sz) (hy : elt xs q = some y) (hx : ev Γ x = some (.pointer (some ⟨g, 0, none⟩))) (hq : ev Γ ix = some (.int kk q))
  (hlen : len = xs.length) (hi : tget T.tt t = some i) (hdesc : i.desc = .array len e) (hj : tget T.tt e = some j) (hn : j.size = E.sz) : Rd P F Γ (.indexAddr t x ix) (.pointer (some ⟨b, o, none⟩)) :=
 fun a w d ty pos af gg ha hf => by
  obtain ⟨oA, h1, rfl⟩ := hA
  injection h1 with h1
  injection h1 with h1 h2
  subst h1; subst h2; subst hlen
  have hv : pindexAddr T.tt t (.pointer (some ⟨g, 0, none⟩)) (.int kk q) = some (.pointer (some ⟨g, 0 + q.toNat * E.sz, none⟩)) := by
   obtain ⟨h0, h1, _⟩ := elt_some hy
   have : addO ⟨g, 0, none⟩ (q.toNat * j.size) = ⟨g, q.toNat * E.sz, none⟩ := by
    unfold addO
    split <;> simp_all
   simp [pindexAddr, hi, hdesc, hj, h0, h1, this]
  simp [execOp, ha.eval hx, ha.eval hq, pindexAddr_run T.ok hv]
end
end Go.Proofs.YtelepclajhpnfaaGreatDoor
