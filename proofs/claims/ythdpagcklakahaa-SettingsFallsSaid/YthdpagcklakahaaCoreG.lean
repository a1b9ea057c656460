/-
  The core: slices.Grow of the nil slice by the shelf's contract; elements of a package-level table that stays.
  Conditions: none.
-/
import Derived.Test.YthdpagcklakahaaCoreT
import Derived.Shelf.Spec.SlicesGrow
namespace Go.Proofs.Ythdpagcklakahaa
open Go
set_option linter.unusedSectionVars false
set_option linter.unusedVariables false

def growM (n : Int) : Option (List Int) := if 0 ≤ n ∧ n ≤ 140737488355328 then some [] else none

section
variable {P : Program} [T : HasTT P] {w0 : World} {nt : Nat} {Γ Γ' : Env} {F F' G R : List As} {Q : Exit → Act → World → Prop} {ops : Array Oper} {rest : List Oper}
variable {d : Nat} {op : Op} {ty : Nat} {pos : String} {af : Array Edge} {X : List Oper → Act → World → Prop} {Post : Value → List As → Prop}

/-- An element of a table that stays. -/
theorem St.ixG [W : Walk P ops X] {α : Type} {E : Enc α} {t e g len c : Nat} {i j : TI} {x ix : Operand} {kk : IntKind} {q : Int} {ys : List α} {y : α} (hy : elt ys q = some y) (hd : Nat.blt d nt = true) (hx : ev Γ x = some (.pointer (some ⟨g, 0, none⟩))) (hq : ev Γ ix = some (.int kk q))
    (hm : As.ro (SlL E (some ⟨g, 0, none⟩) c ys) ∈ F) (hlen : len = ys.length) (hi : tget T.tt t = some i) (hdesc : i.desc = .array len e) (hj : tget T.tt e = some j) (hn : j.size = E.sz)
    (k : ∀ b o, St w0 nt ((d, .pointer (some ⟨b, o, none⟩)) :: Γ) (.ro (Cells b o (E.enc y)) :: F) (X rest)) : St w0 nt Γ F (X (⟨some d, .indexAddr t x ix, ty, pos, af, none⟩ :: rest)) :=
  St.ixA hy hd hx hq hlen hi hdesc hj hn (St.asrt (fun _ w => Sat.addC ⟨0, rfl, (Nat.zero_add _).symm⟩ hm hy w) (k g _))

theorem Rd.ixG {α : Type} {E : Enc α} {t e g len : Nat} {i j : TI} {x ix : Operand} {kk : IntKind} {q : Int} {xs : List α} {y : α} {b o : Nat} (hA : ∃ oA, (some ⟨g, 0, none⟩ : Option Addr) = some ⟨b, oA, none⟩ ∧ o = oA + q.toNat * E.sz) (hy : elt xs q = some y) (hx : ev Γ x = some (.pointer (some ⟨g, 0, none⟩))) (hq : ev Γ ix = some (.int kk q))
    (hlen : len = xs.length) (hi : tget T.tt t = some i) (hdesc : i.desc = .array len e) (hj : tget T.tt e = some j) (hn : j.size = E.sz) : Rd P F Γ (.indexAddr t x ix) (.pointer (some ⟨b, o, none⟩)) :=
  fun a w d ty pos af gg ha hf => by
    obtain ⟨oA, h1, rfl⟩ := hA
    injection h1 with h1
    injection h1 with h1 h2
    subst h1; subst h2; subst hlen
    have hv : pindexAddr T.tt t (.pointer (some ⟨g, 0, none⟩)) (.int kk q) = some (.pointer (some ⟨g, 0 + q.toNat * E.sz, none⟩)) := by
      obtain ⟨h0, h1, _⟩ := elt_some hy
      have : addO ⟨g, 0, none⟩ (q.toNat * j.size) = ⟨g, q.toNat * E.sz, none⟩ := by
        unfold addO
        split <;> simp_all
      simp [pindexAddr, hi, hdesc, hj, h0, h1, this]
    simp [execOp, ha.eval hx, ha.eval hq, pindexAddr_run T.ok hv]
end

end Go.Proofs.Ythdpagcklakahaa
