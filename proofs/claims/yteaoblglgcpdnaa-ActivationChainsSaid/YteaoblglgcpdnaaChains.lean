/-
  The statement ActivationChainsSaid: the law answers true whatever the input, and its arguments read as they did.
  Conditions: none.
-/
import Derived.Test.YteaoblglgcpdnaaFin2
import Derived.Test.YteaoblglgcpdnaaGenActivationChains
import Derived.Test.YteaoblglgcpdnaaActC
namespace Go.Proofs.Yteaoblglgcpdnaa
open Go Go.ChangeShapes Go.WideShapes Go.ChangeAt Go.RowKit
set_option linter.unusedVariables false
set_option linter.unusedSimpArgs false
set_option maxRecDepth 20000

set_option maxRecDepth 100000 in
theorem activationChains_lifted (os : Os) (started : os.Started) (H : Type) (enc : TypeId × Value → H) :
    ReturnsInHanded {} Try.checked os 3 .any (Rows.activationChainsSpec.pre6 enc Try.prog Try.f3 Rows.activationChainsRow.domain false) (Rows.activationChainsSpec.post enc Try.prog Try.f3 false true false false) := by
  refine returnsInHanded_of_change (C := Try.checked) Try.own' started (by kernel_rfl) Try.func3
    (ChangeSpec.witness6 (enc := enc) (C := Try.checked) false ⟨#[], #[.int .u8 0, .bool false], []⟩ 8 (by kernel_rfl) (by kernel_rfl) (by kernel_rfl) (by kernel_rfl)) ?_
  intro W base args ds gs before hval0 hW hcnd _
  have hval : ∀ (j : Nat) t v, Try.f3.params[j]? = some t → args[j]? = some v → Value.okWide Try.prog W .any base t v := hval0
  clear hval0 hcnd
  have hW' := hW
  obtain ⟨p, q, hA0, hV, _, _, _⟩ := hW
  obtain ⟨rfl, _⟩ := trodVars_none hV
  have hA : DataW.TrodAll enc Try.prog W 0 (fun _ => true) true Try.f3.params.toList args.toList ds p := hA0
  rw [Try.params3] at hA hval
  obtain ⟨args⟩ := args
  obtain ⟨v0, vs0, d0, ds0, p0, q0, hvs, rfl, _, h0, hB0⟩ := trodAll_cons hA
  replace hvs : args = _ := hvs
  subst hvs
  obtain ⟨v1, vs1, d1, ds1, p1, q1, rfl, rfl, _, h1, hB1⟩ := trodAll_cons hB0
  obtain ⟨rfl, rfl, _⟩ := trodAll_nil hB1
  obtain ⟨x0, ex0, e0, k0, f0⟩ := open_arg (rdl_int Try.underlying5 : RdL Try.prog l_u8 (inK .u8) 5) h0
  obtain ⟨n0, rfl⟩ := okWide_int Try.underlying5 (hval 0 5 v0 rfl rfl)
  obtain rfl : x0 = n0 := by injection e0 with e _; injection e with _ e; exact e.symm
  obtain ⟨x1, ex1, e1, k1, f1⟩ := open_arg (rdl_bool Try.underlying4 : RdL Try.prog l_bool okB 4) h1
  obtain ⟨n1, rfl⟩ := okWide_bool Try.underlying4 (hval 1 4 v1 rfl rfl)
  obtain rfl : x1 = n1 := by injection e1 with e _; injection e with e; exact e.symm
  have hsat := Sat.nil W
  have hm := chains_true x0 x1 k0 k1
  refine ((c_law31_ActivationChains hm).quiet rfl trivial hsat).mono fun e W' ⟨he, hw⟩ => ?_
  subst he
  exact ⟨_, rfl, law_post Try.laid' rfl rfl Try.underlying4 (by kernel_rfl) rfl hW' hw⟩

theorem activationChains_holds : Rows.ActivationChainsSaid :=
  OpenClaim.holds_of_wide 3 Try.f3 rfl rfl rfl rfl rfl rfl rfl ⟨rfl, rfl, rfl, rfl, rfl⟩ rfl rfl rfl rfl rfl (by kernel_rfl) Try.func3 (by kernel_rfl)
    (of_decide_eq_true (by kernel_rfl)) (by unfold Func.isWrapper; first | (rw [if_pos (by decide +kernel)]; kernel_rfl) | (rw [if_neg (by decide +kernel)]; exact ⟨rfl, rfl⟩))
    (fun os started H enc _ => activationChains_lifted os started H enc)

#print axioms activationChains_holds

end Go.Proofs.Yteaoblglgcpdnaa
