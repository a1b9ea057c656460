/-
  The statement RestoreCutsSaid: the law answers true whatever the input, and its arguments read as they did.
  Conditions: none.
-/
import Derived.Test.YthdpagcklakahaaRCa5
import Derived.Test.YthdpagcklakahaaRows
import Derived.Test.YthdpagcklakahaaProg
namespace Go.Proofs.Ythdpagcklakahaa
open Go Go.ChangeShapes Go.WideShapes Go.ChangeAt Go.RowKit
set_option linter.unusedVariables false
set_option linter.unusedSimpArgs false
set_option maxRecDepth 20000

set_option maxRecDepth 100000 in
theorem restoreCuts_lifted (os : Os) (started : os.Started) (H : Type) (enc : TypeId × Value → H) :
    ReturnsInHanded {} Try.checked os 8 .any (Rows.restoreCutsSpec.pre6 enc Try.prog Try.f8 Rows.restoreCutsRow.domain false) (Rows.restoreCutsSpec.post enc Try.prog Try.f8 false true false false) := by
  refine returnsInHanded_of_change (C := Try.checked) Try.own' started (by kernel_rfl) Try.func8
    (ChangeSpec.witness6 (enc := enc) (C := Try.checked) false ⟨#[], #[.int .u8 0, .int .u8 0, .bool false, .bool false, .int .u8 0, .int .u8 0], []⟩ 8 (by kernel_rfl) (by kernel_rfl) (by kernel_rfl) (by kernel_rfl)) ?_
  intro W base args ds gs before hval0 hW hcnd _
  have hval : ∀ (j : Nat) t v, Try.f8.params[j]? = some t → args[j]? = some v → Value.okWide Try.prog W .any base t v := hval0
  clear hval0 hcnd
  have hW' := hW
  obtain ⟨p, q, hA0, hV, _, _, _⟩ := hW
  obtain ⟨rfl, _⟩ := trodVars_none hV
  have hA : DataW.TrodAll enc Try.prog W 0 (fun _ => true) true Try.f8.params.toList args.toList ds p := hA0
  rw [Try.params8] at hA hval
  obtain ⟨args⟩ := args
  obtain ⟨v0, vs0, d0, ds0, p0, q0, hvs, rfl, _, h0, hB0⟩ := trodAll_cons hA
  replace hvs : args = _ := hvs
  subst hvs
  obtain ⟨v1, vs1, d1, ds1, p1, q1, rfl, rfl, _, h1, hB1⟩ := trodAll_cons hB0
  obtain ⟨v2, vs2, d2, ds2, p2, q2, rfl, rfl, _, h2, hB2⟩ := trodAll_cons hB1
  obtain ⟨v3, vs3, d3, ds3, p3, q3, rfl, rfl, _, h3, hB3⟩ := trodAll_cons hB2
  obtain ⟨v4, vs4, d4, ds4, p4, q4, rfl, rfl, _, h4, hB4⟩ := trodAll_cons hB3
  obtain ⟨v5, vs5, d5, ds5, p5, q5, rfl, rfl, _, h5, hB5⟩ := trodAll_cons hB4
  obtain ⟨rfl, rfl, _⟩ := trodAll_nil hB5
  obtain ⟨x0, ex0, e0, k0, f0⟩ := open_arg (rdl_int Try.underlying5 : RdL Try.prog l_u8 (inK .u8) 5) h0
  obtain ⟨n0, rfl⟩ := okWide_int Try.underlying5 (hval 0 5 v0 rfl rfl)
  obtain rfl : x0 = n0 := by injection e0 with e _; injection e with _ e; exact e.symm
  obtain ⟨x1, ex1, e1, k1, f1⟩ := open_arg (rdl_int Try.underlying5 : RdL Try.prog l_u8 (inK .u8) 5) h1
  obtain ⟨n1, rfl⟩ := okWide_int Try.underlying5 (hval 1 5 v1 rfl rfl)
  obtain rfl : x1 = n1 := by injection e1 with e _; injection e with _ e; exact e.symm
  obtain ⟨x2, ex2, e2, k2, f2⟩ := open_arg (rdl_bool Try.underlying4 : RdL Try.prog l_bool okB 4) h2
  obtain ⟨n2, rfl⟩ := okWide_bool Try.underlying4 (hval 2 4 v2 rfl rfl)
  obtain rfl : x2 = n2 := by injection e2 with e _; injection e with e; exact e.symm
  obtain ⟨x3, ex3, e3, k3, f3⟩ := open_arg (rdl_bool Try.underlying4 : RdL Try.prog l_bool okB 4) h3
  obtain ⟨n3, rfl⟩ := okWide_bool Try.underlying4 (hval 3 4 v3 rfl rfl)
  obtain rfl : x3 = n3 := by injection e3 with e _; injection e with e; exact e.symm
  obtain ⟨x4, ex4, e4, k4, f4⟩ := open_arg (rdl_int Try.underlying5 : RdL Try.prog l_u8 (inK .u8) 5) h4
  obtain ⟨n4, rfl⟩ := okWide_int Try.underlying5 (hval 4 5 v4 rfl rfl)
  obtain rfl : x4 = n4 := by injection e4 with e _; injection e with _ e; exact e.symm
  obtain ⟨x5, ex5, e5, k5, f5⟩ := open_arg (rdl_int Try.underlying5 : RdL Try.prog l_u8 (inK .u8) 5) h5
  obtain ⟨n5, rfl⟩ := okWide_int Try.underlying5 (hval 5 5 v5 rfl rfl)
  obtain rfl : x5 = n5 := by injection e5 with e _; injection e with _ e; exact e.symm
  have hsat := Sat.nil W
  have hm := cuts_true x0 x1 x2 x3 x4 x5 k0 k1 k2 k3 k4 k5
  refine ((c_law39_RestoreCuts hm).quiet rfl trivial hsat).mono fun e W' ⟨he, hw⟩ => ?_
  subst he
  exact ⟨_, rfl, law_post Try.laid' rfl rfl Try.underlying4 (by kernel_rfl) rfl hW' hw⟩

theorem restoreCuts_holds : Rows.RestoreCutsSaid :=
  OpenClaim.holds_of_wide 8 Try.f8 rfl rfl rfl rfl rfl rfl rfl ⟨rfl, rfl, rfl, rfl, rfl⟩ rfl rfl rfl rfl rfl (by kernel_rfl) Try.func8 (by kernel_rfl)
    (of_decide_eq_true (by kernel_rfl)) (by unfold Func.isWrapper; first | (rw [if_pos (by decide +kernel)]; kernel_rfl) | (rw [if_neg (by decide +kernel)]; exact ⟨rfl, rfl⟩))
    (fun os started H enc _ => restoreCuts_lifted os started H enc)

#print axioms restoreCuts_holds

end Go.Proofs.Ythdpagcklakahaa
