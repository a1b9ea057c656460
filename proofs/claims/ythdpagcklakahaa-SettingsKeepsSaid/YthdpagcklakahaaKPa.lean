/-
  The statement SettingsKeepsSaid: the law answers true whatever the input, and its arguments read as they did.
  Conditions: none.
-/
import Derived.Test.YthdpagcklakahaaKPa5
import Derived.Test.YthdpagcklakahaaRows
import Derived.Test.YthdpagcklakahaaProg
namespace Go.Proofs.Ythdpagcklakahaa
open Go Go.ChangeShapes Go.WideShapes Go.ChangeAt Go.RowKit
set_option linter.unusedVariables false
set_option linter.unusedSimpArgs false
set_option maxRecDepth 20000

set_option maxRecDepth 100000 in
theorem settingsKeeps_lifted (os : Os) (started : os.Started) (H : Type) (enc : TypeId × Value → H) :
    ReturnsInHanded {} Try.checked os 3 .any (Rows.settingsKeepsSpec.pre6 enc Try.prog Try.f3 Rows.settingsKeepsRow.domain false) (Rows.settingsKeepsSpec.post enc Try.prog Try.f3 false true false false) := by
  refine returnsInHanded_of_change (C := Try.checked) Try.own' started (by kernel_rfl) Try.func3
    (ChangeSpec.witness6 (enc := enc) (C := Try.checked) false ⟨#[], #[.slice none 0 0, .int .i64 0, .int .u8 0], []⟩ 8 (by kernel_rfl) (by kernel_rfl) (by kernel_rfl) (by kernel_rfl)) ?_
  intro W base args ds gs before hval0 hW hcnd _
  have hval : ∀ (j : Nat) t v, Try.f3.params[j]? = some t → args[j]? = some v → Value.okWide Try.prog W .any base t v := hval0
  clear hval0 hcnd
  have hW' := hW
  obtain ⟨p, q, hA0, hV, _, _, _⟩ := hW
  obtain ⟨rfl, _⟩ := trodVars_none hV
  have hA : DataW.TrodAll enc Try.prog W 0 (fun _ => true) true Try.f3.params.toList args.toList ds p := hA0
  rw [Try.params3] at hA hval
  obtain ⟨args⟩ := args
  obtain ⟨v0, vs0, d0, ds0, p0, q0, hvs, rfl, _, h0, hB0⟩ := trodAll_cons hA
  replace hvs : args = _ := hvs
  subst hvs
  obtain ⟨v1, vs1, d1, ds1, p1, q1, rfl, rfl, _, h1, hB1⟩ := trodAll_cons hB0
  obtain ⟨v2, vs2, d2, ds2, p2, q2, rfl, rfl, _, h2, hB2⟩ := trodAll_cons hB1
  obtain ⟨rfl, rfl, _⟩ := trodAll_nil hB2
  obtain ⟨x0, ex0, e0, k0, f0⟩ := open_arg (rdl_slice Try.underlying22 (by kernel_rfl) (by decide) (rdc_flat (rdl_int Try.underlying3 : RdL Try.prog l_i64 (inK .i64) 3) (fun y ex => rfl)) : RdL Try.prog l_sl_i64 (okL (inK .i64)) 22) h0
  obtain ⟨⟨A0_0, c0_0⟩, _⟩ := ex0
  obtain ⟨A0, l0, c0, rfl⟩ := okWide_slice Try.underlying22 (hval 0 22 v0 rfl rfl)
  obtain ⟨rfl, rfl, rfl⟩ : A0_0 = A0 ∧ x0.length = l0 ∧ c0_0 = c0 := by injection e0 with e _; injection e with e1 e2 e3; exact ⟨e1.symm, e2.symm, e3.symm⟩
  obtain ⟨x1, ex1, e1, k1, f1⟩ := open_arg (rdl_int Try.underlying3 : RdL Try.prog l_i64 (inK .i64) 3) h1
  obtain ⟨n1, rfl⟩ := okWide_int Try.underlying3 (hval 1 3 v1 rfl rfl)
  obtain rfl : x1 = n1 := by injection e1 with e _; injection e with _ e; exact e.symm
  obtain ⟨x2, ex2, e2, k2, f2⟩ := open_arg (rdl_int Try.underlying5 : RdL Try.prog l_u8 (inK .u8) 5) h2
  obtain ⟨n2, rfl⟩ := okWide_int Try.underlying5 (hval 2 5 v2 rfl rfl)
  obtain rfl : x2 = n2 := by injection e2 with e _; injection e with _ e; exact e.symm
  have hsat := sat_ros (w := W) [SlL ei64 A0_0 c0_0 x0] (by simp only [List.mem_cons, List.not_mem_nil, or_false, forall_eq_or_imp, forall_eq]; exact f0 _ (.head _))
  have hm := keeps_true x0 x1 x2 k0 k1 k2
  refine ((c_law06_SettingsKeeps hm).quiet rfl ⟨(.head _), trivial⟩ hsat).mono fun e W' ⟨he, hw⟩ => ?_
  subst he
  exact ⟨_, rfl, law_post Try.laid' rfl rfl Try.underlying4 (by kernel_rfl) rfl hW' hw⟩

theorem settingsKeeps_holds : Rows.SettingsKeepsSaid :=
  OpenClaim.holds_of_wide 3 Try.f3 rfl rfl rfl rfl rfl rfl rfl ⟨rfl, rfl, rfl, rfl, rfl⟩ rfl rfl rfl rfl rfl (by kernel_rfl) Try.func3 (by kernel_rfl)
    (of_decide_eq_true (by kernel_rfl)) (by unfold Func.isWrapper; first | (rw [if_pos (by decide +kernel)]; kernel_rfl) | (rw [if_neg (by decide +kernel)]; exact ⟨rfl, rfl⟩))
    (fun os started H enc _ => settingsKeeps_lifted os started H enc)

#print axioms settingsKeeps_holds

end Go.Proofs.Ythdpagcklakahaa
