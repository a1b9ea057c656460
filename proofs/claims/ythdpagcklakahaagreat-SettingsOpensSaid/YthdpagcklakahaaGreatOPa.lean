/-
  The statement SettingsOpensSaid: the law answers true whatever the input, and its arguments read as they did.
  Conditions: none.
-/
import Derived.Test.YthdpagcklakahaaGreatOPa6
import Derived.Test.YthdpagcklakahaaGreatRows
import Derived.Test.YthdpagcklakahaaGreatProg
namespace Go.Proofs.YthdpagcklakahaaGreat
open Go Go.ChangeShapes Go.WideShapes Go.ChangeAt Go.RowKit
set_option linter.unusedVariables false
set_option linter.unusedSimpArgs false
set_option maxRecDepth 20000

set_option maxRecDepth 100000 in
theorem settingsOpens_lifted (os : Os) (started : os.Started) (H : Type) (enc : TypeId × Value → H) :
    ReturnsInHanded {} Tryz.checked os 3 .any (Rows.settingsOpensSpec.pre6 enc Tryz.prog Tryz.f3 Rows.settingsOpensRow.domain false) (Rows.settingsOpensSpec.post enc Tryz.prog Tryz.f3 false true false false) := by
  refine returnsInHanded_of_change (C := Tryz.checked) Tryz.own' started (by kernel_rfl) Tryz.func3
    (ChangeSpec.witness6 (enc := enc) (C := Tryz.checked) false ⟨#[], #[.slice none 0 0, .slice none 0 0, .int .i64 0, .int .i64 0, .int .i64 0, .slice none 0 0], []⟩ 8 (by kernel_rfl) (by kernel_rfl) (by kernel_rfl) (by kernel_rfl)) ?_
  intro W base args ds gs before hval0 hW hcnd _
  have hval : ∀ (j : Nat) t v, Tryz.f3.params[j]? = some t → args[j]? = some v → Value.okWide Tryz.prog W .any base t v := hval0
  clear hval0 hcnd
  have hW' := hW
  obtain ⟨p, q, hA0, hV, _, _, _⟩ := hW
  obtain ⟨rfl, _⟩ := trodVars_none hV
  have hA : DataW.TrodAll enc Tryz.prog W 0 (fun _ => true) true Tryz.f3.params.toList args.toList ds p := hA0
  rw [Tryz.params3] at hA hval
  obtain ⟨args⟩ := args
  obtain ⟨v0, vs0, d0, ds0, p0, q0, hvs, rfl, _, h0, hB0⟩ := trodAll_cons hA
  replace hvs : args = _ := hvs
  subst hvs
  obtain ⟨v1, vs1, d1, ds1, p1, q1, rfl, rfl, _, h1, hB1⟩ := trodAll_cons hB0
  obtain ⟨v2, vs2, d2, ds2, p2, q2, rfl, rfl, _, h2, hB2⟩ := trodAll_cons hB1
  obtain ⟨v3, vs3, d3, ds3, p3, q3, rfl, rfl, _, h3, hB3⟩ := trodAll_cons hB2
  obtain ⟨v4, vs4, d4, ds4, p4, q4, rfl, rfl, _, h4, hB4⟩ := trodAll_cons hB3
  obtain ⟨v5, vs5, d5, ds5, p5, q5, rfl, rfl, _, h5, hB5⟩ := trodAll_cons hB4
  obtain ⟨rfl, rfl, _⟩ := trodAll_nil hB5
  obtain ⟨x0, ex0, e0, k0, f0⟩ := open_arg (rdl_slice Tryz.underlying22 (by kernel_rfl) (by decide) (rdc_flat (rdl_int Tryz.underlying5 : RdL Tryz.prog l_u8 (inK .u8) 5) (fun y ex => rfl)) : RdL Tryz.prog l_sl_u8 (okL (inK .u8)) 22) h0
  obtain ⟨⟨A0_0, c0_0⟩, _⟩ := ex0
  obtain ⟨A0, l0, c0, rfl⟩ := okWide_slice Tryz.underlying22 (hval 0 22 v0 rfl rfl)
  obtain ⟨rfl, rfl, rfl⟩ : A0_0 = A0 ∧ x0.length = l0 ∧ c0_0 = c0 := by injection e0 with e _; injection e with e1 e2 e3; exact ⟨e1.symm, e2.symm, e3.symm⟩
  obtain ⟨x1, ex1, e1, k1, f1⟩ := open_arg (rdl_slice Tryz.underlying22 (by kernel_rfl) (by decide) (rdc_flat (rdl_int Tryz.underlying5 : RdL Tryz.prog l_u8 (inK .u8) 5) (fun y ex => rfl)) : RdL Tryz.prog l_sl_u8 (okL (inK .u8)) 22) h1
  obtain ⟨⟨A1_0, c1_0⟩, _⟩ := ex1
  obtain ⟨A1, l1, c1, rfl⟩ := okWide_slice Tryz.underlying22 (hval 1 22 v1 rfl rfl)
  obtain ⟨rfl, rfl, rfl⟩ : A1_0 = A1 ∧ x1.length = l1 ∧ c1_0 = c1 := by injection e1 with e _; injection e with e1 e2 e3; exact ⟨e1.symm, e2.symm, e3.symm⟩
  obtain ⟨x2, ex2, e2, k2, f2⟩ := open_arg (rdl_int Tryz.underlying3 : RdL Tryz.prog l_i64 (inK .i64) 3) h2
  obtain ⟨n2, rfl⟩ := okWide_int Tryz.underlying3 (hval 2 3 v2 rfl rfl)
  obtain rfl : x2 = n2 := by injection e2 with e _; injection e with _ e; exact e.symm
  obtain ⟨x3, ex3, e3, k3, f3⟩ := open_arg (rdl_int Tryz.underlying3 : RdL Tryz.prog l_i64 (inK .i64) 3) h3
  obtain ⟨n3, rfl⟩ := okWide_int Tryz.underlying3 (hval 3 3 v3 rfl rfl)
  obtain rfl : x3 = n3 := by injection e3 with e _; injection e with _ e; exact e.symm
  obtain ⟨x4, ex4, e4, k4, f4⟩ := open_arg (rdl_int Tryz.underlying3 : RdL Tryz.prog l_i64 (inK .i64) 3) h4
  obtain ⟨n4, rfl⟩ := okWide_int Tryz.underlying3 (hval 4 3 v4 rfl rfl)
  obtain rfl : x4 = n4 := by injection e4 with e _; injection e with _ e; exact e.symm
  obtain ⟨x5, ex5, e5, k5, f5⟩ := open_arg (rdl_slice Tryz.underlying23 (by kernel_rfl) (by decide) (rdc_flat (rdl_int Tryz.underlying3 : RdL Tryz.prog l_i64 (inK .i64) 3) (fun y ex => rfl)) : RdL Tryz.prog l_sl_i64 (okL (inK .i64)) 23) h5
  obtain ⟨⟨A5_0, c5_0⟩, _⟩ := ex5
  obtain ⟨A5, l5, c5, rfl⟩ := okWide_slice Tryz.underlying23 (hval 5 23 v5 rfl rfl)
  obtain ⟨rfl, rfl, rfl⟩ : A5_0 = A5 ∧ x5.length = l5 ∧ c5_0 = c5 := by injection e5 with e _; injection e with e1 e2 e3; exact ⟨e1.symm, e2.symm, e3.symm⟩
  have hsat := sat_ros (w := W) [SlL eu8 A0_0 c0_0 x0, SlL eu8 A1_0 c1_0 x1, SlL ei64 A5_0 c5_0 x5] (by simp only [List.mem_cons, List.not_mem_nil, or_false, forall_eq_or_imp, forall_eq]; exact ⟨f0 _ (.head _), f1 _ (.head _), f5 _ (.head _)⟩)
  have hm := opens_true x0 x1 x2 x3 x4 x5 k0 k1 k2 k3 k4 k5
  refine ((c_law06_SettingsOpens hm).quiet rfl ⟨(.head _), (.tail _ (.head _)), (.tail _ (.tail _ (.head _))), trivial⟩ hsat).mono fun e W' ⟨he, hw⟩ => ?_
  subst he
  exact ⟨_, rfl, law_post Tryz.laid' rfl rfl Tryz.underlying4 (by kernel_rfl) rfl hW' hw⟩

theorem settingsOpens_holds : Rows.SettingsOpensSaid :=
  OpenClaim.holds_of_wide 3 Tryz.f3 rfl rfl rfl rfl rfl rfl rfl ⟨rfl, rfl, rfl, rfl, rfl⟩ rfl rfl rfl rfl rfl (by kernel_rfl) Tryz.func3 (by kernel_rfl)
    (of_decide_eq_true (by kernel_rfl)) (by unfold Func.isWrapper; first | (rw [if_pos (by decide +kernel)]; kernel_rfl) | (rw [if_neg (by decide +kernel)]; exact ⟨rfl, rfl⟩))
    (fun os started H enc _ => settingsOpens_lifted os started H enc)

#print axioms settingsOpens_holds

end Go.Proofs.YthdpagcklakahaaGreat
