/-
  The statement RestoreAnswersSaid: the law answers true whatever the input, and its arguments read as they did.
  Conditions: none.
-/
import Derived.Test.YthdpagcklakahaaGreatRAa6
import Derived.Test.YthdpagcklakahaaGreatRows
import Derived.Test.YthdpagcklakahaaGreatProg
namespace Go.Proofs.YthdpagcklakahaaGreat
open Go Go.ChangeShapes Go.WideShapes Go.ChangeAt Go.RowKit
set_option linter.unusedVariables false
set_option linter.unusedSimpArgs false
set_option maxRecDepth 20000

theorem rdl_65 : RdL Tryz.prog l_T_Act ok_T_Act 65 := by
  intro H enc w base sp held fuel cs x h
  obtain ⟨xs, n, _, _, hlen, hxl, hf⟩ := DataW.trod_struct Tryz.underlying65 h
  rw [show Tryz.prog.cellsOf 65 = 3 by kernel_rfl] at hlen
  replace hxl : xs.length = 3 := hxl
  match cs, hlen with
  | [c0, c1, c2], _ =>
    obtain ⟨z0, hz0⟩ := field_at (k := 1) (sub := [c0]) (hf 0 _ rfl) (by omega) (by kernel_rfl) rfl
    obtain ⟨y0, r0, p0⟩ := (rdl_int Tryz.underlying5 : RdL Tryz.prog l_u8 (inK .u8) 5) hz0
    obtain ⟨a0_0, _⟩ := r0
    obtain ⟨z1, hz1⟩ := field_at (k := 1) (sub := [c1]) (hf 1 _ rfl) (by omega) (by kernel_rfl) rfl
    obtain ⟨y1, r1, p1⟩ := (rdl_int Tryz.underlying5 : RdL Tryz.prog l_u8 (inK .u8) 5) hz1
    obtain ⟨a1_0, _⟩ := r1
    obtain ⟨z2, hz2⟩ := field_at (k := 1) (sub := [c2]) (hf 2 _ rfl) (by omega) (by kernel_rfl) rfl
    obtain ⟨y2, r2, p2⟩ := (rdl_slice Tryz.underlying22 (by kernel_rfl) (by decide) (rdc_flat (rdl_int Tryz.underlying5 : RdL Tryz.prog l_u8 (inK .u8) 5) (fun y ex => rfl)) : RdL Tryz.prog l_sl_u8 (okL (inK .u8)) 22) hz2
    obtain ⟨a2_0, _⟩ := r2
    exact ⟨⟨y0, y1, y2⟩, ⟨a0_0, a1_0, a2_0, trivial⟩, p0, p1, p2⟩

set_option maxRecDepth 100000 in
theorem restoreAnswers_lifted (os : Os) (started : os.Started) (H : Type) (enc : TypeId × Value → H) :
    ReturnsInHanded {} Tryz.checked os 5 .any (Rows.restoreAnswersSpec.pre6 enc Tryz.prog Tryz.f5 Rows.restoreAnswersRow.domain false) (Rows.restoreAnswersSpec.post enc Tryz.prog Tryz.f5 false true false false) := by
  refine returnsInHanded_of_change (C := Tryz.checked) Tryz.own' started (by kernel_rfl) Tryz.func5
    (ChangeSpec.witness6 (enc := enc) (C := Tryz.checked) false ⟨#[], #[.slice none 0 0, .int .i64 0], []⟩ 8 (by kernel_rfl) (by kernel_rfl) (by kernel_rfl) (by kernel_rfl)) ?_
  intro W base args ds gs before hval0 hW hcnd _
  have hval : ∀ (j : Nat) t v, Tryz.f5.params[j]? = some t → args[j]? = some v → Value.okWide Tryz.prog W .any base t v := hval0
  clear hval0 hcnd
  have hW' := hW
  obtain ⟨p, q, hA0, hV, _, _, _⟩ := hW
  obtain ⟨rfl, _⟩ := trodVars_none hV
  have hA : DataW.TrodAll enc Tryz.prog W 0 (fun _ => true) true Tryz.f5.params.toList args.toList ds p := hA0
  rw [Tryz.params5] at hA hval
  obtain ⟨args⟩ := args
  obtain ⟨v0, vs0, d0, ds0, p0, q0, hvs, rfl, _, h0, hB0⟩ := trodAll_cons hA
  replace hvs : args = _ := hvs
  subst hvs
  obtain ⟨v1, vs1, d1, ds1, p1, q1, rfl, rfl, _, h1, hB1⟩ := trodAll_cons hB0
  obtain ⟨rfl, rfl, _⟩ := trodAll_nil hB1
  obtain ⟨x0, ex0, e0, k0, f0⟩ := open_arg (rdl_slice Tryz.underlying59 (by kernel_rfl) (by decide) rdl_65 : RdL Tryz.prog l_sl_T_Act (okL ok_T_Act) 59) h0
  obtain ⟨⟨A0_0, c0_0⟩, _⟩ := ex0
  obtain ⟨A0, l0, c0, rfl⟩ := okWide_slice Tryz.underlying59 (hval 0 59 v0 rfl rfl)
  obtain ⟨rfl, rfl, rfl⟩ : A0_0 = A0 ∧ x0.length = l0 ∧ c0_0 = c0 := by injection e0 with e _; injection e with e1 e2 e3; exact ⟨e1.symm, e2.symm, e3.symm⟩
  obtain ⟨x1, ex1, e1, k1, f1⟩ := open_arg (rdl_int Tryz.underlying3 : RdL Tryz.prog l_i64 (inK .i64) 3) h1
  obtain ⟨n1, rfl⟩ := okWide_int Tryz.underlying3 (hval 1 3 v1 rfl rfl)
  obtain rfl : x1 = n1 := by injection e1 with e _; injection e with _ e; exact e.symm
  have hsat := sat_ros (w := W) [Sl (codL l_T_Act) A0_0 c0_0 x0] (by simp only [List.mem_cons, List.not_mem_nil, or_false, forall_eq_or_imp, forall_eq]; exact f0 _ (.head _))
  have hm := answers39 x0 x1 k0 k1
  refine ((c_law39_RestoreAnswers hm).quiet rfl ⟨(.head _), trivial⟩ hsat).mono fun e W' ⟨he, hw⟩ => ?_
  subst he
  exact ⟨_, rfl, law_post Tryz.laid' rfl rfl Tryz.underlying4 (by kernel_rfl) rfl hW' hw⟩

theorem restoreAnswers_holds : Rows.RestoreAnswersSaid :=
  OpenClaim.holds_of_wide 5 Tryz.f5 rfl rfl rfl rfl rfl rfl rfl ⟨rfl, rfl, rfl, rfl, rfl⟩ rfl rfl rfl rfl rfl (by kernel_rfl) Tryz.func5 (by kernel_rfl)
    (of_decide_eq_true (by kernel_rfl)) (by unfold Func.isWrapper; first | (rw [if_pos (by decide +kernel)]; kernel_rfl) | (rw [if_neg (by decide +kernel)]; exact ⟨rfl, rfl⟩))
    (fun os started H enc _ => restoreAnswers_lifted os started H enc)

#print axioms restoreAnswers_holds

end Go.Proofs.YthdpagcklakahaaGreat
