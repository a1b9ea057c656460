/-
  The statement ActivationAnswersSaid: the law answers true whatever the input, and its arguments read as they did.
  Conditions: none.
-/
import Derived.Test.YteaoblglgcpdnaaFin2
import Derived.Test.YteaoblglgcpdnaaGenActivationAnswers
import Derived.Test.YteaoblglgcpdnaaActA
namespace Go.Proofs.Yteaoblglgcpdnaa
open Go Go.ChangeShapes Go.WideShapes Go.ChangeAt Go.RowKit
set_option linter.unusedVariables false
set_option linter.unusedSimpArgs false
set_option maxRecDepth 20000

theorem rdl_25 : RdL Try.prog l_T_Version ok_T_Version 25 := by
  intro H enc w base sp held fuel cs x h
  obtain ⟨xs, n, _, _, hlen, hxl, hf⟩ := DataW.trod_struct Try.underlying25 h
  rw [show Try.prog.cellsOf 25 = 3 by kernel_rfl] at hlen
  replace hxl : xs.length = 3 := hxl
  match cs, hlen with
  | [c0, c1, c2], _ =>
    obtain ⟨z0, hz0⟩ := field_at (k := 1) (sub := [c0]) (hf 0 _ rfl) (by omega) (by kernel_rfl) rfl
    obtain ⟨y0, r0, p0⟩ := (rdl_int Try.underlying3 : RdL Try.prog l_i64 (inK .i64) 3) hz0
    obtain ⟨a0_0, _⟩ := r0
    obtain ⟨z1, hz1⟩ := field_at (k := 1) (sub := [c1]) (hf 1 _ rfl) (by omega) (by kernel_rfl) rfl
    obtain ⟨y1, r1, p1⟩ := (rdl_int Try.underlying3 : RdL Try.prog l_i64 (inK .i64) 3) hz1
    obtain ⟨a1_0, _⟩ := r1
    obtain ⟨z2, hz2⟩ := field_at (k := 1) (sub := [c2]) (hf 2 _ rfl) (by omega) (by kernel_rfl) rfl
    obtain ⟨y2, r2, p2⟩ := (rdl_int Try.underlying3 : RdL Try.prog l_i64 (inK .i64) 3) hz2
    obtain ⟨a2_0, _⟩ := r2
    exact ⟨⟨y0, y1, y2⟩, ⟨a0_0, a1_0, a2_0, trivial⟩, p0, p1, p2⟩

theorem rdl_31 : RdL Try.prog l_T_Installed ok_T_Installed 31 := by
  intro H enc w base sp held fuel cs x h
  obtain ⟨xs, n, _, _, hlen, hxl, hf⟩ := DataW.trod_struct Try.underlying31 h
  rw [show Try.prog.cellsOf 31 = 4 by kernel_rfl] at hlen
  replace hxl : xs.length = 2 := hxl
  match cs, hlen with
  | [c0, c1, c2, c3], _ =>
    obtain ⟨z0, hz0⟩ := field_at (k := 1) (sub := [c0]) (hf 0 _ rfl) (by omega) (by kernel_rfl) rfl
    obtain ⟨y0, r0, p0⟩ := (rdl_str Try.underlying9 : RdL Try.prog l_str okS 9) hz0
    obtain ⟨a0_0, _⟩ := r0
    obtain ⟨z1, hz1⟩ := field_at (k := 3) (sub := [c1, c2, c3]) (hf 1 _ rfl) (by omega) (by kernel_rfl) rfl
    obtain ⟨y1, r1, p1⟩ := rdl_25 hz1
    obtain ⟨a1_0, a1_1, a1_2, _⟩ := r1
    exact ⟨⟨y0, y1⟩, ⟨a0_0, a1_0, a1_1, a1_2, trivial⟩, p0, p1⟩

theorem rdl_33 : RdL Try.prog l_T_Need ok_T_Need 33 := by
  intro H enc w base sp held fuel cs x h
  obtain ⟨xs, n, _, _, hlen, hxl, hf⟩ := DataW.trod_struct Try.underlying33 h
  rw [show Try.prog.cellsOf 33 = 8 by kernel_rfl] at hlen
  replace hxl : xs.length = 4 := hxl
  match cs, hlen with
  | [c0, c1, c2, c3, c4, c5, c6, c7], _ =>
    obtain ⟨z0, hz0⟩ := field_at (k := 1) (sub := [c0]) (hf 0 _ rfl) (by omega) (by kernel_rfl) rfl
    obtain ⟨y0, r0, p0⟩ := (rdl_str Try.underlying9 : RdL Try.prog l_str okS 9) hz0
    obtain ⟨a0_0, _⟩ := r0
    obtain ⟨z1, hz1⟩ := field_at (k := 3) (sub := [c1, c2, c3]) (hf 1 _ rfl) (by omega) (by kernel_rfl) rfl
    obtain ⟨y1, r1, p1⟩ := rdl_25 hz1
    obtain ⟨a1_0, a1_1, a1_2, _⟩ := r1
    obtain ⟨z2, hz2⟩ := field_at (k := 1) (sub := [c4]) (hf 2 _ rfl) (by omega) (by kernel_rfl) rfl
    obtain ⟨y2, r2, p2⟩ := (rdl_str Try.underlying9 : RdL Try.prog l_str okS 9) hz2
    obtain ⟨a2_0, _⟩ := r2
    obtain ⟨z3, hz3⟩ := field_at (k := 3) (sub := [c5, c6, c7]) (hf 3 _ rfl) (by omega) (by kernel_rfl) rfl
    obtain ⟨y3, r3, p3⟩ := rdl_25 hz3
    obtain ⟨a3_0, a3_1, a3_2, _⟩ := r3
    exact ⟨⟨y0, y1, y2, y3⟩, ⟨a0_0, a1_0, a1_1, a1_2, a2_0, a3_0, a3_1, a3_2, trivial⟩, p0, p1, p2, p3⟩

theorem rdl_29 : RdL Try.prog l_T_Plan ok_T_Plan 29 := by
  intro H enc w base sp held fuel cs x h
  obtain ⟨xs, n, _, _, hlen, hxl, hf⟩ := DataW.trod_struct Try.underlying29 h
  rw [show Try.prog.cellsOf 29 = 3 by kernel_rfl] at hlen
  replace hxl : xs.length = 3 := hxl
  match cs, hlen with
  | [c0, c1, c2], _ =>
    obtain ⟨z0, hz0⟩ := field_at (k := 1) (sub := [c0]) (hf 0 _ rfl) (by omega) (by kernel_rfl) rfl
    obtain ⟨y0, r0, p0⟩ := (rdl_slice Try.underlying26 (by kernel_rfl) (by decide) (rdc_flat rdl_31 (fun y ex => rfl)) : RdL Try.prog l_sl_T_Installed (okL ok_T_Installed) 26) hz0
    obtain ⟨a0_0, _⟩ := r0
    obtain ⟨z1, hz1⟩ := field_at (k := 1) (sub := [c1]) (hf 1 _ rfl) (by omega) (by kernel_rfl) rfl
    obtain ⟨y1, r1, p1⟩ := (rdl_slice Try.underlying26 (by kernel_rfl) (by decide) (rdc_flat rdl_31 (fun y ex => rfl)) : RdL Try.prog l_sl_T_Installed (okL ok_T_Installed) 26) hz1
    obtain ⟨a1_0, _⟩ := r1
    obtain ⟨z2, hz2⟩ := field_at (k := 1) (sub := [c2]) (hf 2 _ rfl) (by omega) (by kernel_rfl) rfl
    obtain ⟨y2, r2, p2⟩ := (rdl_slice Try.underlying27 (by kernel_rfl) (by decide) (rdc_flat rdl_33 (fun y ex => rfl)) : RdL Try.prog l_sl_T_Need (okL ok_T_Need) 27) hz2
    obtain ⟨a2_0, _⟩ := r2
    exact ⟨⟨y0, y1, y2⟩, ⟨a0_0, a1_0, a2_0, trivial⟩, p0, p1, p2⟩

set_option maxRecDepth 100000 in
theorem activationAnswers_lifted (os : Os) (started : os.Started) (H : Type) (enc : TypeId × Value → H) :
    ReturnsInHanded {} Try.checked os 9 .any (Rows.activationAnswersSpec.pre6 enc Try.prog Try.f9 Rows.activationAnswersRow.domain false) (Rows.activationAnswersSpec.post enc Try.prog Try.f9 false true false false) := by
  refine returnsInHanded_of_change (C := Try.checked) Try.own' started (by kernel_rfl) Try.func9
    (ChangeSpec.witness6 (enc := enc) (C := Try.checked) false ⟨#[], #[.slice none 0 0, .agg #[.slice none 0 0, .slice none 0 0, .slice none 0 0], .slice none 0 0], []⟩ 8 (by kernel_rfl) (by kernel_rfl) (by kernel_rfl) (by kernel_rfl)) ?_
  intro W base args ds gs before hval0 hW hcnd _
  have hval : ∀ (j : Nat) t v, Try.f9.params[j]? = some t → args[j]? = some v → Value.okWide Try.prog W .any base t v := hval0
  clear hval0 hcnd
  have hW' := hW
  obtain ⟨p, q, hA0, hV, _, _, _⟩ := hW
  obtain ⟨rfl, _⟩ := trodVars_none hV
  have hA : DataW.TrodAll enc Try.prog W 0 (fun _ => true) true Try.f9.params.toList args.toList ds p := hA0
  rw [Try.params9] at hA hval
  obtain ⟨args⟩ := args
  obtain ⟨v0, vs0, d0, ds0, p0, q0, hvs, rfl, _, h0, hB0⟩ := trodAll_cons hA
  replace hvs : args = _ := hvs
  subst hvs
  obtain ⟨v1, vs1, d1, ds1, p1, q1, rfl, rfl, _, h1, hB1⟩ := trodAll_cons hB0
  obtain ⟨v2, vs2, d2, ds2, p2, q2, rfl, rfl, _, h2, hB2⟩ := trodAll_cons hB1
  obtain ⟨rfl, rfl, _⟩ := trodAll_nil hB2
  obtain ⟨x0, ex0, e0, k0, f0⟩ := open_arg (rdl_slice Try.underlying40 (by kernel_rfl) (by decide) (rdc_flat (rdl_int Try.underlying5 : RdL Try.prog l_u8 (inK .u8) 5) (fun y ex => rfl)) : RdL Try.prog l_sl_u8 (okL (inK .u8)) 40) h0
  obtain ⟨⟨A0_0, c0_0⟩, _⟩ := ex0
  obtain ⟨A0, l0, c0, rfl⟩ := okWide_slice Try.underlying40 (hval 0 40 v0 rfl rfl)
  obtain ⟨rfl, rfl, rfl⟩ : A0_0 = A0 ∧ x0.length = l0 ∧ c0_0 = c0 := by injection e0 with e _; injection e with e1 e2 e3; exact ⟨e1.symm, e2.symm, e3.symm⟩
  obtain ⟨x1, ex1, e1, k1, f1⟩ := open_arg rdl_29 h1
  obtain ⟨⟨A1_0, c1_0⟩, ⟨⟨A1_1, c1_1⟩, ⟨⟨A1_2, c1_2⟩, _⟩⟩⟩ := ex1
  obtain ⟨cs1, rfl, _⟩ := okWide_struct Try.underlying29 (hval 1 29 v1 rfl rfl)
  obtain rfl : (valsL x1 l_T_Plan ((A1_0, c1_0), ((A1_1, c1_1), ((A1_2, c1_2), ())))).toArray = cs1 := by have g := cells_agg e1; injection g with g; exact g.symm
  obtain ⟨x2, ex2, e2, k2, f2⟩ := open_arg (rdl_slice Try.underlying34 (by kernel_rfl) (by decide) (rdc_flat (rdl_int Try.underlying3 : RdL Try.prog l_i64 (inK .i64) 3) (fun y ex => rfl)) : RdL Try.prog l_sl_i64 (okL (inK .i64)) 34) h2
  obtain ⟨⟨A2_0, c2_0⟩, _⟩ := ex2
  obtain ⟨A2, l2, c2, rfl⟩ := okWide_slice Try.underlying34 (hval 2 34 v2 rfl rfl)
  obtain ⟨rfl, rfl, rfl⟩ : A2_0 = A2 ∧ x2.length = l2 ∧ c2_0 = c2 := by injection e2 with e _; injection e with e1 e2 e3; exact ⟨e1.symm, e2.symm, e3.symm⟩
  have hsat := sat_ros (w := W) [SlL eu8 A0_0 c0_0 x0, SlL e_Installed A1_0 c1_0 x1.Now, SlL e_Installed A1_1 c1_1 x1.Next, SlL e_Need A1_2 c1_2 x1.Needs, SlL ei64 A2_0 c2_0 x2] (by simp only [List.mem_cons, List.not_mem_nil, or_false, forall_eq_or_imp, forall_eq]; exact ⟨f0 _ (.head _), f1 _ (.head _), f1 _ (.tail _ (.head _)), f1 _ (.tail _ (.tail _ (.head _))), f2 _ (.head _)⟩)
  have hm := answers_true x0 x1 x2 k0 k1 k2
  refine ((c_law31_ActivationAnswers hm).quiet rfl ⟨(.head _), (.tail _ (.head _)), (.tail _ (.tail _ (.head _))), (.tail _ (.tail _ (.tail _ (.head _)))), (.tail _ (.tail _ (.tail _ (.tail _ (.head _))))), trivial⟩ hsat).mono fun e W' ⟨he, hw⟩ => ?_
  subst he
  exact ⟨_, rfl, law_post Try.laid' rfl rfl Try.underlying4 (by kernel_rfl) rfl hW' hw⟩

theorem activationAnswers_holds : Rows.ActivationAnswersSaid :=
  OpenClaim.holds_of_wide 9 Try.f9 rfl rfl rfl rfl rfl rfl rfl ⟨rfl, rfl, rfl, rfl, rfl⟩ rfl rfl rfl rfl rfl (by kernel_rfl) Try.func9 (by kernel_rfl)
    (of_decide_eq_true (by kernel_rfl)) (by unfold Func.isWrapper; first | (rw [if_pos (by decide +kernel)]; kernel_rfl) | (rw [if_neg (by decide +kernel)]; exact ⟨rfl, rfl⟩))
    (fun os started H enc _ => activationAnswers_lifted os started H enc)

#print axioms activationAnswers_holds

end Go.Proofs.Yteaoblglgcpdnaa
