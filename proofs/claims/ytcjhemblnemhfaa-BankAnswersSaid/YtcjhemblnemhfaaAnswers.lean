/-
  The statement BankAnswersSaid: the law answers true whatever the input, and its arguments read as they did.
  Conditions: none.
-/
import Derived.Test.YtcjhemblnemhfaaFin2
import Derived.Test.YtcjhemblnemhfaaGenBankAnswers
import Derived.Test.YtcjhemblnemhfaaBankA
namespace Go.Proofs.Ytcjhemblnemhfaa
open Go Go.ChangeShapes Go.WideShapes Go.ChangeAt Go.RowKit
set_option linter.unusedVariables false
set_option linter.unusedSimpArgs false

theorem rdl_28 : RdL Try.prog l_T_Version ok_T_Version 28 := by
  intro H enc w base sp held fuel cs x h
  obtain ⟨xs, n, _, _, hlen, hxl, hf⟩ := DataW.trod_struct Try.underlying28 h
  rw [show Try.prog.cellsOf 28 = 3 by kernel_rfl] at hlen
  replace hxl : xs.length = 3 := hxl
  match cs, hlen with
  | [c0, c1, c2], _ =>
    obtain ⟨z0, hz0⟩ := field_at (k := 1) (sub := [c0]) (hf 0 _ rfl) (by omega) (by kernel_rfl) rfl
    obtain ⟨y0, r0, p0⟩ := (rdl_int Try.underlying3 : RdL Try.prog l_i64 (inK .i64) 3) hz0
    obtain ⟨a0_0, _⟩ := r0
    obtain ⟨z1, hz1⟩ := field_at (k := 1) (sub := [c1]) (hf 1 _ rfl) (by omega) (by kernel_rfl) rfl
    obtain ⟨y1, r1, p1⟩ := (rdl_int Try.underlying3 : RdL Try.prog l_i64 (inK .i64) 3) hz1
    obtain ⟨a1_0, _⟩ := r1
    obtain ⟨z2, hz2⟩ := field_at (k := 1) (sub := [c2]) (hf 2 _ rfl) (by omega) (by kernel_rfl) rfl
    obtain ⟨y2, r2, p2⟩ := (rdl_int Try.underlying3 : RdL Try.prog l_i64 (inK .i64) 3) hz2
    obtain ⟨a2_0, _⟩ := r2
    exact ⟨⟨y0, y1, y2⟩, ⟨a0_0, a1_0, a2_0, trivial⟩, p0, p1, p2⟩

theorem rdl_30 : RdL Try.prog l_T_Image ok_T_Image 30 := by
  intro H enc w base sp held fuel cs x h
  obtain ⟨xs, n, _, _, hlen, hxl, hf⟩ := DataW.trod_struct Try.underlying30 h
  rw [show Try.prog.cellsOf 30 = 5 by kernel_rfl] at hlen
  replace hxl : xs.length = 3 := hxl
  match cs, hlen with
  | [c0, c1, c2, c3, c4], _ =>
    obtain ⟨z0, hz0⟩ := field_at (k := 1) (sub := [c0]) (hf 0 _ rfl) (by omega) (by kernel_rfl) rfl
    obtain ⟨y0, r0, p0⟩ := (rdl_str Try.underlying9 : RdL Try.prog l_str okS 9) hz0
    obtain ⟨a0_0, _⟩ := r0
    obtain ⟨z1, hz1⟩ := field_at (k := 3) (sub := [c1, c2, c3]) (hf 1 _ rfl) (by omega) (by kernel_rfl) rfl
    obtain ⟨y1, r1, p1⟩ := rdl_28 hz1
    obtain ⟨a1_0, a1_1, a1_2, _⟩ := r1
    obtain ⟨z2, hz2⟩ := field_at (k := 1) (sub := [c4]) (hf 2 _ rfl) (by omega) (by kernel_rfl) rfl
    obtain ⟨y2, r2, p2⟩ := (rdl_slice Try.underlying22 (by kernel_rfl) (by decide) (rdc_flat (rdl_int Try.underlying5 : RdL Try.prog l_u8 (inK .u8) 5) (fun y ex => rfl)) : RdL Try.prog l_sl_u8 (okL (inK .u8)) 22) hz2
    obtain ⟨a2_0, _⟩ := r2
    exact ⟨⟨y0, y1, y2⟩, ⟨a0_0, a1_0, a1_1, a1_2, a2_0, trivial⟩, p0, p1, p2⟩

theorem rdl_32 : RdL Try.prog l_T_Slot ok_T_Slot 32 := by
  intro H enc w base sp held fuel cs x h
  obtain ⟨xs, n, _, _, hlen, hxl, hf⟩ := DataW.trod_struct Try.underlying32 h
  rw [show Try.prog.cellsOf 32 = 6 by kernel_rfl] at hlen
  replace hxl : xs.length = 2 := hxl
  match cs, hlen with
  | [c0, c1, c2, c3, c4, c5], _ =>
    obtain ⟨z0, hz0⟩ := field_at (k := 5) (sub := [c0, c1, c2, c3, c4]) (hf 0 _ rfl) (by omega) (by kernel_rfl) rfl
    obtain ⟨y0, r0, p0⟩ := rdl_30 hz0
    obtain ⟨a0_0, a0_1, a0_2, a0_3, a0_4, _⟩ := r0
    obtain ⟨z1, hz1⟩ := field_at (k := 1) (sub := [c5]) (hf 1 _ rfl) (by omega) (by kernel_rfl) rfl
    obtain ⟨y1, r1, p1⟩ := (rdl_int Try.underlying23 : RdL Try.prog l_u32 (inK .u32) 23) hz1
    obtain ⟨a1_0, _⟩ := r1
    exact ⟨⟨y0, y1⟩, ⟨a0_0, a0_1, a0_2, a0_3, a0_4, a1_0, trivial⟩, p0, p1⟩

theorem rdl_33 : RdL Try.prog l_a2_T_Slot ok_a2_T_Slot 33 := by
  intro H enc w base sp held fuel cs x h
  obtain ⟨xs, n, _, _, hlen, hxl, hf⟩ := DataW.trod_array Try.underlying33 h
  rw [show Try.prog.cellsOf 33 = 12 by kernel_rfl] at hlen
  replace hxl : xs.length = 2 := hxl
  match cs, hlen with
  | [c0, c1, c2, c3, c4, c5, c6, c7, c8, c9, c10, c11], _ =>
    have hf0 := hf 0 (by omega)
    rw [show Try.prog.cellsOf 32 = 6 by kernel_rfl] at hf0
    have hz0' : ∃ y, DataW.trod enc Try.prog w base sp held n 32 [c0, c1, c2, c3, c4, c5] = some y := by rw [List.getElem?_eq_getElem (by omega)] at hf0; exact ⟨_, hf0⟩
    obtain ⟨z0, hz0⟩ := hz0'
    obtain ⟨y0, r0, p0⟩ := rdl_32 hz0
    obtain ⟨a0_0, a0_1, a0_2, a0_3, a0_4, a0_5, _⟩ := r0
    have hf1 := hf 1 (by omega)
    rw [show Try.prog.cellsOf 32 = 6 by kernel_rfl] at hf1
    have hz1' : ∃ y, DataW.trod enc Try.prog w base sp held n 32 [c6, c7, c8, c9, c10, c11] = some y := by rw [List.getElem?_eq_getElem (by omega)] at hf1; exact ⟨_, hf1⟩
    obtain ⟨z1, hz1⟩ := hz1'
    obtain ⟨y1, r1, p1⟩ := rdl_32 hz1
    obtain ⟨a1_0, a1_1, a1_2, a1_3, a1_4, a1_5, _⟩ := r1
    exact ⟨⟨y0, y1⟩, ⟨a0_0, a0_1, a0_2, a0_3, a0_4, a0_5, a1_0, a1_1, a1_2, a1_3, a1_4, a1_5, trivial⟩, p0, p1⟩

theorem rdl_35 : RdL Try.prog l_T_Device ok_T_Device 35 := by
  intro H enc w base sp held fuel cs x h
  obtain ⟨xs, n, _, _, hlen, hxl, hf⟩ := DataW.trod_struct Try.underlying35 h
  rw [show Try.prog.cellsOf 35 = 16 by kernel_rfl] at hlen
  replace hxl : xs.length = 5 := hxl
  match cs, hlen with
  | [c0, c1, c2, c3, c4, c5, c6, c7, c8, c9, c10, c11, c12, c13, c14, c15], _ =>
    obtain ⟨z0, hz0⟩ := field_at (k := 1) (sub := [c0]) (hf 0 _ rfl) (by omega) (by kernel_rfl) rfl
    obtain ⟨y0, r0, p0⟩ := (rdl_str Try.underlying9 : RdL Try.prog l_str okS 9) hz0
    obtain ⟨a0_0, _⟩ := r0
    obtain ⟨z1, hz1⟩ := field_at (k := 12) (sub := [c1, c2, c3, c4, c5, c6, c7, c8, c9, c10, c11, c12]) (hf 1 _ rfl) (by omega) (by kernel_rfl) rfl
    obtain ⟨y1, r1, p1⟩ := rdl_33 hz1
    obtain ⟨a1_0, a1_1, a1_2, a1_3, a1_4, a1_5, a1_6, a1_7, a1_8, a1_9, a1_10, a1_11, _⟩ := r1
    obtain ⟨z2, hz2⟩ := field_at (k := 1) (sub := [c13]) (hf 2 _ rfl) (by omega) (by kernel_rfl) rfl
    obtain ⟨y2, r2, p2⟩ := (rdl_int Try.underlying3 : RdL Try.prog l_i64 (inK .i64) 3) hz2
    obtain ⟨a2_0, _⟩ := r2
    obtain ⟨z3, hz3⟩ := field_at (k := 1) (sub := [c14]) (hf 3 _ rfl) (by omega) (by kernel_rfl) rfl
    obtain ⟨y3, r3, p3⟩ := (rdl_int Try.underlying3 : RdL Try.prog l_i64 (inK .i64) 3) hz3
    obtain ⟨a3_0, _⟩ := r3
    obtain ⟨z4, hz4⟩ := field_at (k := 1) (sub := [c15]) (hf 4 _ rfl) (by omega) (by kernel_rfl) rfl
    obtain ⟨y4, r4, p4⟩ := (rdl_bool Try.underlying4 : RdL Try.prog l_bool okB 4) hz4
    obtain ⟨a4_0, _⟩ := r4
    exact ⟨⟨y0, y1, y2, y3, y4⟩, ⟨a0_0, a1_0, a1_1, a1_2, a1_3, a1_4, a1_5, a1_6, a1_7, a1_8, a1_9, a1_10, a1_11, a2_0, a3_0, a4_0, trivial⟩, p0, p1, p2, p3, p4⟩

set_option maxRecDepth 100000 in
theorem bankAnswers_lifted (os : Os) (started : os.Started) (H : Type) (enc : TypeId × Value → H) :
    ReturnsInHanded {} Try.checked os 7 .any (Rows.bankAnswersSpec.pre6 enc Try.prog Try.f7 Rows.bankAnswersRow.domain false) (Rows.bankAnswersSpec.post enc Try.prog Try.f7 false true false false) := by
  refine returnsInHanded_of_change (C := Try.checked) Try.own' started (by kernel_rfl) Try.func7
    (ChangeSpec.witness6 (enc := enc) (C := Try.checked) false ⟨#[], #[.slice none 0 0, .agg #[.string ⟨#[]⟩, .string ⟨#[]⟩, .int .i64 0, .int .i64 0, .int .i64 0, .slice none 0 0, .int .u32 0, .string ⟨#[]⟩, .int .i64 0, .int .i64 0, .int .i64 0, .slice none 0 0, .int .u32 0, .int .i64 0, .int .i64 0, .bool false], .agg #[.string ⟨#[]⟩, .int .i64 0, .int .i64 0, .int .i64 0, .slice none 0 0], .int .i64 0, .int .u32 0], []⟩ 8 (by kernel_rfl) (by kernel_rfl) (by kernel_rfl) (by kernel_rfl)) ?_
  intro W base args ds gs before hval0 hW hcnd _
  have hval : ∀ (j : Nat) t v, Try.f7.params[j]? = some t → args[j]? = some v → Value.okWide Try.prog W .any base t v := hval0
  clear hval0 hcnd
  have hW' := hW
  obtain ⟨p, q, hA0, hV, _, _, _⟩ := hW
  obtain ⟨rfl, _⟩ := trodVars_none hV
  have hA : DataW.TrodAll enc Try.prog W 0 (fun _ => true) true Try.f7.params.toList args.toList ds p := hA0
  rw [Try.params7] at hA hval
  obtain ⟨args⟩ := args
  obtain ⟨v0, vs0, d0, ds0, p0, q0, hvs, rfl, _, h0, hB0⟩ := trodAll_cons hA
  replace hvs : args = _ := hvs
  subst hvs
  obtain ⟨v1, vs1, d1, ds1, p1, q1, rfl, rfl, _, h1, hB1⟩ := trodAll_cons hB0
  obtain ⟨v2, vs2, d2, ds2, p2, q2, rfl, rfl, _, h2, hB2⟩ := trodAll_cons hB1
  obtain ⟨v3, vs3, d3, ds3, p3, q3, rfl, rfl, _, h3, hB3⟩ := trodAll_cons hB2
  obtain ⟨v4, vs4, d4, ds4, p4, q4, rfl, rfl, _, h4, hB4⟩ := trodAll_cons hB3
  obtain ⟨rfl, rfl, _⟩ := trodAll_nil hB4
  obtain ⟨x0, ex0, e0, k0, f0⟩ := open_arg (rdl_slice Try.underlying22 (by kernel_rfl) (by decide) (rdc_flat (rdl_int Try.underlying5 : RdL Try.prog l_u8 (inK .u8) 5) (fun y ex => rfl)) : RdL Try.prog l_sl_u8 (okL (inK .u8)) 22) h0
  obtain ⟨⟨A0_0, c0_0⟩, _⟩ := ex0
  obtain ⟨A0, l0, c0, rfl⟩ := okWide_slice Try.underlying22 (hval 0 22 v0 rfl rfl)
  obtain ⟨rfl, rfl, rfl⟩ : A0_0 = A0 ∧ x0.length = l0 ∧ c0_0 = c0 := by injection e0 with e _; injection e with e1 e2 e3; exact ⟨e1.symm, e2.symm, e3.symm⟩
  obtain ⟨x1, ex1, e1, k1, f1⟩ := open_arg rdl_35 h1
  obtain ⟨⟨A1_0, c1_0⟩, ⟨⟨A1_1, c1_1⟩, _⟩⟩ := ex1
  obtain ⟨cs1, rfl, _⟩ := okWide_struct Try.underlying35 (hval 1 35 v1 rfl rfl)
  obtain rfl : (valsL x1 l_T_Device ((A1_0, c1_0), ((A1_1, c1_1), ()))).toArray = cs1 := by have g := cells_agg e1; injection g with g; exact g.symm
  obtain ⟨x2, ex2, e2, k2, f2⟩ := open_arg rdl_30 h2
  obtain ⟨⟨A2_0, c2_0⟩, _⟩ := ex2
  obtain ⟨cs2, rfl, _⟩ := okWide_struct Try.underlying30 (hval 2 30 v2 rfl rfl)
  obtain rfl : (valsL x2 l_T_Image ((A2_0, c2_0), ())).toArray = cs2 := by have g := cells_agg e2; injection g with g; exact g.symm
  obtain ⟨x3, ex3, e3, k3, f3⟩ := open_arg (rdl_int Try.underlying3 : RdL Try.prog l_i64 (inK .i64) 3) h3
  obtain ⟨n3, rfl⟩ := okWide_int Try.underlying3 (hval 3 3 v3 rfl rfl)
  obtain rfl : x3 = n3 := by injection e3 with e _; injection e with _ e; exact e.symm
  obtain ⟨x4, ex4, e4, k4, f4⟩ := open_arg (rdl_int Try.underlying23 : RdL Try.prog l_u32 (inK .u32) 23) h4
  obtain ⟨n4, rfl⟩ := okWide_int Try.underlying23 (hval 4 23 v4 rfl rfl)
  obtain rfl : x4 = n4 := by injection e4 with e _; injection e with _ e; exact e.symm
  have hsat := sat_ros (w := W) [SlL eu8 A0_0 c0_0 x0, SlL eu8 A1_0 c1_0 x1.Slots.e0.Image.Data, SlL eu8 A1_1 c1_1 x1.Slots.e1.Image.Data, SlL eu8 A2_0 c2_0 x2.Data] (by simp only [List.mem_cons, List.not_mem_nil, or_false, forall_eq_or_imp, forall_eq]; exact ⟨f0 _ (.head _), f1 _ (.head _), f1 _ (.tail _ (.head _)), f2 _ (.head _)⟩)
  have hm := answers_true x0 x1 x2 x3 x4 k0 k1 k2 k3 k4
  refine ((c_law29_BankAnswers hm).quiet rfl ⟨(.head _), (.tail _ (.head _)), (.tail _ (.tail _ (.head _))), (.tail _ (.tail _ (.tail _ (.head _)))), trivial⟩ hsat).mono fun e W' ⟨he, hw⟩ => ?_
  subst he
  exact ⟨_, rfl, law_post Try.laid' rfl rfl Try.underlying4 (by kernel_rfl) rfl hW' hw⟩

theorem bankAnswers_holds : Rows.BankAnswersSaid :=
  OpenClaim.holds_of_wide 7 Try.f7 rfl rfl rfl rfl rfl rfl rfl ⟨rfl, rfl, rfl, rfl, rfl⟩ rfl rfl rfl rfl rfl (by kernel_rfl) Try.func7 (by kernel_rfl)
    (of_decide_eq_true (by kernel_rfl)) (by unfold Func.isWrapper; first | (rw [if_pos (by decide +kernel)]; kernel_rfl) | (rw [if_neg (by decide +kernel)]; exact ⟨rfl, rfl⟩))
    (fun os started H enc _ => bankAnswers_lifted os started H enc)

#print axioms bankAnswers_holds

end Go.Proofs.Ytcjhemblnemhfaa
