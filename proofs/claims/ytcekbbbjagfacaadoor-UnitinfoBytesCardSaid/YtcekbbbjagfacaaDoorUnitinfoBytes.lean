/-
  The statement UnitinfoBytesSaid: the law answers true whatever the input, and its arguments read as they did.
  Conditions: none.
-/
import Derived.Test.YtcekbbbjagfacaaDoorFin2
import Derived.Test.YtcekbbbjagfacaaDoorFinG
import Derived.Test.YtcekbbbjagfacaaDoorGenUnitinfoBytes
import Derived.Test.YtcekbbbjagfacaaDoorUniB
import Derived.Test.YtcekbbbjagfacaaDoorTie
import Derived.Test.YtcekbbbjagfacaaDoorCards
import Derived.LaidLaws
import Derived.LaidHandle
import Derived.Deep.DeepLaidRun
import Derived.SevenTiedAt
namespace Go.Proofs.YtcekbbbjagfacaaDoor
open Go Go.ChangeShapes Go.WideShapes Go.ChangeAt Go.RowKit
set_option linter.unusedVariables false
set_option linter.unusedSimpArgs false
set_option maxRecDepth 20000

theorem rdl_60 : RdL Tryd.prog l_T_Field ok_T_Field 60 := by
  intro H enc w base sp held fuel cs x h
  obtain ⟨xs, n, _, _, hlen, hxl, hf⟩ := DataW.trod_struct Tryd.underlying60 h
  rw [show Tryd.prog.cellsOf 60 = 2 by kernel_rfl] at hlen
  replace hxl : xs.length = 2 := hxl
  match cs, hlen with
  | [c0, c1], _ =>
    obtain ⟨z0, hz0⟩ := field_at (k := 1) (sub := [c0]) (hf 0 _ rfl) (by omega) (by kernel_rfl) rfl
    obtain ⟨y0, r0, p0⟩ := (rdl_int Tryd.underlying3 : RdL Tryd.prog l_i64 (inK .i64) 3) hz0
    obtain ⟨a0_0, _⟩ := r0
    obtain ⟨z1, hz1⟩ := field_at (k := 1) (sub := [c1]) (hf 1 _ rfl) (by omega) (by kernel_rfl) rfl
    obtain ⟨y1, r1, p1⟩ := (rdl_str Tryd.underlying9 : RdL Tryd.prog l_str okS 9) hz1
    obtain ⟨a1_0, _⟩ := r1
    exact ⟨⟨y0, y1⟩, ⟨a0_0, a1_0, trivial⟩, p0, p1⟩

theorem rdl_25 : RdL Tryd.prog l_T_Area ok_T_Area 25 := by
  intro H enc w base sp held fuel cs x h
  obtain ⟨xs, n, _, _, hlen, hxl, hf⟩ := DataW.trod_struct Tryd.underlying25 h
  rw [show Tryd.prog.cellsOf 25 = 4 by kernel_rfl] at hlen
  replace hxl : xs.length = 4 := hxl
  match cs, hlen with
  | [c0, c1, c2, c3], _ =>
    obtain ⟨z0, hz0⟩ := field_at (k := 1) (sub := [c0]) (hf 0 _ rfl) (by omega) (by kernel_rfl) rfl
    obtain ⟨y0, r0, p0⟩ := (rdl_bool Tryd.underlying4 : RdL Tryd.prog l_bool okB 4) hz0
    obtain ⟨a0_0, _⟩ := r0
    obtain ⟨z1, hz1⟩ := field_at (k := 1) (sub := [c1]) (hf 1 _ rfl) (by omega) (by kernel_rfl) rfl
    obtain ⟨y1, r1, p1⟩ := (rdl_int Tryd.underlying5 : RdL Tryd.prog l_u8 (inK .u8) 5) hz1
    obtain ⟨a1_0, _⟩ := r1
    obtain ⟨z2, hz2⟩ := field_at (k := 1) (sub := [c2]) (hf 2 _ rfl) (by omega) (by kernel_rfl) rfl
    obtain ⟨y2, r2, p2⟩ := (rdl_int Tryd.underlying22 : RdL Tryd.prog l_u32 (inK .u32) 22) hz2
    obtain ⟨a2_0, _⟩ := r2
    obtain ⟨z3, hz3⟩ := field_at (k := 1) (sub := [c3]) (hf 3 _ rfl) (by omega) (by kernel_rfl) rfl
    obtain ⟨y3, r3, p3⟩ := (rdl_slice Tryd.underlying23 (by kernel_rfl) (by decide) (rdc_flat rdl_60 (fun y ex => rfl)) : RdL Tryd.prog l_sl_T_Field (okL ok_T_Field) 23) hz3
    obtain ⟨a3_0, _⟩ := r3
    exact ⟨⟨y0, y1, y2, y3⟩, ⟨a0_0, a1_0, a2_0, a3_0, trivial⟩, p0, p1, p2, p3⟩

theorem rdl_28 : RdL Tryd.prog l_T_Info ok_T_Info 28 := by
  intro H enc w base sp held fuel cs x h
  obtain ⟨xs, n, _, _, hlen, hxl, hf⟩ := DataW.trod_struct Tryd.underlying28 h
  rw [show Tryd.prog.cellsOf 28 = 13 by kernel_rfl] at hlen
  replace hxl : xs.length = 4 := hxl
  match cs, hlen with
  | [c0, c1, c2, c3, c4, c5, c6, c7, c8, c9, c10, c11, c12], _ =>
    obtain ⟨z0, hz0⟩ := field_at (k := 4) (sub := [c0, c1, c2, c3]) (hf 0 _ rfl) (by omega) (by kernel_rfl) rfl
    obtain ⟨y0, r0, p0⟩ := rdl_25 hz0
    obtain ⟨a0_0, a0_1, a0_2, a0_3, _⟩ := r0
    obtain ⟨z1, hz1⟩ := field_at (k := 4) (sub := [c4, c5, c6, c7]) (hf 1 _ rfl) (by omega) (by kernel_rfl) rfl
    obtain ⟨y1, r1, p1⟩ := rdl_25 hz1
    obtain ⟨a1_0, a1_1, a1_2, a1_3, _⟩ := r1
    obtain ⟨z2, hz2⟩ := field_at (k := 4) (sub := [c8, c9, c10, c11]) (hf 2 _ rfl) (by omega) (by kernel_rfl) rfl
    obtain ⟨y2, r2, p2⟩ := rdl_25 hz2
    obtain ⟨a2_0, a2_1, a2_2, a2_3, _⟩ := r2
    obtain ⟨z3, hz3⟩ := field_at (k := 1) (sub := [c12]) (hf 3 _ rfl) (by omega) (by kernel_rfl) rfl
    obtain ⟨y3, r3, p3⟩ := (rdl_slice Tryd.underlying26 (by kernel_rfl) (by decide) (rdc_flat (rdl_int Tryd.underlying5 : RdL Tryd.prog l_u8 (inK .u8) 5) (fun y ex => rfl)) : RdL Tryd.prog l_sl_u8 (okL (inK .u8)) 26) hz3
    obtain ⟨a3_0, _⟩ := r3
    exact ⟨⟨y0, y1, y2, y3⟩, ⟨a0_0, a0_1, a0_2, a0_3, a1_0, a1_1, a1_2, a1_3, a2_0, a2_1, a2_2, a2_3, a3_0, trivial⟩, p0, p1, p2, p3⟩

/-- The cells of what a variable holds. -/
def flatD : Nat → DataW Unit → List Value
  | 0, _ => []
  | n + 1, .lit (.int k i) => [.int k i]
  | n + 1, .lit (.bool b) => [.bool b]
  | n + 1, .agg xs => xs.flatMap (flatD n)
  | _, _ => []
def lay (g : Nat) (cs : List Value) (w : World) : World := { w with heap := w.heap.modify g fun
    | .cells _ t frozen => .cells cs.toArray t frozen
    | o => o }
/-- The settled world, the listed variables laid. -/
noncomputable def laidWorld (os : Os) : World := lay 2 (flatD 9 Rows.laid_unicode_utf8_acceptRanges) (lay 0 (flatD 9 Rows.laid_baseboard_unitinfo_leastFields) (lay 1 (flatD 9 Rows.laid_unicode_utf8_first) ((World.holding Tryd.prog os ⟨#[], #[], []⟩))))
theorem laid_met (os : Os) (args : Array Value) : laidMetH Tryd.prog Rows.unitinfoBytesRow.laid ((laidWorld os).forCall (fun _ _ => 0) ⟨#[], args, []⟩).memory :=
  (show laidMet Tryd.prog Rows.unitinfoBytesRow.laid ((laidWorld os).forCall (fun _ _ => 0) ⟨#[], args, []⟩).memory from laidMet_of_run3 20 (by kernel_rfl) (by kernel_rfl) (by kernel_rfl))

set_option maxRecDepth 100000 in
theorem unitinfoBytes_lifted (os : Os) (started : os.Started) (H : Type) (enc : TypeId × Value → H) :
    ReturnsInHanded {} Tryd.checked os 3 .any (fun w args => (Rows.unitinfoBytesSpec.pre enc Tryd.prog Tryd.f3 Rows.unitinfoBytesRow.domain false w args ∧ laidMetH Tryd.prog Rows.unitinfoBytesRow.laid w) ∧ sizedMet enc Tryd.prog Tryd.f3 (OpenSpec.ofChange Rows.unitinfoBytesSpec) false w args) (Rows.unitinfoBytesSpec.post enc Tryd.prog Tryd.f3 false true false false) := by
  refine returnsInHanded_of_change_and (C := Tryd.checked) (X := fun w _ => laidMetH Tryd.prog Rows.unitinfoBytesRow.laid w) (fun _ _ _ hh h => h.of_heap hh) Tryd.own' started (by kernel_rfl) Tryd.func3
    (ChangeSpec.witness_at (enc := enc) (C := Tryd.checked) (os := os) (X := fun w _ => laidMetH Tryd.prog Rows.unitinfoBytesRow.laid w) false (laidWorld os) #[.agg #[.bool false, .int .u8 0, .int .u32 0, .slice none 0 0, .bool false, .int .u8 0, .int .u32 0, .slice none 0 0, .bool false, .int .u8 0, .int .u32 0, .slice none 0 0, .slice none 0 0], .slice none 0 0] 8 rfl (by kernel_rfl) (by kernel_rfl) (by kernel_rfl) (by kernel_rfl) (by kernel_rfl) (laid_met os _)) ?_
  intro W base args ds gs before hval0 hW hcnd _ hL _
  have hval : ∀ (j : Nat) t v, Tryd.f3.params[j]? = some t → args[j]? = some v → Value.okWide Tryd.prog W .any base t v := hval0
  clear hval0 hcnd
  have hW' := hW
  obtain ⟨p, q, hA0, hV, _, _, _⟩ := hW
  obtain ⟨rfl, _⟩ := trodVars_none hV
  have hA : DataW.TrodAll enc Tryd.prog W 0 (fun _ => true) true Tryd.f3.params.toList args.toList ds p := hA0
  rw [Tryd.params3] at hA hval
  obtain ⟨args⟩ := args
  obtain ⟨v0, vs0, d0, ds0, p0, q0, hvs, rfl, _, h0, hB0⟩ := trodAll_cons hA
  replace hvs : args = _ := hvs
  subst hvs
  obtain ⟨v1, vs1, d1, ds1, p1, q1, rfl, rfl, _, h1, hB1⟩ := trodAll_cons hB0
  obtain ⟨rfl, rfl, _⟩ := trodAll_nil hB1
  obtain ⟨x0, ex0, e0, k0, f0⟩ := open_arg rdl_28 h0
  obtain ⟨⟨A0_0, c0_0⟩, ⟨⟨A0_1, c0_1⟩, ⟨⟨A0_2, c0_2⟩, ⟨⟨A0_3, c0_3⟩, _⟩⟩⟩⟩ := ex0
  obtain ⟨cs0, rfl, _⟩ := okWide_struct Tryd.underlying28 (hval 0 28 v0 rfl rfl)
  obtain rfl : (valsL x0 l_T_Info ((A0_0, c0_0), ((A0_1, c0_1), ((A0_2, c0_2), ((A0_3, c0_3), ()))))).toArray = cs0 := by have g := cells_agg e0; injection g with g; exact g.symm
  obtain ⟨x1, ex1, e1, k1, f1⟩ := open_arg (rdl_slice Tryd.underlying29 (by kernel_rfl) (by decide) (rdc_flat (rdl_int Tryd.underlying3 : RdL Tryd.prog l_i64 (inK .i64) 3) (fun y ex => rfl)) : RdL Tryd.prog l_sl_i64 (okL (inK .i64)) 29) h1
  obtain ⟨⟨A1_0, c1_0⟩, _⟩ := ex1
  obtain ⟨A1, l1, c1, rfl⟩ := okWide_slice Tryd.underlying29 (hval 1 29 v1 rfl rfl)
  obtain ⟨rfl, rfl, rfl⟩ : A1_0 = A1 ∧ x1.length = l1 ∧ c1_0 = c1 := by injection e1 with e _; injection e with e1 e2 e3; exact ⟨e1.symm, e2.symm, e3.symm⟩
  have hg0 : (SlL ei64 (some ⟨0, 0, none⟩) 3 [2, 5, 7]).p (hp W) := laid_sl (l := Rows.unitinfoBytesRow.laid) (nm := "baseboard/unitinfo.leastFields") (k := .i64) (t := 74) (e := 3) ei64 [2, 5, 7] (fun _ => rfl) rfl (show laidMet Tryd.prog Rows.unitinfoBytesRow.laid W from hL) (List.Mem.tail _ (List.Mem.head _)) (by kernel_rfl) (by kernel_rfl) Tryd.underlying74 Tryd.underlying3 (by kernel_rfl) (by decide)
  have hsat := sat_ros (w := W) [SlL e_Field A0_0 c0_0 x0.Chassis.Fields, SlL e_Field A0_1 c0_1 x0.Board.Fields, SlL e_Field A0_2 c0_2 x0.Product.Fields, SlL eu8 A0_3 c0_3 x0.Multi, SlL ei64 A1_0 c1_0 x1, SlL ei64 (some ⟨0, 0, none⟩) 3 [2, 5, 7]] (by simp only [List.mem_cons, List.not_mem_nil, or_false, forall_eq_or_imp, forall_eq]; exact ⟨f0 _ (.head _), f0 _ (.tail _ (.head _)), f0 _ (.tail _ (.tail _ (.head _))), f0 _ (.tail _ (.tail _ (.tail _ (.head _)))), f1 _ (.head _), hg0⟩)
  have hm := bytes_true x0 x1 k0 k1
  refine ((c_law17_UnitinfoBytes hm).quiet rfl ⟨(.head _), (.tail _ (.head _)), (.tail _ (.tail _ (.head _))), (.tail _ (.tail _ (.tail _ (.head _)))), (.tail _ (.tail _ (.tail _ (.tail _ (.head _))))), (.tail _ (.tail _ (.tail _ (.tail _ (.tail _ (.head _)))))), trivial⟩ hsat).mono fun e W' ⟨he, hw⟩ => ?_
  subst he
  exact ⟨_, rfl, law_post Tryd.laid' rfl rfl Tryd.underlying4 (by kernel_rfl) rfl hW' hw⟩

theorem unitinfoBytes_row_holds : Rows.UnitinfoBytesSaid :=
  OpenClaim.holds_of_wide 3 Tryd.f3 rfl rfl rfl rfl rfl rfl rfl ⟨rfl, rfl, rfl, rfl, rfl⟩ rfl rfl rfl rfl rfl (by kernel_rfl) Tryd.func3 (by kernel_rfl)
    (of_decide_eq_true (by kernel_rfl)) (by unfold Func.isWrapper; first | (rw [if_pos (by decide +kernel)]; kernel_rfl) | (rw [if_neg (by decide +kernel)]; exact ⟨rfl, rfl⟩))
    (fun os started H enc _ => unitinfoBytes_lifted os started H enc)

theorem unitinfoBytes_holds : Rows.UnitinfoBytesCardSaid :=
  Claim7.holds_tied_plain_at .later [] [.data, .data, .pinned] true (true, "e45c347853bb264dd93c58dd0116879f1ba6f4cd5a9eac094bb979e79ec5d121") false
    unitinfoBytes_row_holds (fun _ h => by cases h) (by kernel_rfl) (fun _ h => by cases h) unitinfoBytes_row_tie rfl ⟨rfl, rfl⟩ (by kernel_rfl) rfl
    (fun f fn hf hfn => by
      obtain rfl : f = 3 := Option.some.inj ((show Tryd.prog.funcNamed "baseboard/baseboardlaw17.UnitinfoBytes" = some 3 by kernel_rfl).symm.trans hf) |>.symm
      obtain rfl : fn = Tryd.f3 := (Option.some.inj (Tryd.func3.symm.trans hfn)).symm
      refine ⟨by kernel_rfl, fun j t ht => ?_⟩
      rw [Tryd.params3] at ht
      have hm := Array.mem_of_getElem? ht
      simp only [List.mem_toArray, List.mem_cons, List.not_mem_nil, or_false] at hm
      rcases hm with rfl | rfl <;> (show _ = _) <;> kernel_rfl)
    (by kernel_rfl)

#print axioms unitinfoBytes_holds

end Go.Proofs.YtcekbbbjagfacaaDoor
