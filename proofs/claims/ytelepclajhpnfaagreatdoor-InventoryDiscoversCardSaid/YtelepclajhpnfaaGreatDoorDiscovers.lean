/-
  The statement InventoryDiscoversSaid: the law answers true whatever the input, and its arguments read as they did.
  Conditions: none.
-/
import Derived.Test.YtelepclajhpnfaaGreatDoorFin2
import Derived.Test.YtelepclajhpnfaaGreatDoorFinG
import Derived.Test.YtelepclajhpnfaaGreatDoorGenInventoryDiscovers
import Derived.Test.YtelepclajhpnfaaGreatDoorInvD
import Derived.Test.YtelepclajhpnfaaGreatDoorTie
import Derived.Test.YtelepclajhpnfaaGreatDoorCards
import Derived.LaidLaws
import Derived.LaidHandle
import Derived.Deep.DeepLaidRun
import Derived.SevenTiedAt
namespace Go.Proofs.YtelepclajhpnfaaGreatDoor
open Go Go.ChangeShapes Go.WideShapes Go.ChangeAt Go.RowKit
set_option linter.unusedVariables false
set_option linter.unusedSimpArgs false
set_option maxRecDepth 20000

theorem rdl_28 : RdL Tryz.prog l_T_Unit ok_T_Unit 28 := by
  intro H enc w base sp held fuel cs x h
  obtain ⟨xs, n, _, _, hlen, hxl, hf⟩ := DataW.trod_struct Tryz.underlying28 h
  rw [show Tryz.prog.cellsOf 28 = 2 by kernel_rfl] at hlen
  replace hxl : xs.length = 2 := hxl
  match cs, hlen with
  | [c0, c1], _ =>
    obtain ⟨z0, hz0⟩ := field_at (k := 1) (sub := [c0]) (hf 0 _ rfl) (by omega) (by kernel_rfl) rfl
    obtain ⟨y0, r0, p0⟩ := (rdl_int Tryz.underlying3 : RdL Tryz.prog l_i64 (inK .i64) 3) hz0
    obtain ⟨a0_0, _⟩ := r0
    obtain ⟨z1, hz1⟩ := field_at (k := 1) (sub := [c1]) (hf 1 _ rfl) (by omega) (by kernel_rfl) rfl
    obtain ⟨y1, r1, p1⟩ := (rdl_slice Tryz.underlying26 (by kernel_rfl) (by decide) (rdc_flat (rdl_int Tryz.underlying5 : RdL Tryz.prog l_u8 (inK .u8) 5) (fun y ex => rfl)) : RdL Tryz.prog l_sl_u8 (okL (inK .u8)) 26) hz1
    obtain ⟨a1_0, _⟩ := r1
    exact ⟨⟨y0, y1⟩, ⟨a0_0, a1_0, trivial⟩, p0, p1⟩

/-- The cells of what a variable holds. -/
def flatD : Nat → DataW Unit → List Value
  | 0, _ => []
  | n + 1, .lit (.int k i) => [.int k i]
  | n + 1, .lit (.bool b) => [.bool b]
  | n + 1, .agg xs => xs.flatMap (flatD n)
  | _, _ => []
def lay (g : Nat) (cs : List Value) (w : World) : World := { w with heap := w.heap.modify g fun
    | .cells _ t frozen => .cells cs.toArray t frozen
    | o => o }
/-- The settled world, the listed variables laid. -/
noncomputable def laidWorld (os : Os) : World := lay 2 (flatD 9 Rows.laid_unicode_utf8_acceptRanges) (lay 0 (flatD 9 Rows.laid_baseboard_unitinfo_leastFields) (lay 1 (flatD 9 Rows.laid_unicode_utf8_first) ((World.holding Tryz.prog os ⟨#[], #[], []⟩))))
theorem laid_met (os : Os) (args : Array Value) : laidMetH Tryz.prog Rows.inventoryDiscoversRow.laid ((laidWorld os).forCall (fun _ _ => 0) ⟨#[], args, []⟩).memory :=
  (show laidMet Tryz.prog Rows.inventoryDiscoversRow.laid ((laidWorld os).forCall (fun _ _ => 0) ⟨#[], args, []⟩).memory from laidMet_of_run3 20 (by kernel_rfl) (by kernel_rfl) (by kernel_rfl))

set_option maxRecDepth 100000 in
theorem inventoryDiscovers_lifted (os : Os) (started : os.Started) (H : Type) (enc : TypeId × Value → H) :
    ReturnsInHanded {} Tryz.checked os 3 .any (fun w args => (Rows.inventoryDiscoversSpec.pre enc Tryz.prog Tryz.f3 Rows.inventoryDiscoversRow.domain false w args ∧ laidMetH Tryz.prog Rows.inventoryDiscoversRow.laid w) ∧ sizedMet enc Tryz.prog Tryz.f3 (OpenSpec.ofChange Rows.inventoryDiscoversSpec) false w args) (Rows.inventoryDiscoversSpec.post enc Tryz.prog Tryz.f3 false true false false) := by
  refine returnsInHanded_of_change_and (C := Tryz.checked) (X := fun w _ => laidMetH Tryz.prog Rows.inventoryDiscoversRow.laid w) (fun _ _ _ hh h => h.of_heap hh) Tryz.own' started (by kernel_rfl) Tryz.func3
    (ChangeSpec.witness_at (enc := enc) (C := Tryz.checked) (os := os) (X := fun w _ => laidMetH Tryz.prog Rows.inventoryDiscoversRow.laid w) false (laidWorld os) #[.slice none 0 0, .slice none 0 0] 8 rfl (by kernel_rfl) (by kernel_rfl) (by kernel_rfl) (by kernel_rfl) (by kernel_rfl) (laid_met os _)) ?_
  intro W base args ds gs before hval0 hW hcnd _ hL _
  have hval : ∀ (j : Nat) t v, Tryz.f3.params[j]? = some t → args[j]? = some v → Value.okWide Tryz.prog W .any base t v := hval0
  clear hval0 hcnd
  have hW' := hW
  obtain ⟨p, q, hA0, hV, _, _, _⟩ := hW
  obtain ⟨rfl, _⟩ := trodVars_none hV
  have hA : DataW.TrodAll enc Tryz.prog W 0 (fun _ => true) true Tryz.f3.params.toList args.toList ds p := hA0
  rw [Tryz.params3] at hA hval
  obtain ⟨args⟩ := args
  obtain ⟨v0, vs0, d0, ds0, p0, q0, hvs, rfl, _, h0, hB0⟩ := trodAll_cons hA
  replace hvs : args = _ := hvs
  subst hvs
  obtain ⟨v1, vs1, d1, ds1, p1, q1, rfl, rfl, _, h1, hB1⟩ := trodAll_cons hB0
  obtain ⟨rfl, rfl, _⟩ := trodAll_nil hB1
  obtain ⟨x0, ex0, e0, k0, f0⟩ := open_arg (rdl_slice Tryz.underlying22 (by kernel_rfl) (by decide) rdl_28 : RdL Tryz.prog l_sl_T_Unit (okL ok_T_Unit) 22) h0
  obtain ⟨⟨A0_0, c0_0⟩, _⟩ := ex0
  obtain ⟨A0, l0, c0, rfl⟩ := okWide_slice Tryz.underlying22 (hval 0 22 v0 rfl rfl)
  obtain ⟨rfl, rfl, rfl⟩ : A0_0 = A0 ∧ x0.length = l0 ∧ c0_0 = c0 := by injection e0 with e _; injection e with e1 e2 e3; exact ⟨e1.symm, e2.symm, e3.symm⟩
  obtain ⟨x1, ex1, e1, k1, f1⟩ := open_arg (rdl_slice Tryz.underlying23 (by kernel_rfl) (by decide) (rdc_flat (rdl_int Tryz.underlying3 : RdL Tryz.prog l_i64 (inK .i64) 3) (fun y ex => rfl)) : RdL Tryz.prog l_sl_i64 (okL (inK .i64)) 23) h1
  obtain ⟨⟨A1_0, c1_0⟩, _⟩ := ex1
  obtain ⟨A1, l1, c1, rfl⟩ := okWide_slice Tryz.underlying23 (hval 1 23 v1 rfl rfl)
  obtain ⟨rfl, rfl, rfl⟩ : A1_0 = A1 ∧ x1.length = l1 ∧ c1_0 = c1 := by injection e1 with e _; injection e with e1 e2 e3; exact ⟨e1.symm, e2.symm, e3.symm⟩
  have hg0 : (SlL ei64 (some ⟨0, 0, none⟩) 3 [2, 5, 7]).p (hp W) := laid_sl (l := Rows.inventoryDiscoversRow.laid) (nm := "baseboard/unitinfo.leastFields") (k := .i64) (t := 96) (e := 3) ei64 [2, 5, 7] (fun _ => rfl) rfl (show laidMet Tryz.prog Rows.inventoryDiscoversRow.laid W from hL) (List.Mem.tail _ (List.Mem.head _)) (by kernel_rfl) (by kernel_rfl) Tryz.underlying96 Tryz.underlying3 (by kernel_rfl) (by decide)
  have hsat := sat_ros (w := W) [Sl (codL l_T_Unit) A0_0 c0_0 x0, SlL ei64 A1_0 c1_0 x1, SlL ei64 (some ⟨0, 0, none⟩) 3 [2, 5, 7]] (by simp only [List.mem_cons, List.not_mem_nil, or_false, forall_eq_or_imp, forall_eq]; exact ⟨f0 _ (.head _), f1 _ (.head _), hg0⟩)
  have hm := discovers_true x0 x1 k0 k1
  refine ((c_law19_InventoryDiscovers hm).quiet rfl ⟨(.head _), (.tail _ (.head _)), (.tail _ (.tail _ (.head _))), trivial⟩ hsat).mono fun e W' ⟨he, hw⟩ => ?_
  subst he
  exact ⟨_, rfl, law_post Tryz.laid' rfl rfl Tryz.underlying4 (by kernel_rfl) rfl hW' hw⟩

theorem inventoryDiscovers_row_holds : Rows.InventoryDiscoversSaid :=
  OpenClaim.holds_of_wide 3 Tryz.f3 rfl rfl rfl rfl rfl rfl rfl ⟨rfl, rfl, rfl, rfl, rfl⟩ rfl rfl rfl rfl rfl (by kernel_rfl) Tryz.func3 (by kernel_rfl)
    (of_decide_eq_true (by kernel_rfl)) (by unfold Func.isWrapper; first | (rw [if_pos (by decide +kernel)]; kernel_rfl) | (rw [if_neg (by decide +kernel)]; exact ⟨rfl, rfl⟩))
    (fun os started H enc _ => inventoryDiscovers_lifted os started H enc)

theorem inventoryDiscovers_holds : Rows.InventoryDiscoversCardSaid :=
  Claim7.holds_tied_plain_at .later [] [.data, .data, .pinned] true (true, "ae11a4e2de5d90517349da2fd24d8f119998af0865fbbeafb6b599b0242a8ae5") false
    inventoryDiscovers_row_holds (fun _ h => by cases h) (by kernel_rfl) (fun _ h => by cases h) inventoryDiscovers_row_tie rfl ⟨rfl, rfl⟩ (by kernel_rfl) rfl
    (fun f fn hf hfn => by
      obtain rfl : f = 3 := Option.some.inj ((show Tryz.prog.funcNamed "baseboard/baseboardlaw19.InventoryDiscovers" = some 3 by kernel_rfl).symm.trans hf) |>.symm
      obtain rfl : fn = Tryz.f3 := (Option.some.inj (Tryz.func3.symm.trans hfn)).symm
      refine ⟨by kernel_rfl, fun j t ht => ?_⟩
      rw [Tryz.params3] at ht
      have hm := Array.mem_of_getElem? ht
      simp only [List.mem_toArray, List.mem_cons, List.not_mem_nil, or_false] at hm
      rcases hm with rfl | rfl <;> (show _ = _) <;> kernel_rfl)
    (by kernel_rfl)

#print axioms inventoryDiscovers_holds

end Go.Proofs.YtelepclajhpnfaaGreatDoor
