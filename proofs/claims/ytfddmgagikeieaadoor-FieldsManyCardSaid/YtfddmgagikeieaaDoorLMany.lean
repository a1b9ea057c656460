/-
  The statement FieldsManySaid: the law answers true whatever the input, and its arguments read as they did.
  Conditions: none.
-/
import Derived.Test.YtfddmgagikeieaaDoorFin2
import Derived.Test.YtfddmgagikeieaaDoorGenFieldsMany
import Derived.Test.YtfddmgagikeieaaDoorFldM
import Derived.Test.YtfddmgagikeieaaDoorTie
import Derived.Test.YtfddmgagikeieaaDoorCards
import Derived.LaidLaws
import Derived.LaidHandle
import Derived.Deep.DeepLaidRun
import Derived.SevenTiedAt
namespace Go.Proofs.YtfddmgagikeieaaDoor
open Go Go.ChangeShapes Go.WideShapes Go.ChangeAt Go.RowKit
set_option linter.unusedVariables false
set_option linter.unusedSimpArgs false

/-- The cells of what a variable holds. -/
def flatD : Nat → DataW Unit → List Value
  | 0, _ => []
  | n + 1, .lit (.int k i) => [.int k i]
  | n + 1, .lit (.bool b) => [.bool b]
  | n + 1, .agg xs => xs.flatMap (flatD n)
  | _, _ => []
def lay (g : Nat) (cs : List Value) (w : World) : World := { w with heap := w.heap.modify g fun
    | .cells _ t frozen => .cells cs.toArray t frozen
    | o => o }
/-- The settled world, the listed variables laid. -/
noncomputable def laidWorld (os : Os) : World := lay 1 (flatD 9 Rows.laid_unicode_utf8_acceptRanges) (lay 0 (flatD 9 Rows.laid_unicode_utf8_first) ((World.holding Tryd.prog os ⟨#[], #[], []⟩)))
theorem laid_met (os : Os) (args : Array Value) : laidMetH Tryd.prog Rows.fieldsManyRow.laid ((laidWorld os).forCall (fun _ _ => 0) ⟨#[], args, []⟩).memory :=
  (show laidMet Tryd.prog Rows.fieldsManyRow.laid ((laidWorld os).forCall (fun _ _ => 0) ⟨#[], args, []⟩).memory from laidMet_of_run3 20 (by kernel_rfl) (by kernel_rfl) (by kernel_rfl))

set_option maxRecDepth 100000 in
theorem fieldsMany_lifted (os : Os) (started : os.Started) (H : Type) (enc : TypeId × Value → H) :
    ReturnsInHanded {} Tryd.checked os 12 .any (fun w args => (Rows.fieldsManySpec.pre enc Tryd.prog Tryd.f12 Rows.fieldsManyRow.domain false w args ∧ laidMetH Tryd.prog Rows.fieldsManyRow.laid w) ∧ sizedMet enc Tryd.prog Tryd.f12 (OpenSpec.ofChange Rows.fieldsManySpec) false w args) (Rows.fieldsManySpec.post enc Tryd.prog Tryd.f12 false true false false) := by
  refine returnsInHanded_of_change_and (C := Tryd.checked) (X := fun w _ => laidMetH Tryd.prog Rows.fieldsManyRow.laid w) (fun _ _ _ hh h => h.of_heap hh) Tryd.own' started (by kernel_rfl) Tryd.func12
    (ChangeSpec.witness_at (enc := enc) (C := Tryd.checked) (os := os) (X := fun w _ => laidMetH Tryd.prog Rows.fieldsManyRow.laid w) false (laidWorld os) #[.slice none 0 0, .int .i64 0] 8 rfl (by kernel_rfl) (by kernel_rfl) (by kernel_rfl) (by kernel_rfl) (by kernel_rfl) (laid_met os _)) ?_
  intro W base args ds gs before hval0 hW hcnd _ hL _
  have hval : ∀ (j : Nat) t v, Tryd.f12.params[j]? = some t → args[j]? = some v → Value.okWide Tryd.prog W .any base t v := hval0
  clear hval0 hcnd
  have hW' := hW
  obtain ⟨p, q, hA0, hV, _, _, _⟩ := hW
  obtain ⟨rfl, _⟩ := trodVars_none hV
  have hA : DataW.TrodAll enc Tryd.prog W 0 (fun _ => true) true Tryd.f12.params.toList args.toList ds p := hA0
  rw [Tryd.params12] at hA hval
  obtain ⟨args⟩ := args
  obtain ⟨v0, vs0, d0, ds0, p0, q0, hvs, rfl, _, h0, hB0⟩ := trodAll_cons hA
  replace hvs : args = _ := hvs
  subst hvs
  obtain ⟨v1, vs1, d1, ds1, p1, q1, rfl, rfl, _, h1, hB1⟩ := trodAll_cons hB0
  obtain ⟨rfl, rfl, _⟩ := trodAll_nil hB1
  obtain ⟨x0, ex0, e0, k0, f0⟩ := open_arg (rdl_slice Tryd.underlying24 (by kernel_rfl) (by decide) (rdc_flat (rdl_int Tryd.underlying3 : RdL Tryd.prog l_i64 (inK .i64) 3) (fun y ex => rfl)) : RdL Tryd.prog l_sl_i64 (okL (inK .i64)) 24) h0
  obtain ⟨⟨A0_0, c0_0⟩, _⟩ := ex0
  obtain ⟨A0, l0, c0, rfl⟩ := okWide_slice Tryd.underlying24 (hval 0 24 v0 rfl rfl)
  obtain ⟨rfl, rfl, rfl⟩ : A0_0 = A0 ∧ x0.length = l0 ∧ c0_0 = c0 := by injection e0 with e _; injection e with e1 e2 e3; exact ⟨e1.symm, e2.symm, e3.symm⟩
  obtain ⟨x1, ex1, e1, k1, f1⟩ := open_arg (rdl_int Tryd.underlying3 : RdL Tryd.prog l_i64 (inK .i64) 3) h1
  obtain ⟨n1, rfl⟩ := okWide_int Tryd.underlying3 (hval 1 3 v1 rfl rfl)
  obtain rfl : x1 = n1 := by injection e1 with e _; injection e with _ e; exact e.symm
  have hsat := sat_ros (w := W) [SlL ei64 A0_0 c0_0 x0] (by simp only [List.mem_cons, List.not_mem_nil, or_false, forall_eq_or_imp, forall_eq]; exact f0 _ (.head _))
  have hm := fieldsMany_true x0 x1 k0 k1
  refine ((c_law02_FieldsMany hm).quiet rfl ⟨(.head _), trivial⟩ hsat).mono fun e W' ⟨he, hw⟩ => ?_
  subst he
  exact ⟨_, rfl, law_post Tryd.laid' rfl rfl Tryd.underlying4 (by kernel_rfl) rfl hW' hw⟩

theorem fieldsMany_row_holds : Rows.FieldsManySaid :=
  OpenClaim.holds_of_wide 12 Tryd.f12 rfl rfl rfl rfl rfl rfl rfl ⟨rfl, rfl, rfl, rfl, rfl⟩ rfl rfl rfl rfl rfl (by kernel_rfl) Tryd.func12 (by kernel_rfl)
    (of_decide_eq_true (by kernel_rfl)) (by unfold Func.isWrapper; first | (rw [if_pos (by decide +kernel)]; kernel_rfl) | (rw [if_neg (by decide +kernel)]; exact ⟨rfl, rfl⟩))
    (fun os started H enc _ => fieldsMany_lifted os started H enc)

theorem fieldsMany_holds : Rows.FieldsManyCardSaid :=
  Claim7.holds_tied_plain_at .later [] [.data, .pinned] true (true, "43e14fe960aa2bcda908c90f366025ad66318cf6fe8dba92a2a9b2a9d1a24495") false
    fieldsMany_row_holds (fun _ h => by cases h) (by kernel_rfl) (fun _ h => by cases h) fieldsMany_row_tie rfl ⟨rfl, rfl⟩ (by kernel_rfl) rfl
    (fun f fn hf hfn => by
      obtain rfl : f = 12 := Option.some.inj ((show Tryd.prog.funcNamed "baseboard/baseboardlaw02.FieldsMany" = some 12 by kernel_rfl).symm.trans hf) |>.symm
      obtain rfl : fn = Tryd.f12 := (Option.some.inj (Tryd.func12.symm.trans hfn)).symm
      refine ⟨by kernel_rfl, fun j t ht => ?_⟩
      rw [Tryd.params12] at ht
      have hm := Array.mem_of_getElem? ht
      simp only [List.mem_toArray, List.mem_cons, List.not_mem_nil, or_false] at hm
      rcases hm with rfl | rfl <;> (show _ = _) <;> kernel_rfl)
    (by kernel_rfl)

#print axioms fieldsMany_holds

end Go.Proofs.YtfddmgagikeieaaDoor
