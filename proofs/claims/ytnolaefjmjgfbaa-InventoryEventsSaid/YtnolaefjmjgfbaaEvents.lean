/-
  The statement InventoryEventsSaid: the law answers true whatever the input, and its arguments read as they did.
  Conditions: none.
-/
import Derived.Test.YtnolaefjmjgfbaaFin
import Derived.Test.YtnolaefjmjgfbaaGen
import Derived.Test.YtnolaefjmjgfbaaInvLaw5
namespace Go.Proofs.Ytnolaefjmjgfbaa
open Go Go.ChangeShapes Go.WideShapes Go.ChangeAt Go.RowKit

theorem reads_40 : ReadsE Try.prog e_Difference 40 := by
  intro H enc w base sp held fuel cs x h
  obtain ⟨xs, n, _, _, hlen, hxl, hf⟩ := DataW.trod_struct Try.underlying40 h
  rw [show Try.prog.cellsOf 40 = 3 by kernel_rfl] at hlen
  replace hxl : xs.length = 3 := hxl
  match cs, hlen with
  | [c0, c1, c2], _ =>
    obtain ⟨z0, hz0⟩ := field_one (c := c0) (hf 0 _ rfl) (by omega) (by kernel_rfl) rfl
    obtain ⟨y0, hy0⟩ := (reads_int (E := ei64) Try.underlying3 (fun _ => rfl)) hz0
    injection hy0 with hy0 _
    subst hy0
    obtain ⟨z1, hz1⟩ := field_one (c := c1) (hf 1 _ rfl) (by omega) (by kernel_rfl) rfl
    obtain ⟨y1, hy1⟩ := (reads_int (E := ei64) Try.underlying3 (fun _ => rfl)) hz1
    injection hy1 with hy1 _
    subst hy1
    obtain ⟨z2, hz2⟩ := field_one (c := c2) (hf 2 _ rfl) (by omega) (by kernel_rfl) rfl
    obtain ⟨y2, hy2⟩ := (reads_int (E := ei64) Try.underlying3 (fun _ => rfl)) hz2
    injection hy2 with hy2 _
    subst hy2
    exact ⟨⟨y0, y1, y2⟩, rfl⟩

set_option maxRecDepth 100000 in
theorem inventoryEvents_lifted (os : Os) (started : os.Started) (H : Type) (enc : TypeId × Value → H) :
    ReturnsInHanded {} Try.checked os 7 .any (Rows.inventoryEventsSpec.pre6 enc Try.prog Try.f7 Rows.inventoryEventsRow.domain false) (Rows.inventoryEventsSpec.post enc Try.prog Try.f7 false true false false) := by
  refine returnsInHanded_of_change (C := Try.checked) Try.own' started (by kernel_rfl) Try.func7
    (ChangeSpec.witness6 (enc := enc) (C := Try.checked) false ⟨#[], #[.slice none 0 0, .slice none 0 0], []⟩ 8 (by kernel_rfl) (by kernel_rfl) (by kernel_rfl) (by kernel_rfl)) ?_
  intro W base args ds gs before hval0 hW hcnd _
  have hval : ∀ (j : Nat) t v, Try.f7.params[j]? = some t → args[j]? = some v → Value.okWide Try.prog W .any base t v := hval0
  clear hval0 hcnd
  have hW' := hW
  obtain ⟨p, q, hA0, hV, _, _, _⟩ := hW
  obtain ⟨rfl, _⟩ := trodVars_none hV
  have hA : DataW.TrodAll enc Try.prog W 0 (fun _ => true) true Try.f7.params.toList args.toList ds p := hA0
  rw [Try.params7] at hA hval
  obtain ⟨args⟩ := args
  obtain ⟨v0, vs0, d0, ds0, p0, q0, hvs, rfl, _, h0, hB0⟩ := trodAll_cons hA
  replace hvs : args = _ := hvs
  subst hvs
  obtain ⟨v1, vs1, d1, ds1, p1, q1, rfl, rfl, _, h1, hB1⟩ := trodAll_cons hB0
  obtain ⟨rfl, rfl, _⟩ := trodAll_nil hB1
  obtain ⟨A0, c0, x0, rfl, s0⟩ := open_sl (E := e_Difference) Try.underlying32 (by kernel_rfl) (by decide) reads_40 (hval 0 32 v0 rfl rfl) h0
  obtain ⟨A1, c1, x1, rfl, s1⟩ := open_sl (E := ei64) Try.underlying23 (by kernel_rfl) (by decide) (reads_int (E := ei64) Try.underlying3 (fun _ => rfl)) (hval 1 23 v1 rfl rfl) h1
  have hsat := sat_ros (w := W) [SlL e_Difference A0 c0 x0, SlL ei64 A1 c1 x1] (by simp only [List.mem_cons, List.not_mem_nil, or_false, forall_eq_or_imp, forall_eq]; exact ⟨s0, s1⟩)
  have hm := events_true x0 x1
  refine ((c_law19_InventoryEvents hm).quiet rfl ⟨(.head _), (.tail _ (.head _)), trivial⟩ hsat).mono fun e W' ⟨he, hw⟩ => ?_
  subst he
  exact ⟨_, rfl, law_post Try.laid' rfl rfl Try.underlying4 (by kernel_rfl) rfl hW' hw⟩

theorem inventoryEvents_holds : Rows.InventoryEventsSaid :=
  OpenClaim.holds_of_wide 7 Try.f7 rfl rfl rfl rfl rfl rfl rfl ⟨rfl, rfl, rfl, rfl, rfl⟩ rfl rfl rfl rfl rfl (by kernel_rfl) Try.func7 (by kernel_rfl)
    (of_decide_eq_true (by kernel_rfl)) (by unfold Func.isWrapper; first | (rw [if_pos (by decide +kernel)]; kernel_rfl) | (rw [if_neg (by decide +kernel)]; exact ⟨rfl, rfl⟩))
    (fun os started H enc _ => inventoryEvents_lifted os started H enc)

#print axioms inventoryEvents_holds

end Go.Proofs.Ytnolaefjmjgfbaa
