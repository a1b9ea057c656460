/-
  The statement InventoryComparesSaid: the law answers true whatever the input, and its arguments read as they did.
  Conditions: none.
-/
import Derived.Test.YtnolaefjmjgfbaaFin
import Derived.Test.YtnolaefjmjgfbaaGen2
import Derived.Test.YtnolaefjmjgfbaaInvLaw1
namespace Go.Proofs.Ytnolaefjmjgfbaa
open Go Go.ChangeShapes Go.WideShapes Go.ChangeAt Go.RowKit

theorem reads_45 : ReadsE Try.prog e_Known 45 := by
  intro H enc w base sp held fuel cs x h
  obtain ⟨xs, n, _, _, hlen, hxl, hf⟩ := DataW.trod_struct Try.underlying45 h
  rw [show Try.prog.cellsOf 45 = 4 by kernel_rfl] at hlen
  replace hxl : xs.length = 4 := hxl
  match cs, hlen with
  | [c0, c1, c2, c3], _ =>
    obtain ⟨z0, hz0⟩ := field_one (c := c0) (hf 0 _ rfl) (by omega) (by kernel_rfl) rfl
    obtain ⟨y0, hy0⟩ := (reads_int (E := ei64) Try.underlying3 (fun _ => rfl)) hz0
    injection hy0 with hy0 _
    subst hy0
    obtain ⟨z1, hz1⟩ := field_one (c := c1) (hf 1 _ rfl) (by omega) (by kernel_rfl) rfl
    obtain ⟨y1, hy1⟩ := (reads_bool Try.underlying4) hz1
    injection hy1 with hy1 _
    subst hy1
    obtain ⟨z2, hz2⟩ := field_one (c := c2) (hf 2 _ rfl) (by omega) (by kernel_rfl) rfl
    obtain ⟨y2, hy2⟩ := (reads_str Try.underlying9) hz2
    injection hy2 with hy2 _
    subst hy2
    obtain ⟨z3, hz3⟩ := field_one (c := c3) (hf 3 _ rfl) (by omega) (by kernel_rfl) rfl
    obtain ⟨y3, hy3⟩ := (reads_int (E := eu32) Try.underlying43 (fun _ => rfl)) hz3
    injection hy3 with hy3 _
    subst hy3
    exact ⟨⟨y0, y1, y2, y3⟩, rfl⟩

set_option maxRecDepth 100000 in
theorem inventoryCompares_lifted (os : Os) (started : os.Started) (H : Type) (enc : TypeId × Value → H) :
    ReturnsInHanded {} Try.checked os 3 .any (Rows.inventoryComparesSpec.pre6 enc Try.prog Try.f3 Rows.inventoryComparesRow.domain false) (Rows.inventoryComparesSpec.post enc Try.prog Try.f3 false true false false) := by
  refine returnsInHanded_of_change (C := Try.checked) Try.own' started (by kernel_rfl) Try.func3
    (ChangeSpec.witness6 (enc := enc) (C := Try.checked) false ⟨#[], #[.slice none 0 0, .slice none 0 0, .slice none 0 0], []⟩ 8 (by kernel_rfl) (by kernel_rfl) (by kernel_rfl) (by kernel_rfl)) ?_
  intro W base args ds gs before hval0 hW hcnd _
  have hval : ∀ (j : Nat) t v, Try.f3.params[j]? = some t → args[j]? = some v → Value.okWide Try.prog W .any base t v := hval0
  clear hval0 hcnd
  have hW' := hW
  obtain ⟨p, q, hA0, hV, _, _, _⟩ := hW
  obtain ⟨rfl, _⟩ := trodVars_none hV
  have hA : DataW.TrodAll enc Try.prog W 0 (fun _ => true) true Try.f3.params.toList args.toList ds p := hA0
  rw [Try.params3] at hA hval
  obtain ⟨args⟩ := args
  obtain ⟨v0, vs0, d0, ds0, p0, q0, hvs, rfl, _, h0, hB0⟩ := trodAll_cons hA
  replace hvs : args = _ := hvs
  subst hvs
  obtain ⟨v1, vs1, d1, ds1, p1, q1, rfl, rfl, _, h1, hB1⟩ := trodAll_cons hB0
  obtain ⟨v2, vs2, d2, ds2, p2, q2, rfl, rfl, _, h2, hB2⟩ := trodAll_cons hB1
  obtain ⟨rfl, rfl, _⟩ := trodAll_nil hB2
  obtain ⟨A0, c0, x0, rfl, s0⟩ := open_sl (E := e_Known) Try.underlying22 (by kernel_rfl) (by decide) reads_45 (hval 0 22 v0 rfl rfl) h0
  obtain ⟨A1, c1, x1, rfl, s1⟩ := open_sl (E := e_Known) Try.underlying22 (by kernel_rfl) (by decide) reads_45 (hval 1 22 v1 rfl rfl) h1
  obtain ⟨A2, c2, x2, rfl, s2⟩ := open_sl (E := ei64) Try.underlying23 (by kernel_rfl) (by decide) (reads_int (E := ei64) Try.underlying3 (fun _ => rfl)) (hval 2 23 v2 rfl rfl) h2
  have hsat := sat_ros (w := W) [SlL e_Known A0 c0 x0, SlL e_Known A1 c1 x1, SlL ei64 A2 c2 x2] (by simp only [List.mem_cons, List.not_mem_nil, or_false, forall_eq_or_imp, forall_eq]; exact ⟨s0, s1, s2⟩)
  have hm := compares_true x0 x1 x2
  refine ((c_law19_InventoryCompares hm).quiet rfl ⟨(.head _), (.tail _ (.head _)), (.tail _ (.tail _ (.head _))), trivial⟩ hsat).mono fun e W' ⟨he, hw⟩ => ?_
  subst he
  exact ⟨_, rfl, law_post Try.laid' rfl rfl Try.underlying4 (by kernel_rfl) rfl hW' hw⟩

theorem inventoryCompares_holds : Rows.InventoryComparesSaid :=
  OpenClaim.holds_of_wide 3 Try.f3 rfl rfl rfl rfl rfl rfl rfl ⟨rfl, rfl, rfl, rfl, rfl⟩ rfl rfl rfl rfl rfl (by kernel_rfl) Try.func3 (by kernel_rfl)
    (of_decide_eq_true (by kernel_rfl)) (by unfold Func.isWrapper; first | (rw [if_pos (by decide +kernel)]; kernel_rfl) | (rw [if_neg (by decide +kernel)]; exact ⟨rfl, rfl⟩))
    (fun os started H enc _ => inventoryCompares_lifted os started H enc)

#print axioms inventoryCompares_holds

end Go.Proofs.Ytnolaefjmjgfbaa
