/-
  The statement InventoryTurnsSaid: the law answers true whatever the input, and its arguments read as they did.
  Conditions: none.
-/
import Derived.Test.YtnolaefjmjgfbaaFin
import Derived.Test.YtnolaefjmjgfbaaGen2
import Derived.Test.YtnolaefjmjgfbaaInvLaw4
namespace Go.Proofs.Ytnolaefjmjgfbaa
open Go Go.ChangeShapes Go.WideShapes Go.ChangeAt Go.RowKit

set_option maxRecDepth 100000 in
theorem inventoryTurns_lifted (os : Os) (started : os.Started) (H : Type) (enc : TypeId × Value → H) :
    ReturnsInHanded {} Try.checked os 4 .any (Rows.inventoryTurnsSpec.pre6 enc Try.prog Try.f4 Rows.inventoryTurnsRow.domain false) (Rows.inventoryTurnsSpec.post enc Try.prog Try.f4 false true false false) := by
  refine returnsInHanded_of_change (C := Try.checked) Try.own' started (by kernel_rfl) Try.func4
    (ChangeSpec.witness6 (enc := enc) (C := Try.checked) false ⟨#[], #[.slice none 0 0, .slice none 0 0], []⟩ 8 (by kernel_rfl) (by kernel_rfl) (by kernel_rfl) (by kernel_rfl)) ?_
  intro W base args ds gs before hval0 hW hcnd _
  have hval : ∀ (j : Nat) t v, Try.f4.params[j]? = some t → args[j]? = some v → Value.okWide Try.prog W .any base t v := hval0
  clear hval0 hcnd
  have hW' := hW
  obtain ⟨p, q, hA0, hV, _, _, _⟩ := hW
  obtain ⟨rfl, _⟩ := trodVars_none hV
  have hA : DataW.TrodAll enc Try.prog W 0 (fun _ => true) true Try.f4.params.toList args.toList ds p := hA0
  rw [Try.params4] at hA hval
  obtain ⟨args⟩ := args
  obtain ⟨v0, vs0, d0, ds0, p0, q0, hvs, rfl, _, h0, hB0⟩ := trodAll_cons hA
  replace hvs : args = _ := hvs
  subst hvs
  obtain ⟨v1, vs1, d1, ds1, p1, q1, rfl, rfl, _, h1, hB1⟩ := trodAll_cons hB0
  obtain ⟨rfl, rfl, _⟩ := trodAll_nil hB1
  obtain ⟨A0, c0, x0, rfl, s0⟩ := open_sl (E := ei64) Try.underlying23 (by kernel_rfl) (by decide) (reads_int (E := ei64) Try.underlying3 (fun _ => rfl)) (hval 0 23 v0 rfl rfl) h0
  obtain ⟨A1, c1, x1, rfl, s1⟩ := open_sl (E := ei64) Try.underlying23 (by kernel_rfl) (by decide) (reads_int (E := ei64) Try.underlying3 (fun _ => rfl)) (hval 1 23 v1 rfl rfl) h1
  have hsat := sat_ros (w := W) [SlL ei64 A0 c0 x0, SlL ei64 A1 c1 x1] (by simp only [List.mem_cons, List.not_mem_nil, or_false, forall_eq_or_imp, forall_eq]; exact ⟨s0, s1⟩)
  have hm := turns_true x0 x1
  refine ((c_law19_InventoryTurns hm).quiet rfl ⟨(.head _), (.tail _ (.head _)), trivial⟩ hsat).mono fun e W' ⟨he, hw⟩ => ?_
  subst he
  exact ⟨_, rfl, law_post Try.laid' rfl rfl Try.underlying4 (by kernel_rfl) rfl hW' hw⟩

theorem inventoryTurns_holds : Rows.InventoryTurnsSaid :=
  OpenClaim.holds_of_wide 4 Try.f4 rfl rfl rfl rfl rfl rfl rfl ⟨rfl, rfl, rfl, rfl, rfl⟩ rfl rfl rfl rfl rfl (by kernel_rfl) Try.func4 (by kernel_rfl)
    (of_decide_eq_true (by kernel_rfl)) (by unfold Func.isWrapper; first | (rw [if_pos (by decide +kernel)]; kernel_rfl) | (rw [if_neg (by decide +kernel)]; exact ⟨rfl, rfl⟩))
    (fun os started H enc _ => inventoryTurns_lifted os started H enc)

#print axioms inventoryTurns_holds

end Go.Proofs.Ytnolaefjmjgfbaa
