/-
  The statement InventorySwapsSaid: the law answers true whatever the input, and its arguments read as they did.
  Conditions: none.
-/
import Derived.Test.YtnolaefjmjgfbaaFin
import Derived.Test.YtnolaefjmjgfbaaGen
import Derived.Test.YtnolaefjmjgfbaaInvLaw6
namespace Go.Proofs.Ytnolaefjmjgfbaa
open Go Go.ChangeShapes Go.WideShapes Go.ChangeAt Go.RowKit

set_option maxRecDepth 100000 in
theorem inventorySwaps_lifted (os : Os) (started : os.Started) (H : Type) (enc : TypeId × Value → H) :
    ReturnsInHanded {} Try.checked os 5 .any (Rows.inventorySwapsSpec.pre6 enc Try.prog Try.f5 Rows.inventorySwapsRow.domain false) (Rows.inventorySwapsSpec.post enc Try.prog Try.f5 false true false false) := by
  refine returnsInHanded_of_change (C := Try.checked) Try.own' started (by kernel_rfl) Try.func5
    (ChangeSpec.witness6 (enc := enc) (C := Try.checked) false ⟨#[], #[.int .i64 0, .slice none 0 0], []⟩ 8 (by kernel_rfl) (by kernel_rfl) (by kernel_rfl) (by kernel_rfl)) ?_
  intro W base args ds gs before hval0 hW hcnd _
  have hval : ∀ (j : Nat) t v, Try.f5.params[j]? = some t → args[j]? = some v → Value.okWide Try.prog W .any base t v := hval0
  clear hval0 hcnd
  have hW' := hW
  obtain ⟨p, q, hA0, hV, _, _, _⟩ := hW
  obtain ⟨rfl, _⟩ := trodVars_none hV
  have hA : DataW.TrodAll enc Try.prog W 0 (fun _ => true) true Try.f5.params.toList args.toList ds p := hA0
  rw [Try.params5] at hA hval
  obtain ⟨args⟩ := args
  obtain ⟨v0, vs0, d0, ds0, p0, q0, hvs, rfl, _, h0, hB0⟩ := trodAll_cons hA
  replace hvs : args = _ := hvs
  subst hvs
  obtain ⟨v1, vs1, d1, ds1, p1, q1, rfl, rfl, _, h1, hB1⟩ := trodAll_cons hB0
  obtain ⟨rfl, rfl, _⟩ := trodAll_nil hB1
  obtain ⟨x0, rfl, rfl, rfl, w0⟩ := open_int Try.underlying3 (hval 0 3 v0 rfl rfl) h0
  obtain ⟨A1, c1, x1, rfl, s1⟩ := open_sl (E := ei64) Try.underlying23 (by kernel_rfl) (by decide) (reads_int (E := ei64) Try.underlying3 (fun _ => rfl)) (hval 1 23 v1 rfl rfl) h1
  have hsat := sat_ros (w := W) [SlL ei64 A1 c1 x1] (by simp only [List.mem_cons, List.not_mem_nil, or_false, forall_eq_or_imp, forall_eq]; exact s1)
  have hm := swaps_true x0 x1
  refine ((c_law19_InventorySwaps hm).quiet rfl ⟨(.head _), trivial⟩ hsat).mono fun e W' ⟨he, hw⟩ => ?_
  subst he
  exact ⟨_, rfl, law_post Try.laid' rfl rfl Try.underlying4 (by kernel_rfl) rfl hW' hw⟩

theorem inventorySwaps_holds : Rows.InventorySwapsSaid :=
  OpenClaim.holds_of_wide 5 Try.f5 rfl rfl rfl rfl rfl rfl rfl ⟨rfl, rfl, rfl, rfl, rfl⟩ rfl rfl rfl rfl rfl (by kernel_rfl) Try.func5 (by kernel_rfl)
    (of_decide_eq_true (by kernel_rfl)) (by unfold Func.isWrapper; first | (rw [if_pos (by decide +kernel)]; kernel_rfl) | (rw [if_neg (by decide +kernel)]; exact ⟨rfl, rfl⟩))
    (fun os started H enc _ => inventorySwaps_lifted os started H enc)

#print axioms inventorySwaps_holds

end Go.Proofs.Ytnolaefjmjgfbaa
