/-
  The statement InventoryOneSaid: the law answers true whatever the input, and its arguments read as they did.
  Conditions: none.
-/
import Derived.Test.YtnolaefjmjgfbaaFin
import Derived.Test.YtnolaefjmjgfbaaGen2
import Derived.Test.YtnolaefjmjgfbaaInvLaw2
namespace Go.Proofs.Ytnolaefjmjgfbaa
open Go Go.ChangeShapes Go.WideShapes Go.ChangeAt Go.RowKit

set_option maxRecDepth 100000 in
theorem inventoryOne_lifted (os : Os) (started : os.Started) (H : Type) (enc : TypeId × Value → H) :
    ReturnsInHanded {} Try.checked os 6 .any (Rows.inventoryOneSpec.pre6 enc Try.prog Try.f6 Rows.inventoryOneRow.domain false) (Rows.inventoryOneSpec.post enc Try.prog Try.f6 false true false false) := by
  refine returnsInHanded_of_change (C := Try.checked) Try.own' started (by kernel_rfl) Try.func6
    (ChangeSpec.witness6 (enc := enc) (C := Try.checked) false ⟨#[], #[.int .i64 0, .string ⟨#[]⟩, .string ⟨#[]⟩, .bool false, .bool false, .int .u32 0, .int .u32 0], []⟩ 8 (by kernel_rfl) (by kernel_rfl) (by kernel_rfl) (by kernel_rfl)) ?_
  intro W base args ds gs before hval0 hW hcnd _
  have hval : ∀ (j : Nat) t v, Try.f6.params[j]? = some t → args[j]? = some v → Value.okWide Try.prog W .any base t v := hval0
  clear hval0 hcnd
  have hW' := hW
  obtain ⟨p, q, hA0, hV, _, _, _⟩ := hW
  obtain ⟨rfl, _⟩ := trodVars_none hV
  have hA : DataW.TrodAll enc Try.prog W 0 (fun _ => true) true Try.f6.params.toList args.toList ds p := hA0
  rw [Try.params6] at hA hval
  obtain ⟨args⟩ := args
  obtain ⟨v0, vs0, d0, ds0, p0, q0, hvs, rfl, _, h0, hB0⟩ := trodAll_cons hA
  replace hvs : args = _ := hvs
  subst hvs
  obtain ⟨v1, vs1, d1, ds1, p1, q1, rfl, rfl, _, h1, hB1⟩ := trodAll_cons hB0
  obtain ⟨v2, vs2, d2, ds2, p2, q2, rfl, rfl, _, h2, hB2⟩ := trodAll_cons hB1
  obtain ⟨v3, vs3, d3, ds3, p3, q3, rfl, rfl, _, h3, hB3⟩ := trodAll_cons hB2
  obtain ⟨v4, vs4, d4, ds4, p4, q4, rfl, rfl, _, h4, hB4⟩ := trodAll_cons hB3
  obtain ⟨v5, vs5, d5, ds5, p5, q5, rfl, rfl, _, h5, hB5⟩ := trodAll_cons hB4
  obtain ⟨v6, vs6, d6, ds6, p6, q6, rfl, rfl, _, h6, hB6⟩ := trodAll_cons hB5
  obtain ⟨rfl, rfl, _⟩ := trodAll_nil hB6
  obtain ⟨x0, rfl, rfl, rfl, w0⟩ := open_int Try.underlying3 (hval 0 3 v0 rfl rfl) h0
  obtain ⟨x1, rfl⟩ := okWide_string Try.underlying9 (hval 1 9 v1 rfl rfl)
  obtain ⟨x2, rfl⟩ := okWide_string Try.underlying9 (hval 2 9 v2 rfl rfl)
  obtain ⟨x3, rfl⟩ := okWide_bool Try.underlying4 (hval 3 4 v3 rfl rfl)
  obtain ⟨x4, rfl⟩ := okWide_bool Try.underlying4 (hval 4 4 v4 rfl rfl)
  obtain ⟨x5, rfl, rfl, rfl, w5⟩ := open_int Try.underlying43 (hval 5 43 v5 rfl rfl) h5
  obtain ⟨x6, rfl, rfl, rfl, w6⟩ := open_int Try.underlying43 (hval 6 43 v6 rfl rfl) h6
  have hsat := Sat.nil W
  have hm := one_true x0 x1 x2 x3 x4 x5 x6
  refine ((c_law19_InventoryOne hm).quiet rfl trivial hsat).mono fun e W' ⟨he, hw⟩ => ?_
  subst he
  exact ⟨_, rfl, law_post Try.laid' rfl rfl Try.underlying4 (by kernel_rfl) rfl hW' hw⟩

theorem inventoryOne_holds : Rows.InventoryOneSaid :=
  OpenClaim.holds_of_wide 6 Try.f6 rfl rfl rfl rfl rfl rfl rfl ⟨rfl, rfl, rfl, rfl, rfl⟩ rfl rfl rfl rfl rfl (by kernel_rfl) Try.func6 (by kernel_rfl)
    (of_decide_eq_true (by kernel_rfl)) (by unfold Func.isWrapper; first | (rw [if_pos (by decide +kernel)]; kernel_rfl) | (rw [if_neg (by decide +kernel)]; exact ⟨rfl, rfl⟩))
    (fun os started H enc _ => inventoryOne_lifted os started H enc)

#print axioms inventoryOne_holds

end Go.Proofs.Ytnolaefjmjgfbaa
