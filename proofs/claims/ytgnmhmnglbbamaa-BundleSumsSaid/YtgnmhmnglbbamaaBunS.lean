/-
  The law of the sums.
  Conditions: none.
-/
import Derived.Test.YtgnmhmnglbbamaaBun7
import Derived.Test.YtgnmhmnglbbamaaGenBundleSums
namespace Go.Proofs.Ytgnmhmnglbbamaa
open Go
set_option linter.unusedSimpArgs false
set_option linter.unusedVariables false

theorem valid_one {i : T_Image} (h : rightB i = true) : validB ⟨[i], []⟩ = 0 := by
  unfold validB
  rw [if_neg (by simp)]
  have : (List.range ([i] : List T_Image).length).findSome? (imgErr [i]) = none := by
    have : imgErr [i] 0 = none := by
      unfold imgErr
      simp [h]
    simp [List.range_succ, this]
  dsimp only at this ⊢
  rw [this]
  dsimp only
  rw [if_neg (by simp), if_pos (by simp [needsB])]

theorem sums_true (name : Int) (data : List Int) (major : Int) (hn : inK .u8 name) (hd : okL (inK .u8) data) (hm : inK .u8 major) : m_law28_BundleSums name data major = some true := by
  have hn' : 0 ≤ name ∧ name ≤ 255 := hn
  have hm' : 0 ≤ major ∧ major ≤ 255 := hm
  unfold m_law28_BundleSums
  rw [awake_true, bnd_some, Bool.not_true, cond_false]
  by_cases c1 : data.length < 1
  · rw [decide_eq_true (by omega : (data.length : Int) < 1)]
    rfl
  rw [decide_eq_false (by omega : ¬ (data.length : Int) < 1), cond_false, bnd_some]
  by_cases c2 : 100 < data.length
  · rw [decide_eq_true (by omega : (data.length : Int) > 100)]
    rfl
  rw [decide_eq_false (by omega : ¬ (data.length : Int) > 100), cond_false]
  have hx : ∃ x, elt ([⟨#[98, 105, 111, 115]⟩, ⟨#[109, 101]⟩, ⟨#[120, 45, 49]⟩] : List ByteArray) (name.tmod 3) = some x ∧ nameB x = true := by
    rw [Int.tmod_eq_emod_of_nonneg hn'.1]
    have : name % 3 = 0 ∨ name % 3 = 1 ∨ name % 3 = 2 := by omega
    rcases this with e | e | e <;> rw [e]
    · exact ⟨_, rfl, by decide +kernel⟩
    · exact ⟨_, rfl, by decide +kernel⟩
    · exact ⟨_, rfl, by decide +kernel⟩
  obtain ⟨x, hx1, hx2⟩ := hx
  refine bnd_eq hx1 ?_
  rw [wrap_i64 (by omega) (by omega)]
  have hv : verB ⟨major, 0, 0⟩ = true := by
    have : numB major = true := by
      unfold numB
      rw [decide_eq_true hm'.1, decide_eq_true (by omega)]
      rfl
    unfold verB
    dsimp only
    rw [this]
    rfl
  have hr : rightB ⟨x, ⟨major, 0, 0⟩, data⟩ = true := by
    unfold rightB
    dsimp only
    rw [hx2, hv, decide_eq_true (by omega), decide_eq_true (by omega)]
    rfl
  generalize hi : (⟨x, ⟨major, 0, 0⟩, data⟩ : T_Image) = i at *
  have ho : okU ⟨[i], []⟩ := fun j hj => by
    simp only [List.mem_singleton] at hj
    subst hj
    rw [← hi]
    exact hd
  have h0 := valid_one hr
  refine bnd_eq (Encode_prog _) ?_
  rw [encR_ok h0]
  have hl := encB_len h0
  rw [encB_iz h0 ho] at hl ⊢
  have hb : encNN ⟨[i], []⟩ = [66, 77, 67, 70, 1] ++ (imgN i ++ (fourN (sumF i).toNat ++ (0 :: fourN (crcF (iz (bodyN ⟨[i], []⟩))).toNat))) := by
    unfold encNN
    rw [show bodyN ⟨[i], []⟩ = [66, 77, 67, 70, 1] ++ (imgN i ++ (fourN (sumF i).toNat ++ [0])) by unfold bodyN; simp [imgSN]]
    simp
  have hf : ∀ n, (fourN n).length = 4 := fun _ => rfl
  have hlen : (encNN ⟨[i], []⟩).length = (imgN i).length + 14 := by
    rw [hb]
    simp only [List.length_append, List.length_cons, List.length_nil, hf]
    omega
  rw [iz_len] at hl
  rw [iz_len, hlen]
  have hw : IntKind.wrap .i64 ((((imgN i).length + 14 : Nat) : Int) - 9) = (((imgN i).length + 5 : Nat) : Int) := by rw [wrap_i64 (by omega) (by omega)]; omega
  have hw2 : IntKind.wrap .i64 ((((imgN i).length + 5 : Nat) : Int) + 4) = (((imgN i).length + 9 : Nat) : Int) := by rw [wrap_i64 (by omega) (by omega)]; omega
  dsimp only
  rw [hw, hw2, show ((0 : Int) != 0) = false from rfl, cond_false, decide_eq_false (by omega : ¬ (((imgN i).length + 14 : Nat) : Int) < 14), bnd_some, cond_false]
  refine bnd_eq (sum_prog i) ?_
  have hs := sumF_range i
  have s1 : sub (iz (encNN ⟨[i], []⟩)) 5 (((imgN i).length + 5 : Nat) : Int) = some (iz (imgN i)) := by
    rw [show (5 : Int) = ((5 : Nat) : Int) from rfl, sub_iz (by omega) (by omega)]
    congr 2
    rw [hb, List.drop_take, Nat.add_sub_cancel, List.drop_left' (l₁ := [66, 77, 67, 70, 1]) (i := 5) rfl, List.take_left]
  have hdr : (encNN ⟨[i], []⟩).drop ((imgN i).length + 5) = fourN (sumF i).toNat ++ (0 :: fourN (crcF (iz (bodyN ⟨[i], []⟩))).toNat) := by
    rw [hb, Nat.add_comm, ← List.drop_drop, List.drop_left' (l₁ := [66, 77, 67, 70, 1]) (i := 5) rfl, List.drop_left' rfl]
  have s2 : sub (iz (encNN ⟨[i], []⟩)) (((imgN i).length + 5 : Nat) : Int) (((imgN i).length + 9 : Nat) : Int) = some (iz (fourN (sumF i).toNat)) := by
    rw [sub_iz (by omega) (by omega)]
    congr 2
    rw [List.drop_take, hdr, show (imgN i).length + 9 - ((imgN i).length + 5) = 4 by omega]
    rfl
  have s3 : elt (iz (encNN ⟨[i], []⟩)) (((imgN i).length + 9 : Nat) : Int) = some 0 := by
    have : (encNN ⟨[i], []⟩)[(imgN i).length + 9]? = some 0 := by
      have e : (imgN i).length + 9 = (imgN i).length + 5 + 4 := by omega
      rw [e, ← List.getElem?_drop, hdr]
      rfl
    rw [elt_nat, iz_get, this]
    rfl
  have hc : crcF (iz (imgN i)) = sumF i := by rw [sumF_right hr, img_iz (right_spec hr).2.1 (ho i (by simp))]
  have hfo : ([IntKind.wrap .u8 (iShr .u32 (sumF i) 24), IntKind.wrap .u8 (iShr .u32 (sumF i) 16), IntKind.wrap .u8 (iShr .u32 (sumF i) 8), IntKind.wrap .u8 (sumF i)] : List Int) = iz (fourN (sumF i).toNat) := four_izT hs.1
  rw [s1, bnd_some, prog_crcF _ (by rw [iz_len]; omega), bnd_some, hc, cnd_t (by simp), s2, bnd_some, hfo, cnd_t (by simp), s3]
  rfl

end Go.Proofs.Ytgnmhmnglbbamaa
