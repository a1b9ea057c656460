/-
  What the bytes of a valid info are decoded to; bytes that are cut or longer.
  Conditions: none.
-/
import Derived.Test.YtcekbbbjagfacaaDoorUniD
import Derived.Test.YtcekbbbjagfacaaDoorUniI
namespace Go.Proofs.YtcekbbbjagfacaaDoor
open Go
set_option linter.unusedSimpArgs false
set_option linter.unusedVariables false

theorem decL_enc (fs : List T_Field) (hv : ∀ f ∈ fs, valT f = true) (hl : fs.length ≤ 16) (rest : List Nat) : decL ((encL fs ++ [193]) ++ rest) = (fs, (((encL fs ++ [193]).length : Nat) : Int), 0) := by
  unfold decL
  have h := decLf_enc fs hv [] [] ([193] ++ rest) fs (17 - fs.length) 0 [] ((encL fs ++ [193]) ++ rest) hv (by rw [List.drop_zero, List.append_assoc]) (by simp; omega) (by simp; omega)
  rw [show 17 - fs.length + fs.length = 17 by omega] at h
  rw [h]
  obtain ⟨k, hk⟩ : ∃ k, 17 - fs.length = k + 1 := ⟨16 - fs.length, by omega⟩
  rw [hk, decLf, Nat.zero_add, List.append_assoc, List.drop_left]
  have hd : decF ([193] ++ rest) = (fNone, 1, true, 0) := by simp [decF]
  rw [hd, if_neg (by simp), if_pos rfl]
  simp

theorem encL_nil : (encL []).length = 0 := rfl

/-- A list that is cut off is truncated. -/
theorem decL_cut (fs : List T_Field) (hv : ∀ f ∈ fs, valT f = true) (hl : fs.length ≤ 16) (c : Nat) (hc : c < (encL fs ++ [193]).length) : decL ((encL fs ++ [193]).take c) = ([], 0, 4) := by
  have key : ∀ (rest pre : List T_Field), fs = pre ++ rest → (encL pre).length ≤ c → c ≤ (encL pre).length + (encL rest).length → ∃ p f q, fs = p ++ f :: q ∧ (encL p).length ≤ c ∧ c < (encL p).length + (encT f).length ∨ fs = p ∧ c = (encL p).length := by
    intro rest
    induction rest with
    | nil =>
      intro pre h1 h2 h3
      rw [encL_nil] at h3
      exact ⟨pre, ⟨0, ⟨#[]⟩⟩, [], .inr ⟨by simpa using h1, by omega⟩⟩
    | cons f r ih =>
      intro pre h1 h2 h3
      by_cases g : c < (encL pre).length + (encT f).length
      · exact ⟨pre, f, r, .inl ⟨h1, h2, g⟩⟩
      · have e1 : (encL (pre ++ [f])).length = (encL pre).length + (encT f).length := by unfold encL; simp
        have e2 : (encL (f :: r)).length = (encT f).length + (encL r).length := by unfold encL; simp
        exact ih (pre ++ [f]) (by rw [h1]; simp) (by omega) (by omega)
  have hlen : (encL fs ++ [193]).length = (encL fs).length + 1 := by simp
  obtain ⟨p, f, q, h⟩ := key fs [] rfl (by rw [encL_nil]; omega) (by rw [encL_nil]; omega)
  rcases h with ⟨h1, h2, h3⟩ | ⟨h1, h2⟩
  · have hvp : ∀ x ∈ p, valT x = true := fun x hx => hv x (by rw [h1]; simp [hx])
    have hvf : valT f = true := hv f (by rw [h1]; simp)
    have hpl : p.length + 1 ≤ 16 := by rw [h1] at hl; simp at hl; omega
    have hb : (encL fs ++ [193]).take c = encL p ++ (encT f).take (c - (encL p).length) := by
      have e : encL fs = encL p ++ (encT f ++ encL q) := by rw [h1]; unfold encL; simp
      rw [e, List.append_assoc, List.append_assoc, List.take_append, List.take_of_length_le h2, List.take_append, show c - (encL p).length - (encT f).length = 0 by omega, List.take_zero, List.append_nil]
    unfold decL
    have h := decLf_enc fs hv [] [] ((encT f).take (c - (encL p).length)) p (17 - p.length) 0 [] ((encL fs ++ [193]).take c) hvp (by rw [List.drop_zero, hb]) (by simp; omega) (by simp; omega)
    rw [show 17 - p.length + p.length = 17 by omega] at h
    rw [h]
    obtain ⟨k, hk⟩ : ∃ k, 17 - p.length = k + 1 := ⟨16 - p.length, by omega⟩
    rw [hk, decLf, Nat.zero_add, hb, List.drop_left]
    have hd := dec_cut hvf (c := c - (encL p).length) (by unfold encT at h3; omega)
    unfold encT
    rw [hd, if_pos (by simp)]
  · have hb : (encL fs ++ [193]).take c = encL fs ++ [] := by
      rw [h2, ← h1, List.take_left, List.append_nil]
    unfold decL
    have h := decLf_enc fs hv [] [] [] fs (17 - fs.length) 0 [] ((encL fs ++ [193]).take c) hv (by rw [List.drop_zero, hb]) (by simp; omega) (by simp; omega)
    rw [show 17 - fs.length + fs.length = 17 by omega] at h
    rw [h]
    obtain ⟨k, hk⟩ : ∃ k, 17 - fs.length = k + 1 := ⟨16 - fs.length, by omega⟩
    rw [hk, decLf, Nat.zero_add, hb, List.drop_left]
    rfl


/-! ## One area -/

theorem headN_start (a : T_Area) (k : Nat) : (headN a k).length = startN k := by
  unfold headN startN
  rw [List.length_append]
  split <;> rfl
theorem sum_seal (l : List Nat) : negN (sumN (sealN l)) = 0 := by
  have h := sumN_lt l
  have : sumN (sealN l) = (sumN l + negN (sumN l)) % 256 := by
    unfold sealN sumN
    rw [List.foldl_append]
    rfl
  rw [this]
  unfold negN
  omega
theorem drop_set_ge {l : List Nat} {i x n : Nat} (h : i < n) : (l.set i x).drop n = l.drop n := by
  rw [List.drop_set, if_pos h]
theorem gN_set_ne {l : List Nat} {i j x : Nat} (h : i ≠ j) : gN (l.set i x) j = gN l j := by
  unfold gN
  rw [List.getD_eq_getElem?_getD, List.getD_eq_getElem?_getD, List.getElem?_set_ne h]
theorem gN_app {l m : List Nat} {j : Nat} (h : j < l.length) : gN (l ++ m) j = gN l j := by
  unfold gN
  rw [List.getD_eq_getElem?_getD, List.getD_eq_getElem?_getD, List.getElem?_append_left h]
theorem gN_drop (l : List Nat) (n j : Nat) : gN (l.drop n) j = gN l (n + j) := by
  unfold gN
  rw [List.getD_eq_getElem?_getD, List.getD_eq_getElem?_getD, List.getElem?_drop]

/-- The bytes of an area without its sum. -/
def coreN (a : T_Area) (k : Nat) : List Nat := (rawN a k).set 1 ((rawN a k).length / 8 + 1)
theorem area_core (a : T_Area) (k : Nat) : areaN a k = sealN (coreN a k) := rfl
theorem core_drop (a : T_Area) (k : Nat) : (coreN a k).drop (startN k) = (encL a.Fields ++ [193]) ++ List.replicate (padn (headN a k ++ (encL a.Fields ++ [193])).length) 0 := by
  have hs := startN_le k
  unfold coreN
  rw [drop_set_ge (by omega)]
  unfold rawN padN
  rw [List.append_assoc, List.drop_left' (headN_start a k)]
theorem core_get {a : T_Area} {k j : Nat} (h : j < startN k) (h1 : j ≠ 1) : gN (coreN a k) j = gN (headN a k) j := by
  unfold coreN
  rw [gN_set_ne (fun e => h1 e.symm)]
  unfold rawN padN
  rw [gN_app (by rw [List.length_append, headN_start]; omega), gN_app (by rw [headN_start]; exact h)]

theorem dY_core {a : T_Area} (hr : AreaR a) {k : Nat} (hk : k < 3) (hp : a.Present = true) (hv : vA a k = true) : dY (coreN a k) k = (a, 0) := by
  obtain ⟨h1, h2⟩ := vA_can hv hp
  have hv' := List.all_eq_true.1 h1
  have hc := hr.code
  have hm := hr.mins
  unfold vA at hv
  rw [if_neg (by rw [hp]; simp)] at hv
  simp only [Bool.and_eq_true, decide_eq_true_eq] at hv
  unfold dY
  rw [core_drop, decL_enc _ hv' h2, if_neg (by simp)]
  dsimp only
  have hd : (coreN a k).drop (startN k + (((encL a.Fields ++ [193]).length : Nat) : Int).toNat) = List.replicate (padn (headN a k ++ (encL a.Fields ++ [193])).length) 0 := by
    rw [← List.drop_drop, core_drop, Int.toNat_natCast, List.drop_left' rfl]
  rw [hd]
  have hz : ∀ n, (List.replicate n 0).any (fun x => !decide (x = 0)) = false := fun n => by
    rw [List.any_eq_false]
    intro x hx
    rw [List.eq_of_mem_replicate hx]
    simp
  rw [hz, if_neg (by simp)]
  have hs := startN_le k
  have g2 : gN (coreN a k) 2 = a.Code.toNat := by rw [core_get (by omega) (by omega)]; rfl
  have gm : ((minN (coreN a k) k : Nat) : Int) = a.Minutes := by
    unfold minN
    by_cases h1k : k = 1
    · subst h1k
      have hlt := hv.1
      rw [if_pos rfl] at hlt
      have e3 : gN (coreN a 1) 3 = a.Minutes.toNat % 256 := by rw [core_get (by decide) (by omega)]; rfl
      have e4 : gN (coreN a 1) 4 = a.Minutes.toNat / 256 % 256 := by rw [core_get (by decide) (by omega)]; rfl
      have e5 : gN (coreN a 1) 5 = a.Minutes.toNat / 65536 % 256 := by rw [core_get (by decide) (by omega)]; rfl
      rw [if_pos rfl, e3, e4, e5]
      omega
    · have hlt := hv.1
      rw [if_neg h1k] at hlt
      rw [if_neg h1k]
      omega
  rw [g2, gm]
  obtain ⟨p, c, m, f⟩ := a
  dsimp only at hp hc ⊢
  subst hp
  rw [Int.toNat_of_nonneg hc.1]

theorem dX_area {a : T_Area} (hr : AreaR a) {k : Nat} (hk : k < 3) (hp : a.Present = true) (hv : vA a k = true) : dX (areaN a k) k = (a, 0) := by
  unfold dX
  rw [area_core, sum_seal, if_neg (by simp)]
  have : (sealN (coreN a k)).take ((sealN (coreN a k)).length - 1) = coreN a k := by
    unfold sealN
    rw [List.length_append, List.length_singleton, Nat.add_sub_cancel]
    exact List.take_left' rfl
  rw [this, dY_core hr hk hp hv]

theorem area_first {a : T_Area} {k : Nat} (h1 : a.Fields.all valT = true) (h2 : a.Fields.length ≤ 16) : gN (areaN a k) 0 = 1 ∧ gN (areaN a k) 1 = (areaN a k).length / 8 ∧ 8 * ((areaN a k).length / 8) = (areaN a k).length := by
  have hr := rawN_len (k := k) h1 h2
  have hl : (coreN a k).length = (rawN a k).length := by unfold coreN; rw [List.length_set]
  have ha : (areaN a k).length = (rawN a k).length + 1 := by rw [area_core]; unfold sealN; rw [List.length_append, hl]; rfl
  have hs := startN_le k
  refine ⟨?_, ?_, by omega⟩
  · rw [area_core]
    unfold sealN
    rw [gN_app (by omega), core_get (by omega) (by omega)]
    rfl
  · rw [ha, area_core]
    unfold sealN
    rw [gN_app (by omega)]
    unfold coreN gN
    rw [List.getD_eq_getElem?_getD, List.getElem?_set_self (by omega)]
    simp
    omega

/-- An area that stands in some bytes where the header says. -/
theorem dA_at {b P R : List Nat} {a : T_Area} (hr : AreaR a) {k : Nat} (hk : k < 3) (hp : a.Present = true) (hv : vA a k = true) (hb : b = P ++ (areaN a k ++ R)) (hP : 8 ≤ P.length) (h8 : 8 * gN b (2 + k) = P.length) : dA b k = (a, 0) := by
  obtain ⟨h1, h2⟩ := vA_can hv hp
  obtain ⟨f0, f1, f2⟩ := area_first (k := k) h1 h2
  have hal := areaN_len (k := k) h1 h2
  have hlen : b.length = P.length + ((areaN a k).length + R.length) := by rw [hb, List.length_append, List.length_append]
  have hg : ∀ j, j < (areaN a k).length → gN b (P.length + j) = gN (areaN a k) j := fun j hj => by
    rw [← gN_drop, hb, List.drop_left' rfl, gN_app hj]
  have g0 := hg 0 (by omega)
  have g1 := hg 1 (by omega)
  rw [Nat.add_zero, f0] at g0
  rw [f1] at g1
  unfold dA
  rw [h8, g0, g1, f2, if_neg (by omega), if_neg (by omega), if_neg (by omega), if_neg (by omega)]
  have : (b.take (P.length + (areaN a k).length)).drop P.length = areaN a k := by
    rw [List.drop_take, hb, List.drop_left' rfl, Nat.add_sub_cancel_left, List.take_left' rfl]
  rw [this, dX_area hr hk hp hv]
theorem dA_none {b : List Nat} {a : T_Area} {k : Nat} (hp : a.Present = false) (hv : vA a k = true) (h8 : gN b (2 + k) = 0) : dA b k = (a, 0) := by
  unfold vA at hv
  rw [if_pos hp] at hv
  simp only [Bool.and_eq_true, decide_eq_true_eq, List.length_eq_zero_iff] at hv
  unfold dA
  rw [h8, if_pos (by omega)]
  obtain ⟨p, c, m, f⟩ := a
  simp only at hp hv
  obtain ⟨e1, e2, e3⟩ := hv
  subst hp e1 e2 e3
  rfl

end Go.Proofs.YtcekbbbjagfacaaDoor
