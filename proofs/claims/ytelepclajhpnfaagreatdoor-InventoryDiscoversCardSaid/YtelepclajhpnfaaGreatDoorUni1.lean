/-
  The bytes of a unit's data: the program.
  Conditions: none.
-/
import Derived.Test.YtelepclajhpnfaaGreatDoorUniL
namespace Go.Proofs.YtelepclajhpnfaaGreatDoor
open Go
set_option linter.unusedSimpArgs false
set_option linter.unusedVariables false
def sumN (l : List Nat) : Nat := l.foldl (fun a x => (a + x) % 256) 0
def negN (n : Nat) : Nat := (256 - n) % 256
def sealN (l : List Nat) : List Nat := l ++ [negN (sumN l)]
theorem sumN_succ {l : List Nat} {i : Nat} (h : i < l.length) : sumN (l.take (i + 1)) = (sumN (l.take i) + l[i]) % 256 := by
  unfold sumN
  rw [take_succ_get h, List.foldl_append]
  rfl
theorem sumN_lt (l : List Nat) : sumN l < 256 := by
  have : ∀ (l : List Nat) (a : Nat), a < 256 → l.foldl (fun a x => (a + x) % 256) a < 256 := by
    intro l
    induction l with
    | nil => exact fun a h => h
    | cons x r ih => exact fun a _ => ih _ (Nat.mod_lt _ (by omega))
  exact this l 0 (by omega)
theorem Sum8_prog {l : List Nat} (hl : l.length ≤ 1000000) : m_checksum_Sum8 (iz l) = some ((negN (sumN l) : Nat) : Int) := by
  unfold m_checksum_Sum8
  refine bnd_loop (fun i => (((sumN (l.take i) : Nat) : Int), (i : Int))) l.length ((sumN l : Nat) : Int) rfl (fun i hi => ?_) ?_ ?_
  · dsimp only
    rw [decide_eq_true (by rw [iz_len]; omega : (i : Int) < ((iz l).length : Int)), cond_true]
    refine bnd_eq (elt_iz hi) ?_
    rw [sumN_succ hi, wrap_succ hi (by omega), ← Int.natCast_add, wrap_u8_modn]
  · dsimp only
    rw [decide_eq_false (by rw [iz_len]; omega : ¬ (l.length : Int) < ((iz l).length : Int)), cond_false, List.take_length]
  · have := sumN_lt l
    rw [wrap_u8_mod]
    unfold negN
    congr 1
    omega
theorem clone_prog {l : List Nat} (hl : l.length ≤ 1000000) : m_slices_Clone__byte_byte (iz l) = some (iz l) := by
  unfold m_slices_Clone__byte_byte
  exact bnd_eq (app_iz (l := []) (b := 1) (by simp; omega) (by simp; omega)) rfl
theorem Seal8_prog {l : List Nat} (hl : l.length ≤ 1000000) : m_checksum_Seal8 (iz l) = some (iz (sealN l)) := by
  unfold m_checksum_Seal8
  refine bnd_eq (clone_prog hl) ?_
  refine bnd_eq (Sum8_prog hl) ?_
  exact bnd_eq (app2 hl _) rfl
structure AreaR (a : T_Area) : Prop where
  code : 0 ≤ a.Code ∧ a.Code ≤ 255
  mins : 0 ≤ a.Minutes ∧ a.Minutes ≤ 4294967295
  vals : ∀ f ∈ a.Fields, f.Value.size ≤ 1000000
  len : a.Fields.length ≤ 1000000
def headN (a : T_Area) (k : Nat) : List Nat := [1, 0, a.Code.toNat] ++ if k = 1 then [a.Minutes.toNat % 256, a.Minutes.toNat / 256 % 256, a.Minutes.toNat / 65536 % 256] else []
def padn (n : Nat) : Nat := (8 - (n + 1) % 8) % 8
def padN (l : List Nat) : List Nat := l ++ List.replicate (padn l.length) 0
def rawN (a : T_Area) (k : Nat) : List Nat := padN (headN a k ++ (encL a.Fields ++ [193]))
def areaN (a : T_Area) (k : Nat) : List Nat := sealN ((rawN a k).set 1 ((rawN a k).length / 8 + 1))
theorem padN_len (l : List Nat) : ((padN l).length + 1) % 8 = 0 ∧ (padN l).length ≤ l.length + 7 ∧ l.length ≤ (padN l).length := by
  unfold padN padn
  rw [List.length_append, List.length_replicate]
  omega
theorem headN_len (a : T_Area) (k : Nat) : 3 ≤ (headN a k).length ∧ (headN a k).length ≤ 6 := by
  unfold headN
  rw [List.length_append]
  split
  · simp
  · simp
theorem rawN_len {a : T_Area} {k : Nat} (hv : a.Fields.all valT = true) (hn : a.Fields.length ≤ 16) : ((rawN a k).length + 1) % 8 = 0 ∧ 4 ≤ (rawN a k).length ∧ (rawN a k).length ≤ 64 * a.Fields.length + 14 := by
  have h1 := headN_len a k
  have h2 := encL_len a.Fields (List.all_eq_true.1 hv)
  have h3 := padN_len (headN a k ++ (encL a.Fields ++ [193]))
  unfold rawN
  simp only [List.length_append, List.length_cons, List.length_nil] at h3
  omega
theorem areaN_len {a : T_Area} {k : Nat} (hv : a.Fields.all valT = true) (hn : a.Fields.length ≤ 16) : (areaN a k).length % 8 = 0 ∧ 5 ≤ (areaN a k).length ∧ (areaN a k).length ≤ 64 * a.Fields.length + 15 := by
  have h := rawN_len (k := k) hv hn
  unfold areaN sealN
  rw [List.length_append, List.length_set, List.length_singleton]
  omega
theorem encodeArea_prog {a : T_Area} (hr : AreaR a) {k : Nat} (hk : k < 3) (hv : a.Fields.all valT = true) (hn : a.Fields.length ≤ 16) : m_unitinfo_encodeArea a (k : Int) = some (iz (areaN a k)) := by
  have hc := hr.code
  have hm := hr.mins
  unfold m_unitinfo_encodeArea
  have hh : (bif ((k : Int) == 1) then (bnd (app 1 ([1, 0, a.Code]) [IntKind.wrap .u8 a.Minutes, IntKind.wrap .u8 (iShr .u32 a.Minutes 8), IntKind.wrap .u8 (iShr .u32 a.Minutes 16)]) fun l1 => some l1) else (some ([1, 0, a.Code])) : Option (List Int)) = some (iz (headN a k)) := by
    unfold headN
    obtain ⟨c, hc'⟩ : ∃ c : Nat, a.Code = (c : Int) := ⟨a.Code.toNat, by omega⟩
    obtain ⟨m, hm'⟩ : ∃ m : Nat, a.Minutes = (m : Int) := ⟨a.Minutes.toNat, by omega⟩
    rw [hc', hm']
    by_cases h1 : k = 1
    · subst h1
      rw [if_pos rfl, cnd_t (by rfl)]
      rw [show (8 : Int) = ((8 : Nat) : Int) from rfl, show (16 : Int) = ((16 : Nat) : Int) from rfl, iShr_n (by decide), iShr_n (by decide), wrap_u8_modn, wrap_u8_modn, wrap_u8_modn]
      rfl
    · rw [if_neg h1, cnd_f (by simp; omega)]
      rfl
  refine bnd_eq hh ?_
  refine bnd_eq (EncodeList_prog _ hr.vals hr.len) ?_
  rw [if_neg (by omega), if_pos hv]
  dsimp only
  have h1 := headN_len a k
  have h2 := encL_len a.Fields (List.all_eq_true.1 hv)
  have h3 := rawN_len (k := k) hv hn
  refine bnd_eq (app16 (by rw [List.length_append, List.length_singleton]; omega)) ?_
  generalize hL : headN a k ++ (encL a.Fields ++ [193]) = l
  have hl : l.length ≤ 1100 := by
    rw [← hL]
    simp only [List.length_append, List.length_cons, List.length_nil]
    omega
  have hraw : rawN a k = padN l := by unfold rawN; rw [hL]
  have hp8 : padn l.length < 8 := by unfold padn; omega
  refine bnd_loop (fun i => iz (l ++ List.replicate i 0)) (padn l.length) (iz (padN l)) (by simp) (fun i hi => ?_) ?_ ?_
  · have hw : IntKind.wrap .i64 (((iz (l ++ List.replicate i 0)).length : Int) + 1) = ((l.length + i + 1 : Nat) : Int) := by
      rw [iz_len, List.length_append, List.length_replicate, wrap_i64 (by omega) (by omega)]
      omega
    have hne : (l.length + i + 1) % 8 ≠ 0 := by unfold padn at hi; omega
    rw [hw, show (8 : Int) = ((8 : Nat) : Int) from rfl, tmod_n, cnd_t (by simp; omega)]
    refine bnd_eq (app2 (by rw [List.length_append, List.length_replicate]; unfold padn at hi; omega) 0) ?_
    rw [List.append_assoc, ← List.replicate_succ']
  · have hw : IntKind.wrap .i64 (((iz (l ++ List.replicate (padn l.length) 0)).length : Int) + 1) = ((l.length + padn l.length + 1 : Nat) : Int) := by
      have : padn l.length < 8 := by unfold padn; omega
      rw [iz_len, List.length_append, List.length_replicate, wrap_i64 (by omega) (by omega)]
      omega
    have he : (l.length + padn l.length + 1) % 8 = 0 := by unfold padn; omega
    rw [hw, show (8 : Int) = ((8 : Nat) : Int) from rfl, tmod_n, he]
    rfl
  · rw [← hraw]
    have hb : (rawN a k).length ≤ 1200 := by rw [hraw]; have := padN_len l; omega
    refine bnd_eq (elt_iz (i := 1) (by omega)) ?_
    have hw : IntKind.wrap .i64 (((iz (rawN a k)).length : Int) + 1) = (((rawN a k).length + 1 : Nat) : Int) := by
      rw [iz_len, wrap_i64 (by omega) (by omega)]
      omega
    rw [hw, show (8 : Int) = ((8 : Nat) : Int) from rfl, tdiv_n, wrap_i64n (by omega), wrap_u8n (by omega), show ((rawN a k).length + 1) / 8 = (rawN a k).length / 8 + 1 by omega]
    refine bnd_eq (setE_iz (i := 1) (by omega) _) ?_
    refine bnd_eq (Seal8_prog (by rw [List.length_set]; omega)) rfl
theorem containsA_prog (fs : List T_Field) (hs : ∀ f ∈ fs, f.Value.size ≤ 1000000) (hn : fs.length ≤ 1000000) : m_slices_ContainsFunc__api_Field_api_Field_f74 fs = some (!fs.all valT) := by
  have := contains_prog fs hs hn
  unfold m_slices_ContainsFunc__api_Field_api_Field_f95 m_slices_IndexFunc__api_Field_api_Field_f95 m_fields_EncodeList_1 at this
  unfold m_slices_ContainsFunc__api_Field_api_Field_f74 m_slices_IndexFunc__api_Field_api_Field_f74 m_unitinfo_validArea_1
  exact this
def leastN (k : Nat) : Nat := if k = 0 then 2 else if k = 1 then 5 else 7
def vA (a : T_Area) (k : Nat) : Bool :=
  if a.Present = false then decide (a.Code = 0) && (decide (a.Minutes = 0) && decide (a.Fields.length = 0))
  else decide (a.Minutes < if k = 1 then 16777216 else 1) && (decide (leastN k ≤ a.Fields.length) && (decide (a.Fields.length ≤ 16) && a.Fields.all valT))
theorem validArea_prog {a : T_Area} (hr : AreaR a) {k : Nat} (hk : k < 3) : m_unitinfo_validArea a (k : Int) = some (vA a k) := by
  have hc := hr.code
  have hm := hr.mins
  unfold m_unitinfo_validArea vA
  cases hp : a.Present
  · rw [if_pos rfl, Bool.not_false, cond_true]
    have e1 : (a.Code == 0) = decide (a.Code = 0) := rfl
    have e2 : (a.Minutes == 0) = decide (a.Minutes = 0) := rfl
    have e3 : ((a.Fields.length : Int) == 0) = decide (a.Fields.length = 0) := by
      rw [Bool.eq_iff_iff]
      simp
    rw [e1, e2, e3]
    cases decide (a.Code = 0) <;> cases decide (a.Minutes = 0) <;> rfl
  · rw [if_neg (by simp), Bool.not_true, cond_false]
    have key : ∀ (o : Option Bool) (b : Bool), o = some b → (b = false → decide (a.Minutes < if k = 1 then 16777216 else 1) = true ∧ leastN k ≤ a.Fields.length ∧ a.Fields.length ≤ 16) →
        (b = true → (decide (a.Minutes < if k = 1 then 16777216 else 1) && (decide (leastN k ≤ a.Fields.length) && (decide (a.Fields.length ≤ 16) && a.Fields.all valT))) = false) →
        (bnd o fun o2 => bif o2 then (some false) else (bnd ((bnd (m_slices_ContainsFunc__api_Field_api_Field_f74 a.Fields) fun r1 => bif !r1 then (bnd (m_unitinfo_encodeArea a (k : Int)) fun r2 => some (decide ((r2.length : Int) ≤ 2040))) else (some false) : Option Bool)) fun o3 => some o3)) =
          some (decide (a.Minutes < if k = 1 then 16777216 else 1) && (decide (leastN k ≤ a.Fields.length) && (decide (a.Fields.length ≤ 16) && a.Fields.all valT))) := by
      intro o b ho h0 h1
      rw [ho, bnd_some]
      cases b
      · obtain ⟨q1, q2, q3⟩ := h0 rfl
        rw [cond_false, containsA_prog _ hr.vals hr.len, bnd_some, Bool.not_not, q1, decide_eq_true q2, decide_eq_true q3]
        cases hv : a.Fields.all valT
        · rfl
        · have := areaN_len (k := k) hv q3
          rw [cond_true, encodeArea_prog hr hk hv q3, bnd_some, iz_len, decide_eq_true (by omega)]
          rfl
      · rw [h1 rfl]
        rfl
    have hk3 : k = 0 ∨ k = 1 ∨ k = 2 := by omega
    have b1 : (a.Minutes != 0) = !decide (a.Minutes < 1) := by
      rw [Bool.eq_iff_iff]
      simp
      omega
    have b2 : decide (a.Minutes ≥ 16777216) = !decide (a.Minutes < 16777216) := by
      rw [Bool.eq_iff_iff]
      simp
    have b3 : ∀ n : Nat, decide ((a.Fields.length : Int) < (n : Int)) = !decide (n ≤ a.Fields.length) := fun n => by
      rw [Bool.eq_iff_iff]
      simp
    have b4 : decide ((a.Fields.length : Int) > 16) = !decide (a.Fields.length ≤ 16) := by
      rw [Bool.eq_iff_iff]
      simp
      omega
    rcases hk3 with rfl | rfl | rfl
    · refine key _ (!(decide (a.Minutes < 1) && (decide (2 ≤ a.Fields.length) && decide (a.Fields.length ≤ 16)))) ?_ (fun h => ?_) (fun h => ?_)
      · rw [show (((0 : Nat) : Int) == 1) = false from rfl, cond_false, show (((0 : Nat) : Int) != 1) = true from rfl, cond_true, b1, show elt ([2, 5, 7] : List Int) ((0 : Nat) : Int) = some ((2 : Nat) : Int) from rfl, bnd_some, b3, b4]
        cases decide (a.Minutes < 1) <;> cases decide (2 ≤ a.Fields.length) <;> cases decide (a.Fields.length ≤ 16) <;> rfl
      · simpa [leastN] using h
      · have h' : (decide (a.Minutes < 1) && (decide (2 ≤ a.Fields.length) && decide (a.Fields.length ≤ 16))) = false := by rwa [Bool.not_eq_true'] at h
        rw [if_neg (by omega)]
        show (decide (a.Minutes < 1) && (decide (2 ≤ a.Fields.length) && (decide (a.Fields.length ≤ 16) && a.Fields.all valT))) = false
        revert h'
        cases decide (a.Minutes < 1) <;> cases decide (2 ≤ a.Fields.length) <;> cases decide (a.Fields.length ≤ 16) <;> intro h' <;> first | rfl | cases h'
    · refine key _ (!(decide (a.Minutes < 16777216) && (decide (5 ≤ a.Fields.length) && decide (a.Fields.length ≤ 16)))) ?_ (fun h => ?_) (fun h => ?_)
      · rw [show (((1 : Nat) : Int) == 1) = true from rfl, cond_true, show (((1 : Nat) : Int) != 1) = false from rfl, cond_false, b2, show elt ([2, 5, 7] : List Int) ((1 : Nat) : Int) = some ((5 : Nat) : Int) from rfl, bnd_some, b3, b4]
        cases decide (a.Minutes < 16777216) <;> cases decide (5 ≤ a.Fields.length) <;> cases decide (a.Fields.length ≤ 16) <;> rfl
      · simpa [leastN] using h
      · have h' : (decide (a.Minutes < 16777216) && (decide (5 ≤ a.Fields.length) && decide (a.Fields.length ≤ 16))) = false := by rwa [Bool.not_eq_true'] at h
        rw [if_pos rfl]
        show (decide (a.Minutes < 16777216) && (decide (5 ≤ a.Fields.length) && (decide (a.Fields.length ≤ 16) && a.Fields.all valT))) = false
        revert h'
        cases decide (a.Minutes < 16777216) <;> cases decide (5 ≤ a.Fields.length) <;> cases decide (a.Fields.length ≤ 16) <;> intro h' <;> first | rfl | cases h'
    · refine key _ (!(decide (a.Minutes < 1) && (decide (7 ≤ a.Fields.length) && decide (a.Fields.length ≤ 16)))) ?_ (fun h => ?_) (fun h => ?_)
      · rw [show (((2 : Nat) : Int) == 1) = false from rfl, cond_false, show (((2 : Nat) : Int) != 1) = true from rfl, cond_true, b1, show elt ([2, 5, 7] : List Int) ((2 : Nat) : Int) = some ((7 : Nat) : Int) from rfl, bnd_some, b3, b4]
        cases decide (a.Minutes < 1) <;> cases decide (7 ≤ a.Fields.length) <;> cases decide (a.Fields.length ≤ 16) <;> rfl
      · simpa [leastN] using h
      · have h' : (decide (a.Minutes < 1) && (decide (7 ≤ a.Fields.length) && decide (a.Fields.length ≤ 16))) = false := by rwa [Bool.not_eq_true'] at h
        rw [if_neg (by omega)]
        show (decide (a.Minutes < 1) && (decide (7 ≤ a.Fields.length) && (decide (a.Fields.length ≤ 16) && a.Fields.all valT))) = false
        revert h'
        cases decide (a.Minutes < 1) <;> cases decide (7 ≤ a.Fields.length) <;> cases decide (a.Fields.length ≤ 16) <;> intro h' <;> first | rfl | cases h'
end Go.Proofs.YtelepclajhpnfaaGreatDoor
