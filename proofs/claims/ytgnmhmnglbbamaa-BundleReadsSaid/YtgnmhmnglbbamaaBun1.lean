/-
  Names, versions, images: the program's and the reference's answers are one.
  Conditions: none.
-/
import Derived.Test.YtgnmhmnglbbamaaCrc
namespace Go.Proofs.Ytgnmhmnglbbamaa
open Go
set_option linter.unusedSimpArgs false
set_option linter.unusedVariables false

theorem eltS_lt {s : ByteArray} {i : Nat} (h : i < s.size) : eltS s (i : Int) = some ((s[i]).toNat : Int) := by
  simp [eltS, h]

def chI (s : ByteArray) (i : Nat) : Int := ((s[i]?).map fun b => (b.toNat : Int)).getD 0
theorem eltS_ch {s : ByteArray} {i : Nat} (h : i < s.size) : eltS s (i : Int) = some (chI s i) := by
  rw [eltS_lt h]
  simp [chI, h]

def lettI (y : Int) : Bool := decide (y ≥ 97) && decide (y ≤ 122)
def othI (y : Int) : Bool := decide (y ≥ 48) && decide (y ≤ 57) || (y == 45)
def nameB (s : ByteArray) : Bool := decide (1 ≤ s.size) && decide (s.size ≤ 16) && (lettI (chI s 0) && (List.range s.size).all fun i => lettI (chI s i) || othI (chI s i))

theorem name_prog (s : ByteArray) : m_version_Name s = some (nameB s) := by
  unfold m_version_Name
  by_cases h1 : s.size < 1
  · have : decide ((s.size : Int) < 1) = true := by simp; omega
    have h2 : decide (1 ≤ s.size) = false := decide_eq_false (by omega)
    simp [this, nameB, h2]
  by_cases h2 : s.size > 16
  · have e1 : decide ((s.size : Int) < 1) = false := by simp; omega
    have e2 : decide ((s.size : Int) > 16) = true := by simp; omega
    have e3 : decide (s.size ≤ 16) = false := by simp; omega
    simp [e1, e2, nameB, e3]
  have e1 : decide ((s.size : Int) < 1) = false := by simp; omega
  have e2 : decide ((s.size : Int) > 16) = false := by simp; omega
  simp only [e1, e2, cond_false, bnd_some]
  have hl := loop_any (m := fun (s1 : Int) => bif decide (s1 < (s.size : Int)) then (bnd ((bnd (eltS s s1) fun y1 => bif decide (y1 ≥ 97) then (some (decide (y1 ≤ 122))) else (some false) : Option Bool)) fun o4 => bnd ((bnd (eltS s s1) fun y2 => bif decide (y2 ≥ 48) then (bif decide (y2 ≤ 57) then (some true) else (some (y2 == 45))) else (some (y2 == 45)) : Option Bool)) fun o5 => bnd ((bif !o4 then (bif (s1 == 0) then (some true) else (some (!o5))) else (some false) : Option Bool)) fun o6 => bif o6 then (some (.done (.inl false))) else (some (.next (IntKind.wrap .i64 (s1 + 1))))) else (some (.done (.inr ()))))
    (fun i => (i : Int)) s.size (fun i => !lettI (chI s i) && (decide (i = 0) || !othI (chI s i))) (u := (Sum.inl false : Bool ⊕ Unit)) (t := .inr ()) (fun i hi => ?_) (by simp)
  · rw [show ((0 : Nat) : Int) = 0 from rfl] at hl
    rw [hl]
    simp only [bnd_some]
    have hn : nameB s = !(List.range s.size).any (fun i => !lettI (chI s i) && (decide (i = 0) || !othI (chI s i))) := by
      unfold nameB
      have d1 : decide (1 ≤ s.size) = true := by simp; omega
      have d2 : decide (s.size ≤ 16) = true := by simp; omega
      rw [d1, d2, Bool.eq_iff_iff]
      simp only [Bool.true_and, Bool.and_eq_true, List.all_eq_true, List.mem_range, Bool.or_eq_true, Bool.not_eq_true', List.any_eq_false, decide_eq_true_eq, not_and, not_or]
      constructor
      · rintro ⟨g1, g2⟩ i hi hc
        rcases g2 i hi with g | g
        · simp [g] at hc
        · refine ⟨fun h0 => ?_, by simp [g]⟩
          subst h0
          simp [g1] at hc
      · intro g
        have hlet0 : lettI (chI s 0) = true := by
          cases hc : lettI (chI s 0)
          · exact absurd rfl (g 0 (by omega) (by simp [hc])).1
          · rfl
        refine ⟨hlet0, fun i hi => ?_⟩
        cases hc : lettI (chI s i)
        · right
          have := (g i hi (by simp [hc])).2
          simpa using this
        · exact .inl rfl
    rw [hn]
    cases (List.range s.size).any (fun i => !lettI (chI s i) && (decide (i = 0) || !othI (chI s i))) <;> rfl
  · have h3 : decide ((i : Int) < (s.size : Int)) = true := by simpa using hi
    have h4 : ((i : Int) == 0) = decide (i = 0) := by
      rw [Bool.eq_iff_iff]; simp
    simp only [h3, cond_true, eltS_ch hi, bnd_some, h4, wrap_succ hi (by omega : s.size ≤ 140737488355328), lettI, othI]
    cases decide (chI s i ≥ 97) <;> cases decide (chI s i ≤ 122) <;> cases decide (chI s i ≥ 48) <;> cases decide (chI s i ≤ 57) <;> cases (chI s i == 45) <;> cases decide (i = 0) <;> rfl

theorem name_ref (s : ByteArray) : m_ref27_Name s = some (nameB s) := by
  unfold m_ref27_Name
  by_cases h1 : s.size < 1
  · have : decide ((s.size : Int) < 1) = true := by simp; omega
    have h2 : decide (1 ≤ s.size) = false := decide_eq_false (by omega)
    simp [this, nameB, h2]
  by_cases h2 : s.size > 16
  · have e1 : decide ((s.size : Int) < 1) = false := by simp; omega
    have e2 : decide ((s.size : Int) > 16) = true := by simp; omega
    have e3 : decide (s.size ≤ 16) = false := by simp; omega
    simp [e1, e2, nameB, e3]
  have e1 : decide ((s.size : Int) < 1) = false := by simp; omega
  have e2 : decide ((s.size : Int) > 16) = false := by simp; omega
  have hc0 : eltS s 0 = some (chI s 0) := eltS_ch (i := 0) (by omega)
  have d1 : decide (1 ≤ s.size) = true := by simp; omega
  have d2 : decide (s.size ≤ 16) = true := by simp; omega
  simp only [e1, e2, cond_false, bnd_some, hc0]
  cases hl0 : lettI (chI s 0)
  · have hn : nameB s = false := by simp [nameB, hl0]
    rw [hn]
    simp only [lettI, Bool.and_eq_false_iff, decide_eq_false_iff_not] at hl0
    by_cases g : chI s 0 < 97
    · simp [g]
    · have g2 : chI s 0 > 122 := by omega
      simp [g, g2]
  · have hl1 := hl0
    simp only [lettI, Bool.and_eq_true, decide_eq_true_eq] at hl1
    have g1 : decide (chI s 0 < 97) = false := by simp; omega
    have g2 : decide (chI s 0 > 122) = false := by simp; omega
    simp only [g1, g2, cond_false, bnd_some]
    have hl := loop_any (m := fun (s1 : Int) => bif decide (s1 < (s.size : Int)) then (bnd ((bnd (eltS s s1) fun y2 => bif decide (y2 ≥ 97) then (bif decide (y2 ≤ 122) then (some false) else (bif decide (y2 ≥ 48) then (bif decide (y2 ≤ 57) then (some false) else (some (!(y2 == 45)))) else (some (!(y2 == 45))))) else (bif decide (y2 ≥ 48) then (bif decide (y2 ≤ 57) then (some false) else (some (!(y2 == 45)))) else (some (!(y2 == 45)))) : Option Bool)) fun o4 => bif o4 then (some (.done (.inl false))) else (some (.next (IntKind.wrap .i64 (s1 + 1))))) else (some (.done (.inr ()))))
      (fun i => (i : Int)) s.size (fun i => !(lettI (chI s i) || othI (chI s i))) (u := (Sum.inl false : Bool ⊕ Unit)) (t := .inr ()) (fun i hi => ?_) (by simp)
    · rw [show ((0 : Nat) : Int) = 0 from rfl] at hl
      rw [hl]
      simp only [bnd_some]
      have hn : nameB s = !(List.range s.size).any (fun i => !(lettI (chI s i) || othI (chI s i))) := by
        unfold nameB
        rw [d1, d2, hl0, Bool.eq_iff_iff]
        simp only [Bool.true_and, List.all_eq_true, List.mem_range, Bool.or_eq_true, Bool.not_eq_true', List.any_eq_false, Bool.not_eq_true, Bool.not_eq_false']
        constructor
        · intro g x hx hf
          rcases g x hx with g | g <;> simp [g] at hf
        · intro g x hx
          have := g x hx
          cases a : lettI (chI s x)
          · cases b : othI (chI s x)
            · simp [a, b] at this
            · exact .inr rfl
          · exact .inl rfl
      rw [hn]
      cases (List.range s.size).any (fun i => !(lettI (chI s i) || othI (chI s i))) <;> rfl
    · have h3 : decide ((i : Int) < (s.size : Int)) = true := by simpa using hi
      simp only [h3, cond_true, eltS_ch hi, bnd_some, wrap_succ hi (by omega : s.size ≤ 140737488355328), lettI, othI]
      cases decide (chI s i ≥ 97) <;> cases decide (chI s i ≤ 122) <;> cases decide (chI s i ≥ 48) <;> cases decide (chI s i ≤ 57) <;> cases (chI s i == 45) <;> rfl

def numB (n : Int) : Bool := decide (0 ≤ n) && decide (n ≤ 999)
def verB (v : T_Version) : Bool := numB v.Major && (numB v.Minor && numB v.Patch)

theorem dlt (a b : Int) : decide (a < b) = !decide (b ≤ a) := by
  by_cases h : b ≤ a
  · have : ¬ a < b := by omega
    simp [h, this]
  · have : a < b := by omega
    simp [h, this]

theorem ver_prog (v : T_Version) : m_version_Valid v = some (verB v) := by
  unfold m_version_Valid m_version_numbers verB numB
  simp only [bnd_some, gt_iff_lt, dlt]
  cases decide (0 ≤ v.Major) <;> cases decide (v.Major ≤ 999) <;> cases decide (0 ≤ v.Minor) <;> cases decide (v.Minor ≤ 999) <;> cases decide (0 ≤ v.Patch) <;> cases decide (v.Patch ≤ 999) <;> rfl
theorem ver_ref (v : T_Version) : m_ref27_Valid v = some (verB v) := by
  unfold m_ref27_Valid verB numB
  simp only [ge_iff_le]
  cases decide (0 ≤ v.Major) <;> cases decide (v.Major ≤ 999) <;> cases decide (0 ≤ v.Minor) <;> cases decide (v.Minor ≤ 999) <;> cases decide (0 ≤ v.Patch) <;> cases decide (v.Patch ≤ 999) <;> rfl

def rightB (i : T_Image) : Bool := nameB i.Name && (verB i.Version && (decide (1 ≤ i.Data.length) && decide (i.Data.length ≤ 512)))

theorem right_prog (i : T_Image) : m_bundle_Right i = some (rightB i) := by
  unfold m_bundle_Right rightB
  have e1 : decide ((i.Data.length : Int) ≥ 1) = decide (1 ≤ i.Data.length) := by rw [Bool.eq_iff_iff]; simp; omega
  have e2 : decide ((i.Data.length : Int) ≤ 512) = decide (i.Data.length ≤ 512) := by rw [Bool.eq_iff_iff]; simp; omega
  simp only [name_prog, ver_prog, bnd_some, e1, e2]
  cases nameB i.Name <;> cases verB i.Version <;> cases decide (1 ≤ i.Data.length) <;> cases decide (i.Data.length ≤ 512) <;> rfl
theorem right_ref (i : T_Image) : m_ref28_Right i = some (rightB i) := by
  unfold m_ref28_Right rightB
  have e1 : decide ((i.Data.length : Int) ≥ 1) = decide (1 ≤ i.Data.length) := by rw [Bool.eq_iff_iff]; simp; omega
  have e2 : decide ((i.Data.length : Int) ≤ 512) = decide (i.Data.length ≤ 512) := by rw [Bool.eq_iff_iff]; simp; omega
  simp only [name_ref, ver_ref, bnd_some, e1, e2]
  cases nameB i.Name <;> cases verB i.Version <;> cases decide (1 ≤ i.Data.length) <;> cases decide (i.Data.length ≤ 512) <;> rfl

theorem right_spec {i : T_Image} (h : rightB i = true) : nameB i.Name = true ∧ verB i.Version = true ∧ 1 ≤ i.Data.length ∧ i.Data.length ≤ 512 := by
  simpa [rightB] using h
theorem name_size {s : ByteArray} (h : nameB s = true) : 1 ≤ s.size ∧ s.size ≤ 16 := by
  simp only [nameB, Bool.and_eq_true, decide_eq_true_eq] at h
  exact h.1

theorem bytesOf_len (s : ByteArray) : (bytesOf s).length = s.size := by simp [bytesOf, ByteArray.toList_eq]

def two (n : Int) : List Int := [IntKind.wrap .u8 (iShr .i64 n 8), IntKind.wrap .u8 n]
def verL (v : T_Version) : List Int := two v.Major ++ (two v.Minor ++ two v.Patch)
def imgL (i : T_Image) : List Int := IntKind.wrap .u8 (i.Name.size : Int) :: (bytesOf i.Name ++ (verL i.Version ++ (two (i.Data.length : Int) ++ i.Data)))

theorem app1 {xs ys : List Int} (h : xs.length + ys.length ≤ 140737488355328) : app 1 xs ys = some (xs ++ ys) := app_eq (by omega) (by omega)

theorem imgL_len {i : T_Image} (h : i.Name.size ≤ 16 ∧ i.Data.length ≤ 512) : (imgL i).length ≤ 600 := by
  simp [imgL, verL, two, bytesOf_len]
  omega

theorem bytes_prog {i : T_Image} (h : i.Name.size ≤ 16 ∧ i.Data.length ≤ 512) : m_bundle_bytes i = some (imgL i) := by
  have hb := bytesOf_len i.Name
  unfold m_bundle_bytes m_bundle_text m_bundle_numbers m_bundle_short
  rw [app1 (by simp)]
  simp only [bnd_some, List.nil_append]
  rw [app1 (by simp [hb]; omega)]
  simp only [bnd_some]
  rw [app1 (by simp [hb]; omega)]
  simp only [bnd_some]
  rw [app1 (by simp [hb]; omega)]
  simp only [bnd_some]
  rw [app1 (by simp [hb]; omega)]
  simp only [bnd_some]
  rw [app1 (by simp [hb]; omega)]
  simp only [bnd_some]
  rw [app1 (by simp [hb]; omega)]
  simp [imgL, verL, two]

theorem bytes_ref {i : T_Image} (h : i.Name.size ≤ 16 ∧ i.Data.length ≤ 512) : m_ref28_image i = some (imgL i) := by
  have hb := bytesOf_len i.Name
  unfold m_ref28_image m_ref28_name m_ref28_version m_ref28_two
  rw [app1 (by simp [hb]; omega)]
  simp only [bnd_some]
  rw [app1 (by simp)]
  simp only [bnd_some]
  rw [app1 (by simp)]
  simp only [bnd_some]
  rw [app1 (by simp [hb]; omega)]
  simp only [bnd_some]
  rw [app1 (by simp [hb]; omega)]
  simp only [bnd_some]
  rw [app1 (by simp [hb]; omega)]
  simp [imgL, verL, two]

def sumF (i : T_Image) : Int := bif rightB i then IntKind.wrap .u32 (4294967295 - crcAll (imgL i)) else 0

theorem sum_prog (i : T_Image) : m_bundle_Sum i = some (sumF i) := by
  unfold m_bundle_Sum sumF
  rw [right_prog]
  cases h : rightB i
  · rfl
  · obtain ⟨h1, h2, h3, h4⟩ := right_spec h
    have hs : i.Name.size ≤ 16 ∧ i.Data.length ≤ 512 := ⟨(name_size h1).2, h4⟩
    have hl := imgL_len hs
    simp only [bnd_some, Bool.not_true, cond_false, bytes_prog hs]
    rw [prog_crc _ (by omega)]
    rfl
theorem sum_ref (i : T_Image) : m_ref28_Sum i = some (sumF i) := by
  unfold m_ref28_Sum sumF
  rw [right_ref]
  cases h : rightB i
  · rfl
  · obtain ⟨h1, h2, h3, h4⟩ := right_spec h
    have hs : i.Name.size ≤ 16 ∧ i.Data.length ≤ 512 := ⟨(name_size h1).2, h4⟩
    have hl := imgL_len hs
    simp only [bnd_some, Bool.not_true, cond_false, bytes_ref hs]
    rw [ref_crc _ (by omega)]
    rfl

theorem sumF_range (i : T_Image) : isU32 (sumF i) := by
  unfold sumF
  cases rightB i
  · exact ⟨by show (0 : Int) ≤ 0; omega, by show (0 : Int) ≤ 4294967295; omega⟩
  · exact wrap32_range _

end Go.Proofs.Ytgnmhmnglbbamaa
