/-
  The law of the serial numbers.
  Conditions: none.
-/
import Derived.Test.YtcekbbbjagfacaaDoorUni2
import Derived.Test.YtcekbbbjagfacaaDoorGenUnitinfoSerials
namespace Go.Proofs.YtcekbbbjagfacaaDoor
open Go
set_option linter.unusedSimpArgs false
set_option linter.unusedVariables false

def xxF : T_Field := ⟨3, ⟨#[120, 120]⟩⟩
def withF (k : Nat) (s : ByteArray) : List T_Field := (List.range 7).map fun j => if j = k then ⟨0, s⟩ else xxF
def wA (k : Nat) (s : ByteArray) (p : Bool) : T_Area := ⟨p, 0, 0, if p = true then withF k s else []⟩
theorem withF_len (k : Nat) (s : ByteArray) : (withF k s).length = 7 := by simp [withF]
theorem withF_get {k j : Nat} (s : ByteArray) (h : j < (withF k s).length) : (withF k s)[j] = if j = k then ⟨0, s⟩ else xxF := by simp [withF]
theorem withF_elt {k : Nat} (s : ByteArray) (h : k < 7) : elt (withF k s) (k : Int) = some ⟨0, s⟩ := by
  rw [elt_lt (by rw [withF_len]; exact h), withF_get, if_pos rfl]
theorem app24F (l : List T_Field) (x : T_Field) (h : l.length ≤ 100) : app 24 l [x] = some (l ++ [x]) := app_eq (by simp; omega) (by simp; omega)

theorem with_prog (k : Nat) (s : ByteArray) (p : Bool) : m_law17_with (k : Int) s p = some (wA k s p) := by
  unfold m_law17_with wA
  cases p
  · refine bnd_loop (fun j => ((⟨false, 0, 0, []⟩ : T_Area), (j : Int), ([] : List T_Field))) 0 (⟨false, 0, 0, []⟩, []) rfl (fun i hi => by omega) rfl ?_
    rw [if_neg (by simp)]
  · refine bnd_loop (fun j => ((⟨false, 0, 0, []⟩ : T_Area), (j : Int), (withF k s).take j)) 7 (⟨false, 0, 0, []⟩, withF k s) (by simp) (fun i hi => ?_) ?_ ?_
    · have hi7 : i < (withF k s).length := by rw [withF_len]; exact hi
      dsimp only
      rw [decide_eq_true (by omega : (i : Int) < 7), cond_true, bnd_some, cond_true]
      rw [wrap_succ hi (by omega), take_succ_get hi7, withF_get]
      by_cases hk : i = k
      · subst hk
        rw [if_pos rfl, cnd_t (by simp)]
        exact bnd_eq (app24F _ _ (by rw [List.length_take]; omega)) rfl
      · rw [if_neg hk, cnd_f (by simp; omega)]
        exact bnd_eq (app24F _ _ (by rw [List.length_take]; omega)) rfl
    · have : (withF k s).take 7 = withF k s := List.take_of_length_le (by rw [withF_len]; omega)
      dsimp only
      rw [decide_eq_false (by omega : ¬ ((7 : Nat) : Int) < 7), cond_false, bnd_some, cond_false, this]
    · rw [if_pos rfl]

theorem wA_all {k : Nat} {s : ByteArray} (hs : s.size ≤ 40) : (withF k s).all valT = true := by
  rw [List.all_eq_true]
  intro f hf
  unfold withF at hf
  obtain ⟨j, _, rfl⟩ := List.mem_map.1 hf
  split
  · unfold valT
    exact valid0_of (by rw [bs_len]; exact Nat.le_trans hs (by omega))
  · decide +kernel
theorem wA_r {k : Nat} {s : ByteArray} (hs : s.size ≤ 40) (p : Bool) : AreaR (wA k s p) := by
  refine ⟨⟨Int.le_refl _, by show (0 : Int) ≤ 255; omega⟩, ⟨Int.le_refl _, by show (0 : Int) ≤ 4294967295; omega⟩, (fun f hf => ?_), ?_⟩
  · unfold wA at hf
    dsimp only at hf
    split at hf
    · unfold withF at hf
      obtain ⟨j, _, rfl⟩ := List.mem_map.1 hf
      split
      · exact Nat.le_trans hs (by omega)
      · decide
    · cases hf
  · unfold wA
    dsimp only
    split
    · rw [withF_len]; omega
    · simp
theorem wA_v {k : Nat} {s : ByteArray} (hs : s.size ≤ 40) (p : Bool) {n : Nat} (hn : n < 3) : vA (wA k s p) n = true := by
  unfold vA wA
  dsimp only
  cases p
  · rw [if_pos rfl]
    simp
  · rw [if_neg (by simp), if_pos rfl, wA_all hs, withF_len]
    have : n = 0 ∨ n = 1 ∨ n = 2 := by omega
    rcases this with rfl | rfl | rfl <;> simp [leastN]
theorem wA_part {k : Nat} {s : ByteArray} (hs : s.size ≤ 40) (p : Bool) (n : Nat) : (partN (wA k s p) n).length ≤ 463 := by
  unfold partN
  cases p
  · rw [if_neg (by simp [wA])]
    simp
  · rw [if_pos (show (wA k s true).Present = true from rfl)]
    have hf : (wA k s true).Fields = withF k s := by unfold wA; rw [if_pos rfl]
    have := areaN_len (a := wA k s true) (k := n) (by rw [hf]; exact wA_all hs) (by rw [hf, withF_len]; omega)
    rw [hf, withF_len] at this
    omega

def wI (c b p : ByteArray) (pc pb pp : Bool) : T_Info := ⟨wA 1 c pc, wA 2 b pb, wA 4 p pp, []⟩
theorem wI_valid {c b p : ByteArray} (hc : c.size ≤ 40) (hb : b.size ≤ 40) (hp : p.size ≤ 40) (pc pb pp : Bool) : m_unitinfo_Valid (wI c b p pc pb pp) = some true := by
  have hm : okL (inK .u8) ([] : List Int) := ⟨(fun x hx => by cases hx), by simp⟩
  rw [uValid_prog ⟨wA_r hc pc, wA_r hb pb, wA_r hp pp, hm⟩ (by simp [wI])]
  have h1 := encI_len (i := wI c b p pc pb pp) hm
  have q1 := wA_part (k := 1) hc pc 0
  have q2 := wA_part (k := 2) hb pb 1
  have q3 := wA_part (k := 4) hp pp 2
  have h2 : (areasN (wI c b p pc pb pp)).length ≤ 1400 := by
    unfold areasN wI
    simp only [List.length_append]
    omega
  have h3 : (wI c b p pc pb pp).Multi.length = 0 := rfl
  unfold vI
  rw [decide_eq_true (by omega)]
  unfold wI
  dsimp only
  rw [wA_v hc pc (by omega), wA_v hb pb (by omega), wA_v hp pp (by omega)]
  rfl

def emp (s : ByteArray) : Bool := (s.toList == ((⟨#[]⟩) : ByteArray).toList)
theorem emp_eq {s : ByteArray} (h : emp s = true) : s = ⟨#[]⟩ := by
  unfold emp at h
  rw [str_beq] at h
  simpa using h
def pickN (c b p : ByteArray) (pc pb pp : Bool) : ByteArray := if (pp && !emp p) = true then p else if (pb && !emp b) = true then b else if (pc && !emp c) = true then c else ⟨#[]⟩
theorem serial_one (s : ByteArray) (k : Nat) (hk : k < 7) (p : Bool) (g : Option ByteArray) : (bnd ((bif (wA k s p).Present then (bif decide ((k : Int) < ((wA k s p).Fields.length : Int)) then (bnd (elt (wA k s p).Fields (k : Int)) fun x1 => some (!(x1.Value.toList == ((⟨#[]⟩) : ByteArray).toList))) else (some false)) else (some false) : Option Bool)) fun o1 => bif o1 then (bnd (elt (wA k s p).Fields (k : Int)) fun x2 => some x2.Value) else g) =
    if (p && !emp s) = true then some s else g := by
  cases p
  · rfl
  · have hf : (wA k s true).Fields = withF k s := by unfold wA; rw [if_pos rfl]
    have hp : (wA k s true).Present = true := rfl
    rw [hp, cond_true, hf, withF_len, decide_eq_true (by omega), cond_true, withF_elt s hk, bnd_some, bnd_some, bnd_some]
    show (bif !emp s then some s else g) = _
    cases emp s <;> rfl
theorem serial_prog (c b p : ByteArray) (pc pb pp : Bool) : m_unitinfo_Serial (wI c b p pc pb pp) = some (pickN c b p pc pb pp) := by
  unfold m_unitinfo_Serial wI pickN
  dsimp only
  have h1 := serial_one p 4 (by omega) pp
  have h2 := serial_one b 2 (by omega) pb
  have h3 := serial_one c 1 (by omega) pc
  rw [show ((4 : Nat) : Int) = 4 from rfl] at h1
  rw [show ((2 : Nat) : Int) = 2 from rfl] at h2
  rw [show ((1 : Nat) : Int) = 1 from rfl] at h3
  rw [h1, h2, h3]
  cases (pp && !emp p) <;> cases (pb && !emp b) <;> cases (pc && !emp c) <;> rfl

theorem serials_true (product board chassis : ByteArray) (which : Int) (h1 : okS product) (h2 : okS board) (h3 : okS chassis) (h4 : inK .i64 which) : m_law17_UnitinfoSerials product board chassis which = some true := by
  unfold m_law17_UnitinfoSerials
  rw [awake_ok]
  by_cases c1 : 40 < product.size
  · rw [cnd_t (decide_eq_true (by omega))]
    rfl
  rw [cnd_f (decide_eq_false (by omega))]
  by_cases c2 : 40 < board.size
  · rw [cnd_t (decide_eq_true (by omega))]
    rfl
  rw [cnd_f (decide_eq_false (by omega))]
  by_cases c3 : 40 < chassis.size
  · rw [decide_eq_true (by omega : (chassis.size : Int) > 40)]
    rfl
  rw [decide_eq_false (by omega : ¬ (chassis.size : Int) > 40), bnd_some, cond_false]
  obtain ⟨r, hr, _, _, _⟩ := mod_some which 8 (by omega) (by omega)
  rw [hr, bnd_some]
  generalize ((r.tmod 2) == 1) = pp
  generalize (((IntKind.wrap .i64 (r.tdiv 2)).tmod 2) == 1) = pb
  generalize ((IntKind.wrap .i64 (r.tdiv 4)) == 1) = pc
  refine bnd_eq (with_prog 4 product pp) ?_
  refine bnd_eq (with_prog 2 board pb) ?_
  refine bnd_eq (with_prog 1 chassis pc) ?_
  have hv := wI_valid (c := chassis) (b := board) (p := product) (by omega) (by omega) (by omega) pc pb pp
  have hs := serial_prog chassis board product pc pb pp
  unfold wI at hv hs
  rw [hv, hs]
  have e1 : (wA 1 chassis pc).Present = pc := rfl
  have e2 : (wA 2 board pb).Present = pb := rfl
  have e3 : (wA 4 product pp).Present = pp := rfl
  rw [e1, e2, e3]
  have hself : ∀ x : ByteArray, (x.toList == x.toList) = true := fun x => by simp
  have ec : emp chassis = true → (((⟨#[]⟩ : ByteArray)).toList == chassis.toList) = true := fun h => by rw [emp_eq h]; exact hself _
  show bnd (bif pc then some chassis else some ⟨#[]⟩) (fun o2 => bnd (bnd (bif pb then some (!emp board) else some false) fun o4 => bif o4 then some board else some o2) fun o3 => bnd (bif pp then some (!emp product) else some false) fun o5 => _) = some true
  unfold pickN
  cases pc <;> cases pb <;> cases pp <;> cases h1 : emp product <;> cases h2 : emp board <;> cases h3 : emp chassis <;>
    simp only [cond_true, cond_false, bnd_some, Bool.not_true, Bool.not_false, Bool.and_true, Bool.and_false, Bool.true_and, Bool.false_and, Bool.true_eq_false, Bool.false_eq_true, if_true, if_false, hself, ec, h3]

end Go.Proofs.YtcekbbbjagfacaaDoor
