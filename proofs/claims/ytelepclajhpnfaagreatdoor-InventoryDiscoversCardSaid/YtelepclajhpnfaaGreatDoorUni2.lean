/-
  The bytes of a unit's data: the program, all areas.
  Conditions: none.
-/
import Derived.Test.YtelepclajhpnfaaGreatDoorUni1
namespace Go.Proofs.YtelepclajhpnfaaGreatDoor
open Go
set_option linter.unusedSimpArgs false
set_option linter.unusedVariables false
theorem flat_take {ls : List (List Nat)} {i : Nat} (h : i < ls.length) : (ls.take (i + 1)).flatten = (ls.take i).flatten ++ ls[i] := by
  rw [take_succ_get h, List.flatten_append]
  simp
theorem flat_le {ls : List (List Nat)} (i : Nat) : (ls.take i).flatten.length ≤ ls.flatten.length := by
  conv => rhs; rw [← List.take_append_drop i ls]
  rw [List.flatten_append, List.length_append]
  omega
theorem Concat_prog (ls : List (List Nat)) (h : ls.flatten.length ≤ 1000000) (hn : ls.length ≤ 1000) : m_slices_Concat__byte_byte (ls.map iz) = some (iz ls.flatten) := by
  unfold m_slices_Concat__byte_byte
  refine bnd_loop (fun i => (((ls.take i).flatten.length : Int), (i : Int))) ls.length (ls.flatten.length : Int) rfl (fun i hi => ?_) ?_ ?_
  · have hf := flat_le (ls := ls) (i + 1)
    rw [flat_take hi, List.length_append] at hf
    dsimp only
    rw [decide_eq_true (by rw [List.length_map]; omega : (i : Int) < ((ls.map iz).length : Int)), cond_true]
    refine bnd_eq (elt_lt (by rw [List.length_map]; exact hi)) ?_
    have hw : IntKind.wrap .i64 (((ls.take i).flatten.length : Int) + (((ls.map iz)[i]'(by rw [List.length_map]; exact hi)).length : Int)) = ((ls.take (i + 1)).flatten.length : Int) := by
      rw [flat_take hi, List.length_append, List.getElem_map, iz_len, wrap_i64 (by omega) (by omega)]
      omega
    rw [hw, decide_eq_false (by omega : ¬ ((ls.take (i + 1)).flatten.length : Int) < 0), cond_false, wrap_succ hi (by omega)]
  · dsimp only
    rw [decide_eq_false (by rw [List.length_map]; omega : ¬ (ls.length : Int) < ((ls.map iz).length : Int)), cond_false, List.take_length]
  · have hg : growM (ls.flatten.length : Int) = some [] := by
      unfold growM
      rw [if_pos ⟨by omega, by omega⟩]
    refine bnd_eq hg ?_
    refine bnd_loop (fun i => (iz (ls.take i).flatten, (i : Int))) ls.length (iz ls.flatten) rfl (fun i hi => ?_) ?_ rfl
    · have hf := flat_le (ls := ls) (i + 1)
      rw [flat_take hi, List.length_append] at hf
      dsimp only
      rw [decide_eq_true (by rw [List.length_map]; omega : (i : Int) < ((ls.map iz).length : Int)), cond_true]
      refine bnd_eq (elt_lt (by rw [List.length_map]; exact hi)) ?_
      rw [List.getElem_map]
      refine bnd_eq (app_iz (by omega) (by omega)) ?_
      rw [flat_take hi, wrap_succ hi (by omega)]
    · dsimp only
      rw [decide_eq_false (by rw [List.length_map]; omega : ¬ (ls.length : Int) < ((ls.map iz).length : Int)), cond_false, List.take_length]
theorem Concat3 {a b c : List Nat} (h : a.length + (b.length + c.length) ≤ 1000000) : m_slices_Concat__byte_byte [iz a, iz b, iz c] = some (iz (a ++ (b ++ c))) := by
  have := Concat_prog [a, b, c] (by simp only [List.flatten_cons, List.flatten_nil, List.append_nil, List.length_append]; omega) (by simp)
  simpa using this
def partN (a : T_Area) (k : Nat) : List Nat := if a.Present = true then areaN a k else []
def offN (a : T_Area) (n : Nat) : Nat := if a.Present = true then (8 + n) / 8 % 256 else 0
def areasN (i : T_Info) : List Nat := partN i.Chassis 0 ++ (partN i.Board 1 ++ partN i.Product 2)
def headI (i : T_Info) : List Nat := [1, 0, offN i.Chassis 0, offN i.Board (partN i.Chassis 0).length, offN i.Product ((partN i.Chassis 0).length + (partN i.Board 1).length), if 0 < i.Multi.length then (8 + (areasN i).length) / 8 % 256 else 0, 0]
def mulN (i : T_Info) : List Nat := i.Multi.map Int.toNat
def encI (i : T_Info) : List Nat := sealN (headI i) ++ (areasN i ++ mulN i)
structure InfoR (i : T_Info) : Prop where
  c : AreaR i.Chassis
  b : AreaR i.Board
  p : AreaR i.Product
  m : okL (inK .u8) i.Multi
def canA (a : T_Area) : Prop := a.Present = true → a.Fields.all valT = true ∧ a.Fields.length ≤ 16
theorem partN_len {a : T_Area} (h : canA a) (k : Nat) : (partN a k).length ≤ 1100 ∧ (partN a k).length % 8 = 0 := by
  unfold partN
  cases hp : a.Present
  · rw [if_neg (by simp)]
    simp
  · rw [if_pos rfl]
    obtain ⟨h1, h2⟩ := h hp
    have := areaN_len (k := k) h1 h2
    omega
theorem mul_iz {i : T_Info} (h : okL (inK .u8) i.Multi) : i.Multi = iz (mulN i) ∧ lt256 (mulN i) ∧ (mulN i).length = i.Multi.length := by
  obtain ⟨l, h1, h2⟩ := okL_iz h
  have : mulN i = l := by
    unfold mulN
    rw [h2]
    unfold iz
    rw [List.map_map]
    conv => rhs; rw [← List.map_id l]
    apply List.map_congr_left
    intro x _
    simp
  rw [this]
  exact ⟨h2, h1, by rw [h2, iz_len]⟩
theorem off_step {a : T_Area} (hr : AreaR a) (hc : canA a) {k : Nat} (hk : k < 3) {l : List Nat} (hl : l.length ≤ 10000) (oi : Int) (ho : oi = ((8 + l.length : Nat) : Int)) :
    (bif a.Present then (bnd (m_unitinfo_encodeArea a (k : Int)) fun r3 => bnd (app 1 (iz l) r3) fun l2 => some (l2, IntKind.wrap .u8 (IntKind.wrap .i64 (oi.tdiv 8)))) else (some (iz l, 0)) : Option (List Int × Int)) =
      some (iz (l ++ partN a k), ((offN a l.length : Nat) : Int)) := by
  have hlen := (partN_len hc k).1
  unfold partN offN at *
  cases hp : a.Present
  · rw [if_neg (by simp), if_neg (by simp), List.append_nil]
    rfl
  · rw [hp] at hlen
    rw [if_pos rfl] at hlen
    rw [if_pos rfl, if_pos rfl, cond_true]
    obtain ⟨h1, h2⟩ := hc hp
    refine bnd_eq (encodeArea_prog hr hk h1 h2) ?_
    refine bnd_eq (app_iz (by omega) (by omega)) ?_
    rw [ho, show (8 : Int) = ((8 : Nat) : Int) from rfl, tdiv_n, wrap_i64n (by omega), wrap_u8_modn]
theorem encode_prog' {i : T_Info} (hr : InfoR i) (h1 : canA i.Chassis) (h2 : canA i.Board) (h3 : canA i.Product) (hm : i.Multi.length ≤ 100000) : m_unitinfo_encode i = some (iz (encI i)) := by
  obtain ⟨m1, m2, m3⟩ := mul_iz hr.m
  have q1 := (partN_len h1 0).1
  have q2 := (partN_len h2 1).1
  have q3 := (partN_len h3 2).1
  unfold m_unitinfo_encode m_unitinfo_areas
  rw [bnd_some]
  dsimp only
  refine bnd_eq (off_step hr.c h1 (k := 0) (by omega) (l := []) (by simp) 8 rfl) ?_
  rw [List.nil_append]
  refine bnd_eq (off_step hr.b h2 (k := 1) (by omega) (by omega) _ (by rw [iz_len, wrap_i64 (by omega) (by omega)]; omega)) ?_
  refine bnd_eq (off_step hr.p h3 (k := 2) (by omega) (by rw [List.length_append]; omega) _ (by rw [iz_len, List.length_append, wrap_i64 (by omega) (by omega)]; omega)) ?_
  dsimp only
  have hbody : (partN i.Chassis 0 ++ partN i.Board 1) ++ partN i.Product 2 = areasN i := by unfold areasN; rw [List.append_assoc]
  have hblen : (areasN i).length ≤ 3300 := by rw [← hbody]; simp only [List.length_append]; omega
  rw [hbody]
  have hw : IntKind.wrap .u8 (IntKind.wrap .i64 ((IntKind.wrap .i64 (8 + ((iz (areasN i)).length : Int))).tdiv 8)) = (((8 + (areasN i).length) / 8 % 256 : Nat) : Int) := by
    rw [iz_len, show (8 : Int) + ((areasN i).length : Int) = ((8 + (areasN i).length : Nat) : Int) by omega, wrap_i64n (by omega), show (8 : Int) = ((8 : Nat) : Int) from rfl, tdiv_n, wrap_i64n (by omega), wrap_u8_modn]
  rw [hw]
  have hhead : ∀ x : Nat, ([1, 0, ((offN i.Chassis ([] : List Nat).length : Nat) : Int), ((offN i.Board (partN i.Chassis 0).length : Nat) : Int), ((offN i.Product (partN i.Chassis 0 ++ partN i.Board 1).length : Nat) : Int), ((x : Nat) : Int), 0] : List Int) =
      iz [1, 0, offN i.Chassis 0, offN i.Board (partN i.Chassis 0).length, offN i.Product ((partN i.Chassis 0).length + (partN i.Board 1).length), x, 0] := fun x => by
    rw [List.length_append]
    rfl
  have hfin : ∀ hd : List Nat, hd.length = 7 → (bnd (m_checksum_Seal8 (iz hd)) fun r5 => bnd (m_slices_Concat__byte_byte ([r5, iz (areasN i), i.Multi])) fun r6 => some r6) = some (iz (sealN hd ++ (areasN i ++ mulN i))) := fun hd hh => by
    refine bnd_eq (Seal8_prog (by omega)) ?_
    rw [m1]
    refine bnd_eq (Concat3 ?_) rfl
    unfold sealN
    rw [List.length_append, hh, m3]
    simp
    omega
  unfold encI headI
  by_cases h0 : 0 < i.Multi.length
  · rw [if_pos h0, cnd_t (decide_eq_true (by omega)), hhead, hfin _ rfl]
  · rw [if_neg h0, cnd_f (decide_eq_false (by omega))]
    have := hhead 0
    rw [show (((0 : Nat) : Int)) = (0 : Int) from rfl] at this
    rw [this, hfin _ rfl]
def vI (i : T_Info) : Bool := vA i.Chassis 0 && (vA i.Board 1 && (vA i.Product 2 && decide ((encI i).length ≤ 2048)))
theorem vA_can {a : T_Area} {k : Nat} (h : vA a k = true) : canA a := by
  intro hp
  unfold vA at h
  rw [hp, if_neg (by simp)] at h
  simp only [Bool.and_eq_true, decide_eq_true_eq] at h
  exact ⟨h.2.2.2, h.2.2.1⟩
theorem uValid_prog {i : T_Info} (hr : InfoR i) (hm : i.Multi.length ≤ 100000) : m_unitinfo_Valid i = some (vI i) := by
  unfold m_unitinfo_Valid m_unitinfo_areas vI
  rw [bnd_some]
  dsimp only
  refine bnd_eq (validArea_prog hr.c (k := 0) (by omega)) ?_
  cases h1 : vA i.Chassis 0
  · rfl
  refine bnd_eq (validArea_prog hr.b (k := 1) (by omega)) ?_
  cases h2 : vA i.Board 1
  · rfl
  refine bnd_eq (validArea_prog hr.p (k := 2) (by omega)) ?_
  cases h3 : vA i.Product 2
  · rfl
  refine bnd_eq (encode_prog' hr (vA_can h1) (vA_can h2) (vA_can h3) hm) ?_
  rw [iz_len]
  have : decide (((encI i).length : Int) ≤ 2048) = decide ((encI i).length ≤ 2048) := by
    rw [Bool.eq_iff_iff]
    simp
    omega
  rw [this]
  rfl
theorem encI_len {i : T_Info} (h : okL (inK .u8) i.Multi) : (encI i).length = 8 + (areasN i).length + i.Multi.length := by
  unfold encI sealN headI
  simp only [List.length_append, List.length_cons, List.length_nil, (mul_iz h).2.2]
  omega
theorem noneR : AreaR ⟨false, 0, 0, []⟩ := ⟨by decide, by decide, (fun f hf => by cases hf), by simp⟩
end Go.Proofs.YtelepclajhpnfaaGreatDoor
