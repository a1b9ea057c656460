/-
  What bytes are decoded to: the program's and the reference's answers are one.
  Conditions: none.
-/
import Derived.Test.YtelepclajhpnfaaGreatDoorFld3
namespace Go.Proofs.YtelepclajhpnfaaGreatDoor
open Go
set_option linter.unusedSimpArgs false
set_option linter.unusedVariables false
def num256 : List Nat → Nat
  | [] => 0
  | x :: r => x + 256 * num256 r
theorem num256_app (x : Nat) : ∀ l : List Nat, num256 (l ++ [x]) = num256 l + x * 256 ^ l.length
  | [] => by simp [num256]
  | y :: r => by
    simp only [List.cons_append, num256, num256_app x r, List.length_cons, Nat.pow_succ, Nat.mul_add, Nat.add_assoc]
    congr 2
    simp only [Nat.mul_comm, Nat.mul_left_comm]
theorem num256_lt : ∀ l : List Nat, lt256 l → num256 l < 256 ^ l.length
  | [], _ => by simp [num256]
  | y :: r, h => by
    have := num256_lt r fun x hx => h x (by simp [hx])
    have := h y (by simp)
    simp only [num256, List.length_cons, Nat.pow_succ]
    omega
theorem num256_get : ∀ (l : List Nat), lt256 l → ∀ (j : Nat) (h : j < l.length), num256 l / 256 ^ j % 256 = l[j]
  | [], _, j, h => by simp at h
  | y :: r, hl, 0, h => by
    have := hl y (by simp)
    simp only [num256, Nat.pow_zero, Nat.div_one, List.getElem_cons_zero]
    omega
  | y :: r, hl, j + 1, h => by
    have h1 := hl y (by simp)
    have := num256_get r (fun x hx => hl x (by simp [hx])) j (by simpa using h)
    simp only [num256, List.getElem_cons_succ]
    rw [← this, Nat.pow_succ, Nat.mul_comm (256 ^ j), ← Nat.div_div_eq_div_mul]
    congr 2
    omega
theorem num256_take {l : List Nat} {i : Nat} (h : i < l.length) : num256 (l.take (i + 1)) = num256 (l.take i) + l[i] * 256 ^ i := by
  rw [take_succ_get h, num256_app, List.length_take, Nat.min_eq_left (by omega)]
def chars6 (N k : Nat) : List Nat := (List.range k).map fun j => 32 + N / 64 ^ j % 64
theorem chars6_len (N k : Nat) : (chars6 N k).length = k := by simp [chars6]
theorem chars6_succ (N k : Nat) : chars6 N (k + 1) = chars6 N k ++ [32 + N / 64 ^ k % 64] := by simp [chars6, List.range_succ]
theorem chars6_add (N x k m : Nat) (h : 64 ^ k ∣ m) : chars6 (N + x * m) k = chars6 N k := by
  unfold chars6
  apply List.map_congr_left
  intro j hj
  rw [List.mem_range] at hj
  obtain ⟨q, rfl⟩ := h
  obtain ⟨d, rfl⟩ : ∃ d, k = j + 1 + d := ⟨k - j - 1, by omega⟩
  have : x * (64 ^ (j + 1 + d) * q) = (x * (64 ^ d * q) * 64) * 64 ^ j := by
    rw [Nat.pow_add, Nat.pow_succ]
    simp only [Nat.mul_assoc, Nat.mul_comm, Nat.mul_left_comm]
  rw [this, Nat.add_mul_div_right _ _ (Nat.pow_pos (by omega)), Nat.add_mul_mod_self_right]
def okB2 (y : Nat) : Bool := decide (y / 16 < 13) && decide (y % 16 < 13)
def dec2 (y : Nat) : List Nat := [digs.getD (y / 16) 0, digs.getD (y % 16) 0]
def dec1 (d : List Nat) : List Nat := d.flatMap dec2
theorem dec1_succ {d : List Nat} {i : Nat} (h : i < d.length) : dec1 (d.take (i + 1)) = dec1 (d.take i) ++ dec2 d[i] := by
  unfold dec1
  rw [take_succ_get h, List.flatMap_append]
  simp only [List.flatMap_cons, List.flatMap_nil, List.append_nil]
theorem dec1_len : ∀ (d : List Nat), (dec1 d).length = 2 * d.length
  | [] => rfl
  | x :: r => by
    have := dec1_len r
    simp only [dec1, List.flatMap_cons, List.length_append, List.length_cons, dec2, List.length_nil] at *
    omega
def bodyF (kind : Nat) (d : List Nat) : Option (List Nat) :=
  if kind = 1 then (if d.all okB2 = true then some (dec1 d) else none)
  else if kind = 2 then (if num256 d / 64 ^ (8 * d.length / 6) = 0 then some (chars6 (num256 d) (8 * d.length / 6)) else none)
  else some d
def fNone : T_Field := ⟨0, ⟨#[]⟩⟩
def decF : List Nat → T_Field × Int × Bool × Int
  | [] => (fNone, 0, false, 4)
  | x :: r => if x = 193 then (fNone, 1, true, 0) else if r.length < x % 64 then (fNone, 0, false, 4) else
    match bodyF (x / 64) (r.take (x % 64)) with
    | none => (fNone, 0, false, 6)
    | some v => (⟨((x / 64 : Nat) : Int), sb v⟩, ((1 + x % 64 : Nat) : Int), false, 0)
theorem dec_facts : ∀ y : Nat, y < 256 → IntKind.wrap .i64 (iShr .u8 (y : Int) 4) = ((y / 16 : Nat) : Int) ∧ iShr .u8 (y : Int) 4 = ((y / 16 : Nat) : Int) ∧ IntKind.wrap .i64 (iAnd .u8 (y : Int) 15) = ((y % 16 : Nat) : Int) ∧ iAnd .u8 (y : Int) 15 = ((y % 16 : Nat) : Int) := by decide +kernel
theorem dec_elts : ∀ n : Nat, n < 13 → eltS (⟨#[48, 49, 50, 51, 52, 53, 54, 55, 56, 57, 32, 45, 46]⟩) (n : Int) = some ((digs.getD n 0 : Nat) : Int) := by decide +kernel
theorem dec_facts' : ∀ y : Nat, y < 256 → IntKind.wrap .i64 ((IntKind.wrap .i64 (y : Int)).tdiv 16) = ((y / 16 : Nat) : Int) ∧ (IntKind.wrap .i64 (y : Int)).tmod 16 = ((y % 16 : Nat) : Int) := by decide +kernel
theorem any_all (d : List Nat) (p : Nat → Bool) : (List.range d.length).any (fun i => !p (d[i]?.getD 0)) = !d.all p := all_range' d p
theorem decimal_prog (d : List Nat) (hd : lt256 d) (hn : d.length ≤ 1000) : m_fields_decimal (iz d) = some (if d.all okB2 = true then (sb (dec1 d), true) else (⟨#[]⟩, false)) := by
  unfold m_fields_decimal
  refine bnd_loop_any (fun i => (iz (dec1 (d.take i)), (i : Int))) d.length (fun i => !okB2 (d[i]?.getD 0)) (.inl (⟨#[]⟩, false)) (.inr (iz (dec1 d))) rfl (fun i hi => ?_) ?_ ?_
  · have h1 : decide ((i : Int) < ((iz d).length : Int)) = true := decide_eq_true (by rw [iz_len]; omega)
    obtain ⟨f1, f2, f3, f4⟩ := dec_facts _ (hd.get hi)
    dsimp only
    rw [h1, cond_true]
    refine bnd_eq (elt_iz hi) ?_
    rw [f1, f2, f3, f4, List.getElem?_eq_getElem hi, Option.getD_some]
    have hs := dec1_succ hi
    generalize d[i] = y at *
    have hl : (dec1 (d.take i)).length ≤ 2000 := by rw [dec1_len]; simp; omega
    unfold okB2
    by_cases g1 : y / 16 < 13
    · have e1 : decide (((y / 16 : Nat) : Int) ≥ 13) = false := decide_eq_false (by omega)
      rw [e1, cond_false]
      refine bnd_eq (dec_elts _ g1) ?_
      refine bnd_eq (app2 (by omega) _) ?_
      by_cases g2 : y % 16 < 13
      · have e2 : decide (((y % 16 : Nat) : Int) ≥ 13) = false := decide_eq_false (by omega)
        rw [e2, cond_false]
        refine bnd_eq (dec_elts _ g2) ?_
        refine bnd_eq (app2 (by simp; omega) _) ?_
        rw [wrap_succ hi (by omega), hs]
        simp [g1, g2, dec2]
      · have e2 : decide (((y % 16 : Nat) : Int) ≥ 13) = true := decide_eq_true (by omega)
        rw [e2, cond_true]
        simp [g1, g2]
    · have e1 : decide (((y / 16 : Nat) : Int) ≥ 13) = true := decide_eq_true (by omega)
      rw [e1, cond_true]
      simp [g1]
  · have h1 : decide ((d.length : Int) < ((iz d).length : Int)) = false := decide_eq_false (by rw [iz_len]; omega)
    dsimp only
    rw [h1, cond_false, List.take_length]
  · rw [any_all]
    cases d.all okB2
    · rfl
    · show some (strOf (iz (dec1 d)), true) = _
      rw [strOf_iz]
      rfl
theorem pow_split (i : Nat) : 256 ^ i = 64 ^ (8 * i / 6) * 2 ^ (8 * i - 6 * (8 * i / 6)) := by
  rw [show (256 : Nat) = 2 ^ 8 from rfl, show (64 : Nat) = 2 ^ 6 from rfl, ← Nat.pow_mul, ← Nat.pow_mul, ← Nat.pow_add]
  congr 1
  omega
theorem unpack_prog (d : List Nat) (hd : lt256 d) (hn : d.length ≤ 1000) : m_fields_unpack (iz d) = some (sb (chars6 (num256 d) (8 * d.length / 6)), decide (num256 d / 64 ^ (8 * d.length / 6) = 0)) := by
  unfold m_fields_unpack
  refine bnd_loop (fun i => (iz (chars6 (num256 (d.take i)) (8 * i / 6)), ((num256 (d.take i) / 64 ^ (8 * i / 6) : Nat) : Int), ((8 * i - 6 * (8 * i / 6) : Nat) : Int), (i : Int))) d.length
    (iz (chars6 (num256 d) (8 * d.length / 6)), ((num256 d / 64 ^ (8 * d.length / 6) : Nat) : Int)) (by simp [num256, chars6]) (fun i hi => ?_) ?_ ?_
  · have h1 : decide ((i : Int) < ((iz d).length : Int)) = true := decide_eq_true (by rw [iz_len]; omega)
    have hx := hd.get hi
    have hst := num256_take hi
    have hlt := num256_lt (d.take i) (hd.take i)
    rw [List.length_take, Nat.min_eq_left (by omega), pow_split] at hlt
    have hps := pow_split i
    have hkb : 8 * i / 6 ≤ 4000 := by omega
    have hk : 8 * (i + 1) / 6 = 8 * i / 6 + 1 ∨ 8 * (i + 1) / 6 = 8 * i / 6 + 2 := by omega
    dsimp only
    rw [h1, cond_true]
    refine bnd_eq (elt_iz hi) ?_
    generalize d[i] = x at *
    generalize num256 (d.take i) = N at *
    generalize hN' : num256 (d.take (i + 1)) = N' at *
    have hhave : 8 * (i + 1) - 6 * (8 * (i + 1) / 6) + 6 * (8 * (i + 1) / 6 - 8 * i / 6) = 8 * i - 6 * (8 * i / 6) + 8 := by omega
    have hlast : 8 * (i + 1) - 6 * (8 * (i + 1) / 6) < 6 := by omega
    have hh6 : 8 * i - 6 * (8 * i / 6) < 6 := by omega
    generalize 8 * i - 6 * (8 * i / 6) = have_ at *
    generalize 8 * (i + 1) - 6 * (8 * (i + 1) / 6) = have2 at *
    generalize 8 * (i + 1) / 6 = k2 at *
    generalize 8 * i / 6 = k at *
    have hp64 : 0 < 64 ^ k := Nat.pow_pos (by omega)
    have hbits : N / 64 ^ k < 2 ^ have_ := by
      rw [Nat.div_lt_iff_lt_mul hp64, Nat.mul_comm]
      exact hlt
    have h2h : 2 ^ have_ ≤ 32 := by
      have : (2 : Nat) ^ have_ ≤ 2 ^ 5 := Nat.pow_le_pow_right (by omega) (by omega)
      omega
    have hxs : x * 2 ^ have_ < 8192 := by
      have : x * 2 ^ have_ ≤ 255 * 32 := Nat.mul_le_mul (by omega) h2h
      omega
    have hnew : N' / 64 ^ k = N / 64 ^ k + x * 2 ^ have_ := by
      rw [hst, hps, Nat.mul_comm (64 ^ k), ← Nat.mul_assoc, Nat.add_mul_div_right _ _ hp64]
    have e1 : shlM .i64 (IntKind.wrap .i64 (x : Int)) (have_ : Int) = some ((x * 2 ^ have_ : Nat) : Int) := by
      rw [wrap_i64n (by omega), shlM_i64 (by omega) (by omega)]
    have e2 : iOr .i64 ((N / 64 ^ k : Nat) : Int) ((x * 2 ^ have_ : Nat) : Int) = ((N' / 64 ^ k : Nat) : Int) := by
      rw [iOr_i64 (by omega) (by omega), or_add hbits, hnew]
    have e3 : IntKind.wrap .i64 ((have_ : Int) + 8) = ((have_ + 8 : Nat) : Int) := by rw [wrap_i64 (by omega) (by omega)]; omega
    have hchars : chars6 N' k = chars6 N k := by rw [hst, hps]; exact chars6_add _ _ _ _ ⟨_, rfl⟩
    refine bnd_eq e1 ?_
    rw [e2, e3, ← hchars]
    have hB : N' / 64 ^ k < 16384 := by omega
    refine bnd_loop (fun j => (iz (chars6 N' (k + j)), ((N' / 64 ^ (k + j) : Nat) : Int), ((have_ + 8 - 6 * j : Nat) : Int))) (k2 - k) (iz (chars6 N' k2), ((N' / 64 ^ k2 : Nat) : Int), (have2 : Int)) rfl (fun j hj => ?_) ?_ ?_
    · have g1 : decide (((have_ + 8 - 6 * j : Nat) : Int) ≥ 6) = true := decide_eq_true (by omega)
      have hBj : N' / 64 ^ (k + j) ≤ N' / 64 ^ k := Nat.div_le_div_left (Nat.pow_le_pow_right (by omega) (by omega)) hp64
      have hm := Nat.mod_lt (N' / 64 ^ (k + j)) (show 64 > 0 by omega)
      have hnext : N' / 64 ^ (k + (j + 1)) = N' / 64 ^ (k + j) / 2 ^ 6 := by rw [← Nat.add_assoc, Nat.pow_succ, Nat.div_div_eq_div_mul]
      have hsucc := chars6_succ N' (k + j)
      rw [Nat.add_assoc] at hsucc
      dsimp only
      rw [hsucc, hnext, g1, cond_true]
      have g2 : IntKind.wrap .u8 (IntKind.wrap .i64 ((iAnd .i64 ((N' / 64 ^ (k + j) : Nat) : Int) 63) + 32)) = ((32 + N' / 64 ^ (k + j) % 64 : Nat) : Int) := by
        rw [show (63 : Int) = ((63 : Nat) : Int) from rfl, iAnd_i64 (by omega) (by omega), show (63 : Nat) = 2 ^ 6 - 1 from rfl, Nat.and_two_pow_sub_one_eq_mod, show (2 : Nat) ^ 6 = 64 from rfl]
        generalize N' / 64 ^ (k + j) % 64 = z at *
        rw [wrap_i64 (by omega) (by omega), wrap_u8 (by omega) (by omega)]
        omega
      have g3 : iShr .i64 ((N' / 64 ^ (k + j) : Nat) : Int) 6 = ((N' / 64 ^ (k + j) / 2 ^ 6 : Nat) : Int) := iShr_n (k := .i64) (a := N' / 64 ^ (k + j)) (s := 6) (by decide)
      have g4 : IntKind.wrap .i64 (((have_ + 8 - 6 * j : Nat) : Int) - 6) = ((have_ + 8 - 6 * (j + 1) : Nat) : Int) := by rw [wrap_i64 (by omega) (by omega)]; omega
      rw [g2, g3, g4]
      refine bnd_eq (app2 (by rw [chars6_len]; omega) _) rfl
    · have hj : k + (k2 - k) = k2 := by omega
      have hv : have_ + 8 - 6 * (k2 - k) = have2 := by omega
      have g1 : decide ((have2 : Int) ≥ 6) = false := decide_eq_false (by omega)
      dsimp only
      rw [hj, hv, g1, cond_false]
    · dsimp only
      rw [wrap_succ hi (by omega)]
  · have h1 : decide ((d.length : Int) < ((iz d).length : Int)) = false := decide_eq_false (by rw [iz_len]; omega)
    dsimp only
    rw [h1, cond_false, List.take_length]
  · dsimp only
    rw [strOf_iz]
    congr 2
    rw [Bool.eq_iff_iff]
    simp only [beq_iff_eq, decide_eq_true_eq]
    omega
end Go.Proofs.YtelepclajhpnfaaGreatDoor
