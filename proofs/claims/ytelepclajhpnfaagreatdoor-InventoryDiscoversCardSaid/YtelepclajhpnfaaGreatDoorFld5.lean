/-
  What bytes are decoded to, continued: whole fields.
  Conditions: none.
-/
import Derived.Test.YtelepclajhpnfaaGreatDoorFld4
namespace Go.Proofs.YtelepclajhpnfaaGreatDoor
open Go
set_option linter.unusedSimpArgs false
set_option linter.unusedVariables false
theorem head_facts : ∀ x : Nat, x < 256 → IntKind.wrap .i64 (iAnd .u8 (x : Int) 63) = ((x % 64 : Nat) : Int) ∧ IntKind.wrap .i64 (iShr .u8 (x : Int) 6) = ((x / 64 : Nat) : Int) ∧ (IntKind.wrap .i64 (x : Int)).tmod 64 = ((x % 64 : Nat) : Int) ∧ IntKind.wrap .i64 ((IntKind.wrap .i64 (x : Int)).tdiv 64) = ((x / 64 : Nat) : Int) ∧ ((x : Int) == 193) = decide (x = 193) := by decide +kernel
theorem wrap_1n : ∀ n : Nat, n < 64 → IntKind.wrap .i64 (1 + (n : Int)) = ((1 + n : Nat) : Int) := by decide +kernel
theorem elt0 (x : Nat) (r : List Nat) : elt (iz (x :: r)) 0 = some (x : Int) := rfl
theorem sub1 {x n : Nat} {r : List Nat} (h : n ≤ r.length) : sub (iz (x :: r)) 1 ((1 + n : Nat) : Int) = some (iz (r.take n)) := by
  have := sub_iz (l := x :: r) (a := 1) (b := 1 + n) (by omega) (by simp; omega)
  rw [show ((1 : Nat) : Int) = 1 from rfl] at this
  rw [this, Nat.add_comm 1 n]
  rfl
theorem Decode_prog (b : List Nat) (hb : lt256 b) (hn : b.length ≤ 1000000) : m_fields_Decode (iz b) = some (decF b) := by
  unfold m_fields_Decode
  cases b with
  | nil => rfl
  | cons x r =>
    have hx := hb x (by simp)
    have hr : lt256 r := fun y hy => hb y (by simp [hy])
    obtain ⟨f1, f2, f3, f4, f5⟩ := head_facts x hx
    have h0 : (((iz (x :: r)).length : Int) == 0) = false := by rw [iz_len]; simp; omega
    simp only [h0, cond_false, elt0, bnd_some, f1, f2, f5, decF]
    by_cases h193 : x = 193
    · simp only [h193, decide_true, cond_true, if_true]
      rfl
    have hm : x % 64 < 64 := Nat.mod_lt _ (by omega)
    have hk : x / 64 = 0 ∨ x / 64 = 1 ∨ x / 64 = 2 ∨ x / 64 = 3 := by omega
    simp only [h193, decide_false, cond_false, if_false, wrap_1n _ hm]
    generalize x % 64 = n at *
    by_cases hl : r.length < n
    · have e1 : decide (((iz (x :: r)).length : Int) < ((1 + n : Nat) : Int)) = true := decide_eq_true (by rw [iz_len, List.length_cons]; omega)
      simp only [e1, cond_true, hl, if_true]
      rfl
    · have e1 : decide (((iz (x :: r)).length : Int) < ((1 + n : Nat) : Int)) = false := decide_eq_false (by rw [iz_len, List.length_cons]; omega)
      have hlt : lt256 (r.take n) := hr.take n
      have hlen : (r.take n).length ≤ 1000 := by rw [List.length_take]; omega
      simp only [e1, cond_false, hl, if_false, sub1 (x := x) (by omega : n ≤ r.length), bnd_some]
      rcases hk with hk | hk | hk | hk <;> rw [hk] <;> unfold bodyF
      · show some _ = _
        rw [strOf_iz]
        rfl
      · simp only [show (((1 : Nat) : Int) == 1) = true from rfl, cond_true, decimal_prog _ hlt hlen, bnd_some, if_true]
        split <;> rfl
      · simp only [show (((2 : Nat) : Int) == 1) = false from rfl, show (((2 : Nat) : Int) == 2) = true from rfl, cond_true, cond_false, unpack_prog _ hlt hlen, bnd_some, show ¬ (2 = 1) by omega, if_false, if_true]
        by_cases hz : num256 (r.take n) / 64 ^ (8 * (r.take n).length / 6) = 0
        · rw [if_pos hz, decide_eq_true hz]
          rfl
        · rw [if_neg hz, decide_eq_false hz]
          rfl
      · show some _ = _
        rw [strOf_iz]
        rfl
theorem ref_bcd {x : Nat} {r : List Nat} (hr : lt256 r) {n : Nat} (hnr : n ≤ r.length) (hn : n < 64) (k : T_Field × Int × Bool × Int) (g : List Int → Option (T_Field × Int × Bool × Int)) (t : Option (T_Field × Int × Bool × Int))
    (ht : t = if (r.take n).all okB2 = true then g (iz (dec1 (r.take n))) else some k) (m : List Int × Int → Option (Step (List Int × Int) ((T_Field × Int × Bool × Int) ⊕ List Int)))
    (hm : ∀ s1, m s1 = bif decide (s1.2 < (n : Int)) then (bnd (elt (iz (x :: r)) (IntKind.wrap .i64 (1 + s1.2))) fun x2 => bnd ((bif decide ((IntKind.wrap .i64 ((IntKind.wrap .i64 x2).tdiv 16)) ≥ 13) then (some true) else (some (decide (((IntKind.wrap .i64 x2).tmod 16) ≥ 13))) : Option Bool)) fun o3 => bif o3 then (some (.done (.inl k))) else (bnd (eltS (⟨#[48, 49, 50, 51, 52, 53, 54, 55, 56, 57, 32, 45, 46]⟩) (IntKind.wrap .i64 ((IntKind.wrap .i64 x2).tdiv 16))) fun y1 => bnd (eltS (⟨#[48, 49, 50, 51, 52, 53, 54, 55, 56, 57, 32, 45, 46]⟩) ((IntKind.wrap .i64 x2).tmod 16)) fun y2 => bnd (app 1 s1.1 [y1, y2]) fun l1 => some (.next (l1, IntKind.wrap .i64 (s1.2 + 1))))) else (some (.done (.inr s1.1)))) :
    bnd (loopM m ([], 0)) (fun o1 => retOr o1 g) = t := by
  have hlen : (r.take n).length = n := by rw [List.length_take]; omega
  refine bnd_loop_any (fun i => (iz (dec1 ((r.take n).take i)), (i : Int))) n (fun i => !okB2 ((r.take n)[i]?.getD 0)) (.inl k) (.inr (iz (dec1 (r.take n)))) rfl (fun i hi => ?_) ?_ ?_
  · have h1 : decide ((i : Int) < (n : Int)) = true := decide_eq_true (by omega)
    have hi' : i < (r.take n).length := by omega
    have hir : i < r.length := by omega
    have he : elt (iz (x :: r)) (IntKind.wrap .i64 (1 + (i : Int))) = some ((((r.take n)[i] : Nat)) : Int) := by
      rw [wrap_1n _ (by omega), Nat.add_comm 1 i, elt_iz (by simp; omega)]
      simp
    obtain ⟨f1, f2⟩ := dec_facts' _ ((hr.take n).get hi')
    rw [hm]
    dsimp only
    rw [h1, cond_true]
    refine bnd_eq he ?_
    rw [f1, f2, List.getElem?_eq_getElem hi', Option.getD_some]
    have hs := dec1_succ hi'
    generalize (r.take n)[i] = y at *
    have hl : (dec1 ((r.take n).take i)).length ≤ 2000 := by rw [dec1_len]; simp; omega
    unfold okB2
    by_cases g1 : y / 16 < 13
    · have e1 : decide (((y / 16 : Nat) : Int) ≥ 13) = false := decide_eq_false (by omega)
      by_cases g2 : y % 16 < 13
      · have e2 : decide (((y % 16 : Nat) : Int) ≥ 13) = false := decide_eq_false (by omega)
        rw [e1, cond_false, e2, bnd_some, cond_false]
        refine bnd_eq (dec_elts _ g1) ?_
        refine bnd_eq (dec_elts _ g2) ?_
        refine bnd_eq (app3 (by omega) _ _) ?_
        rw [wrap_succ hi (by omega), hs]
        simp [g1, g2, dec2]
      · have e2 : decide (((y % 16 : Nat) : Int) ≥ 13) = true := decide_eq_true (by omega)
        rw [e1, cond_false, e2, bnd_some, cond_true]
        simp [g1, g2]
    · have e1 : decide (((y / 16 : Nat) : Int) ≥ 13) = true := decide_eq_true (by omega)
      rw [e1, cond_true, bnd_some, cond_true]
      simp [g1]
  · have h1 : decide ((n : Int) < (n : Int)) = false := decide_eq_false (by omega)
    rw [hm]
    dsimp only
    rw [h1, cond_false, List.take_of_length_le (by omega)]
  · have := any_all (r.take n) okB2
    rw [hlen] at this
    rw [this, ht]
    cases (r.take n).all okB2 <;> rfl
theorem ref_copy {x : Nat} {r : List Nat} {n : Nat} (hnr : n ≤ r.length) (hn : n < 64) (m : List Int × Int → Option (Step (List Int × Int) (List Int)))
    (hm : ∀ s3, m s3 = bif decide (s3.2 < (n : Int)) then (bnd (elt (iz (x :: r)) (IntKind.wrap .i64 (1 + s3.2))) fun x5 => bnd (app 1 s3.1 [x5]) fun l4 => some (.next (l4, IntKind.wrap .i64 (s3.2 + 1)))) else (some (.done s3.1)))
    {ρ : Type} (g : List Int → Option ρ) : bnd (loopM m ([], 0)) g = g (iz (r.take n)) := by
  have hlen : (r.take n).length = n := by rw [List.length_take]; omega
  refine bnd_loop (fun i => (iz ((r.take n).take i), (i : Int))) n (iz (r.take n)) rfl (fun i hi => ?_) ?_ rfl
  · have h1 : decide ((i : Int) < (n : Int)) = true := decide_eq_true (by omega)
    have hi' : i < (r.take n).length := by omega
    have he : elt (iz (x :: r)) (IntKind.wrap .i64 (1 + (i : Int))) = some ((((r.take n)[i] : Nat)) : Int) := by
      rw [wrap_1n _ (by omega), Nat.add_comm 1 i, elt_iz (by simp; omega)]
      simp
    rw [hm]
    dsimp only
    rw [h1, cond_true]
    refine bnd_eq he ?_
    refine bnd_eq (app2 (by simp; omega) _) ?_
    rw [wrap_succ hi (by omega), take_succ_get hi']
  · have h1 : decide ((n : Int) < (n : Int)) = false := decide_eq_false (by omega)
    rw [hm]
    dsimp only
    rw [h1, cond_false, List.take_of_length_le (by omega)]
theorem mod_bit (M s : Nat) (hs : s < 8) : M % 256 / 2 ^ s % 2 = M / 2 ^ s % 2 := by
  have : s = 0 ∨ s = 1 ∨ s = 2 ∨ s = 3 ∨ s = 4 ∨ s = 5 ∨ s = 6 ∨ s = 7 := by omega
  rcases this with rfl | rfl | rfl | rfl | rfl | rfl | rfl | rfl <;> omega
theorem bit_of {d : List Nat} (hd : lt256 d) {i : Nat} (h : i / 8 < d.length) : d[i / 8] / 2 ^ (i % 8) % 2 = num256 d / 2 ^ i % 2 := by
  rw [← num256_get d hd _ h, mod_bit _ _ (Nat.mod_lt _ (by omega)), Nat.div_div_eq_div_mul, ← pow2]
def part6 (N i : Nat) : List Nat := chars6 (N % 2 ^ i) ((i + 5) / 6)
theorem part6_step (N i : Nat) : part6 N (i + 1) = (if i % 6 = 0 then part6 N i ++ [32] else part6 N i).set (i / 6) ((if i % 6 = 0 then part6 N i ++ [32] else part6 N i).getD (i / 6) 0 + N / 2 ^ i % 2 * 2 ^ (i % 6)) ∧
    i / 6 < (if i % 6 = 0 then part6 N i ++ [32] else part6 N i).length ∧ (if i % 6 = 0 then part6 N i ++ [32] else part6 N i).getD (i / 6) 0 + N / 2 ^ i % 2 * 2 ^ (i % 6) < 256 := by
  have hp : 2 ^ i = 64 ^ (i / 6) * 2 ^ (i % 6) := by
    rw [show (64 : Nat) = 2 ^ 6 from rfl, ← Nat.pow_mul, ← Nat.pow_add]
    congr 1
    omega
  have hM : N % 2 ^ (i + 1) = N % 2 ^ i + N / 2 ^ i % 2 * 2 ^ i := by rw [Nat.pow_succ, Nat.mod_mul, Nat.mul_comm (2 ^ i)]
  have hb : N / 2 ^ i % 2 = 0 ∨ N / 2 ^ i % 2 = 1 := by omega
  have hlt : N % 2 ^ i < 2 ^ i := Nat.mod_lt _ (Nat.pow_pos (by omega))
  have hj : (i + 1 + 5) / 6 = i / 6 + 1 := by omega
  have hs6 : i % 6 < 6 := Nat.mod_lt _ (by omega)
  have hq : (if i % 6 = 0 then part6 N i ++ [32] else part6 N i) = chars6 (N % 2 ^ i) (i / 6 + 1) := by
    by_cases h0 : i % 6 = 0
    · rw [if_pos h0]
      unfold part6
      rw [show (i + 5) / 6 = i / 6 by omega, chars6_succ]
      have hlt2 := Nat.lt_of_lt_of_eq hlt hp
      rw [h0, Nat.pow_zero, Nat.mul_one] at hlt2
      have : N % 2 ^ i / 64 ^ (i / 6) = 0 := Nat.div_eq_of_lt hlt2
      rw [this]
    · rw [if_neg h0]
      unfold part6
      rw [show (i + 5) / 6 = i / 6 + 1 by omega]
  rw [hq]
  have hlen : i / 6 < (chars6 (N % 2 ^ i) (i / 6 + 1)).length := by rw [chars6_len]; omega
  have hget : (chars6 (N % 2 ^ i) (i / 6 + 1)).getD (i / 6) 0 = 32 + N % 2 ^ i / 64 ^ (i / 6) := by
    rw [List.getD_eq_getElem?_getD, List.getElem?_eq_getElem hlen]
    simp only [Option.getD_some, chars6, List.getElem_map, List.getElem_range]
    rw [Nat.mod_eq_of_lt]
    rw [Nat.div_lt_iff_lt_mul (Nat.pow_pos (by omega))]
    have h26 : (2 : Nat) ^ (i % 6) ≤ 2 ^ 5 := Nat.pow_le_pow_right (by omega) (by omega)
    have : 64 ^ (i / 6) * 2 ^ (i % 6) ≤ 64 ^ (i / 6) * 64 := Nat.mul_le_mul_left _ (by omega)
    have hlt2 := Nat.lt_of_lt_of_eq hlt hp
    omega
  have hsmall : N % 2 ^ i / 64 ^ (i / 6) < 2 ^ (i % 6) := by
    rw [Nat.div_lt_iff_lt_mul (Nat.pow_pos (by omega)), Nat.mul_comm]
    exact Nat.lt_of_lt_of_eq hlt hp
  have h26 : (2 : Nat) ^ (i % 6) ≤ 2 ^ 5 := Nat.pow_le_pow_right (by omega) (by omega)
  refine ⟨?_, hlen, ?_⟩
  · rw [hget]
    unfold part6
    rw [hj, hM]
    have hmul : N / 2 ^ i % 2 * 2 ^ i = N / 2 ^ i % 2 * 2 ^ (i % 6) * 64 ^ (i / 6) := by
      rw [hp, Nat.mul_comm (64 ^ _), Nat.mul_assoc]
    generalize N / 2 ^ i % 2 = b at *
    generalize N % 2 ^ i = M at *
    rw [hmul]
    generalize i / 6 = j at *
    generalize hc : b * 2 ^ (i % 6) = c at *
    have hcs : M / 64 ^ j + c < 64 := by rcases hb with rfl | rfl <;> omega
    have hp64 : 0 < 64 ^ j := Nat.pow_pos (by omega)
    apply List.ext_getElem
    · simp [chars6]
    intro a h1 h2
    rw [chars6_len] at h1
    rw [List.getElem_set]
    simp only [chars6, List.getElem_map, List.getElem_range]
    split
    · rename_i e
      subst e
      rw [Nat.add_mul_div_right _ _ hp64, Nat.mod_eq_of_lt hcs]
      omega
    · rename_i e
      obtain ⟨q, rfl⟩ : ∃ q, j = a + 1 + q := ⟨j - a - 1, by omega⟩
      have : c * 64 ^ (a + 1 + q) = (c * 64 ^ q * 64) * 64 ^ a := by
        rw [Nat.pow_add, Nat.pow_succ]
        simp only [Nat.mul_assoc, Nat.mul_comm, Nat.mul_left_comm]
      rw [this, Nat.add_mul_div_right _ _ (Nat.pow_pos (by omega)), Nat.add_mul_mod_self_right]
  · rw [hget]
    rcases hb with hb | hb <;> rw [hb] <;> omega
theorem high_bits {N n k : Nat} (hN : N < 256 ^ n) : (List.range (8 * n)).any (fun i => decide (6 * k ≤ i) && !decide (N / 2 ^ i % 2 = 0)) = !decide (N / 64 ^ k = 0) := by
  rw [Bool.eq_iff_iff]
  simp only [List.any_eq_true, List.mem_range, Bool.and_eq_true, decide_eq_true_eq, Bool.not_eq_true', decide_eq_false_iff_not]
  have h64 : (64 : Nat) ^ k = 2 ^ (6 * k) := by rw [show (64 : Nat) = 2 ^ 6 from rfl, ← Nat.pow_mul]
  constructor
  · rintro ⟨i, hi, h1, h2⟩ h0
    apply h2
    have : N < 2 ^ i := by
      have hlt : N < 64 ^ k := by
        rcases Nat.lt_or_ge N (64 ^ k) with h | h
        · exact h
        · have := Nat.div_pos h (Nat.pow_pos (by omega) : 0 < 64 ^ k)
          omega
      rw [h64] at hlt
      exact Nat.lt_of_lt_of_le hlt (Nat.pow_le_pow_right (by omega) h1)
    rw [Nat.div_eq_of_lt this]
  · intro h0
    obtain ⟨i, hi⟩ := Nat.exists_testBit_of_ne_zero h0
    rw [h64, Nat.testBit_div_two_pow] at hi
    rw [Nat.testBit_eq_decide_div_mod_eq] at hi
    have hi' := of_decide_eq_true hi
    refine ⟨i + 6 * k, ?_, by omega, by omega⟩
    rcases Nat.lt_or_ge (i + 6 * k) (8 * n) with h | h
    · exact h
    · have h256 : (256 : Nat) ^ n = 2 ^ (8 * n) := by rw [show (256 : Nat) = 2 ^ 8 from rfl, ← Nat.pow_mul]
      have : N < 2 ^ (i + 6 * k) := by
        rw [h256] at hN
        exact Nat.lt_of_lt_of_le hN (Nat.pow_le_pow_right (by omega) h)
      rw [Nat.div_eq_of_lt this] at hi'
      omega
theorem ref_six {x : Nat} {r : List Nat} (hr : lt256 r) {n : Nat} (hnr : n ≤ r.length) (hn : n < 64) (k : T_Field × Int × Bool × Int) (g : List Int → Option (T_Field × Int × Bool × Int)) (t : Option (T_Field × Int × Bool × Int))
    (ht : t = if num256 (r.take n) / 64 ^ (8 * n / 6) = 0 then g (iz (chars6 (num256 (r.take n)) (8 * n / 6))) else some k) (m : List Int × Int → Option (Step (List Int × Int) ((T_Field × Int × Bool × Int) ⊕ List Int)))
    (hm : ∀ s2, m s2 = bif decide (s2.2 < (IntKind.wrap .i64 (8 * (n : Int)))) then (bnd (elt (iz (x :: r)) (IntKind.wrap .i64 (1 + (IntKind.wrap .i64 (s2.2.tdiv 8))))) fun x3 => bnd (shrM .i64 (IntKind.wrap .i64 x3) (IntKind.wrap .u64 (s2.2.tmod 8))) fun q1 => bif decide (s2.2 ≥ (IntKind.wrap .i64 (6 * (IntKind.wrap .i64 ((IntKind.wrap .i64 (8 * (n : Int))).tdiv 6))))) then (bif ((q1.tmod 2) != 0) then (some (.done (.inl k))) else (some (.next (s2.1, IntKind.wrap .i64 (s2.2 + 1))))) else (bnd ((bif ((s2.2.tmod 6) == 0) then (bnd (app 1 s2.1 [32]) fun l2 => some l2) else (some s2.1) : Option (List Int))) fun o6 => bnd (elt o6 (IntKind.wrap .i64 (s2.2.tdiv 6))) fun x4 => bnd (shlM .i64 (q1.tmod 2) (IntKind.wrap .u64 (s2.2.tmod 6))) fun q2 => bnd (setE o6 (IntKind.wrap .i64 (s2.2.tdiv 6)) (IntKind.wrap .u8 (x4 + (IntKind.wrap .u8 q2)))) fun l3 => some (.next (l3, IntKind.wrap .i64 (s2.2 + 1))))) else (some (.done (.inr s2.1)))) :
    bnd (loopM m ([], 0)) (fun o1 => retOr o1 g) = t := by
  have hlen : (r.take n).length = n := by rw [List.length_take]; omega
  have hd : lt256 (r.take n) := hr.take n
  have hNlt := num256_lt (r.take n) hd
  rw [hlen] at hNlt
  have w1 : IntKind.wrap .i64 (8 * (n : Int)) = ((8 * n : Nat) : Int) := by rw [wrap_i64 (by omega) (by omega)]; omega
  have w2 : IntKind.wrap .i64 (6 * (IntKind.wrap .i64 (((8 * n : Nat) : Int).tdiv 6))) = ((6 * (8 * n / 6) : Nat) : Int) := by
    rw [show (6 : Int) = ((6 : Nat) : Int) from rfl, tdiv_n, wrap_i64n (by omega), wrap_i64 (by omega) (by omega)]
    omega
  simp only [w1, w2] at hm
  have hpart : ∀ i, 6 * (8 * n / 6) ≤ i → part6 (num256 (r.take n)) (min i (6 * (8 * n / 6))) = part6 (num256 (r.take n)) (6 * (8 * n / 6)) := fun i hi => by rw [Nat.min_eq_right hi]
  have hfull : num256 (r.take n) / 64 ^ (8 * n / 6) = 0 → part6 (num256 (r.take n)) (6 * (8 * n / 6)) = chars6 (num256 (r.take n)) (8 * n / 6) := fun h0 => by
    unfold part6
    rw [show (6 * (8 * n / 6) + 5) / 6 = 8 * n / 6 by omega, Nat.mod_eq_of_lt]
    rw [Nat.pow_mul]
    rcases Nat.lt_or_ge (num256 (r.take n)) (64 ^ (8 * n / 6)) with h | h
    · exact h
    · have := Nat.div_pos h (Nat.pow_pos (by omega) : 0 < 64 ^ (8 * n / 6))
      omega
  refine bnd_loop_any (fun i => (iz (part6 (num256 (r.take n)) (min i (6 * (8 * n / 6)))), (i : Int))) (8 * n) (fun i => decide (6 * (8 * n / 6) ≤ i) && !decide (num256 (r.take n) / 2 ^ i % 2 = 0)) (.inl k) (.inr (iz (part6 (num256 (r.take n)) (6 * (8 * n / 6))))) (by simp [part6, chars6]) (fun i hi => ?_) ?_ ?_
  · have h1 : decide ((i : Int) < ((8 * n : Nat) : Int)) = true := decide_eq_true (by omega)
    have hi8 : i / 8 < (r.take n).length := by omega
    have w3 : IntKind.wrap .i64 (1 + (IntKind.wrap .i64 ((i : Int).tdiv 8))) = ((i / 8 + 1 : Nat) : Int) := by
      rw [show (8 : Int) = ((8 : Nat) : Int) from rfl, tdiv_n, wrap_i64n (by omega), wrap_i64 (by omega) (by omega)]
      omega
    have w4 : IntKind.wrap .u64 ((i : Int).tmod 8) = ((i % 8 : Nat) : Int) := by rw [show (8 : Int) = ((8 : Nat) : Int) from rfl, tmod_n, wrap_u64n (by omega)]
    have he : elt (iz (x :: r)) ((i / 8 + 1 : Nat) : Int) = some ((((r.take n)[i / 8] : Nat)) : Int) := by
      rw [elt_iz (by simp; omega)]
      simp
    have hbit := bit_of hd hi8
    have hd8 := hd.get hi8
    have hstep := part6_step (num256 (r.take n)) i
    rw [hm]
    dsimp only
    rw [h1, cond_true, w3]
    refine bnd_eq he ?_
    generalize hN : num256 (r.take n) = N at *
    generalize (r.take n)[i / 8] = y at *
    rw [wrap_i64n (by omega), w4]
    refine bnd_eq (shrM_n (k := .i64) (a := y) (s := i % 8) (by show i % 8 ≤ 64; omega)) ?_
    have w5 : ((y / 2 ^ (i % 8) : Nat) : Int).tmod 2 = ((N / 2 ^ i % 2 : Nat) : Int) := by rw [show (2 : Int) = ((2 : Nat) : Int) from rfl, tmod_n, hbit]
    rw [w5, wrap_succ hi (by omega)]
    have hb2 : N / 2 ^ i % 2 < 2 := Nat.mod_lt _ (by omega)
    by_cases hi6 : 6 * (8 * n / 6) ≤ i
    · have e1 : decide ((i : Int) ≥ ((6 * (8 * n / 6) : Nat) : Int)) = true := decide_eq_true (by omega)
      rw [e1, cond_true, hpart i hi6, hpart (i + 1) (by omega)]
      have e2 : decide (6 * (8 * n / 6) ≤ i) = true := decide_eq_true hi6
      rw [e2, Bool.true_and]
      generalize N / 2 ^ i % 2 = b at *
      have : b = 0 ∨ b = 1 := by omega
      rcases this with rfl | rfl <;> rfl
    · have e1 : decide ((i : Int) ≥ ((6 * (8 * n / 6) : Nat) : Int)) = false := decide_eq_false (by omega)
      have e2 : decide (6 * (8 * n / 6) ≤ i) = false := decide_eq_false hi6
      rw [e1, cond_false, e2, Bool.false_and, cond_false, Nat.min_eq_left (by omega), Nat.min_eq_left (by omega)]
      obtain ⟨p1, p2, p3⟩ := hstep
      have e3 : (((i : Int).tmod 6) == 0) = decide (i % 6 = 0) := by
        rw [show (6 : Int) = ((6 : Nat) : Int) from rfl, tmod_n, Bool.eq_iff_iff]
        simp
        omega
      have hpl : (part6 N i).length ≤ 1000 := by unfold part6; rw [chars6_len]; omega
      have e4 : (bif ((i : Int).tmod 6) == 0 then (bnd (app 1 (iz (part6 N i)) [32]) fun l2 => some l2) else (some (iz (part6 N i))) : Option (List Int)) = some (iz (if i % 6 = 0 then part6 N i ++ [32] else part6 N i)) := by
        rw [e3]
        by_cases h6 : i % 6 = 0
        · rw [decide_eq_true h6, cond_true, if_pos h6]
          exact bnd_eq (app2 (by omega) 32) rfl
        · rw [decide_eq_false h6, cond_false, if_neg h6]
      refine bnd_eq e4 ?_
      generalize (if i % 6 = 0 then part6 N i ++ [32] else part6 N i) = L at *
      have w6 : IntKind.wrap .i64 ((i : Int).tdiv 6) = ((i / 6 : Nat) : Int) := by rw [show (6 : Int) = ((6 : Nat) : Int) from rfl, tdiv_n, wrap_i64n (by omega)]
      have w7 : IntKind.wrap .u64 ((i : Int).tmod 6) = ((i % 6 : Nat) : Int) := by rw [show (6 : Int) = ((6 : Nat) : Int) from rfl, tmod_n, wrap_u64n (by omega)]
      have hg : L.getD (i / 6) 0 = L[i / 6] := by rw [List.getD_eq_getElem?_getD, List.getElem?_eq_getElem p2]; rfl
      rw [hg] at p1 p3
      rw [w6, w7]
      refine bnd_eq (elt_iz p2) ?_
      generalize N / 2 ^ i % 2 = b at *
      generalize hc : b * 2 ^ (i % 6) = c at *
      refine bnd_eq (a := (c : Int)) (by rw [shlM_i64 (by omega) (by rw [hc]; omega), hc]) ?_
      have w8 : IntKind.wrap .u8 (((L[i / 6] : Nat) : Int) + IntKind.wrap .u8 (c : Int)) = ((L[i / 6] + c : Nat) : Int) := by
        rw [wrap_u8n (by omega), ← wrap_u8n p3]
        congr 1
      rw [w8]
      refine bnd_eq (setE_iz p2 _) ?_
      rw [← p1]
  · have h1 : decide (((8 * n : Nat) : Int) < ((8 * n : Nat) : Int)) = false := decide_eq_false (by omega)
    rw [hm]
    dsimp only
    rw [h1, cond_false, hpart _ (by omega)]
  · rw [high_bits hNlt, ht]
    by_cases h0 : num256 (r.take n) / 64 ^ (8 * n / 6) = 0
    · rw [decide_eq_true h0, if_pos h0, hfull h0]
      rfl
    · rw [decide_eq_false h0, if_neg h0]
      rfl
theorem Decode_ref (b : List Nat) (hb : lt256 b) (hn : b.length ≤ 1000000) : m_ref02_Decode (iz b) = some (decF b) := by
  unfold m_ref02_Decode
  cases b with
  | nil => rfl
  | cons x r =>
    have hx := hb x (by simp)
    have hr : lt256 r := fun y hy => hb y (by simp [hy])
    obtain ⟨f1, f2, f3, f4, f5⟩ := head_facts x hx
    have h0 : (((iz (x :: r)).length : Int) == 0) = false := by rw [iz_len]; simp; omega
    simp only [h0, cond_false, elt0, bnd_some, f3, f4, f5, decF]
    by_cases h193 : x = 193
    · simp only [h193, decide_true, cond_true, if_true]
      rfl
    have hm : x % 64 < 64 := Nat.mod_lt _ (by omega)
    have hk : x / 64 = 0 ∨ x / 64 = 1 ∨ x / 64 = 2 ∨ x / 64 = 3 := by omega
    simp only [h193, decide_false, cond_false, if_false, wrap_1n _ hm]
    generalize x % 64 = n at *
    by_cases hl : r.length < n
    · have e1 : decide (((iz (x :: r)).length : Int) < ((1 + n : Nat) : Int)) = true := decide_eq_true (by rw [iz_len, List.length_cons]; omega)
      simp only [e1, cond_true, hl, if_true]
      rfl
    · have e1 : decide (((iz (x :: r)).length : Int) < ((1 + n : Nat) : Int)) = false := decide_eq_false (by rw [iz_len, List.length_cons]; omega)
      have hlen : (r.take n).length = n := by rw [List.length_take]; omega
      simp only [e1, cond_false, hl, if_false]
      rcases hk with hk | hk | hk | hk <;> rw [hk] <;> unfold bodyF
      · simp only [show (((0 : Nat) : Int) == 1) = false from rfl, show (((0 : Nat) : Int) == 2) = false from rfl, cond_false]
        rw [ref_copy (by omega) hm _ (fun s => rfl), strOf_iz]
        rfl
      · simp only [show (((1 : Nat) : Int) == 1) = true from rfl, cond_true]
        refine ref_bcd hr (by omega) hm _ _ _ ?_ _ (fun s => rfl)
        simp only [if_true]
        by_cases hz : (r.take n).all okB2 = true
        · rw [if_pos hz, if_pos hz, strOf_iz]
        · rw [if_neg hz, if_neg hz]
          rfl
      · simp only [show (((2 : Nat) : Int) == 1) = false from rfl, show (((2 : Nat) : Int) == 2) = true from rfl, cond_true, cond_false]
        refine ref_six hr (by omega) hm _ _ _ ?_ _ (fun s => rfl)
        simp only [show ¬ (2 = 1) by omega, if_false, if_true, hlen]
        by_cases hz : num256 (r.take n) / 64 ^ (8 * n / 6) = 0
        · rw [if_pos hz, if_pos hz, strOf_iz]
        · rw [if_neg hz, if_neg hz]
          rfl
      · simp only [show (((3 : Nat) : Int) == 1) = false from rfl, show (((3 : Nat) : Int) == 2) = false from rfl, cond_false]
        rw [ref_copy (by omega) hm _ (fun s => rfl), strOf_iz]
        rfl
end Go.Proofs.YtelepclajhpnfaaGreatDoor
