/-
  Fields come back: what is decoded of a field's bytes, and what the bytes of a decoded field are.
  Conditions: none.
-/
import Derived.Test.YtcekbbbjagfacaaDoorFld5
import Derived.Test.YtcekbbbjagfacaaDoorFldD
namespace Go.Proofs.YtcekbbbjagfacaaDoor
open Go
set_option linter.unusedSimpArgs false
set_option linter.unusedVariables false

theorem digs_dg : ∀ a : Nat, a < 256 → isD a = true → digs.getD (dg a) 0 = a := by decide +kernel
theorem dg_digs : ∀ y : Nat, y < 256 → okB2 y = true → 16 * dg (digs.getD (y / 16) 0) + dg (digs.getD (y % 16) 0) = y := by decide +kernel

theorem bcd_ok : ∀ (v : List Nat), v.length % 2 = 0 → lt256 v → v.all isD = true → (bcd v).all okB2 = true ∧ dec1 (bcd v) = v
  | [], _, _, _ => ⟨rfl, rfl⟩
  | [x], h, _, _ => by simp at h
  | a :: b :: r, h, hl, hd => by
    simp only [List.all_cons, Bool.and_eq_true] at hd
    obtain ⟨h1, h2⟩ := bcd_ok r (by simp at h; omega) (fun x hx => hl x (by simp [hx])) hd.2.2
    have ha := dg_lt a
    have hb := dg_lt b
    have e1 : (16 * dg a + dg b) / 16 = dg a := by omega
    have e2 : (16 * dg a + dg b) % 16 = dg b := by omega
    refine ⟨?_, ?_⟩
    · simp only [bcd, List.all_cons, h1, Bool.and_true, okB2, e1, e2, decide_eq_true ha, decide_eq_true hb]
    · simp only [bcd, dec1, List.flatMap_cons, dec2, e1, e2]
      unfold dec1 at h2
      rw [h2, digs_dg a (hl a (by simp)) hd.1, digs_dg b (hl b (by simp)) hd.2.1]
      rfl
theorem bcd_dec : ∀ (d : List Nat), lt256 d → d.all okB2 = true → bcd (dec1 d) = d
  | [], _, _ => rfl
  | y :: r, hl, h => by
    simp only [List.all_cons, Bool.and_eq_true] at h
    have := bcd_dec r (fun x hx => hl x (by simp [hx])) h.2
    unfold dec1 at this
    simp only [dec1, List.flatMap_cons, dec2, List.cons_append, List.nil_append, bcd]
    rw [this, dg_digs y (hl y (by simp)) h.1]

theorem num64_get : ∀ (l : List Nat), (∀ x ∈ l, x < 64) → ∀ (j : Nat) (h : j < l.length), num64 l / 64 ^ j % 64 = l[j]
  | [], _, j, h => by simp at h
  | y :: r, hl, 0, h => by
    have := hl y (by simp)
    simp only [num64, Nat.pow_zero, Nat.div_one, List.getElem_cons_zero]
    omega
  | y :: r, hl, j + 1, h => by
    have h1 := hl y (by simp)
    have := num64_get r (fun x hx => hl x (by simp [hx])) j (by simpa using h)
    simp only [num64, List.getElem_cons_succ]
    rw [← this, Nat.pow_succ, Nat.mul_comm (64 ^ j), ← Nat.div_div_eq_div_mul]
    congr 2
    omega
theorem num_rep : ∀ (L N : Nat), N < 256 ^ L → num256 (rep L N) = N
  | 0, N, h => by
    rw [Nat.pow_zero] at h
    obtain rfl : N = 0 := by omega
    rfl
  | L + 1, N, h => by
    have hr : rep (L + 1) N = (N % 256) :: rep L (N / 256) := by
      unfold rep
      rw [List.range_succ_eq_map, List.map_cons, List.map_map]
      simp only [Nat.pow_zero, Nat.div_one]
      congr 1
      apply List.map_congr_left
      intro j _
      simp only [Function.comp]
      rw [Nat.pow_succ, Nat.mul_comm (256 ^ j), ← Nat.div_div_eq_div_mul]
    rw [Nat.pow_succ] at h
    have hd : N / 256 < 256 ^ L := by omega
    rw [hr]
    simp only [num256]
    rw [num_rep L (N / 256) hd]
    omega
theorem rep_num (d : List Nat) (h : lt256 d) : rep d.length (num256 d) = d := by
  apply List.ext_getElem
  · simp
  intro i h1 h2
  rw [rep_get, num256_get d h i h2]

theorem six_len {n : Nat} (h : n % 4 ≠ 3) : 8 * sixN n / 6 = n := by
  obtain ⟨q, hq⟩ : ∃ q, n = 4 * q ∨ n = 4 * q + 1 ∨ n = 4 * q + 2 := ⟨n / 4, by omega⟩
  unfold sixN
  rcases hq with rfl | rfl | rfl <;> omega
theorem six_len' (L : Nat) : sixN (8 * L / 6) = L ∧ 8 * L / 6 % 4 ≠ 3 := by unfold sixN; omega
theorem pow_le_six (n : Nat) : 64 ^ n ≤ 256 ^ sixN n := by
  rw [show (64 : Nat) = 2 ^ 6 from rfl, show (256 : Nat) = 2 ^ 8 from rfl, ← Nat.pow_mul, ← Nat.pow_mul]
  exact Nat.pow_le_pow_right (by omega) (by unfold sixN; omega)

theorem chars_sixes {v : List Nat} (h : v.all isS = true) : chars6 (num64 (sixes v)) v.length = v := by
  apply List.ext_getElem
  · rw [chars6_len]
  intro i h1 h2
  simp only [chars6, List.getElem_map, List.getElem_range]
  rw [num64_get _ (sixes_lt h) i (by simpa [sixes] using h2)]
  have := List.all_eq_true.1 h _ (List.getElem_mem h2)
  simp only [isS, Bool.and_eq_true, decide_eq_true_eq] at this
  simp only [sixes, List.getElem_map]
  omega
theorem num_chars (N : Nat) : ∀ k, num64 (sixes (chars6 N k)) = N % 64 ^ k
  | 0 => by simp [chars6, sixes, num64, Nat.mod_one]
  | k + 1 => by
    rw [chars6_succ]
    unfold sixes
    rw [List.map_append]
    have := num_chars N k
    unfold sixes at this
    simp only [List.map_cons, List.map_nil, num64_app, this, List.length_map, chars6_len, Nat.add_sub_cancel_left]
    rw [Nat.pow_succ, Nat.mod_mul, Nat.mul_comm (64 ^ k)]
theorem chars_isS (N k : Nat) : (chars6 N k).all isS = true := by
  rw [List.all_eq_true]
  intro x hx
  obtain ⟨j, _, rfl⟩ := List.mem_map.1 hx
  have := Nat.mod_lt (N / 64 ^ j) (show 64 > 0 by omega)
  simp [isS]
  omega

/-- The bytes of a valid field say the field. -/
theorem body_data {k : Int} {v : List Nat} (h : validF k v = true) (hv : lt256 v) : bodyF k.toNat (dataF k v) = some v := by
  rcases valid_kind h with rfl | rfl | rfl | rfl
  · rfl
  · obtain ⟨h1, h2, h3⟩ := valid1 h
    obtain ⟨g1, g2⟩ := bcd_ok v h1 hv h3
    show (if (bcd v).all okB2 = true then some (dec1 (bcd v)) else none) = some v
    rw [if_pos g1, g2]
  · obtain ⟨h1, h2, h3⟩ := valid2 h
    have hN := num64_lt (sixes v) (sixes_lt h3)
    have hsl : (sixes v).length = v.length := by simp [sixes]
    rw [hsl] at hN
    have hnum := num_rep (sixN v.length) (num64 (sixes v)) (Nat.lt_of_lt_of_le hN (pow_le_six _))
    show (if num256 (rep (sixN v.length) (num64 (sixes v))) / 64 ^ (8 * (rep (sixN v.length) (num64 (sixes v))).length / 6) = 0 then some (chars6 (num256 (rep (sixN v.length) (num64 (sixes v)))) (8 * (rep (sixN v.length) (num64 (sixes v))).length / 6)) else none) = some v
    rw [hnum, rep_len, six_len h1, if_pos (Nat.div_eq_of_lt hN), chars_sixes h3]
  · rfl

theorem enc_head {k : Int} {v : List Nat} (h : validF k v = true) : (64 * k.toNat + (dataF k v).length) % 64 = (dataF k v).length ∧ (64 * k.toNat + (dataF k v).length) / 64 = k.toNat ∧ 64 * k.toNat + (dataF k v).length ≠ 193 ∧ ((k.toNat : Nat) : Int) = k := by
  have hl := dataF_len h
  refine ⟨by omega, by omega, ?_, ?_⟩
  · rcases valid_kind h with rfl | rfl | rfl | rfl
    · show 64 * 0 + _ ≠ 193
      omega
    · show 64 * 1 + _ ≠ 193
      omega
    · show 64 * 2 + _ ≠ 193
      omega
    · have : (decide (v.length ≠ 1) && decide (v.length ≤ 63)) = true := h
      simp only [Bool.and_eq_true, decide_eq_true_eq] at this
      show 64 * 3 + v.length ≠ 193
      omega
  · rcases valid_kind h with rfl | rfl | rfl | rfl <;> rfl

theorem dec_enc {k : Int} {v : List Nat} (h : validF k v = true) (hv : lt256 v) (rest : List Nat) : decF (encF k v ++ rest) = (⟨k, sb v⟩, (((encF k v).length : Nat) : Int), false, 0) := by
  obtain ⟨h1, h2, h3, h4⟩ := enc_head h
  have hb := body_data h hv
  unfold encF
  rw [List.cons_append]
  simp only [decF]
  rw [if_neg h3, h1, if_neg (by simp), List.take_left, h2, hb, h4]
  simp only [List.length_cons]
  congr 2
  omega

/-- A part of a field's bytes. -/
theorem dec_cut {k : Int} {v : List Nat} (h : validF k v = true) {c : Nat} (hc : c < (encF k v).length) : decF ((encF k v).take c) = (fNone, 0, false, 4) := by
  obtain ⟨h1, h2, h3, h4⟩ := enc_head h
  cases c with
  | zero => rfl
  | succ c =>
    simp only [encF, List.length_cons] at hc
    unfold encF
    rw [List.take_succ_cons]
    simp only [decF]
    rw [if_neg h3, h1, if_pos (by rw [List.length_take]; omega)]

/-- What was decoded is valid and has these bytes. -/
theorem enc_dec {x : Nat} {d v : List Nat} (hx : x < 256) (h193 : x ≠ 193) (hd : lt256 d) (hl : d.length = x % 64) (hb : bodyF (x / 64) d = some v) : validF ((x / 64 : Nat) : Int) v = true ∧ lt256 v ∧ encF ((x / 64 : Nat) : Int) v = x :: d := by
  have hk : x / 64 = 0 ∨ x / 64 = 1 ∨ x / 64 = 2 ∨ x / 64 = 3 := by omega
  have hm : x % 64 < 64 := Nat.mod_lt _ (by omega)
  have hx2 : 64 * (x / 64) + x % 64 = x := by omega
  generalize hq : x % 64 = n at *
  rcases hk with hk | hk | hk | hk <;> rw [hk] at hb hx2 ⊢
  · have hb' : some d = some v := hb
    injection hb' with hb'
    subst hb'
    refine ⟨valid0_of (by omega), hd, ?_⟩
    show (64 * 0 + d.length) :: d = x :: d
    rw [hl, hx2]
  · have hb' : (if d.all okB2 = true then some (dec1 d) else none) = some v := hb
    split at hb'
    · rename_i hall
      injection hb' with hb'
      subst hb'
      have hlen := dec1_len d
      have hisd := dec1_isD hd hall
      refine ⟨valid1_of (by omega) (by omega) (List.all_eq_true.2 hisd), fun y hy => isD_lt (hisd y hy), ?_⟩
      show (64 * 1 + (bcd (dec1 d)).length) :: bcd (dec1 d) = x :: d
      rw [bcd_dec d hd hall, hl, hx2]
    · cases hb'
  · have hb' : (if num256 d / 64 ^ (8 * d.length / 6) = 0 then some (chars6 (num256 d) (8 * d.length / 6)) else none) = some v := hb
    split at hb'
    · rename_i h0
      injection hb' with hb'
      subst hb'
      obtain ⟨s1, s2⟩ := six_len' d.length
      have hlt : num256 d < 64 ^ (8 * d.length / 6) := by
        rcases Nat.lt_or_ge (num256 d) (64 ^ (8 * d.length / 6)) with h | h
        · exact h
        · have := Nat.div_pos h (Nat.pow_pos (by omega) : 0 < 64 ^ (8 * d.length / 6))
          omega
      refine ⟨valid2_of (by rw [chars6_len]; exact s2) (by rw [chars6_len, s1]; omega) (chars_isS _ _), chars6_lt _ _, ?_⟩
      show (64 * 2 + (rep (sixN (chars6 (num256 d) (8 * d.length / 6)).length) (num64 (sixes (chars6 (num256 d) (8 * d.length / 6))))).length) :: rep (sixN (chars6 (num256 d) (8 * d.length / 6)).length) (num64 (sixes (chars6 (num256 d) (8 * d.length / 6)))) = x :: d
      rw [num_chars, Nat.mod_eq_of_lt hlt, chars6_len, s1, rep_num d hd, hl, hx2]
    · cases hb'
  · have hb' : some d = some v := hb
    injection hb' with hb'
    subst hb'
    refine ⟨valid3_of (by omega) (by omega), hd, ?_⟩
    show (64 * 3 + d.length) :: d = x :: d
    rw [hl, hx2]

end Go.Proofs.YtcekbbbjagfacaaDoor
