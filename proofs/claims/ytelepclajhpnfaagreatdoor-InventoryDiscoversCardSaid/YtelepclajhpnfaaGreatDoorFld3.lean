/-
  The bytes of a valid field, continued: data, encodings.
  Conditions: none.
-/
import Derived.Test.YtelepclajhpnfaaGreatDoorFld2
namespace Go.Proofs.YtelepclajhpnfaaGreatDoor
open Go
set_option linter.unusedSimpArgs false
set_option linter.unusedVariables false
theorem valid1 {v : List Nat} (h : validF 1 v = true) : v.length % 2 = 0 ∧ v.length ≤ 126 ∧ v.all isD = true := by
  have : (decide (v.length % 2 = 0) && (decide (v.length ≤ 126) && v.all isD)) = true := h
  simpa only [Bool.and_eq_true, decide_eq_true_eq] using this
theorem valid2 {v : List Nat} (h : validF 2 v = true) : v.length % 4 ≠ 3 ∧ sixN v.length ≤ 63 ∧ v.all isS = true := by
  have : (decide (v.length % 4 ≠ 3) && (decide (sixN v.length ≤ 63) && v.all isS)) = true := h
  simpa only [Bool.and_eq_true, decide_eq_true_eq] using this
theorem valid_kind {k : Int} {v : List Nat} (h : validF k v = true) : k = 0 ∨ k = 1 ∨ k = 2 ∨ k = 3 := by
  unfold validF at h
  split at h
  · exact .inl ‹_›
  split at h
  · exact .inr (.inl ‹_›)
  split at h
  · exact .inr (.inr (.inl ‹_›))
  split at h
  · exact .inr (.inr (.inr ‹_›))
  · cases h
theorem dataF_len {k : Int} {v : List Nat} (h : validF k v = true) : (dataF k v).length ≤ 63 := by
  rcases valid_kind h with rfl | rfl | rfl | rfl
  · have : decide (v.length ≤ 63) = true := h
    simpa [dataF] using this
  · have := valid1 h
    show (bcd v).length ≤ 63
    rw [bcd_len]
    omega
  · have := valid2 h
    show (rep (sixN v.length) _).length ≤ 63
    rw [rep_len]
    exact this.2.1
  · have : (decide (v.length ≠ 1) && decide (v.length ≤ 63)) = true := h
    simp only [Bool.and_eq_true, decide_eq_true_eq] at this
    exact this.2
theorem dataF_lt {k : Int} {v : List Nat} (hv : lt256 v) : lt256 (dataF k v) := by
  unfold dataF
  split
  · exact bcd_lt v
  split
  · exact rep_lt _ _
  · exact hv
theorem valid_size {k : Int} {v : List Nat} (h : validF k v = true) : v.length ≤ 126 := by
  rcases valid_kind h with rfl | rfl | rfl | rfl
  · have : decide (v.length ≤ 63) = true := h
    simp at this
    omega
  · exact (valid1 h).2.1
  · have := (valid2 h).2.1
    unfold sixN at this
    omega
  · have : (decide (v.length ≠ 1) && decide (v.length ≤ 63)) = true := h
    simp only [Bool.and_eq_true, decide_eq_true_eq] at this
    omega
theorem s2bM_small {s : ByteArray} (h : s.size ≤ 1000000) : s2bM s = some (iz (bs s)) := s2bM_bs (by omega)
theorem data_prog (f : T_Field) (h : validF f.Kind (bs f.Value) = true) : m_fields_data f = some (iz (dataF f.Kind (bs f.Value))) := by
  obtain ⟨k, s⟩ := f
  simp only at h
  have hsz := valid_size h
  rw [bs_len] at hsz
  unfold m_fields_data
  simp only
  rcases valid_kind h with rfl | rfl | rfl | rfl
  · simp only [show ((0 : Int) == 1) = false from rfl, show ((0 : Int) == 2) = false from rfl, cond_false, s2bM_small (by omega : s.size ≤ 1000000), bnd_some]
    rfl
  · simp only [show ((1 : Int) == 1) = true from rfl, cond_true]
    obtain ⟨h2, h3, h4⟩ := valid1 h
    rw [bs_len] at h2
    refine bnd_loop (fun j => (iz (bcd ((bs s).take (2 * j))), ((2 * j : Nat) : Int))) (s.size / 2) (iz (bcd (bs s))) (by simp [bcd]) (fun j hj => ?_) ?_ rfl
    · have hj1 : 2 * j + 1 < (bs s).length := by rw [bs_len]; omega
      have hj0 : 2 * j < (bs s).length := by omega
      have hd1 := List.all_eq_true.1 h4 _ (List.getElem_mem hj0)
      have hd2 := List.all_eq_true.1 h4 _ (List.getElem_mem hj1)
      have h1 : decide (((2 * j : Nat) : Int) < (s.size : Int)) = true := decide_eq_true (by omega)
      have e1 : IntKind.wrap .i64 (((2 * j : Nat) : Int) + 1) = ((2 * j + 1 : Nat) : Int) := by rw [wrap_i64 (by omega) (by omega)]; omega
      have e2 : IntKind.wrap .i64 (((2 * j : Nat) : Int) + 2) = ((2 * (j + 1) : Nat) : Int) := by rw [wrap_i64 (by omega) (by omega)]; omega
      have ha : app 1 (iz (bcd ((bs s).take (2 * j)))) [((16 * dg (bs s)[2 * j] + dg (bs s)[2 * j + 1] : Nat) : Int)] = some (iz (bcd ((bs s).take (2 * (j + 1))))) := by
        have := app_iz (l := bcd ((bs s).take (2 * j))) (m := [16 * dg (bs s)[2 * j] + dg (bs s)[2 * j + 1]]) (b := 1) (by rw [bcd_len]; simp; omega) (by rw [bcd_len]; simp; omega)
        rw [iz_cons, iz_nil] at this
        rw [this, take2 hj1, bcd_app _ _ _ (by rw [List.length_take, Nat.min_eq_left (by omega)]; omega)]
      have f1 : m_strings_IndexByte ⟨#[48, 49, 50, 51, 52, 53, 54, 55, 56, 57, 32, 45, 46]⟩ (((bs s)[2 * j] : Nat) : Int) = some ((dg (bs s)[2 * j] : Nat) : Int) := by rw [find_digit ((bs_lt s).get hj0), hd1]; rfl
      have f2 : m_strings_IndexByte ⟨#[48, 49, 50, 51, 52, 53, 54, 55, 56, 57, 32, 45, 46]⟩ (((bs s)[2 * j + 1] : Nat) : Int) = some ((dg (bs s)[2 * j + 1] : Nat) : Int) := by rw [find_digit ((bs_lt s).get hj1), hd2]; rfl
      have f3 := (pack_two _ (dg_lt (bs s)[2 * j]) _ (dg_lt (bs s)[2 * j + 1])).1
      dsimp only
      rw [h1, cond_true]
      refine bnd_eq (eltS_bs (s := s) (i := 2 * j) (by omega)) ?_
      refine bnd_eq f1 ?_
      rw [e1]
      refine bnd_eq (eltS_bs (s := s) (i := 2 * j + 1) (by omega)) ?_
      refine bnd_eq f2 ?_
      rw [f3]
      refine bnd_eq ha ?_
      rw [e2]
    · have h1 : decide (((2 * (s.size / 2) : Nat) : Int) < (s.size : Int)) = false := decide_eq_false (by omega)
      have : (bs s).take (2 * (s.size / 2)) = bs s := List.take_of_length_le (by rw [bs_len]; omega)
      simp only [h1, cond_false, this]
  · simp only [show ((2 : Int) == 1) = false from rfl, show ((2 : Int) == 2) = true from rfl, cond_false, cond_true]
    rw [pack_prog s (by omega) (valid2 h).2.2]
    simp only [bnd_some]
    show _ = some (iz (rep (sixN (bs s).length) _))
    rw [bs_len]
  · simp only [show ((3 : Int) == 1) = false from rfl, show ((3 : Int) == 2) = false from rfl, cond_false, s2bM_small (by omega : s.size ≤ 1000000), bnd_some]
    rfl
theorem copy_step {s : ByteArray} {i : Nat} (hi : i < s.size) (hs : s.size ≤ 1000000) : app 1 (iz ((bs s).take i)) [(((bs s)[i]'(by simpa using hi) : Nat) : Int)] = some (iz ((bs s).take (i + 1))) := by
  have hi' : i < (bs s).length := by simpa using hi
  have := app_iz (l := (bs s).take i) (m := [(bs s)[i]]) (b := 1) (by simp; omega) (by simp; omega)
  rw [iz_cons, iz_nil] at this
  rw [this, take_succ_get hi']
theorem data_ref (f : T_Field) (h : validF f.Kind (bs f.Value) = true) : m_ref02_data f = some (iz (dataF f.Kind (bs f.Value))) := by
  obtain ⟨k, s⟩ := f
  simp only at h
  have hsz := valid_size h
  rw [bs_len] at hsz
  unfold m_ref02_data
  simp only
  have hcopy : ∀ m : List Int × Int → Option (Step (List Int × Int) (List Int)), (∀ x : List Int × Int, m x = bif decide (x.2 < (s.size : Int)) then (bnd (eltS s x.2) fun y4 => bnd (app 1 x.1 [y4]) fun l4 => some (.next (l4, IntKind.wrap .i64 (x.2 + 1)))) else (some (.done x.1))) →
      bnd (loopM m ([], 0)) (fun o => some o) = some (iz (bs s)) := by
    intro m hm
    refine bnd_loop (fun i => (iz ((bs s).take i), (i : Int))) s.size (iz (bs s)) rfl (fun i hi => ?_) ?_ rfl
    · have h1 : decide ((i : Int) < (s.size : Int)) = true := decide_eq_true (by omega)
      rw [hm]
      simp only [h1, cond_true, eltS_bs hi, bnd_some, copy_step hi (by omega), wrap_succ hi (by omega : s.size ≤ 140737488355328)]
    · have h1 : decide ((s.size : Int) < (s.size : Int)) = false := decide_eq_false (by omega)
      rw [hm]
      simp only [h1, cond_false]
      rw [List.take_of_length_le (by simp)]
  rcases valid_kind h with rfl | rfl | rfl | rfl
  · simp only [show ((0 : Int) == 1) = false from rfl, show ((0 : Int) == 2) = false from rfl, cond_false]
    exact hcopy _ fun x => rfl
  · simp only [show ((1 : Int) == 1) = true from rfl, cond_true]
    obtain ⟨h2, h3, h4⟩ := valid1 h
    rw [bs_len] at h2
    refine bnd_loop (fun j => (iz (bcd ((bs s).take (2 * j))), ((2 * j : Nat) : Int))) (s.size / 2) (iz (bcd (bs s))) (by simp [bcd]) (fun j hj => ?_) ?_ rfl
    · have hj1 : 2 * j + 1 < (bs s).length := by rw [bs_len]; omega
      have hj0 : 2 * j < (bs s).length := by omega
      have hd1 := List.all_eq_true.1 h4 _ (List.getElem_mem hj0)
      have hd2 := List.all_eq_true.1 h4 _ (List.getElem_mem hj1)
      have e1 : IntKind.wrap .i64 (((2 * j : Nat) : Int) + 1) = ((2 * j + 1 : Nat) : Int) := by rw [wrap_i64 (by omega) (by omega)]; omega
      have e2 : IntKind.wrap .i64 (((2 * j : Nat) : Int) + 2) = ((2 * (j + 1) : Nat) : Int) := by rw [wrap_i64 (by omega) (by omega)]; omega
      have h1 : decide (((2 * j + 1 : Nat) : Int) < (s.size : Int)) = true := decide_eq_true (by omega)
      have ha : app 1 (iz (bcd ((bs s).take (2 * j)))) [((16 * dg (bs s)[2 * j] + dg (bs s)[2 * j + 1] : Nat) : Int)] = some (iz (bcd ((bs s).take (2 * (j + 1))))) := by
        have := app_iz (l := bcd ((bs s).take (2 * j))) (m := [16 * dg (bs s)[2 * j] + dg (bs s)[2 * j + 1]]) (b := 1) (by rw [bcd_len]; simp; omega) (by rw [bcd_len]; simp; omega)
        rw [iz_cons, iz_nil] at this
        rw [this, take2 hj1, bcd_app _ _ _ (by rw [List.length_take, Nat.min_eq_left (by omega)]; omega)]
      simp only [e1, h1, cond_true, eltS_bs (s := s) (i := 2 * j) (by omega), eltS_bs (s := s) (i := 2 * j + 1) (by omega), bnd_some, e2, ref_digit _ ((bs_lt s).get hj0), ref_digit _ ((bs_lt s).get hj1), hd1, hd2, if_true, (pack_two _ (dg_lt _) _ (dg_lt _)).2, ha]
    · have e1 : IntKind.wrap .i64 (((2 * (s.size / 2) : Nat) : Int) + 1) = ((2 * (s.size / 2) + 1 : Nat) : Int) := by rw [wrap_i64 (by omega) (by omega)]; omega
      have h1 : decide (((2 * (s.size / 2) + 1 : Nat) : Int) < (s.size : Int)) = false := decide_eq_false (by omega)
      have : (bs s).take (2 * (s.size / 2)) = bs s := List.take_of_length_le (by rw [bs_len]; omega)
      simp only [e1, h1, cond_false, this]
  · simp only [show ((2 : Int) == 1) = false from rfl, show ((2 : Int) == 2) = true from rfl, cond_false, cond_true]
    have hs := (valid2 h).2.2
    have hL : sixN s.size ≤ 1000 := by unfold sixN; omega
    simp only [six_ref_n (by omega : s.size ≤ 1000000), bnd_some, mkS_iz (b := 1) (n := sixN s.size) (by omega) (by omega)]
    have hgoal : dataF 2 (bs s) = rep (sixN s.size) (num64 (sixes (bs s))) := by show rep (sixN (bs s).length) _ = _; rw [bs_len]
    rw [hgoal]
    refine bnd_loop (fun i => ((i : Int), iz (rep (sixN s.size) (num64 ((sixes (bs s)).take i))))) s.size (iz (rep (sixN s.size) (num64 (sixes (bs s))))) ?_ (fun i hi => ?_) ?_ rfl
    · simp only [List.take_zero, num64]
      congr 2
      unfold rep
      simp [List.map_const']
    · have hi' : i < (bs s).length := by simpa using hi
      have hi6 : i < (sixes (bs s)).length := by simpa [sixes] using hi
      have h1 : decide ((i : Int) < (s.size : Int)) = true := decide_eq_true (by omega)
      have hc := List.all_eq_true.1 hs _ (List.getElem_mem hi')
      have hv : (sixes (bs s))[i] = (bs s)[i] - 32 := by simp [sixes]
      have hv6 := sixes_lt hs _ (List.getElem_mem hi6)
      have hNb := num64_lt ((sixes (bs s)).take i) fun x hx => sixes_lt hs x (List.mem_of_mem_take hx)
      rw [List.length_take, Nat.min_eq_left (by omega)] at hNb
      have hstep := num64_take hi6
      obtain ⟨c, hcd⟩ : ∃ c, (bs s)[i] = c := ⟨_, rfl⟩
      rw [hcd] at hc hv
      simp only [isS, Bool.and_eq_true, decide_eq_true_eq] at hc
      have e1 : IntKind.wrap .i64 ((IntKind.wrap .i64 (c : Int)) - 32) = (((sixes (bs s))[i] : Nat) : Int) := by
        rw [wrap_i64n (by omega), wrap_i64 (by omega) (by omega), hv]
        omega
      generalize hN : num64 ((sixes (bs s)).take i) = N at *
      generalize hv' : (sixes (bs s))[i] = v at *
      simp only [h1, cond_true, eltS_bs hi, bnd_some, hcd, e1, hstep]
      have h64 : (64 : Nat) ^ i = 2 ^ (6 * i) := by rw [show (64 : Nat) = 2 ^ 6 from rfl, ← Nat.pow_mul]
      refine bnd_loop (fun k => (((v / 2 ^ k : Nat) : Int), (k : Int), iz (rep (sixN s.size) (N + v % 2 ^ k * 2 ^ (6 * i))))) 6 (iz (rep (sixN s.size) (N + v * 64 ^ i))) ?_ (fun k hk => ?_) ?_ ?_
      · simp [Nat.mod_one]
      · have g1 : decide ((k : Int) < 6) = true := decide_eq_true (by omega)
        have g2 : ((v / 2 ^ k : Nat) : Int).tmod 2 = ((v / 2 ^ k % 2 : Nat) : Int) := tmod_n _ 2
        have g3 : IntKind.wrap .i64 (((v / 2 ^ k : Nat) : Int).tdiv 2) = ((v / 2 ^ (k + 1) : Nat) : Int) := by
          rw [show (2 : Int) = ((2 : Nat) : Int) from rfl, tdiv_n, Nat.div_div_eq_div_mul, ← Nat.pow_succ, wrap_i64n (Nat.lt_of_le_of_lt (Nat.div_le_self _ _) (by omega))]
        have g4 : IntKind.wrap .i64 ((k : Int) + 1) = ((k + 1 : Nat) : Int) := wrap_succ (n := 6) hk (by omega)
        have hmod : v % 2 ^ (k + 1) = v % 2 ^ k + 2 ^ k * (v / 2 ^ k % 2) := by rw [Nat.pow_succ]; exact Nat.mod_mul ..
        have g5 : IntKind.wrap .i64 ((IntKind.wrap .i64 (6 * (i : Int))) + (k : Int)) = ((6 * i + k : Nat) : Int) := by
          rw [wrap_i64 (x := 6 * (i : Int)) (by omega) (by omega), wrap_i64 (by omega) (by omega)]
          omega
        have hMlt : N + v % 2 ^ k * 2 ^ (6 * i) < 2 ^ (6 * i + k) := by
          have h5 : v % 2 ^ k + 1 ≤ 2 ^ k := Nat.mod_lt _ (Nat.pow_pos (by omega))
          have h6 : (v % 2 ^ k + 1) * 2 ^ (6 * i) ≤ 2 ^ k * 2 ^ (6 * i) := Nat.mul_le_mul_right _ h5
          rw [← Nat.pow_add, Nat.add_mul, Nat.one_mul, Nat.add_comm k] at h6
          rw [h64] at hNb
          omega
        simp only [g1, cond_true, g2, g3, g4]
        rcases Nat.mod_two_eq_zero_or_one (v / 2 ^ k) with hb | hb
        · rw [hb] at hmod
          have g6 : (((0 : Nat) : Int) == 1) = false := rfl
          simp only [hb, g6, cond_false, hmod, Nat.mul_zero, Nat.add_zero]
        · rw [hb] at hmod
          have g6 : (((1 : Nat) : Int) == 1) = true := rfl
          generalize hM : N + v % 2 ^ k * 2 ^ (6 * i) = M at *
          have hM2 : N + v % 2 ^ (k + 1) * 2 ^ (6 * i) = M + 2 ^ (6 * i + k) := by
            rw [hmod, Nat.mul_one, Nat.add_mul, ← Nat.add_assoc, hM, ← Nat.pow_add, Nat.add_comm k]
          have hp2 := pow2 (6 * i + k)
          have hj : (6 * i + k) / 8 < sixN s.size := by unfold sixN; omega
          have hs8 : (6 * i + k) % 8 < 8 := Nat.mod_lt _ (by omega)
          have g7 : IntKind.wrap .i64 (((6 * i + k : Nat) : Int).tdiv 8) = (((6 * i + k) / 8 : Nat) : Int) := by rw [show (8 : Int) = ((8 : Nat) : Int) from rfl, tdiv_n, wrap_i64n (by omega)]
          have g8 : IntKind.wrap .u64 (((6 * i + k : Nat) : Int).tmod 8) = (((6 * i + k) % 8 : Nat) : Int) := by rw [show (8 : Int) = ((8 : Nat) : Int) from rfl, tmod_n, wrap_u64n (by omega)]
          generalize (6 * i + k) / 8 = j at *
          generalize (6 * i + k) % 8 = sh at *
          have hsh : 2 ^ sh < 256 := by
            have : (2 : Nat) ^ sh ≤ 2 ^ 7 := Nat.pow_le_pow_right (by omega) (by omega)
            omega
          have hpp : 0 < 256 ^ j := Nat.pow_pos (by omega)
          have hsum : M + 2 ^ sh * 256 ^ j < 256 ^ (j + 1) := by
            have h7 : 2 ^ sh * 2 ≤ 256 := by
              have : (2 : Nat) ^ sh ≤ 2 ^ 7 := Nat.pow_le_pow_right (by omega) (by omega)
              omega
            have h8 : 2 ^ sh * 2 * 256 ^ j ≤ 256 * 256 ^ j := Nat.mul_le_mul_right _ h7
            rw [hp2, Nat.mul_comm (256 ^ j)] at hMlt
            rw [Nat.pow_succ, Nat.mul_comm (256 ^ j)]
            rw [Nat.mul_assoc, Nat.mul_comm 2, ← Nat.mul_assoc] at h8
            omega
          have hMtop : M < 256 ^ (j + 1) := by omega
          have e5 : elt (iz (rep (sixN s.size) M)) (j : Int) = some ((M / 256 ^ j : Nat) : Int) := by rw [elt_iz (by simpa using hj), rep_top _ hMtop]
          have hx : M / 256 ^ j + 2 ^ sh < 256 := by
            rw [← Nat.add_mul_div_right _ _ hpp, Nat.div_lt_iff_lt_mul hpp]
            rw [Nat.pow_succ, Nat.mul_comm (256 ^ j)] at hsum
            exact hsum
          have e6 : shlM .u8 1 (sh : Int) = some ((2 ^ sh : Nat) : Int) := by
            have := shlM_u8 (a := 1) (s := sh) (by omega) (by omega)
            simpa using this
          have e7 : IntKind.wrap .u8 (((M / 256 ^ j : Nat) : Int) + ((2 ^ sh : Nat) : Int)) = ((M / 256 ^ j + 2 ^ sh : Nat) : Int) := by
            rw [← wrap_u8n hx]
            congr 1
          have e8 : setE (iz (rep (sixN s.size) M)) (j : Int) ((M / 256 ^ j + 2 ^ sh : Nat) : Int) = some (iz (rep (sixN s.size) (M + 2 ^ (6 * i + k)))) := by
            rw [setE_iz (by simpa using hj), rep_set hsum, hp2, Nat.mul_comm (256 ^ j)]
          simp only [hb, g6, cond_true, g5, g7, g8, e5, e6, bnd_some, e7, e8, hM2]
      · have g1 : decide (((6 : Nat) : Int) < 6) = false := rfl
        have : v % 2 ^ 6 = v := Nat.mod_eq_of_lt (by omega)
        simp only [g1, cond_false, this, h64]
      · simp only [wrap_succ hi (by omega : s.size ≤ 140737488355328)]
    · have h1 : decide ((s.size : Int) < (s.size : Int)) = false := decide_eq_false (by omega)
      have h2 : (sixes (bs s)).take s.size = sixes (bs s) := List.take_of_length_le (by simp [sixes])
      simp only [h1, cond_false, h2]
  · simp only [show ((3 : Int) == 1) = false from rfl, show ((3 : Int) == 2) = false from rfl, cond_false]
    exact hcopy _ fun x => rfl
def encF (k : Int) (v : List Nat) : List Nat := (64 * k.toNat + (dataF k v).length) :: dataF k v
theorem head_byte : ∀ k : Nat, k < 4 → ∀ n : Nat, n < 64 → IntKind.wrap .u8 (iOr .i64 (iShl .i64 (k : Int) 6) (n : Int)) = ((64 * k + n : Nat) : Int) ∧ IntKind.wrap .u8 (IntKind.wrap .i64 ((IntKind.wrap .i64 (64 * (k : Int))) + (n : Int))) = ((64 * k + n : Nat) : Int) := by decide +kernel
theorem kind_nat {k : Int} {v : List Nat} (h : validF k v = true) : ∃ n : Nat, n < 4 ∧ k = (n : Int) := by
  rcases valid_kind h with rfl | rfl | rfl | rfl
  · exact ⟨0, by omega, rfl⟩
  · exact ⟨1, by omega, rfl⟩
  · exact ⟨2, by omega, rfl⟩
  · exact ⟨3, by omega, rfl⟩
theorem encF_len {k : Int} {v : List Nat} (h : validF k v = true) : (encF k v).length ≤ 64 := by
  have := dataF_len h
  simp [encF]
  omega
theorem encF_lt {k : Int} {v : List Nat} (h : validF k v = true) (hv : lt256 v) : lt256 (encF k v) := by
  obtain ⟨n, hn, rfl⟩ := kind_nat h
  have := dataF_len h
  exact lt256.cons (by simp; omega) (dataF_lt hv)
theorem encode_prog (f : T_Field) (h : validF f.Kind (bs f.Value) = true) : m_fields_encode f = some (iz (encF f.Kind (bs f.Value))) := by
  unfold m_fields_encode
  rw [data_prog f h, bnd_some]
  have hl := dataF_len h
  obtain ⟨n, hn, hk⟩ := kind_nat h
  unfold encF
  rw [hk] at hl ⊢
  rw [iz_len, (head_byte n hn _ (by omega)).1]
  have := app_iz (l := [64 * n + (dataF (n : Int) (bs f.Value)).length]) (m := dataF (n : Int) (bs f.Value)) (b := 1) (by simp; omega) (by simp; omega)
  rw [iz_cons, iz_nil] at this
  rw [this]
  rfl
theorem Encode_ref (f : T_Field) (h : f.Value.size ≤ 1000000) : m_ref02_Encode f = some (if validF f.Kind (bs f.Value) then (iz (encF f.Kind (bs f.Value)), 0) else ([], 1)) := by
  unfold m_ref02_Encode
  rw [valid_ref f h, bnd_some]
  cases hv : validF f.Kind (bs f.Value)
  · rfl
  · have hl := dataF_len hv
    obtain ⟨n, hn, hk⟩ := kind_nat hv
    simp only [Bool.not_true, cond_false, data_ref f hv, bnd_some, if_true]
    unfold encF
    rw [hk] at hl ⊢
    rw [iz_len, (head_byte n hn _ (by omega)).2]
    have := app_iz (l := [64 * n + (dataF (n : Int) (bs f.Value)).length]) (m := dataF (n : Int) (bs f.Value)) (b := 1) (by simp; omega) (by simp; omega)
    rw [iz_cons, iz_nil] at this
    rw [this]
    rfl
end Go.Proofs.YtelepclajhpnfaaGreatDoor
