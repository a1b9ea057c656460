/-
  The bytes of a valid field: the program's and the reference's answers are one.
  Conditions: none.
-/
import Derived.Test.YtelepclajhpnfaaGreatDoorFld1
import Derived.Test.YtelepclajhpnfaaGreatDoorPureC
namespace Go.Proofs.YtelepclajhpnfaaGreatDoor
open Go
set_option linter.unusedSimpArgs false
set_option linter.unusedVariables false
def bcd : List Nat → List Nat
  | a :: b :: r => (16 * dg a + dg b) :: bcd r
  | _ => []
theorem bcd_app : ∀ (l : List Nat) (a b : Nat), l.length % 2 = 0 → bcd (l ++ [a, b]) = bcd l ++ [16 * dg a + dg b]
  | [], a, b, _ => rfl
  | [x], a, b, h => by simp at h
  | x :: y :: r, a, b, h => by
    have := bcd_app r a b (by simp at h; omega)
    simp [bcd, this]
theorem bcd_len : ∀ (l : List Nat), (bcd l).length = l.length / 2
  | [] => rfl
  | [x] => by simp [bcd]
  | x :: y :: r => by
    have := bcd_len r
    simp [bcd, this]
    omega
theorem bcd_lt : ∀ (l : List Nat), lt256 (bcd l)
  | [] => lt256.nil
  | [x] => lt256.nil
  | x :: y :: r => lt256.cons (by have := dg_lt x; have := dg_lt y; omega) (bcd_lt r)
theorem take2 {l : List Nat} {j : Nat} (h : 2 * j + 1 < l.length) : l.take (2 * (j + 1)) = l.take (2 * j) ++ [l[2 * j], l[2 * j + 1]] := by
  rw [show 2 * (j + 1) = 2 * j + 1 + 1 by omega, take_succ_get h, take_succ_get (by omega : 2 * j < l.length), List.append_assoc]
  rfl
theorem pack_two : ∀ a : Nat, a < 13 → ∀ b : Nat, b < 13 → IntKind.wrap .u8 (iOr .i64 (iShl .i64 (a : Int) 4) (b : Int)) = ((16 * a + b : Nat) : Int) ∧ IntKind.wrap .u8 (IntKind.wrap .i64 ((IntKind.wrap .i64 (16 * (a : Int))) + (b : Int))) = ((16 * a + b : Nat) : Int) := by decide +kernel
def num64 : List Nat → Nat
  | [] => 0
  | x :: r => x + 64 * num64 r
theorem num64_app (x : Nat) : ∀ l : List Nat, num64 (l ++ [x]) = num64 l + x * 64 ^ l.length
  | [] => by simp [num64]
  | y :: r => by
    simp only [List.cons_append, num64, num64_app x r, List.length_cons, Nat.pow_succ, Nat.mul_add, Nat.add_assoc]
    congr 2
    simp only [Nat.mul_comm, Nat.mul_left_comm]
theorem num64_lt : ∀ l : List Nat, (∀ x ∈ l, x < 64) → num64 l < 64 ^ l.length
  | [], _ => by simp [num64]
  | y :: r, h => by
    have := num64_lt r fun x hx => h x (by simp [hx])
    have := h y (by simp)
    simp only [num64, List.length_cons, Nat.pow_succ]
    omega
theorem num64_take {l : List Nat} {i : Nat} (h : i < l.length) : num64 (l.take (i + 1)) = num64 (l.take i) + l[i] * 64 ^ i := by
  rw [take_succ_get h, num64_app, List.length_take, Nat.min_eq_left (by omega)]
theorem pow64 (i : Nat) : 64 ^ i = 256 ^ (6 * i / 8) * 2 ^ (6 * i % 8) := by
  rw [show (64 : Nat) = 2 ^ 6 from rfl, show (256 : Nat) = 2 ^ 8 from rfl, ← Nat.pow_mul, ← Nat.pow_mul, ← Nat.pow_add]
  congr 1
  omega
theorem pow2 (i : Nat) : 2 ^ i = 256 ^ (i / 8) * 2 ^ (i % 8) := by
  rw [show (256 : Nat) = 2 ^ 8 from rfl, ← Nat.pow_mul, ← Nat.pow_add]
  congr 1
  omega
def sixes (v : List Nat) : List Nat := v.map (· - 32)
theorem sixes_lt {v : List Nat} (h : v.all isS = true) : ∀ x ∈ sixes v, x < 64 := fun x hx => by
  obtain ⟨y, hy, rfl⟩ := List.mem_map.1 hx
  have := List.all_eq_true.1 h y hy
  simp [isS] at this
  omega
def dataF (k : Int) (v : List Nat) : List Nat := if k = 1 then bcd v else if k = 2 then rep (sixN v.length) (num64 (sixes v)) else v
theorem pack_step {N v at_ sh : Nat} (hN : N < 256 ^ at_ * 2 ^ sh) (hv : v < 64) (hs : sh = 0 ∨ sh = 2 ∨ sh = 4 ∨ sh = 6) :
    (N / 256 ^ at_ ||| v * 2 ^ sh % 256) = N / 256 ^ at_ + v * 2 ^ sh % 256 ∧ N + v * 2 ^ sh % 256 * 256 ^ at_ < 256 ^ (at_ + 1) ∧
      N + v * 2 ^ sh % 256 * 256 ^ at_ + v * 2 ^ sh / 256 * 256 ^ (at_ + 1) = N + v * 2 ^ sh * 256 ^ at_ := by
  have hp : 0 < 256 ^ at_ := Nat.pow_pos (by omega)
  have hx : N / 256 ^ at_ < 2 ^ sh := by
    rw [Nat.div_lt_iff_lt_mul hp, Nat.mul_comm]
    exact hN
  have hm : ∃ m, v * 2 ^ sh % 256 = m * 2 ^ sh ∧ m * 2 ^ sh + 2 ^ sh ≤ 256 := by
    rcases hs with rfl | rfl | rfl | rfl
    · exact ⟨v, by omega, by omega⟩
    · exact ⟨v, by omega, by omega⟩
    · exact ⟨v % 16, by omega, by omega⟩
    · exact ⟨v % 4, by omega, by omega⟩
  obtain ⟨m, hm, hm2⟩ := hm
  refine ⟨by rw [hm]; exact or_add hx, ?_, ?_⟩
  · rw [hm, Nat.pow_succ]
    have h1 : m * 2 ^ sh * 256 ^ at_ + 2 ^ sh * 256 ^ at_ ≤ 256 * 256 ^ at_ := by
      rw [← Nat.add_mul]
      exact Nat.mul_le_mul_right _ hm2
    rw [Nat.mul_comm (256 ^ at_) (2 ^ sh)] at hN
    omega
  · rw [Nat.pow_succ, Nat.add_assoc]
    congr 1
    have h2 := Nat.div_add_mod (v * 2 ^ sh) 256
    have h3 : v * 2 ^ sh / 256 * (256 ^ at_ * 256) = v * 2 ^ sh / 256 * 256 * 256 ^ at_ := by
      rw [Nat.mul_comm (256 ^ at_) 256, ← Nat.mul_assoc]
    rw [h3, ← Nat.add_mul]
    congr 1
    omega
theorem num_bound {v : List Nat} (h : v.all isS = true) (i : Nat) (hi : i ≤ v.length) : num64 ((sixes v).take i) < 256 ^ (6 * i / 8) * 2 ^ (6 * i % 8) := by
  rw [← pow64]
  have h1 := num64_lt ((sixes v).take i) fun x hx => sixes_lt h x (List.mem_of_mem_take hx)
  rw [List.length_take, Nat.min_eq_left (by simpa [sixes] using hi)] at h1
  exact h1
theorem pack_prog (s : ByteArray) (h : s.size ≤ 1000000) (hs : (bs s).all isS = true) : m_fields_pack s = some (iz (rep (sixN s.size) (num64 (sixes (bs s))))) := by
  unfold m_fields_pack
  have hL : sixN s.size ≤ 1000000 := by unfold sixN; omega
  simp only [six_prog_n h, bnd_some, mkS_iz (b := 1) (n := sixN s.size) (by omega) (by omega)]
  refine bnd_loop (fun i => ((i : Int), iz (rep (sixN s.size) (num64 ((sixes (bs s)).take i))))) s.size (iz (rep (sixN s.size) (num64 (sixes (bs s))))) ?_ (fun i hi => ?_) ?_ rfl
  · simp only [List.take_zero, num64]
    congr 2
    unfold rep
    simp [List.map_const']
  · have hi' : i < (bs s).length := by simpa using hi
    have hi6 : i < (sixes (bs s)).length := by simpa [sixes] using hi
    have h1 : decide ((i : Int) < (s.size : Int)) = true := by simpa using hi
    have hc := List.all_eq_true.1 hs _ (List.getElem_mem hi')
    have hv : (sixes (bs s))[i] = (bs s)[i] - 32 := by simp [sixes]
    have hv6 := sixes_lt hs _ (List.getElem_mem hi6)
    have hNb := num_bound hs i (by omega)
    have hstep := num64_take hi6
    obtain ⟨c, hcd⟩ : ∃ c, (bs s)[i] = c := ⟨_, rfl⟩
    rw [hcd] at hc hv
    simp only [isS, Bool.and_eq_true, decide_eq_true_eq] at hc
    have e1 : IntKind.wrap .i64 (IntKind.wrap .u8 ((c : Int) - 32)) = (((sixes (bs s))[i] : Nat) : Int) := by
      rw [wrap_u8 (by omega) (by omega), wrap_i64 (by omega) (by omega), hv]
      omega
    have e2 : IntKind.wrap .i64 (6 * (i : Int)) = ((6 * i : Nat) : Int) := by rw [wrap_i64 (by omega) (by omega)]; omega
    have hsh : 6 * i % 8 = 0 ∨ 6 * i % 8 = 2 ∨ 6 * i % 8 = 4 ∨ 6 * i % 8 = 6 := by omega
    generalize hN : num64 ((sixes (bs s)).take i) = N at *
    generalize hv' : (sixes (bs s))[i] = v at *
    generalize hat : 6 * i / 8 = at_ at *
    generalize hsh' : 6 * i % 8 = sh at *
    obtain ⟨p1, p2, p3⟩ := pack_step hNb hv6 hsh
    have hq : v * 2 ^ sh < 65536 := by rcases hsh with rfl | rfl | rfl | rfl <;> omega
    have hatL : at_ < sixN s.size := by unfold sixN; omega
    have e3 : ((6 * i : Nat) : Int).tmod 8 = (sh : Int) := by rw [show (8 : Int) = ((8 : Nat) : Int) from rfl, tmod_n, hsh']
    have e4 : IntKind.wrap .i64 (((6 * i : Nat) : Int).tdiv 8) = (at_ : Int) := by rw [show (8 : Int) = ((8 : Nat) : Int) from rfl, tdiv_n, hat, wrap_i64n (by omega)]
    have hNlt : N < 256 ^ (at_ + 1) := by omega
    have e5 : elt (iz (rep (sixN s.size) N)) (at_ : Int) = some ((N / 256 ^ at_ : Nat) : Int) := by rw [elt_iz (by simpa using hatL), rep_top _ hNlt]
    have hx : N / 256 ^ at_ < 256 := by
      rw [Nat.div_lt_iff_lt_mul (Nat.pow_pos (by omega))]
      rw [Nat.pow_succ] at hNlt
      omega
    have e6 : iOr .u8 ((N / 256 ^ at_ : Nat) : Int) (IntKind.wrap .u8 ((v * 2 ^ sh : Nat) : Int)) = ((N / 256 ^ at_ + v * 2 ^ sh % 256 : Nat) : Int) := by
      rw [wrap_u8_modn, iOr_u8 hx (Nat.mod_lt _ (by omega)), p1]
    have e7 : setE (iz (rep (sixN s.size) N)) (at_ : Int) ((N / 256 ^ at_ + v * 2 ^ sh % 256 : Nat) : Int) = some (iz (rep (sixN s.size) (N + v * 2 ^ sh % 256 * 256 ^ at_))) := by
      rw [setE_iz (by simpa using hatL), rep_set p2]
    simp only [h1, cond_true, eltS_bs hi, bnd_some, hcd, e1, e2, e3, e4, bnd_some, shlM_i64 (a := v) (s := sh) (by omega) (by omega), e5, e6, e7, wrap_succ hi (by omega : s.size ≤ 140737488355328), hstep]
    have hNN : N + v * 64 ^ i = N + v * 2 ^ sh % 256 * 256 ^ at_ + v * 2 ^ sh / 256 * 256 ^ (at_ + 1) := by
      rw [p3, pow64, hat, hsh', Nat.mul_comm (256 ^ at_), Nat.mul_assoc]
    by_cases hbig : v * 2 ^ sh > 255
    · have g1 : decide (((v * 2 ^ sh : Nat) : Int) > 255) = true := decide_eq_true (by omega)
      have hat2 : at_ + 1 < sixN s.size := by
        have : sh = 4 ∨ sh = 6 := by rcases hsh with rfl | rfl | rfl | rfl <;> omega
        unfold sixN
        omega
      have g2 : IntKind.wrap .i64 ((at_ : Int) + 1) = ((at_ + 1 : Nat) : Int) := by rw [wrap_i64 (by omega) (by omega)]; omega
      have hpp : 256 ^ (at_ + 1) < 256 ^ (at_ + 1 + 1) := Nat.pow_lt_pow_right (by omega) (by omega)
      have g3 : elt (iz (rep (sixN s.size) (N + v * 2 ^ sh % 256 * 256 ^ at_))) ((at_ + 1 : Nat) : Int) = some ((0 : Nat) : Int) := by
        rw [elt_iz (by simpa using hat2), rep_top _ (by omega), Nat.div_eq_of_lt p2]
      have g4 : iOr .u8 ((0 : Nat) : Int) (IntKind.wrap .u8 (iShr .i64 ((v * 2 ^ sh : Nat) : Int) 8)) = ((v * 2 ^ sh / 256 : Nat) : Int) := by
        rw [show (8 : Int) = ((8 : Nat) : Int) from rfl, iShr_n (by decide), show 2 ^ 8 = 256 from rfl, wrap_u8n (by omega), iOr_u8 (by omega) (by omega), Nat.zero_or]
      have g5 : setE (iz (rep (sixN s.size) (N + v * 2 ^ sh % 256 * 256 ^ at_))) ((at_ + 1 : Nat) : Int) ((v * 2 ^ sh / 256 : Nat) : Int) = some (iz (rep (sixN s.size) (N + v * 64 ^ i))) := by
        have hr := rep_set (L := sixN s.size) (N := N + v * 2 ^ sh % 256 * 256 ^ at_) (j := at_ + 1) (c := v * 2 ^ sh / 256) (by
          have : v * 2 ^ sh / 256 * 256 ^ (at_ + 1) ≤ 255 * 256 ^ (at_ + 1) := Nat.mul_le_mul_right _ (by omega)
          have e : 256 ^ (at_ + 1 + 1) = 256 ^ (at_ + 1) * 256 := Nat.pow_succ ..
          omega)
        rw [Nat.div_eq_of_lt p2, Nat.zero_add, ← hNN] at hr
        rw [setE_iz (by simpa using hat2), hr]
      simp only [g1, cond_true, g2, g3, g4, g5, bnd_some]
    · have g1 : decide (((v * 2 ^ sh : Nat) : Int) > 255) = false := decide_eq_false (by omega)
      have : v * 2 ^ sh / 256 = 0 := by omega
      rw [this, Nat.zero_mul, Nat.add_zero] at hNN
      simp only [g1, cond_false, hNN]
  · have h1 : decide ((s.size : Int) < (s.size : Int)) = false := by simp
    have h2 : (sixes (bs s)).take s.size = sixes (bs s) := List.take_of_length_le (by simp [sixes])
    simp only [h1, cond_false, h2]
end Go.Proofs.YtelepclajhpnfaaGreatDoor
