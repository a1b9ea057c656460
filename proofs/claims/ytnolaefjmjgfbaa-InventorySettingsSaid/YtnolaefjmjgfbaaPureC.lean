/-
  Bits of numbers that are not negative.
  Conditions: none.
-/
import Derived.Test.YtnolaefjmjgfbaaPureB
namespace Go.Proofs.Ytnolaefjmjgfbaa
open Go
set_option linter.unusedSimpArgs false
set_option linter.unusedVariables false

theorem ofNat_toNat {w a : Nat} (h : a < 2 ^ w) : (BitVec.ofInt w (a : Int)).toNat = a := by
  rw [BitVec.toNat_ofInt]
  have : ((a : Int) % ((2 ^ w : Nat) : Int)) = ((a % 2 ^ w : Nat) : Int) := by omega
  rw [this, Nat.mod_eq_of_lt h]
  rfl

theorem wrap_u8n {n : Nat} (h : n < 256) : IntKind.wrap .u8 (n : Int) = (n : Int) := wrap_u8 (by omega) (by omega)
theorem wrap_i64n {n : Nat} (h : n < 9223372036854775808) : IntKind.wrap .i64 (n : Int) = (n : Int) := wrap_i64 (by omega) (by omega)
theorem wrap_u64n {n : Nat} (h : n < 18446744073709551616) : IntKind.wrap .u64 (n : Int) = (n : Int) := wrap_u64 (by omega) (by omega)
theorem wrap_u32n {n : Nat} (h : n < 4294967296) : IntKind.wrap .u32 (n : Int) = (n : Int) := wrap_u32 (by omega) (by omega)
theorem wrap_u16n {n : Nat} (h : n < 65536) : IntKind.wrap .u16 (n : Int) = (n : Int) := wrap_u16 (by omega) (by omega)
theorem wrap_u8_modn (n : Nat) : IntKind.wrap .u8 (n : Int) = ((n % 256 : Nat) : Int) := by rw [wrap_u8_mod]; omega
theorem wrap_u32_modn (n : Nat) : IntKind.wrap .u32 (n : Int) = ((n % 4294967296 : Nat) : Int) := by rw [wrap_u32_mod]; omega

theorem iOr_u8 {a b : Nat} (ha : a < 256) (hb : b < 256) : iOr .u8 (a : Int) (b : Int) = ((a ||| b : Nat) : Int) := by
  unfold iOr
  rw [BitVec.toNat_or, ofNat_toNat (by exact ha), ofNat_toNat (by exact hb), wrap_u8n (Nat.or_lt_two_pow (n := 8) ha hb)]
theorem iOr_i64 {a b : Nat} (ha : a < 4611686018427387904) (hb : b < 4611686018427387904) : iOr .i64 (a : Int) (b : Int) = ((a ||| b : Nat) : Int) := by
  unfold iOr
  have := Nat.or_lt_two_pow (x := a) (y := b) (n := 62) ha hb
  rw [BitVec.toNat_or, ofNat_toNat (by show a < 2 ^ 64; omega), ofNat_toNat (by show b < 2 ^ 64; omega), wrap_i64n (by omega)]
theorem iOr_u32 {a b : Nat} (ha : a < 4294967296) (hb : b < 4294967296) : iOr .u32 (a : Int) (b : Int) = ((a ||| b : Nat) : Int) := by
  unfold iOr
  rw [BitVec.toNat_or, ofNat_toNat (by exact ha), ofNat_toNat (by exact hb), wrap_u32n (Nat.or_lt_two_pow (n := 32) ha hb)]
theorem iAnd_u8 {a b : Nat} (ha : a < 256) (hb : b < 256) : iAnd .u8 (a : Int) (b : Int) = ((a &&& b : Nat) : Int) := by
  unfold iAnd
  rw [BitVec.toNat_and, ofNat_toNat (by exact ha), ofNat_toNat (by exact hb), wrap_u8n (Nat.and_lt_two_pow (n := 8) a hb)]
theorem iAnd_i64 {a b : Nat} (ha : a < 4611686018427387904) (hb : b < 4611686018427387904) : iAnd .i64 (a : Int) (b : Int) = ((a &&& b : Nat) : Int) := by
  unfold iAnd
  have := Nat.and_lt_two_pow (n := 62) a (y := b) hb
  rw [BitVec.toNat_and, ofNat_toNat (by show a < 2 ^ 64; omega), ofNat_toNat (by show b < 2 ^ 64; omega), wrap_i64n (by omega)]
theorem iXor_u8 {a b : Nat} (ha : a < 256) (hb : b < 256) : iXor .u8 (a : Int) (b : Int) = ((a ^^^ b : Nat) : Int) := by
  unfold iXor
  rw [BitVec.toNat_xor, ofNat_toNat (by exact ha), ofNat_toNat (by exact hb), wrap_u8n (Nat.xor_lt_two_pow (n := 8) ha hb)]

theorem iShl_i64 {a s : Nat} (hs : s ≤ 64) (h : a * 2 ^ s < 9223372036854775808) : iShl .i64 (a : Int) (s : Int) = ((a * 2 ^ s : Nat) : Int) := by
  unfold iShl
  have : min (s : Int).toNat (IntKind.bits .i64) = s := by show min (s : Int).toNat 64 = s; omega
  rw [this]
  have e : ((a : Int) * 2 ^ s) = ((a * 2 ^ s : Nat) : Int) := by simp
  rw [e, wrap_i64n h]
theorem iShl_u8 {a s : Nat} (hs : s ≤ 8) (h : a * 2 ^ s < 256) : iShl .u8 (a : Int) (s : Int) = ((a * 2 ^ s : Nat) : Int) := by
  unfold iShl
  have : min (s : Int).toNat (IntKind.bits .u8) = s := by show min (s : Int).toNat 8 = s; omega
  rw [this]
  have e : ((a : Int) * 2 ^ s) = ((a * 2 ^ s : Nat) : Int) := by simp
  rw [e, wrap_u8n h]
theorem iShr_n {k : IntKind} {a s : Nat} (hs : s ≤ k.bits) : iShr k (a : Int) (s : Int) = ((a / 2 ^ s : Nat) : Int) := by
  unfold iShr
  have : min (s : Int).toNat k.bits = s := by omega
  rw [this, Int.fdiv_eq_ediv_of_nonneg _ (by exact Int.le_of_lt (Int.pow_pos (by omega)))]
  simp
theorem shlM_i64 {a s : Nat} (hs : s ≤ 64) (h : a * 2 ^ s < 9223372036854775808) : shlM .i64 (a : Int) (s : Int) = some ((a * 2 ^ s : Nat) : Int) := by
  unfold shlM
  rw [if_neg (by omega), iShl_i64 hs h]
theorem shlM_u8 {a s : Nat} (hs : s ≤ 8) (h : a * 2 ^ s < 256) : shlM .u8 (a : Int) (s : Int) = some ((a * 2 ^ s : Nat) : Int) := by
  unfold shlM
  rw [if_neg (by omega), iShl_u8 hs h]
theorem shrM_n {k : IntKind} {a s : Nat} (hs : s ≤ k.bits) : shrM k (a : Int) (s : Int) = some ((a / 2 ^ s : Nat) : Int) := by
  unfold shrM
  rw [if_neg (by omega), iShr_n hs]

/-- Bits that do not meet add up. -/
theorem or_add {a b s : Nat} (h : a < 2 ^ s) : a ||| b * 2 ^ s = a + b * 2 ^ s := by
  rw [Nat.or_comm, Nat.add_comm, Nat.mul_comm b]
  exact (Nat.two_pow_add_eq_or_of_lt h b).symm
theorem or_add' {a b s : Nat} (h : b < 2 ^ s) : a * 2 ^ s ||| b = a * 2 ^ s + b := by
  rw [Nat.mul_comm a]
  exact (Nat.two_pow_add_eq_or_of_lt h a).symm

theorem tmod_n (a b : Nat) : ((a : Nat) : Int).tmod (b : Int) = ((a % b : Nat) : Int) := by
  rw [Int.tmod_eq_emod_of_nonneg (by omega)]
  omega
theorem tdiv_n (a b : Nat) : ((a : Nat) : Int).tdiv (b : Int) = ((a / b : Nat) : Int) := by
  rw [Int.tdiv_eq_ediv_of_nonneg (by omega)]
  exact (Int.natCast_ediv a b).symm
theorem remM_n {a b : Nat} (h : 0 < b) : remM (a : Int) (b : Int) = some ((a % b : Nat) : Int) := by
  unfold remM
  rw [if_neg (by omega), tmod_n]

/-! ## Numbers as bytes, the least significant one first -/

def rep (L N : Nat) : List Nat := (List.range L).map fun j => N / 256 ^ j % 256
@[simp] theorem rep_len (L N : Nat) : (rep L N).length = L := by simp [rep]
theorem rep_lt (L N : Nat) : lt256 (rep L N) := fun x hx => by
  obtain ⟨j, _, rfl⟩ := List.mem_map.1 hx
  exact Nat.mod_lt _ (by omega)
theorem rep_get {L N j : Nat} (h : j < (rep L N).length) : (rep L N)[j] = N / 256 ^ j % 256 := by simp [rep]
theorem rep_top {L N j : Nat} (h : j < (rep L N).length) (hN : N < 256 ^ (j + 1)) : (rep L N)[j] = N / 256 ^ j := by
  rw [rep_get]
  apply Nat.mod_eq_of_lt
  rw [Nat.div_lt_iff_lt_mul (Nat.pow_pos (by omega)), Nat.mul_comm, ← Nat.pow_succ]
  exact hN

theorem rep_set {L N j c : Nat} (hN : N + c * 256 ^ j < 256 ^ (j + 1)) : (rep L N).set j (N / 256 ^ j + c) = rep L (N + c * 256 ^ j) := by
  have hp : 0 < 256 ^ j := Nat.pow_pos (by omega)
  apply List.ext_getElem
  · simp
  intro i h1 h2
  simp only [List.length_set, rep_len] at h1
  rw [List.getElem_set, rep_get, rep_get]
  split
  · rename_i e
    subst e
    rw [Nat.add_mul_div_right _ _ hp]
    refine (Nat.mod_eq_of_lt ?_).symm
    have := (Nat.div_lt_iff_lt_mul (x := N + c * 256 ^ j) (y := 256) hp).2 (by rw [Nat.pow_succ] at hN; omega)
    rw [Nat.add_mul_div_right _ _ hp] at this
    exact this
  · rename_i e
    rcases Nat.lt_or_ge i j with hij | hij
    · obtain ⟨k, rfl⟩ : ∃ k, j = i + 1 + k := ⟨j - i - 1, by omega⟩
      have : c * 256 ^ (i + 1 + k) = (c * 256 ^ k * 256) * 256 ^ i := by
        rw [Nat.pow_add, Nat.pow_succ]
        simp only [Nat.mul_assoc, Nat.mul_comm, Nat.mul_left_comm]
      rw [this, Nat.add_mul_div_right _ _ (Nat.pow_pos (by omega)), Nat.add_mul_mod_self_right]
    · have hlt : 256 ^ (j + 1) ≤ 256 ^ i := Nat.pow_le_pow_right (by omega) (by omega)
      rw [Nat.div_eq_of_lt (by omega), Nat.div_eq_of_lt (by omega)]

theorem app2 {l : List Nat} (h : l.length ≤ 1000000) (x : Nat) : app 1 (iz l) [((x : Nat) : Int)] = some (iz (l ++ [x])) := by
  have := app_iz (l := l) (m := [x]) (b := 1) (by simp; omega) (by simp; omega)
  rw [iz_cons, iz_nil] at this
  exact this
theorem app3 {l : List Nat} (h : l.length ≤ 1000000) (x y : Nat) : app 1 (iz l) [((x : Nat) : Int), ((y : Nat) : Int)] = some (iz (l ++ [x, y])) := by
  have := app_iz (l := l) (m := [x, y]) (b := 1) (by simp; omega) (by simp; omega)
  rw [iz_cons, iz_cons, iz_nil] at this
  exact this

end Go.Proofs.Ytnolaefjmjgfbaa
