/-
  Bits of numbers that are not negative.
  Conditions: none.
-/
import Derived.Test.YthdpagcklakahaaPureB
namespace Go.Proofs.Ythdpagcklakahaa
open Go
set_option linter.unusedSimpArgs false
set_option linter.unusedVariables false

theorem ofNat_toNat {w a : Nat} (h : a < 2 ^ w) : (BitVec.ofInt w (a : Int)).toNat = a := by
  rw [BitVec.toNat_ofInt]
  have : ((a : Int) % ((2 ^ w : Nat) : Int)) = ((a % 2 ^ w : Nat) : Int) := by omega
  rw [this, Nat.mod_eq_of_lt h]
  rfl

theorem wrap_u8n {n : Nat} (h : n < 256) : IntKind.wrap .u8 (n : Int) = (n : Int) := wrap_u8 (by omega) (by omega)
theorem wrap_i64n {n : Nat} (h : n < 9223372036854775808) : IntKind.wrap .i64 (n : Int) = (n : Int) := wrap_i64 (by omega) (by omega)
theorem wrap_u64n {n : Nat} (h : n < 18446744073709551616) : IntKind.wrap .u64 (n : Int) = (n : Int) := wrap_u64 (by omega) (by omega)
theorem wrap_u8_modn (n : Nat) : IntKind.wrap .u8 (n : Int) = ((n % 256 : Nat) : Int) := by rw [wrap_u8_mod]; omega
theorem iOr_u8 {a b : Nat} (ha : a < 256) (hb : b < 256) : iOr .u8 (a : Int) (b : Int) = ((a ||| b : Nat) : Int) := by
  unfold iOr
  rw [BitVec.toNat_or, ofNat_toNat (by exact ha), ofNat_toNat (by exact hb), wrap_u8n (Nat.or_lt_two_pow (n := 8) ha hb)]
theorem iOr_i64 {a b : Nat} (ha : a < 4611686018427387904) (hb : b < 4611686018427387904) : iOr .i64 (a : Int) (b : Int) = ((a ||| b : Nat) : Int) := by
  unfold iOr
  have := Nat.or_lt_two_pow (x := a) (y := b) (n := 62) ha hb
  rw [BitVec.toNat_or, ofNat_toNat (by show a < 2 ^ 64; omega), ofNat_toNat (by show b < 2 ^ 64; omega), wrap_i64n (by omega)]
theorem iAnd_u8 {a b : Nat} (ha : a < 256) (hb : b < 256) : iAnd .u8 (a : Int) (b : Int) = ((a &&& b : Nat) : Int) := by
  unfold iAnd
  rw [BitVec.toNat_and, ofNat_toNat (by exact ha), ofNat_toNat (by exact hb), wrap_u8n (Nat.and_lt_two_pow (n := 8) a hb)]
theorem iShl_i64 {a s : Nat} (hs : s ≤ 64) (h : a * 2 ^ s < 9223372036854775808) : iShl .i64 (a : Int) (s : Int) = ((a * 2 ^ s : Nat) : Int) := by
  unfold iShl
  have : min (s : Int).toNat (IntKind.bits .i64) = s := by show min (s : Int).toNat 64 = s; omega
  rw [this]
  have e : ((a : Int) * 2 ^ s) = ((a * 2 ^ s : Nat) : Int) := by simp
  rw [e, wrap_i64n h]
theorem iShr_n {k : IntKind} {a s : Nat} (hs : s ≤ k.bits) : iShr k (a : Int) (s : Int) = ((a / 2 ^ s : Nat) : Int) := by
  unfold iShr
  have : min (s : Int).toNat k.bits = s := by omega
  rw [this, Int.fdiv_eq_ediv_of_nonneg _ (by exact Int.le_of_lt (Int.pow_pos (by omega)))]
  simp
/-- Bits that do not meet add up. -/
theorem or_add {a b s : Nat} (h : a < 2 ^ s) : a ||| b * 2 ^ s = a + b * 2 ^ s := by
  rw [Nat.or_comm, Nat.add_comm, Nat.mul_comm b]
  exact (Nat.two_pow_add_eq_or_of_lt h b).symm
theorem tdiv_n (a b : Nat) : ((a : Nat) : Int).tdiv (b : Int) = ((a / b : Nat) : Int) := by
  rw [Int.tdiv_eq_ediv_of_nonneg (by omega)]
  exact (Int.natCast_ediv a b).symm
/-! ## Numbers as bytes, the least significant one first -/

def rep (L N : Nat) : List Nat := (List.range L).map fun j => N / 256 ^ j % 256
@[simp] theorem rep_len (L N : Nat) : (rep L N).length = L := by simp [rep]
theorem rep_lt (L N : Nat) : lt256 (rep L N) := fun x hx => by
  obtain ⟨j, _, rfl⟩ := List.mem_map.1 hx
  exact Nat.mod_lt _ (by omega)
end Go.Proofs.Ythdpagcklakahaa
