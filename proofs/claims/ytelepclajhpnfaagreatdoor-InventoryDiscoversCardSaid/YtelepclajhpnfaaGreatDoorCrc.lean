/-
  The CRC-32 of the program and of the reference are one function.
  Conditions: none.
-/
import Derived.Test.YtelepclajhpnfaaGreatDoorGenInventoryDiscovers
import Derived.Test.YtelepclajhpnfaaGreatDoorPure2
namespace Go.Proofs.YtelepclajhpnfaaGreatDoor
open Go
set_option linter.unusedSimpArgs false
set_option linter.unusedVariables false
def itN {α : Type} (f : α → α) : Nat → α → α
  | 0, x => x
  | n + 1, x => f (itN f n x)
def isU32 (x : Int) : Prop := 0 ≤ x ∧ x ≤ 4294967295
theorem wrap32_range (x : Int) : isU32 (IntKind.wrap .u32 x) := by
  rw [wrap_u32_mod]
  constructor <;> omega
theorem iXor32_range (x y : Int) : isU32 (iXor .u32 x y) := wrap32_range _
def crc1 (c : Int) : Int := iXor .u32 (iShr .u32 c 1) (IntKind.wrap .u32 ((iAnd .u32 c 1) * 3988292384))
def crcX (c x : Int) : Int := itN crc1 8 (iXor .u32 c (IntKind.wrap .u32 x))
def crcAll (l : List Int) : Int := l.foldl crcX 4294967295
theorem crc1_range (c : Int) : isU32 (crc1 c) := iXor32_range _ _
theorem itN_range {c : Int} (h : isU32 c) : ∀ n, isU32 (itN crc1 n c)
  | 0 => h
  | n + 1 => crc1_range _
theorem crcX_range (c x : Int) : isU32 (crcX c x) := itN_range (iXor32_range _ _) 8
theorem crcAll_range (l : List Int) : isU32 (crcAll l) := by
  unfold crcAll
  have : ∀ (l : List Int) (c : Int), isU32 c → isU32 (l.foldl crcX c) := by
    intro l
    induction l with
    | nil => intro c h; exact h
    | cons x r ih => intro c _; exact ih _ (crcX_range c x)
  exact this l _ ⟨by omega, by omega⟩
theorem ofInt32_toNat {x : Int} (h : isU32 x) : (BitVec.ofInt 32 x).toNat = x.toNat := by
  rw [BitVec.toNat_ofInt]
  have := h.1
  have := h.2
  omega
theorem iXor32_zero {x : Int} (h : isU32 x) : iXor .u32 x 0 = x := by
  unfold iXor
  have e : (BitVec.ofInt (IntKind.bits .u32) x ^^^ BitVec.ofInt (IntKind.bits .u32) 0).toNat = x.toNat := by
    show (BitVec.ofInt 32 x ^^^ BitVec.ofInt 32 0).toNat = _
    rw [← ofInt32_toNat h]
    simp
  rw [e, wrap_u32_mod]
  have := h.1
  have := h.2
  omega
theorem iAnd32_one {x : Int} (h : isU32 x) : iAnd .u32 x 1 = x % 2 := by
  unfold iAnd
  have e : (BitVec.ofInt (IntKind.bits .u32) x &&& BitVec.ofInt (IntKind.bits .u32) 1).toNat = x.toNat % 2 := by
    show (BitVec.ofInt 32 x &&& BitVec.ofInt 32 1).toNat = _
    rw [BitVec.toNat_and, ofInt32_toNat h]
    have : (BitVec.ofInt 32 1).toNat = 1 := by decide
    rw [this, Nat.and_one_is_mod]
  rw [e, wrap_u32_mod]
  have := h.1
  have := h.2
  omega
theorem iShr32_one {x : Int} (h : isU32 x) : iShr .u32 x 1 = x / 2 := by
  unfold iShr
  have : (2 : Int) ^ (min (Int.toNat 1) (IntKind.bits .u32)) = 2 := by decide
  rw [this, Int.fdiv_eq_ediv_of_nonneg _ (by omega)]
theorem crc1_ref {c : Int} (h : isU32 c) : crc1 c = bif (c.tmod 2 == 1) then iXor .u32 (IntKind.wrap .u32 (c.tdiv 2)) 3988292384 else IntKind.wrap .u32 (c.tdiv 2) := by
  unfold crc1
  have h0 := h.1
  have h1 := h.2
  have hd : IntKind.wrap .u32 (c.tdiv 2) = c / 2 := by
    rw [Int.tdiv_eq_ediv_of_nonneg h0, wrap_u32 (by omega) (by omega)]
  have hm : c.tmod 2 = c % 2 := Int.tmod_eq_emod_of_nonneg h0
  rw [iShr32_one h, iAnd32_one h, hd, hm]
  rcases Int.emod_two_eq c with h2 | h2
  · rw [h2]
    have : IntKind.wrap .u32 (0 * 3988292384) = 0 := by rw [wrap_u32_mod]; decide
    rw [this, iXor32_zero ⟨by omega, by omega⟩]
    rfl
  · rw [h2]
    have : IntKind.wrap .u32 (1 * 3988292384) = 3988292384 := by rw [wrap_u32_mod]; decide
    rw [this]
    rfl
theorem crc_not {c : Int} (h : isU32 c) : iXor .u32 (if IntKind.signed .u32 then -1 else IntKind.max .u32) c = IntKind.wrap .u32 (4294967295 - c) := by
  have h0 := h.1
  have h1 := h.2
  have em : (if IntKind.signed .u32 then -1 else IntKind.max .u32 : Int) = 4294967295 := by decide
  rw [em]
  unfold iXor
  have e : (BitVec.ofInt (IntKind.bits .u32) 4294967295 ^^^ BitVec.ofInt (IntKind.bits .u32) c).toNat = 4294967295 - c.toNat := by
    show (BitVec.ofInt 32 4294967295 ^^^ BitVec.ofInt 32 c).toNat = _
    have : BitVec.ofInt 32 4294967295 = BitVec.allOnes 32 := by decide
    rw [this, ← BitVec.not_def, BitVec.toNat_not, ofInt32_toNat h]
  rw [e]
  congr 1
  omega
theorem loop_fold {α σ : Type} {m : σ × Int → Option (Step (σ × Int) σ)} (xs : List α) (f : σ → α → σ) (s0 : σ) (hn : xs.length ≤ 140737488355328) (I : σ → Prop) (hI : I s0) (hf : ∀ s x, I s → I (f s x))
    (hs : ∀ (i : Nat) (s : σ) (h : i < xs.length), I s → m (s, (i : Int)) = some (.next (f s xs[i], ((i + 1 : Nat) : Int)))) (hd : ∀ s, m (s, (xs.length : Int)) = some (.done s)) : loopM m (s0, 0) = some (xs.foldl f s0) := by
  have hI2 : ∀ n, I ((xs.take n).foldl f s0) := by
    intro n
    have : ∀ (l : List α) (s : σ), I s → I (l.foldl f s) := by
      intro l
      induction l with
      | nil => intro s h; exact h
      | cons x r ih => intro s h; exact ih _ (hf s x h)
    exact this _ _ hI
  have := loop_run (m := m) (fun i => ((xs.take i).foldl f s0, (i : Int))) xs.length (t := xs.foldl f s0) (fun i hi => ?_) (by simp only [List.take_length]; exact hd _)
  · simpa using this
  · rw [hs i _ hi (hI2 i), take_succ_get hi, List.foldl_append]
    rfl
theorem prog_crc (b : List Int) (hb : b.length ≤ 140737488355328) : m_checksum_CRC32 b = some (IntKind.wrap .u32 (4294967295 - crcAll b)) := by
  unfold m_checksum_CRC32
  rw [loop_fold b crcX 4294967295 hb (fun _ => True) trivial (fun _ _ _ => trivial) (fun i s hi _ => ?_) (fun s => by simp)]
  · simp only [bnd_some]
    exact congrArg some (crc_not (crcAll_range b))
  · have h1 : decide ((i : Int) < (b.length : Int)) = true := by simpa using hi
    simp only [h1, cond_true, elt_lt hi, bnd_some]
    have := loop_run (m := fun (s2 : Int × Int) => bif decide (s2.2 < 8) then (some (.next (iXor .u32 (iShr .u32 s2.1 1) (IntKind.wrap .u32 ((iAnd .u32 s2.1 1) * 3988292384)), IntKind.wrap .i64 (s2.2 + 1)))) else (some (.done s2.1))) (fun k => (itN crc1 k (iXor .u32 s (IntKind.wrap .u32 b[i])), (k : Int))) 8 (t := crcX s b[i]) (fun k hk => by
      have : decide ((k : Int) < 8) = true := by simp; omega
      simp only [this, cond_true]
      rw [wrap_succ (n := 8) hk (by omega)]
      rfl) rfl
    simp only [itN, Int.ofNat_zero] at this
    rw [this]
    simp only [bnd_some]
    rw [wrap_succ hi hb]
theorem ref_crc (b : List Int) (hb : b.length ≤ 140737488355328) : m_ref01_CRC32 b = some (IntKind.wrap .u32 (4294967295 - crcAll b)) := by
  unfold m_ref01_CRC32
  rw [loop_fold b crcX 4294967295 hb (fun _ => True) trivial (fun _ _ _ => trivial) (fun i s hi _ => ?_) (fun s => by simp)]
  · rfl
  · have h1 : decide ((i : Int) < (b.length : Int)) = true := by simpa using hi
    simp only [h1, cond_true, elt_lt hi, bnd_some]
    have := loop_run (m := fun (s2 : Int × Int) => bif decide (s2.2 < 8) then (bif ((s2.1.tmod 2) == 1) then (some (.next (iXor .u32 (IntKind.wrap .u32 (s2.1.tdiv 2)) 3988292384, IntKind.wrap .i64 (s2.2 + 1)))) else (some (.next (IntKind.wrap .u32 (s2.1.tdiv 2), IntKind.wrap .i64 (s2.2 + 1))))) else (some (.done s2.1))) (fun k => (itN crc1 k (iXor .u32 s (IntKind.wrap .u32 b[i])), (k : Int))) 8 (t := crcX s b[i]) (fun k hk => by
      have h2 : decide ((k : Int) < 8) = true := by simp; omega
      simp only [h2, cond_true]
      rw [wrap_succ (n := 8) hk (by omega)]
      have hr : isU32 (itN crc1 k (iXor .u32 s (IntKind.wrap .u32 b[i]))) := itN_range (iXor32_range _ _) k
      show _ = some (Step.next (crc1 (itN crc1 k (iXor .u32 s (IntKind.wrap .u32 b[i]))), _))
      rw [crc1_ref hr]
      cases ((itN crc1 k (iXor .u32 s (IntKind.wrap .u32 b[i]))).tmod 2 == 1) <;> rfl) rfl
    simp only [itN, Int.ofNat_zero] at this
    rw [this]
    simp only [bnd_some]
    rw [wrap_succ hi hb]
end Go.Proofs.YtelepclajhpnfaaGreatDoor
