/-
  The laws of chapter 29: the example, BankErases, BankTries, BankPieces.
  Conditions: none.
-/
import Derived.Test.YtcjhemblnemhfaaBank3
namespace Go.Proofs.Ytcjhemblnemhfaa
open Go
set_option linter.unusedSimpArgs false
set_option linter.unusedVariables false

def biosN : ByteArray := ⟨#[98, 105, 111, 115]⟩
def meN : ByteArray := ⟨#[109, 101]⟩
def psuN : ByteArray := ⟨#[112, 115, 117]⟩
theorem biosN_ok : nameB biosN = true := by decide +kernel
theorem meN_ok : nameB meN = true := by decide +kernel
theorem psuN_ok : nameB psuN = true := by decide +kernel

/-- Two slots: one that runs, another that does not. -/
def dev (n : ByteArray) (a b : T_Slot) (act run : Int) (t : Bool) : T_Device := ⟨n, ⟨a, b⟩, act, run, t⟩

theorem vd_dev {n : ByteArray} {a b : T_Slot} (ha : goodB a n = true) : VD (dev n a b 0 0 false) := ⟨.inl rfl, .inl rfl, ha, ha, fun h => by cases h⟩
theorem wr_dev {n : ByteArray} {a b : T_Slot} (ha : goodB a n = true) : wrE (dev n a b 0 0 false) = 0 := wr_of (vd_dev ha) rfl rfl

theorem write_dev {n : ByteArray} {a b : T_Slot} {i : T_Image} {k : Int} (ha : goodB a n = true) (hr : rightB i = true) (hn : i.Name = n) (h0 : 0 ≤ k) (h1 : k ≤ (i.Data.length : Int)) :
    writeF (dev n a b 0 0 false) i k = (dev n a ⟨⟨i.Name, i.Version, i.Data.take k.toNat⟩, 0⟩ 0 0 false, 0) := by
  have ho : writeOk (dev n a b 0 0 false) i k = true := by
    simp [writeOk, hr, hn, h0, h1, dev]
  unfold writeF
  rw [wr_dev ha, ho]
  rfl
theorem finish_dev {n : ByteArray} {a b : T_Slot} {s : Int} (ha : goodB a n = true) : finishF (dev n a b 0 0 false) s = bif goodB ⟨b.Image, s⟩ n then (dev n a ⟨b.Image, s⟩ 0 0 false, 0) else (zeroD, 5) := by
  unfold finishF
  rw [wr_dev ha]
  rfl
theorem switch_dev {n : ByteArray} {a b : T_Slot} (ha : goodB a n = true) : switchF (dev n a b 0 0 false) = bif goodB b n then (dev n a b 0 0 true, 0) else (zeroD, 46) := by
  unfold switchF
  rw [wr_dev ha]
  rfl
theorem boot_dev_t {n : ByteArray} {a b : T_Slot} (ha : goodB a n = true) (hb : goodB b n = true) : bootF (dev n a b 0 0 true) = dev n a b 0 1 false := by
  have hv : validB (dev n a b 0 0 true) = true := (valid_iff _).2 ⟨.inl rfl, .inl rfl, ha, ha, fun _ => ⟨rfl, hb⟩⟩
  unfold bootF
  rw [hv]
  rfl
theorem valid_run1 {n : ByteArray} {a b : T_Slot} (ha : goodB a n = true) (hb : goodB b n = true) : validB (dev n a b 0 1 false) = true := (valid_iff _).2 ⟨.inl rfl, .inr rfl, ha, hb, fun h => by cases h⟩
theorem boot_dev_1 {n : ByteArray} {a b : T_Slot} (ha : goodB a n = true) (hb : goodB b n = true) : bootF (dev n a b 0 1 false) = dev n a b 0 0 false := by
  unfold bootF
  rw [valid_run1 ha hb]
  rfl

def bi (v x : Int) : T_Image := ⟨biosN, ⟨v, 0, 0⟩, [x]⟩
theorem bi1 : rightB (bi 1 1) = true := by decide +kernel
theorem bi2 : rightB (bi 2 2) = true := by decide +kernel
theorem good_own {i : T_Image} (h : rightB i = true) : goodB ⟨i, sumF i⟩ i.Name = true := by simp [goodB, wholeB, h]
theorem small_dev {n : ByteArray} {a b : T_Slot} {x y : Int} {t : Bool} (ha : small a.Image) (hb : small b.Image) : smallD (dev n a b x y t) := ⟨ha, hb⟩
theorem small_right {i : T_Image} (h : rightB i = true) : small i := by
  have := (right_spec h).2.2.2
  unfold small
  omega

theorem awake_true : m_law29_awake = some true := by
  unfold m_law29_awake
  have s1 := small_right bi1
  have s2 := small_right bi2
  have g1 : goodB ⟨bi 1 1, sumF (bi 1 1)⟩ biosN = true := good_own bi1
  have g2 : goodB ⟨bi 2 2, sumF (bi 2 2)⟩ biosN = true := good_own bi2
  have n1 : m_bank_New (⟨⟨#[98, 105, 111, 115]⟩, (⟨1, 0, 0⟩ : T_Version), [1]⟩ : T_Image) = some (dev biosN ⟨bi 1 1, sumF (bi 1 1)⟩ zeroSlot 0 0 false, 0) := by
    have := new_prog (i := bi 1 1) s1
    obtain ⟨_, h2, h3⟩ := new_inv bi1
    refine this.trans (congrArg some ?_)
    exact Prod.ext h3 h2
  rw [n1]
  simp only [bnd_some]
  have n2 : m_bank_Write (dev biosN ⟨bi 1 1, sumF (bi 1 1)⟩ zeroSlot 0 0 false) (⟨⟨#[98, 105, 111, 115]⟩, (⟨2, 0, 0⟩ : T_Version), [2]⟩ : T_Image) 1 = some (dev biosN ⟨bi 1 1, sumF (bi 1 1)⟩ ⟨bi 2 2, 0⟩ 0 0 false, 0) :=
    (write_prog (i := bi 2 2) (small_dev s1 zero_small) s2 1).trans (congrArg some (write_dev (i := bi 2 2) g1 bi2 rfl (by omega) (by decide)))
  rw [n2]
  simp only [bnd_some]
  have n3 : m_bundle_Sum (⟨⟨#[98, 105, 111, 115]⟩, (⟨2, 0, 0⟩ : T_Version), [2]⟩ : T_Image) = some (sumF (bi 2 2)) := sum_prog (bi 2 2)
  rw [n3]
  simp only [bnd_some]
  rw [finish_prog (small_dev s1 s2), finish_dev g1, g2]
  simp only [cond_true, bnd_some]
  rw [switch_prog (small_dev s1 s2), switch_dev g1, g2]
  simp only [cond_true, bnd_some]
  rw [boot_prog (small_dev s1 s2), boot_dev_t g1 g2]
  simp only [bnd_some, version_prog]
  rw [boot_prog (small_dev s1 s2), boot_dev_1 g1 g2]
  simp only [bnd_some, version_prog]
  have v1 : versionF (dev biosN ⟨bi 1 1, sumF (bi 1 1)⟩ ⟨bi 2 2, sumF (bi 2 2)⟩ 0 1 false) = ⟨2, 0, 0⟩ := by
    unfold versionF
    rw [valid_run1 g1 g2]
    rfl
  have v2 : versionF (dev biosN ⟨bi 1 1, sumF (bi 1 1)⟩ ⟨bi 2 2, sumF (bi 2 2)⟩ 0 0 false) = ⟨1, 0, 0⟩ := by
    unfold versionF
    rw [(valid_iff _).2 (vd_dev g1)]
    rfl
  rw [v1, v2]
  rfl

end Go.Proofs.Ytcjhemblnemhfaa
