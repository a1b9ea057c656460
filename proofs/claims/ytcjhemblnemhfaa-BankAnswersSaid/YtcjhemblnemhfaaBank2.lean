/-
  Devices: the program's and the reference's functions are one.
  Conditions: none.
-/
import Derived.Test.YtcjhemblnemhfaaBank1
namespace Go.Proofs.Ytcjhemblnemhfaa
open Go
set_option linter.unusedSimpArgs false
set_option linter.unusedVariables false

def bit (k : Int) : Prop := k = 0 ∨ k = 1
instance (k : Int) : Decidable (bit k) := by unfold bit; infer_instance

def pickS (a : Arr2 T_Slot) (k : Int) : T_Slot := if k = 0 then a.e0 else a.e1
def setS (a : Arr2 T_Slot) (k : Int) (y : T_Slot) : Arr2 T_Slot := if k = 0 then ⟨y, a.e1⟩ else ⟨a.e0, y⟩
def zeroI : T_Image := ⟨⟨#[]⟩, ⟨0, 0, 0⟩, []⟩
def zeroSlot : T_Slot := ⟨zeroI, 0⟩
def zeroD : T_Device := ⟨⟨#[]⟩, ⟨zeroSlot, zeroSlot⟩, 0, 0, false⟩

theorem elt2 (a : Arr2 T_Slot) {k : Int} (h : bit k) : elt [a.e0, a.e1] k = some (pickS a k) := by
  rcases h with rfl | rfl <;> rfl
theorem set2 (a : Arr2 T_Slot) (y : T_Slot) {k : Int} (h : bit k) : Arr2.set a k y = some (setS a k y) := by
  rcases h with rfl | rfl <;> rfl
theorem flip {k : Int} (h : bit k) : IntKind.wrap .i64 (1 - k) = 1 - k := by
  rcases h with rfl | rfl <;> exact wrap_i64 (by omega) (by omega)
theorem bit_flip {k : Int} (h : bit k) : bit (1 - k) := by rcases h with rfl | rfl <;> simp [bit]
theorem pick_set {a : Arr2 T_Slot} {y : T_Slot} {k : Int} : pickS (setS a k y) k = y := by
  unfold pickS setS; by_cases h : k = 0 <;> simp [h]
theorem pick_set_ne {a : Arr2 T_Slot} {y : T_Slot} {k j : Int} (hk : bit k) (hj : bit j) (h : j ≠ k) : pickS (setS a k y) j = pickS a j := by
  rcases hk with rfl | rfl <;> rcases hj with rfl | rfl <;> simp_all [pickS, setS]

def validB (d : T_Device) : Bool :=
  decide (bit d.Active) && (decide (bit d.Running) && (goodB (pickS d.Slots d.Active) d.Name && (goodB (pickS d.Slots d.Running) d.Name && (!d.Trial || (decide (d.Running = d.Active) && goodB (pickS d.Slots (1 - d.Active)) d.Name)))))

theorem bit_cases (k : Int) : k < 0 ∨ bit k ∨ k > 1 := by unfold bit; omega

theorem prog_dvalid (d : T_Device) : m_bank_Valid d = some (validB d) := by
  unfold m_bank_Valid validB m_bank_other
  simp only [own_prog, bnd_some]
  rcases bit_cases d.Active with h | h | h
  · have h1 : ¬ bit d.Active := by unfold bit; omega
    simp [h, h1]
  · have g1 : decide (d.Active < 0) = false := by rcases h with h | h <;> rw [h] <;> rfl
    have g2 : decide (d.Active > 1) = false := by rcases h with h | h <;> rw [h] <;> rfl
    simp only [g1, g2, cond_false, h, decide_true, Bool.true_and, elt2 _ h, bnd_some]
    rcases bit_cases d.Running with k | k | k
    · have k1 : ¬ bit d.Running := by unfold bit; omega
      simp [k, k1]
    · have k1 : decide (d.Running < 0) = false := by rcases k with k | k <;> rw [k] <;> rfl
      have k2 : decide (d.Running > 1) = false := by rcases k with k | k <;> rw [k] <;> rfl
      simp only [k1, k2, cond_false, k, decide_true, Bool.true_and, elt2 _ k, bnd_some, flip k, elt2 _ (bit_flip k)]
      have e : (d.Running == d.Active) = decide (d.Running = d.Active) := rfl
      rw [e]
      by_cases hra : d.Running = d.Active
      · simp only [hra, decide_true, cond_true]
        cases goodB (pickS d.Slots d.Active) d.Name <;> cases goodB (pickS d.Slots (1 - d.Active)) d.Name <;> cases d.Trial <;> rfl
      · simp only [hra, decide_false, cond_false]
        cases goodB (pickS d.Slots d.Active) d.Name <;> cases goodB (pickS d.Slots d.Running) d.Name <;> cases d.Trial <;> rfl
    · have k1 : ¬ bit d.Running := by unfold bit; omega
      have k2 : decide (d.Running < 0) = false := by simp; omega
      simp [k, k1, k2]
  · have h1 : ¬ bit d.Active := by unfold bit; omega
    have h2 : decide (d.Active < 0) = false := by simp; omega
    simp [h, h1, h2]

theorem bit_ref (k : Int) : m_ref29_bit k = some (decide (bit k)) := by
  unfold m_ref29_bit bit
  by_cases h0 : k = 0
  · subst h0; rfl
  · by_cases h1 : k = 1
    · subst h1; rfl
    · have e0 : (k == 0) = false := by simpa using h0
      have e1 : (k == 1) = false := by simpa using h1
      simp [e0, e1, h0, h1]

theorem good_name {s : T_Slot} {n : ByteArray} (h : nameB n = false) : goodB s n = false := by
  cases hg : goodB s n
  · rfl
  · obtain ⟨h1, _, h3⟩ := good_spec hg
    have := (right_spec h1).1
    rw [h3, h] at this
    cases this

theorem ref_dvalid (d : T_Device) : m_ref29_Valid d = some (validB d) := by
  unfold m_ref29_Valid validB
  simp only [good_ref, name_ref, bit_ref, bnd_some]
  cases hn : nameB d.Name
  · simp [good_name hn]
  by_cases h : bit d.Active
  · by_cases k : bit d.Running
    · simp only [h, k, decide_true, Bool.not_true, cond_false, elt2 _ h, elt2 _ k, bnd_some, flip h, elt2 _ (bit_flip h), Bool.true_and]
      have e : (d.Running == d.Active) = decide (d.Running = d.Active) := rfl
      rw [e]
      cases goodB (pickS d.Slots d.Active) d.Name <;> cases goodB (pickS d.Slots d.Running) d.Name <;> cases goodB (pickS d.Slots (1 - d.Active)) d.Name <;> cases d.Trial <;> cases decide (d.Running = d.Active) <;> rfl
    · simp [h, k]
  · simp [h]

structure VD (d : T_Device) : Prop where
  ba : bit d.Active
  br : bit d.Running
  ga : goodB (pickS d.Slots d.Active) d.Name = true
  gr : goodB (pickS d.Slots d.Running) d.Name = true
  tr : d.Trial = true → d.Running = d.Active ∧ goodB (pickS d.Slots (1 - d.Active)) d.Name = true

theorem valid_iff (d : T_Device) : validB d = true ↔ VD d := by
  unfold validB
  simp only [Bool.and_eq_true, decide_eq_true_eq, Bool.or_eq_true, Bool.not_eq_true']
  constructor
  · rintro ⟨h1, h2, h3, h4, h5⟩
    exact ⟨h1, h2, h3, h4, fun ht => by rcases h5 with h5 | h5 <;> simp_all⟩
  · rintro ⟨h1, h2, h3, h4, h5⟩
    refine ⟨h1, h2, h3, h4, ?_⟩
    cases ht : d.Trial
    · exact .inl rfl
    · exact .inr (h5 ht)

def wrE (d : T_Device) : Int := bif validB d then (bif (d.Running != d.Active) then 46 else bif d.Trial then 46 else 0) else 1

theorem prog_wr (d : T_Device) : m_bank_writable d = some (wrE d) := by
  unfold m_bank_writable wrE
  simp only [prog_dvalid, bnd_some]
  cases validB d <;> cases (d.Running != d.Active) <;> cases d.Trial <;> rfl
theorem ref_wr (d : T_Device) : m_ref29_settled d = some (wrE d) := by
  unfold m_ref29_settled wrE
  simp only [ref_dvalid, bnd_some]
  cases validB d <;> cases (d.Running != d.Active) <;> cases d.Trial <;> rfl

theorem wr_zero {d : T_Device} (h : wrE d = 0) : VD d ∧ d.Running = d.Active ∧ d.Trial = false := by
  unfold wrE at h
  cases hv : validB d
  · simp [hv] at h
  · simp only [hv, cond_true] at h
    cases hr : (d.Running != d.Active)
    · simp only [hr, cond_false] at h
      cases ht : d.Trial
      · exact ⟨(valid_iff d).1 hv, by simpa using hr, rfl⟩
      · simp [ht] at h
    · simp [hr] at h
theorem wr_of {d : T_Device} (h : VD d) (hr : d.Running = d.Active) (ht : d.Trial = false) : wrE d = 0 := by
  unfold wrE
  rw [(valid_iff d).2 h, hr, ht]
  simp
theorem wr_ne {d : T_Device} (h : VD d) (hn : ¬ (d.Running = d.Active ∧ d.Trial = false)) : wrE d = 46 := by
  unfold wrE
  rw [(valid_iff d).2 h]
  by_cases hr : d.Running = d.Active
  · have ht : d.Trial = true := by cases h' : d.Trial; exact absurd ⟨hr, h'⟩ hn; rfl
    simp [hr, ht]
  · have e : (d.Running != d.Active) = true := by simpa using hr
    rw [e]
    rfl

def small (i : T_Image) : Prop := i.Data.length ≤ 1000
def smallD (d : T_Device) : Prop := small d.Slots.e0.Image ∧ small d.Slots.e1.Image
theorem small_pick {d : T_Device} (h : smallD d) (k : Int) : small (pickS d.Slots k).Image := by
  unfold pickS
  split
  · exact h.1
  · exact h.2
theorem smallD_set {d : T_Device} (h : smallD d) {k : Int} {y : T_Slot} (hy : small y.Image) : small (setS d.Slots k y).e0.Image ∧ small (setS d.Slots k y).e1.Image := by
  unfold setS
  split
  · exact ⟨hy, h.2⟩
  · exact ⟨h.1, hy⟩

theorem image_prog {i : T_Image} (h : small i) : m_bank_image i = some i := by
  unfold m_bank_image m_slices_Clone__byte_byte
  unfold small at h
  rw [app1 (by simp; omega)]
  rfl
theorem image_ref {i : T_Image} (h : small i) : m_ref29_Image i = some i := by
  unfold m_ref29_Image
  unfold small at h
  rw [app1 (by simp; omega)]
  rfl
theorem copied_prog {d : T_Device} (h : smallD d) : m_bank_copied d = some d := by
  unfold m_bank_copied
  rw [image_prog h.1]
  simp only [bnd_some]
  rw [image_prog h.2]
  rfl
theorem copy_ref {d : T_Device} (h : smallD d) : m_ref29_Copy d = some d := by
  unfold m_ref29_Copy
  rw [image_ref h.1]
  simp only [bnd_some]
  rw [image_ref h.2]
  rfl

def eraseF (d : T_Device) : T_Device × Int := bif (wrE d != 0) then (zeroD, wrE d) else (⟨d.Name, setS d.Slots (1 - d.Running) zeroSlot, d.Active, d.Running, d.Trial⟩, 0)
def writeOk (d : T_Device) (i : T_Image) (n : Int) : Bool := rightB i && (decide (i.Name = d.Name) && (decide (0 ≤ n) && decide (n ≤ (i.Data.length : Int))))
def writeF (d : T_Device) (i : T_Image) (n : Int) : T_Device × Int :=
  bif (wrE d != 0) then (zeroD, wrE d) else bif writeOk d i n then (⟨d.Name, setS d.Slots (1 - d.Running) ⟨⟨i.Name, i.Version, i.Data.take n.toNat⟩, 0⟩, d.Active, d.Running, d.Trial⟩, 0) else (zeroD, 2)
def finishF (d : T_Device) (s : Int) : T_Device × Int :=
  bif (wrE d != 0) then (zeroD, wrE d) else bif goodB ⟨(pickS d.Slots (1 - d.Running)).Image, s⟩ d.Name then (⟨d.Name, setS d.Slots (1 - d.Running) ⟨(pickS d.Slots (1 - d.Running)).Image, s⟩, d.Active, d.Running, d.Trial⟩, 0) else (zeroD, 5)
def switchF (d : T_Device) : T_Device × Int :=
  bif (wrE d != 0) then (zeroD, wrE d) else bif goodB (pickS d.Slots (1 - d.Running)) d.Name then (⟨d.Name, d.Slots, d.Active, d.Running, true⟩, 0) else (zeroD, 46)
def bootF (d : T_Device) : T_Device := bif validB d then (bif d.Trial then ⟨d.Name, d.Slots, d.Active, 1 - d.Active, false⟩ else ⟨d.Name, d.Slots, d.Active, d.Active, d.Trial⟩) else zeroD
def confirmF (d : T_Device) : T_Device × Int := bif validB d then (bif d.Trial then (zeroD, 46) else (⟨d.Name, d.Slots, d.Running, d.Running, d.Trial⟩, 0)) else (zeroD, 1)
def versionF (d : T_Device) : T_Version := bif validB d then (pickS d.Slots d.Running).Image.Version else ⟨0, 0, 0⟩
def spoilF (d : T_Device) (i : T_Image) (s : Int) : T_Device := bif (wrE d == 0) then bootF ⟨d.Name, setS d.Slots (1 - d.Running) ⟨i, s⟩, d.Active, d.Running, d.Trial⟩ else bootF d
def newF (i : T_Image) : T_Device × Int := bif rightB i then (⟨i.Name, ⟨⟨i, sumF i⟩, zeroSlot⟩, 0, 0, false⟩, 0) else (zeroD, 1)

theorem new_prog {i : T_Image} (h : small i) : m_bank_New i = some (newF i) := by
  unfold m_bank_New newF
  simp only [right_prog, image_prog h, sum_prog, bnd_some]
  cases rightB i <;> rfl
theorem new_ref {i : T_Image} (h : small i) : m_ref29_New i = some (newF i) := by
  unfold m_ref29_New newF
  simp only [right_ref, image_ref h, sum_ref, bnd_some]
  cases rightB i <;> rfl

theorem other_prog {d : T_Device} (h : bit d.Running) : m_bank_other d = some (1 - d.Running) := by
  unfold m_bank_other
  rw [flip h, elt2 _ (bit_flip h)]
  rfl

theorem erase_prog {d : T_Device} (h : smallD d) : m_bank_Erase d = some (eraseF d) := by
  unfold m_bank_Erase eraseF
  simp only [prog_wr, copied_prog h, bnd_some]
  by_cases hw : wrE d = 0
  · obtain ⟨hv, hr, ht⟩ := wr_zero hw
    have e : (wrE d != 0) = false := by simp [hw]
    simp only [e, cond_false, other_prog hv.br, bnd_some, elt2 _ (bit_flip hv.br), set2 _ _ (bit_flip hv.br)]
    rfl
  · have e : (wrE d != 0) = true := by simp [hw]
    simp only [e, cond_true]
    rfl
theorem erase_ref {d : T_Device} (h : smallD d) : m_ref29_Erase d = some (eraseF d) := by
  unfold m_ref29_Erase eraseF
  simp only [ref_wr, copy_ref h, bnd_some]
  by_cases hw : wrE d = 0
  · obtain ⟨hv, hr, ht⟩ := wr_zero hw
    have e : (wrE d != 0) = false := by simp [hw]
    simp only [e, cond_false, bnd_some, flip hv.br, elt2 _ (bit_flip hv.br), set2 _ _ (bit_flip hv.br)]
    rfl
  · have e : (wrE d != 0) = true := by simp [hw]
    simp only [e, cond_true]
    rfl

theorem sub_take {α : Type} {l : List α} {n : Int} (h0 : 0 ≤ n) (h1 : n ≤ (l.length : Int)) : sub l 0 n = some (l.take n.toNat) := by
  simp [sub, h0, h1]

theorem write_prog {d : T_Device} {i : T_Image} (h : smallD d) (hi : small i) (n : Int) : m_bank_Write d i n = some (writeF d i n) := by
  unfold m_bank_Write writeF
  simp only [prog_wr, right_prog, str_beq, bnd_some]
  by_cases hw : wrE d = 0
  · obtain ⟨hv, hr, ht⟩ := wr_zero hw
    have e : (wrE d != 0) = false := by simp [hw]
    simp only [e, cond_false, gt_iff_lt, dlt]
    have eo : (bif !rightB i then some true else bif !decide (i.Name = d.Name) then some true else bif !decide (0 ≤ n) then some true else some (!decide (n ≤ (i.Data.length : Int))) : Option Bool) = some (!writeOk d i n) := by
      unfold writeOk
      cases rightB i <;> cases decide (i.Name = d.Name) <;> cases decide (0 ≤ n) <;> cases decide (n ≤ (i.Data.length : Int)) <;> rfl
    rw [eo]
    simp only [bnd_some]
    cases ho : writeOk d i n
    · rfl
    · simp only [writeOk, Bool.and_eq_true, decide_eq_true_eq] at ho
      have hs : small (⟨i.Name, i.Version, i.Data.take n.toNat⟩ : T_Image) := by
        unfold small at *
        simp
        omega
      simp only [Bool.not_true, cond_false, cond_true, copied_prog h, bnd_some, sub_take ho.2.2.1 ho.2.2.2, other_prog hv.br, image_prog hs, elt2 _ (bit_flip hv.br), set2 _ _ (bit_flip hv.br)]
  · have e : (wrE d != 0) = true := by simp [hw]
    simp only [e, cond_true]
    rfl
theorem write_ref {d : T_Device} {i : T_Image} (h : smallD d) (hi : small i) (n : Int) : m_ref29_Write d i n = some (writeF d i n) := by
  unfold m_ref29_Write writeF
  simp only [ref_wr, right_ref, str_beq, bnd_some]
  by_cases hw : wrE d = 0
  · obtain ⟨hv, hr, ht⟩ := wr_zero hw
    have e : (wrE d != 0) = false := by simp [hw]
    simp only [e, cond_false, gt_iff_lt, dlt]
    have eo : (bif !rightB i then some true else bif !decide (i.Name = d.Name) then some true else bif !decide (0 ≤ n) then some true else some (!decide (n ≤ (i.Data.length : Int))) : Option Bool) = some (!writeOk d i n) := by
      unfold writeOk
      cases rightB i <;> cases decide (i.Name = d.Name) <;> cases decide (0 ≤ n) <;> cases decide (n ≤ (i.Data.length : Int)) <;> rfl
    rw [eo]
    simp only [bnd_some]
    cases ho : writeOk d i n
    · rfl
    · simp only [writeOk, Bool.and_eq_true, decide_eq_true_eq] at ho
      have hl : app 1 ([] : List Int) (i.Data.take n.toNat) = some (i.Data.take n.toNat) := by
        unfold small at hi
        rw [app1 (by simp; omega)]
        rfl
      simp only [Bool.not_true, cond_false, cond_true, copy_ref h, bnd_some, sub_take ho.2.2.1 ho.2.2.2, hl, flip hv.br, elt2 _ (bit_flip hv.br), set2 _ _ (bit_flip hv.br)]
  · have e : (wrE d != 0) = true := by simp [hw]
    simp only [e, cond_true]
    rfl

theorem finish_prog {d : T_Device} (h : smallD d) (s : Int) : m_bank_Finish d s = some (finishF d s) := by
  unfold m_bank_Finish finishF
  simp only [prog_wr, copied_prog h, bnd_some]
  by_cases hw : wrE d = 0
  · obtain ⟨hv, hr, ht⟩ := wr_zero hw
    have e : (wrE d != 0) = false := by simp [hw]
    simp only [e, cond_false, other_prog hv.br, bnd_some, elt2 _ (bit_flip hv.br), set2 _ _ (bit_flip hv.br), own_prog]
    rw [other_prog (d := ⟨d.Name, setS d.Slots (1 - d.Running) ⟨(pickS d.Slots (1 - d.Running)).Image, s⟩, d.Active, d.Running, d.Trial⟩) hv.br]
    simp only [bnd_some, elt2 _ (bit_flip hv.br), pick_set]
    cases goodB ⟨(pickS d.Slots (1 - d.Running)).Image, s⟩ d.Name <;> rfl
  · have e : (wrE d != 0) = true := by simp [hw]
    simp only [e, cond_true]
    rfl
theorem finish_ref {d : T_Device} (h : smallD d) (s : Int) : m_ref29_Finish d s = some (finishF d s) := by
  unfold m_ref29_Finish finishF
  simp only [ref_wr, copy_ref h, bnd_some]
  by_cases hw : wrE d = 0
  · obtain ⟨hv, hr, ht⟩ := wr_zero hw
    have e : (wrE d != 0) = false := by simp [hw]
    simp only [e, cond_false, bnd_some, flip hv.br, elt2 _ (bit_flip hv.br), set2 _ _ (bit_flip hv.br), good_ref, pick_set]
    cases goodB ⟨(pickS d.Slots (1 - d.Running)).Image, s⟩ d.Name <;> rfl
  · have e : (wrE d != 0) = true := by simp [hw]
    simp only [e, cond_true]
    rfl

theorem switch_prog {d : T_Device} (h : smallD d) : m_bank_Switch d = some (switchF d) := by
  unfold m_bank_Switch switchF
  simp only [prog_wr, copied_prog h, bnd_some]
  by_cases hw : wrE d = 0
  · obtain ⟨hv, hr, ht⟩ := wr_zero hw
    have e : (wrE d != 0) = false := by simp [hw]
    simp only [e, cond_false, other_prog hv.br, bnd_some, elt2 _ (bit_flip hv.br), own_prog]
    cases goodB (pickS d.Slots (1 - d.Running)) d.Name <;> rfl
  · have e : (wrE d != 0) = true := by simp [hw]
    simp only [e, cond_true]
    rfl
theorem switch_ref {d : T_Device} (h : smallD d) : m_ref29_Switch d = some (switchF d) := by
  unfold m_ref29_Switch switchF
  simp only [ref_wr, copy_ref h, bnd_some]
  by_cases hw : wrE d = 0
  · obtain ⟨hv, hr, ht⟩ := wr_zero hw
    have e : (wrE d != 0) = false := by simp [hw]
    simp only [e, cond_false, bnd_some, flip hv.ba, elt2 _ (bit_flip hv.ba), good_ref, hr]
    cases goodB (pickS d.Slots (1 - d.Active)) d.Name <;> rfl
  · have e : (wrE d != 0) = true := by simp [hw]
    simp only [e, cond_true]
    rfl

theorem boot_prog {d : T_Device} (h : smallD d) : m_bank_Boot d = some (bootF d) := by
  unfold m_bank_Boot bootF
  simp only [prog_dvalid, copied_prog h, bnd_some]
  cases hv : validB d
  · rfl
  · have := ((valid_iff d).1 hv).ba
    simp only [flip this, Bool.not_true, cond_false, cond_true]
    cases d.Trial <;> rfl
theorem boot_ref {d : T_Device} (h : smallD d) : m_ref29_Boot d = some (bootF d) := by
  unfold m_ref29_Boot bootF
  simp only [ref_dvalid, copy_ref h, bnd_some]
  cases hv : validB d
  · rfl
  · have := ((valid_iff d).1 hv).ba
    simp only [flip this, Bool.not_true, cond_false, cond_true]
    cases d.Trial <;> rfl

theorem confirm_prog {d : T_Device} (h : smallD d) : m_bank_Confirm d = some (confirmF d) := by
  unfold m_bank_Confirm confirmF
  simp only [prog_dvalid, copied_prog h, bnd_some]
  cases validB d <;> cases d.Trial <;> rfl
theorem confirm_ref {d : T_Device} (h : smallD d) : m_ref29_Confirm d = some (confirmF d) := by
  unfold m_ref29_Confirm confirmF
  simp only [ref_dvalid, copy_ref h, bnd_some]
  cases validB d <;> cases d.Trial <;> rfl

theorem version_prog (d : T_Device) : m_bank_Version d = some (versionF d) := by
  unfold m_bank_Version versionF
  simp only [prog_dvalid, bnd_some]
  cases hv : validB d
  · rfl
  · simp only [Bool.not_true, cond_false, cond_true, elt2 _ ((valid_iff d).1 hv).br, bnd_some]

theorem spoil_prog {d : T_Device} {i : T_Image} (h : smallD d) (hi : small i) (s : Int) : m_bank_Spoil d i s = some (spoilF d i s) := by
  unfold m_bank_Spoil spoilF
  simp only [prog_dvalid, copied_prog h, prog_wr, bnd_some, boot_prog h, image_prog hi]
  cases hv : validB d
  · have hw : wrE d = 1 := by simp [wrE, hv]
    have hb : bootF d = zeroD := by simp [bootF, hv]
    rw [hw, hb]
    rfl
  · by_cases hw : wrE d = 0
    · obtain ⟨hvd, hr, ht⟩ := wr_zero hw
      have e : (wrE d == 0) = true := by simp [hw]
      simp only [e, Bool.not_true, cond_false, cond_true, other_prog hvd.br, bnd_some, elt2 _ (bit_flip hvd.br), set2 _ _ (bit_flip hvd.br)]
      rw [boot_prog (d := ⟨d.Name, setS d.Slots (1 - d.Running) ⟨i, s⟩, d.Active, d.Running, d.Trial⟩) (smallD_set h hi)]
      rfl
    · have e : (wrE d == 0) = false := by simp [hw]
      simp only [e, Bool.not_true, cond_false]
theorem spoil_ref {d : T_Device} {i : T_Image} (h : smallD d) (hi : small i) (s : Int) : m_ref29_Spoil d i s = some (spoilF d i s) := by
  unfold m_ref29_Spoil spoilF
  simp only [copy_ref h, ref_wr, bnd_some, boot_ref h, image_ref hi]
  by_cases hw : wrE d = 0
  · obtain ⟨hvd, hr, ht⟩ := wr_zero hw
    have e : (wrE d == 0) = true := by simp [hw]
    simp only [e, cond_true, bnd_some, flip hvd.br, elt2 _ (bit_flip hvd.br), set2 _ _ (bit_flip hvd.br)]
    rw [boot_ref (d := ⟨d.Name, setS d.Slots (1 - d.Running) ⟨i, s⟩, d.Active, d.Running, d.Trial⟩) (smallD_set h hi)]
    rfl
  · have e : (wrE d == 0) = false := by simp [hw]
    simp only [e, cond_false]

theorem sameImage_refl (i : T_Image) : m_ref28_SameImage i i = some true := by
  unfold m_ref28_SameImage
  simp
theorem same_refl (d : T_Device) : m_ref29_Same d d = some true := by
  unfold m_ref29_Same
  simp [sameImage_refl]

end Go.Proofs.Ytcjhemblnemhfaa
