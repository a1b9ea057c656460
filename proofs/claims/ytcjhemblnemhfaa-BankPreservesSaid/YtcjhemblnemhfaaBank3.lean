/-
  Devices that calls lead to; the laws of chapter 29.
  Conditions: none.
-/
import Derived.Test.YtcjhemblnemhfaaBank2
import Derived.Test.YtcjhemblnemhfaaCodes
namespace Go.Proofs.Ytcjhemblnemhfaa
open Go
set_option linter.unusedSimpArgs false
set_option linter.unusedVariables false

structure Inv (d : T_Device) (n : ByteArray) : Prop where
  vd : VD d
  nm : d.Name = n
  sm : smallD d

theorem set_inv {d : T_Device} {n : ByteArray} (h : Inv d n) (hr : d.Running = d.Active) (ht : d.Trial = false) {y : T_Slot} (hy : small y.Image) :
    Inv ⟨d.Name, setS d.Slots (1 - d.Running) y, d.Active, d.Running, d.Trial⟩ n := by
  obtain ⟨⟨ba, br, ga, gr, tr⟩, nm, sm⟩ := h
  have hne : d.Running ≠ 1 - d.Running := by rcases br with h | h <;> rw [h] <;> decide
  have e : pickS (setS d.Slots (1 - d.Running) y) d.Running = pickS d.Slots d.Running := pick_set_ne (bit_flip br) br hne
  refine ⟨⟨ba, br, ?_, ?_, fun h => ?_⟩, nm, smallD_set sm hy⟩
  · simp only; rw [← hr, e]; exact gr
  · simp only; rw [e]; exact gr
  · rw [ht] at h; cases h

theorem zero_small : small zeroI := by unfold small zeroI; simp

theorem erase_inv {d : T_Device} {n : ByteArray} (h : Inv d n) (he : (eraseF d).2 = 0) : Inv (eraseF d).1 n ∧ wrE d = 0 := by
  unfold eraseF at *
  by_cases hw : wrE d = 0
  · obtain ⟨hv, hr, ht⟩ := wr_zero hw
    have e : (wrE d != 0) = false := by simp [hw]
    rw [e]
    exact ⟨set_inv h hr ht zero_small, hw⟩
  · have e : (wrE d != 0) = true := by simp [hw]
    rw [e] at he
    exact absurd he hw
theorem write_inv {d : T_Device} {n : ByteArray} (h : Inv d n) {i : T_Image} (hi : small i) {k : Int} (he : (writeF d i k).2 = 0) : Inv (writeF d i k).1 n := by
  unfold writeF at *
  by_cases hw : wrE d = 0
  · obtain ⟨hv, hr, ht⟩ := wr_zero hw
    have e : (wrE d != 0) = false := by simp [hw]
    rw [e] at he ⊢
    cases ho : writeOk d i k
    · rw [ho] at he; cases he
    · refine set_inv h hr ht ?_
      unfold small at *
      simp
      omega
  · have e : (wrE d != 0) = true := by simp [hw]
    rw [e] at he
    exact absurd he hw
theorem finish_inv {d : T_Device} {n : ByteArray} (h : Inv d n) {s : Int} (he : (finishF d s).2 = 0) : Inv (finishF d s).1 n := by
  unfold finishF at *
  by_cases hw : wrE d = 0
  · obtain ⟨hv, hr, ht⟩ := wr_zero hw
    have e : (wrE d != 0) = false := by simp [hw]
    rw [e] at he ⊢
    cases ho : goodB ⟨(pickS d.Slots (1 - d.Running)).Image, s⟩ d.Name
    · rw [ho] at he; cases he
    · exact set_inv h hr ht (small_pick h.sm _)
  · have e : (wrE d != 0) = true := by simp [hw]
    rw [e] at he
    exact absurd he hw
theorem switch_inv {d : T_Device} {n : ByteArray} (h : Inv d n) (he : (switchF d).2 = 0) : Inv (switchF d).1 n ∧ wrE d = 0 ∧ goodB (pickS d.Slots (1 - d.Running)) d.Name = true ∧ (switchF d).1 = ⟨d.Name, d.Slots, d.Active, d.Running, true⟩ := by
  unfold switchF at *
  by_cases hw : wrE d = 0
  · obtain ⟨hv, hr, ht⟩ := wr_zero hw
    have e : (wrE d != 0) = false := by simp [hw]
    rw [e] at he ⊢
    cases ho : goodB (pickS d.Slots (1 - d.Running)) d.Name
    · rw [ho] at he; cases he
    · exact ⟨⟨⟨h.vd.ba, h.vd.br, h.vd.ga, h.vd.gr, fun _ => ⟨hr, by show goodB (pickS d.Slots (1 - d.Active)) d.Name = true; rw [← hr]; exact ho⟩⟩, h.nm, h.sm⟩, hw, rfl, rfl⟩
  · have e : (wrE d != 0) = true := by simp [hw]
    rw [e] at he
    exact absurd he hw
theorem boot_inv {d : T_Device} {n : ByteArray} (h : Inv d n) : Inv (bootF d) n := by
  unfold bootF
  rw [(valid_iff d).2 h.vd]
  cases ht : d.Trial
  · exact ⟨⟨h.vd.ba, h.vd.ba, h.vd.ga, h.vd.ga, fun h => by cases h⟩, h.nm, h.sm⟩
  · have := h.vd.tr ht
    exact ⟨⟨h.vd.ba, bit_flip h.vd.ba, h.vd.ga, this.2, fun h => by cases h⟩, h.nm, h.sm⟩
theorem confirm_inv {d : T_Device} {n : ByteArray} (h : Inv d n) (he : (confirmF d).2 = 0) : Inv (confirmF d).1 n := by
  unfold confirmF at *
  rw [(valid_iff d).2 h.vd] at he ⊢
  cases ht : d.Trial
  · exact ⟨⟨h.vd.br, h.vd.br, h.vd.gr, h.vd.gr, fun h => by cases h⟩, h.nm, h.sm⟩
  · rw [ht] at he; cases he
theorem spoil_inv {d : T_Device} {n : ByteArray} (h : Inv d n) {i : T_Image} (hi : small i) (s : Int) : Inv (spoilF d i s) n := by
  unfold spoilF
  by_cases hw : wrE d = 0
  · obtain ⟨hv, hr, ht⟩ := wr_zero hw
    have e : (wrE d == 0) = true := by simp [hw]
    rw [e]
    exact boot_inv (set_inv h hr ht hi)
  · have e : (wrE d == 0) = false := by simp [hw]
    rw [e]
    exact boot_inv h
theorem new_inv {i : T_Image} (h : rightB i = true) : Inv (newF i).1 i.Name ∧ (newF i).2 = 0 ∧ (newF i).1 = ⟨i.Name, ⟨⟨i, sumF i⟩, zeroSlot⟩, 0, 0, false⟩ := by
  unfold newF
  rw [h]
  have hs := right_spec h
  have hg : goodB ⟨i, sumF i⟩ i.Name = true := by simp [goodB, wholeB, h]
  refine ⟨⟨⟨.inl rfl, .inl rfl, hg, hg, fun h => by cases h⟩, rfl, ?_, zero_small⟩, rfl, rfl⟩
  show i.Data.length ≤ 1000
  omega

theorem ver_of {v : T_Version} (h1 : 0 ≤ v.Major) (h2 : v.Major ≤ 999) (h3 : 0 ≤ v.Minor) (h4 : v.Minor ≤ 999) (h5 : 0 ≤ v.Patch) (h6 : v.Patch ≤ 999) : verB v = true := by
  simp [verB, numB, *]
theorem right_of {i : T_Image} (h1 : nameB i.Name = true) (h2 : verB i.Version = true) (h3 : 1 ≤ i.Data.length) (h4 : i.Data.length ≤ 512) : rightB i = true := by
  simp [rightB, *]

theorem sum_field {i : T_Image} (h : rightB i = true) : m_field_sum i = some (sumF i) := by
  unfold m_field_sum
  have hs := right_spec h
  rw [new_ref (by unfold small; omega)]
  obtain ⟨_, h2, h3⟩ := new_inv h
  simp only [bnd_some]
  rw [h2, h3]
  rfl

theorem sum_field' {i : T_Image} (h : small i) : ∃ x, m_field_sum i = some x := by
  unfold m_field_sum
  rw [new_ref h]
  simp only [bnd_some]
  cases ((newF i).2 != 0) <;> exact ⟨_, rfl⟩

theorem change_ok {c : T_Codes} (hc : CodesOk c) {d : T_Device} {n : ByteArray} (h : Inv d n) : ∃ c' d' e, m_field_Codes_Change c d = some (c', d', e) ∧ CodesOk c' ∧ (e = 0 → Inv d' n) := by
  unfold m_field_Codes_Change
  obtain ⟨c1, v, e1, hc1, v1, v2, v3, v4, v5⟩ := plain_ok hc
  rw [e1]
  simp only [bnd_some]
  obtain ⟨c2, x, e2, hc2, x0, x1⟩ := next_ok hc1 4
  rw [e2]
  simp only [bnd_some]
  obtain ⟨c3, l, e3, hc3, hl, hlx⟩ := bytes_ok hc2 (n := 3) (by omega) (by omega)
  rw [e3]
  simp only [bnd_some]
  rw [app1 (by simp; omega)]
  simp only [bnd_some]
  obtain ⟨c4, y, e4, hc4, y0, y1⟩ := next_ok hc3 8
  rw [e4]
  simp only [bnd_some]
  have hsm : small (⟨d.Name, v, [IntKind.wrap .u8 x] ++ l⟩ : T_Image) := by unfold small; simp; omega
  cases (y == 0)
  · cases (y == 1)
    · simp only [cond_false]
      cases hb : (bif y == 2 then some (y == 2) else some (y == 3) : Option Bool) with
      | none => cases hy2 : (y == 2) <;> rw [hy2] at hb <;> cases hb
      | some b =>
        simp only [bnd_some]
        cases b
        · simp only [cond_false]
          cases (y == 4)
          · cases (y == 5)
            · cases (y == 6)
              · simp only [cond_false, boot_ref h.sm, bnd_some]
                exact ⟨_, _, _, rfl, hc4, fun _ => boot_inv h⟩
              · simp only [cond_false, cond_true]
                obtain ⟨c5, i, e5, hc5, hi, hin, _⟩ := image_ok hc4 d.Name
                rw [e5]
                simp only [bnd_some]
                obtain ⟨c6, z, e6, hc6, z0, z1⟩ := next_ok hc5 300
                rw [e6]
                simp only [bnd_some]
                have his : small i := by unfold small; omega
                rw [spoil_ref h.sm his]
                exact ⟨_, _, _, rfl, hc6, fun _ => spoil_inv h his _⟩
            · simp only [cond_false, cond_true, confirm_ref h.sm, bnd_some]
              exact ⟨_, _, _, rfl, hc4, fun he => confirm_inv h he⟩
          · simp only [cond_true, switch_ref h.sm, bnd_some]
            exact ⟨_, _, _, rfl, hc4, fun he => (switch_inv h he).1⟩
        · simp only [cond_true, write_ref h.sm hsm, bnd_some]
          by_cases hw : (writeF d ⟨d.Name, v, [IntKind.wrap .u8 x] ++ l⟩ (([IntKind.wrap .u8 x] ++ l).length : Int)).2 = 0
          · have hinv := write_inv h hsm hw
            simp only [hw, bne_self_eq_false, cond_false]
            obtain ⟨s, hs⟩ := sum_field' hsm
            rw [hs]
            simp only [bnd_some, finish_ref hinv.sm]
            exact ⟨_, _, _, rfl, hc4, fun he => finish_inv hinv he⟩
          · have e : ((writeF d ⟨d.Name, v, [IntKind.wrap .u8 x] ++ l⟩ (([IntKind.wrap .u8 x] ++ l).length : Int)).2 != 0) = true := by simpa using hw
            rw [e]
            exact ⟨_, _, _, rfl, hc4, fun he => absurd he hw⟩
    · simp only [cond_false, cond_true]
      obtain ⟨c5, z, e5, hc5, z0, z1⟩ := next_ok hc4 (IntKind.wrap .i64 ((([IntKind.wrap .u8 x] ++ l).length : Int) + 1))
      rw [e5]
      simp only [bnd_some, write_ref h.sm hsm]
      exact ⟨_, _, _, rfl, hc5, fun he => write_inv h hsm he⟩
  · simp only [cond_true, erase_ref h.sm, bnd_some]
    exact ⟨_, _, _, rfl, hc4, fun he => (erase_inv h he).1⟩

theorem device_ok {c : T_Codes} (hc : CodesOk c) {n : ByteArray} (hn : nameB n = true) : ∃ c' d, m_field_Codes_Device c n = some (c', d) ∧ CodesOk c' ∧ Inv d n := by
  unfold m_field_Codes_Device
  obtain ⟨c1, v, e1, hc1, v1, v2, v3, v4, v5⟩ := plain_ok hc
  rw [e1]
  simp only [bnd_some]
  obtain ⟨c2, x, e2, hc2, x0, x1⟩ := next_ok hc1 4
  rw [e2]
  simp only [bnd_some]
  have hv : verB v = true := ver_of (by omega) (by omega) (by omega) (by omega) (by omega) (by omega)
  have hr : rightB (⟨n, v, [IntKind.wrap .u8 x]⟩ : T_Image) = true := right_of hn hv (by simp) (by simp)
  rw [new_ref (by unfold small; simp)]
  simp only [bnd_some]
  obtain ⟨c3, y, e3, hc3, y0, y1⟩ := next_ok hc2 7
  rw [e3]
  simp only [bnd_some]
  obtain ⟨t, ht, hQ⟩ := loop_inv (m := fun (s1 : T_Device × Int × List Int × Int) => bif decide (s1.2.1 > 0) then (bnd (m_field_Codes_Change (⟨s1.2.2.1, s1.2.2.2⟩ : T_Codes) s1.1) fun r5 => bif (r5.2.2 == 0) then (some (.next (r5.2.1, IntKind.wrap .i64 (s1.2.1 - 1), r5.1.L, r5.1.At))) else (some (.next (s1.1, IntKind.wrap .i64 (s1.2.1 - 1), r5.1.L, r5.1.At)))) else (some (.done (s1.1, s1.2.2.1, s1.2.2.2))))
    (fun s => CodesOk ⟨s.2.2.1, s.2.2.2⟩ ∧ 0 ≤ s.2.1 ∧ s.2.1 ≤ 7 ∧ Inv s.1 n) (fun s => s.2.1.toNat) (fun t : T_Device × List Int × Int => CodesOk ⟨t.2.1, t.2.2⟩ ∧ Inv t.1 n) (fun s hs => by
      obtain ⟨d, k, L, At⟩ := s
      obtain ⟨g1, g2, g3, g4⟩ := hs
      simp only at g1 g2 g3 g4
      by_cases hk : k > 0
      · left
        have dk : decide (k > 0) = true := by simpa using hk
        obtain ⟨c4, d', e, e4, hc4, hi⟩ := change_ok g1 g4
        have hw3 : IntKind.wrap .i64 (k - 1) = k - 1 := wrap_i64 (by omega) (by omega)
        simp only [dk, cond_true, e4, bnd_some, hw3]
        by_cases he : e = 0
        · subst he
          exact ⟨_, rfl, ⟨hc4, by simp only; omega, by simp only; omega, hi rfl⟩, by simp only; omega⟩
        · have e' : (e == 0) = false := by simpa using he
          rw [e']
          exact ⟨_, rfl, ⟨hc4, by simp only; omega, by simp only; omega, g4⟩, by simp only; omega⟩
      · right
        have dk : decide (k > 0) = false := by simpa using hk
        simp only [dk, cond_false]
        exact ⟨_, rfl, g1, g4⟩) ((newF ⟨n, v, [IntKind.wrap .u8 x]⟩).1, y, c3.L, c3.At) ⟨hc3, y0, by show y ≤ 7; omega, (new_inv hr).1⟩
  rw [ht]
  exact ⟨_, _, rfl, hQ.1, hQ.2⟩

end Go.Proofs.Ytcjhemblnemhfaa
