/-
  Where the statements' values come from: numbers out of codes.
  Conditions: none.
-/
import Derived.Test.YtgnmhmnglbbamaaGen
import Derived.Test.YtgnmhmnglbbamaaPure2
namespace Go.Proofs.Ytgnmhmnglbbamaa
open Go
set_option linter.unusedSimpArgs false
set_option linter.unusedVariables false

theorem inK_u8 {x : Int} : inK .u8 x ↔ 0 ≤ x ∧ x ≤ 255 := Iff.rfl
theorem inK_u32 {x : Int} : inK .u32 x ↔ 0 ≤ x ∧ x ≤ 4294967295 := Iff.rfl
theorem inK_i64 {x : Int} : inK .i64 x ↔ -9223372036854775808 ≤ x ∧ x ≤ 9223372036854775807 := Iff.rfl

structure CodesOk (c : T_Codes) : Prop where
  hl : ∀ x ∈ c.L, inK .u8 x
  h0 : 0 ≤ c.At
  hn : c.L.length ≤ 140737488355328
  ha : c.At ≤ (c.L.length : Int)

theorem iOr_small {a b : Int} (ha : 0 ≤ a ∧ a < 65536) (hb : 0 ≤ b ∧ b < 65536) : 0 ≤ iOr .i64 a b ∧ iOr .i64 a b < 65536 := by
  unfold iOr
  have e : (BitVec.ofInt (IntKind.bits .i64) a ||| BitVec.ofInt (IntKind.bits .i64) b).toNat = a.toNat ||| b.toNat := by
    show (BitVec.ofInt 64 a ||| BitVec.ofInt 64 b).toNat = _
    rw [BitVec.toNat_or, BitVec.toNat_ofInt, BitVec.toNat_ofInt]
    congr 1 <;> omega
  rw [e]
  have h := Nat.or_lt_two_pow (x := a.toNat) (y := b.toNat) (n := 16) (by omega) (by omega)
  rw [wrap_i64 (by omega) (by omega)]
  omega

theorem iShl8 {x : Int} (h : 0 ≤ x ∧ x ≤ 255) : iShl .i64 x 8 = x * 256 := by
  unfold iShl
  have : (2 : Int) ^ (min (Int.toNat 8) (IntKind.bits .i64)) = 256 := by decide
  rw [this, wrap_i64 (by omega) (by omega)]

theorem remM_ok {v n : Int} (hv : 0 ≤ v) (hn : 1 ≤ n) : ∃ x, remM v n = some x ∧ 0 ≤ x ∧ x < n := by
  refine ⟨v % n, ?_, Int.emod_nonneg _ (by omega), Int.emod_lt_of_pos _ (by omega)⟩
  unfold remM
  rw [if_neg (by omega), Int.tmod_eq_emod_of_nonneg hv]

theorem next_ok {c : T_Codes} (h : CodesOk c) (n : Int) : ∃ c' x, m_field_Codes_Next c n = some (c', x) ∧ CodesOk c' ∧ 0 ≤ x ∧ (x = 0 ∨ x < n) := by
  unfold m_field_Codes_Next m_field_Codes_Left
  simp only [bnd_some]
  obtain ⟨hl, h0, hn, ha⟩ := h
  by_cases hlt : c.At < (c.L.length : Int)
  · have d1 : decide (c.At < (c.L.length : Int)) = true := by simpa using hlt
    simp only [d1, Bool.not_true, cond_false, bnd_some]
    by_cases hn1 : n < 1
    · simp only [hn1, decide_true, cond_true]
      exact ⟨c, 0, rfl, ⟨hl, h0, hn, ha⟩, by omega, .inl rfl⟩
    simp only [hn1, decide_false, cond_false]
    obtain ⟨k, hk⟩ : ∃ k : Nat, c.At = (k : Int) := ⟨c.At.toNat, by omega⟩
    have hkl : k < c.L.length := by omega
    have hx := inK_u8.1 (hl _ (List.getElem_mem hkl))
    rw [hk, elt_lt hkl]
    simp only [bnd_some]
    have hw : IntKind.wrap .i64 ((k : Int) + 1) = ((k + 1 : Nat) : Int) := wrap_succ hkl hn
    have hx' : IntKind.wrap .i64 c.L[k] = c.L[k] := wrap_i64 (by omega) (by omega)
    rw [hw, hx']
    have hok1 : CodesOk (⟨c.L, ((k + 1 : Nat) : Int)⟩ : T_Codes) := ⟨hl, by show (0 : Int) ≤ ((k + 1 : Nat) : Int); omega, hn, by show ((k + 1 : Nat) : Int) ≤ (c.L.length : Int); omega⟩
    by_cases hbig : n > 256 ∧ k + 1 < c.L.length
    · have d2 : decide (n > 256) = true := by simpa using hbig.1
      have d3 : decide (((k + 1 : Nat) : Int) < (c.L.length : Int)) = true := by simp; omega
      have hy := inK_u8.1 (hl _ (List.getElem_mem hbig.2))
      have hy' : IntKind.wrap .i64 c.L[k + 1] = c.L[k + 1] := wrap_i64 (by omega) (by omega)
      simp only [d2, d3, cond_true, bnd_some, elt_lt hbig.2, hy', iShl8 hy]
      have ho := iOr_small (a := c.L[k]) (b := c.L[k + 1] * 256) (by omega) (by omega)
      obtain ⟨x, e1, e2, e3⟩ := remM_ok (n := n) ho.1 (by omega)
      rw [e1]
      have hw2 : IntKind.wrap .i64 (((k + 1 : Nat) : Int) + 1) = ((k + 2 : Nat) : Int) := wrap_succ hbig.2 hn
      exact ⟨_, x, rfl, ⟨hl, by show 0 ≤ IntKind.wrap .i64 _; rw [hw2]; omega, hn, by show IntKind.wrap .i64 _ ≤ (c.L.length : Int); rw [hw2]; omega⟩, e2, .inr e3⟩
    · have d2 : (bif decide (n > 256) then some (decide (((k + 1 : Nat) : Int) < (c.L.length : Int))) else some false : Option Bool) = some false := by
        by_cases g : n > 256
        · have : ¬ k + 1 < c.L.length := fun h => hbig ⟨g, h⟩
          have d3 : decide (((k + 1 : Nat) : Int) < (c.L.length : Int)) = false := by simp; omega
          rw [d3]
          simp [g]
        · simp [g]
      rw [d2]
      simp only [bnd_some, cond_false]
      obtain ⟨x, e1, e2, e3⟩ := remM_ok (n := n) hx.1 (by omega)
      rw [e1]
      exact ⟨_, x, rfl, hok1, e2, .inr e3⟩
  · have d1 : decide (c.At < (c.L.length : Int)) = false := by simpa using hlt
    simp only [d1, Bool.not_false, cond_true, bnd_some]
    exact ⟨c, 0, rfl, ⟨hl, h0, hn, ha⟩, by omega, .inl rfl⟩

theorem new_codes {l : List Int} (h : okL (inK .u8) l) {most : Int} (h0 : 0 ≤ most) (h1 : most ≤ 100000) : ∃ c, m_field_New l most = some c ∧ CodesOk c := by
  unfold m_field_New
  have hs : sub l 0 (min (l.length : Int) most) = some (l.take (min (l.length : Int) most).toNat) := by
    unfold sub
    rw [if_pos ⟨by omega, by omega, by omega⟩]
    simp
  rw [hs]
  refine ⟨_, rfl, fun x hx => h.1 x (List.mem_of_mem_take hx), by simp, ?_, by simp⟩
  simp only [List.length_take]
  omega

theorem bytes_ok {c : T_Codes} (h : CodesOk c) {n : Int} (h0 : 0 ≤ n) (h1 : n ≤ 100000) : ∃ c' l, m_field_Codes_Bytes c n = some (c', l) ∧ CodesOk c' ∧ (l.length : Int) ≤ n ∧ ∀ x ∈ l, inK .u8 x := by
  unfold m_field_Codes_Bytes
  obtain ⟨c1, k, e1, hc1, k0, k1⟩ := next_ok h (IntKind.wrap .i64 (n + 1))
  have hw : IntKind.wrap .i64 (n + 1) = n + 1 := wrap_i64 (by omega) (by omega)
  rw [hw] at e1 k1 ⊢
  rw [e1]
  simp only [bnd_some]
  obtain ⟨t, ht, hQ⟩ := loop_inv (m := fun (s1 : List Int × Int × List Int × Int) => bif decide (s1.2.1 > 0) then (bnd (m_field_Codes_Next (⟨s1.2.2.1, s1.2.2.2⟩ : T_Codes) 256) fun r2 => bnd (app 1 s1.1 [IntKind.wrap .u8 r2.2]) fun l1 => some (.next (l1, IntKind.wrap .i64 (s1.2.1 - 1), r2.1.L, r2.1.At))) else (some (.done (s1.1, s1.2.2.1, s1.2.2.2))))
    (fun s => CodesOk ⟨s.2.2.1, s.2.2.2⟩ ∧ 0 ≤ s.2.1 ∧ (s.1.length : Int) + s.2.1 ≤ n ∧ ∀ x ∈ s.1, inK .u8 x) (fun s => s.2.1.toNat)
    (fun t : List Int × List Int × Int => CodesOk ⟨t.2.1, t.2.2⟩ ∧ (t.1.length : Int) ≤ n ∧ ∀ x ∈ t.1, inK .u8 x) (fun s hs => by
      obtain ⟨l, k, L, At⟩ := s
      obtain ⟨g1, g2, g3, g4⟩ := hs
      simp only at g1 g2 g3 g4
      by_cases hk : k > 0
      · left
        have dk : decide (k > 0) = true := by simpa using hk
        obtain ⟨c2, x, e2, hc2, x0, x1⟩ := next_ok g1 256
        simp only [dk, cond_true, e2, bnd_some]
        rw [app_eq (by simp; omega) (by simp; omega)]
        have hw3 : IntKind.wrap .i64 (k - 1) = k - 1 := wrap_i64 (by omega) (by omega)
        refine ⟨_, rfl, ⟨hc2, by simp only [hw3]; omega, by simp only [hw3, List.length_append, List.length_singleton]; omega, fun y hy => ?_⟩, by simp only [hw3]; omega⟩
        rcases List.mem_append.1 hy with hy | hy
        · exact g4 y hy
        · simp only [List.mem_singleton] at hy
          subst hy
          rw [wrap_u8_mod]
          exact inK_u8.2 ⟨by omega, by omega⟩
      · right
        have dk : decide (k > 0) = false := by simpa using hk
        simp only [dk, cond_false]
        exact ⟨_, rfl, g1, by simp only; omega, g4⟩) ([], k, c1.L, c1.At) ⟨hc1, k0, by simp; omega, fun x hx => by cases hx⟩
  rw [ht]
  exact ⟨_, _, rfl, hQ.1, hQ.2.1, hQ.2.2⟩

theorem plain_ok {c : T_Codes} (h : CodesOk c) : ∃ c' v, m_field_Codes_plain c = some (c', v) ∧ CodesOk c' ∧ 1 ≤ v.Major ∧ v.Major ≤ 3 ∧ 0 ≤ v.Minor ∧ v.Minor ≤ 1 ∧ v.Patch = 0 := by
  unfold m_field_Codes_plain
  obtain ⟨c1, x, e1, hc1, x0, x1⟩ := next_ok h 3
  rw [e1]
  simp only [bnd_some]
  obtain ⟨c2, y, e2, hc2, y0, y1⟩ := next_ok hc1 5
  rw [e2]
  simp only [bnd_some]
  have w1 : IntKind.wrap .i64 (1 + x) = 1 + x := wrap_i64 (by omega) (by omega)
  have w2 : y.tdiv 4 = y / 4 := Int.tdiv_eq_ediv_of_nonneg y0
  have w3 : IntKind.wrap .i64 (y / 4) = y / 4 := wrap_i64 (by omega) (by omega)
  rw [w1, w2, w3]
  exact ⟨_, _, rfl, hc2, by simp only; omega, by simp only; omega, by simp only; omega, by simp only; omega, rfl⟩

theorem image_ok {c : T_Codes} (h : CodesOk c) (name : ByteArray) : ∃ c' i, m_field_Codes_Image c name = some (c', i) ∧ CodesOk c' ∧ i.Data.length ≤ 600 ∧ i.Name = name ∧ (∀ x ∈ i.Data, inK .u8 x) ∧ inK .i64 i.Version.Major ∧ inK .i64 i.Version.Minor ∧ inK .i64 i.Version.Patch := by
  unfold m_field_Codes_Image
  obtain ⟨c1, v, e1, hc1, v1, v2, v3, v4, v5⟩ := plain_ok h
  rw [e1]
  simp only [bnd_some]
  obtain ⟨c2, x, e2, hc2, x0, x1⟩ := next_ok hc1 256
  rw [e2]
  simp only [bnd_some]
  obtain ⟨c3, l, e3, hc3, hl, hlx⟩ := bytes_ok hc2 (n := 5) (by omega) (by omega)
  rw [e3]
  simp only [bnd_some]
  rw [app_eq (by simp; omega) (by simp; omega)]
  simp only [bnd_some]
  obtain ⟨c4, y, e4, hc4, y0, y1⟩ := next_ok hc3 30
  rw [e4]
  simp only [bnd_some]
  have hx8 : IntKind.wrap .u8 x = x := wrap_u8 (by omega) (by omega)
  have hd : ∀ z ∈ [IntKind.wrap .u8 x] ++ l, inK .u8 z := fun z hz => by
    rcases List.mem_append.1 hz with hz | hz
    · simp only [List.mem_singleton] at hz
      subst hz
      rw [hx8]
      exact inK_u8.2 ⟨by omega, by omega⟩
    · exact hlx z hz
  have hv1 : inK .i64 v.Major := inK_i64.2 ⟨by omega, by omega⟩
  have hv2 : inK .i64 v.Minor := inK_i64.2 ⟨by omega, by omega⟩
  have hv3 : inK .i64 v.Patch := inK_i64.2 ⟨by omega, by omega⟩
  cases (y == 29)
  · cases (y == 28)
    · cases (y == 27)
      · exact ⟨_, _, rfl, hc4, by simp; omega, rfl, hd, hv1, hv2, hv3⟩
      · obtain ⟨c5, z, e5, hc5, z0, z1⟩ := next_ok hc4 2
        simp only [cond_false, cond_true, e5, bnd_some]
        have w1 : IntKind.wrap .i64 (512 + z) = 512 + z := wrap_i64 (by omega) (by omega)
        rw [w1]
        have hm : mkS 1 (0 : Int) (512 + z) (512 + z) = some (List.replicate (512 + z).toNat 0) := by
          unfold mkS
          rw [if_pos ⟨by omega, by omega, by omega, by omega⟩]
        rw [hm]
        refine ⟨_, _, rfl, hc5, by simp; omega, rfl, fun q hq => ?_, hv1, hv2, hv3⟩
        obtain ⟨_, rfl⟩ := List.mem_replicate.1 hq
        exact inK_u8.2 ⟨by omega, by omega⟩
    · exact ⟨_, _, rfl, hc4, by simp; omega, rfl, hd, hv1, hv2, inK_i64.2 ⟨by show (-9223372036854775808 : Int) ≤ -1; omega, by show (-1 : Int) ≤ 9223372036854775807; omega⟩⟩
  · exact ⟨_, _, rfl, hc4, by simp, rfl, (fun q hq => by cases hq), hv1, hv2, hv3⟩

end Go.Proofs.Ytgnmhmnglbbamaa
