/-
  The law of the reads.
  Conditions: none.
-/
import Derived.Test.YtgnmhmnglbbamaaBunD
namespace Go.Proofs.Ytgnmhmnglbbamaa
open Go
set_option linter.unusedSimpArgs false
set_option linter.unusedVariables false

theorem validB_len {b : T_Bundle} (h : validB b = 0) : b.Images.length ≤ 8 ∧ b.Needs.length ≤ 16 := ⟨(valid0 h).2.1, (valid0 h).2.2.2.1⟩
theorem bodyB_small (b : List Nat) : (bodyB b).1.Images.length ≤ 8 ∧ (bodyB b).1.Needs.length ≤ 16 := by
  unfold bodyB
  have hn : noB.Images.length ≤ 8 ∧ noB.Needs.length ≤ 16 := ⟨by simp [noB], by simp [noB]⟩
  split
  · exact hn
  · split
    · exact hn
    · split
      · exact hn
      · split
        · exact hn
        · split
          · exact hn
          · rename_i h
            exact validB_len (by simpa using h)
theorem decB_small (b : List Nat) : (decB b).1.Images.length ≤ 8 ∧ (decB b).1.Needs.length ≤ 16 := by
  unfold decB
  have hn : noB.Images.length ≤ 8 ∧ noB.Needs.length ≤ 16 := ⟨by simp [noB], by simp [noB]⟩
  split
  · exact hn
  · split
    · exact hn
    · split
      · exact hn
      · exact bodyB_small _

/-- A byte string that is not long. -/
def bytesP (x : List Int) : Prop := ∃ m, x = iz m ∧ lt256 m ∧ m.length ≤ 20000

theorem seal_ok {l : List Nat} (h : lt256 l) (hl : l.length ≤ 10000) : ∃ x, m_law28_seal (iz l) = some x ∧ bytesP x := by
  unfold m_law28_seal
  have hc := crcF_range (iz l)
  rw [ref_crcF _ (by rw [iz_len]; omega), bnd_some]
  have ha : app 1 ([] : List Int) (iz l) = some (iz l) := app_iz (l := []) (by simp; omega) (by simp; omega)
  have hf : ([IntKind.wrap .u8 (iShr .u32 (crcF (iz l)) 24), IntKind.wrap .u8 (iShr .u32 (crcF (iz l)) 16), IntKind.wrap .u8 (iShr .u32 (crcF (iz l)) 8), IntKind.wrap .u8 (crcF (iz l))] : List Int) = iz (fourN (crcF (iz l)).toNat) := four_izT hc.1
  have h4 : (fourN (crcF (iz l)).toNat).length = 4 := rfl
  rw [ha, bnd_some, hf, app_iz (by omega) (by omega), bnd_some]
  exact ⟨_, rfl, _, rfl, h.app (lt_fourN _), by rw [List.length_append]; omega⟩

theorem encNN_min (b : T_Bundle) : 10 ≤ (encNN b).length := by
  unfold encNN bodyN
  simp only [List.length_append, List.length_cons, List.length_nil, show ∀ n, (fourN n).length = 4 from fun _ => rfl]
  omega

theorem app24 {l m : List (List Int)} (h : l.length + m.length ≤ 1000) : app 24 l m = some (l ++ m) := app_eq (by omega) (by omega)

theorem reads_true (codes raw : List Int) (at_ by_ : Int) (h : okL (inK .u8) codes) (hr : okL (inK .u8) raw) (ha : inK .u16 at_) (hb : inK .u8 by_) : m_law28_BundleReads codes raw at_ by_ = some true := by
  have ha' : 0 ≤ at_ ∧ at_ ≤ 65535 := ha
  have hb' : 0 ≤ by_ ∧ by_ ≤ 255 := hb
  unfold m_law28_BundleReads
  rw [awake_true, bnd_some, Bool.not_true, cond_false]
  by_cases c1 : 9000 < raw.length
  · rw [cnd_t (decide_eq_true (by omega))]
  rw [cnd_f (decide_eq_false (by omega))]
  obtain ⟨c, e2, hc⟩ := new_codes h (most := 300) (by omega) (by omega)
  rw [e2, bnd_some]
  obtain ⟨c', made, e3, _, ho, hm1, hm2⟩ := bundle_ok hc
  rw [e3, bnd_some]
  dsimp only
  refine bnd_eq (Encode_ref made) ?_
  obtain ⟨rn, hrl, hre⟩ := okL_iz hr
  have hraw : bytesP raw := ⟨rn, hre, hrl, by rw [hre, iz_len] at c1; omega⟩
  obtain ⟨r5, e5, h5⟩ := seal_ok hrl (by rw [hre, iz_len] at c1; omega)
  rw [← hre] at e5
  refine bnd_eq e5 ?_
  have key : ∀ (o : Option (List (List Int))) (k : List (List Int) → Option Bool), (∃ l, o = some l ∧ l.length ≤ 10 ∧ ∀ x ∈ l, bytesP x) → (∀ l, l.length ≤ 10 → (∀ x ∈ l, bytesP x) → k l = some true) → bnd o k = some true := by
    intro o k ⟨l, h1, h2, h3⟩ h4
    rw [h1]
    exact h4 l h2 h3
  refine key _ _ ?_ fun l hl hP => ?_
  · by_cases hv : validB made = 0
    · have hu : okU made := fun i hi => (ho i hi).1
      rw [encR_ok hv]
      dsimp only
      have hlt := lt_encNN hu
      have hlen := encB_len hv
      rw [encB_iz hv hu] at hlen ⊢
      rw [iz_len] at hlen
      have hmin := encNN_min made
      obtain ⟨a, rfl⟩ : ∃ a : Nat, at_ = (a : Int) := ⟨at_.toNat, by omega⟩
      obtain ⟨y, rfl⟩ : ∃ y : Nat, by_ = (y : Int) := ⟨by_.toNat, by omega⟩
      generalize hE : encNN made = e at *
      have hq : a % e.length < e.length := Nat.mod_lt _ (by omega)
      generalize hQ : a % e.length = q at *
      have hq2 : q % (e.length - 4) < e.length - 4 := Nat.mod_lt _ (by omega)
      have w1 : IntKind.wrap .i64 ((e.length : Int) - 4) = ((e.length - 4 : Nat) : Int) := by rw [wrap_i64 (by omega) (by omega)]; omega
      have w2 : IntKind.wrap .i64 (((q % (e.length - 4) : Nat) : Int) + 1) = ((q % (e.length - 4) + 1 : Nat) : Int) := by rw [wrap_i64 (by omega) (by omega)]; omega
      have hx := hlt.get hq
      have hxy := Nat.xor_lt_two_pow (x := e[q]) (y := y) (n := 8) hx (by omega)
      have hlt2 : lt256 (e.set q (e[q] ^^^ y)) := fun z hz => by
        rcases List.mem_or_eq_of_mem_set hz with hz | rfl
        · exact hlt z hz
        · exact hxy
      have hcp : app 1 ([] : List Int) (iz e) = some (iz e) := app_iz (l := []) (by simp; omega) (by simp; omega)
      have hrem : remM ((a : Nat) : Int) (e.length : Int) = some ((q : Nat) : Int) := by rw [remM_n (by omega), hQ]
      have hrem2 : remM ((q : Nat) : Int) ((e.length - 4 : Nat) : Int) = some ((q % (e.length - 4) : Nat) : Int) := remM_n (by omega)
      have hz : ∀ n : Nat, n ≤ e.length → sub (iz e) 0 ((n : Nat) : Int) = some (iz (e.take n)) := fun n hn => by
        rw [show (0 : Int) = ((0 : Nat) : Int) from rfl, sub_iz (by omega) hn, List.drop_zero]
      have hz2 : sub (iz (e.set q (e[q] ^^^ y))) 0 ((e.length - 4 : Nat) : Int) = some (iz ((e.set q (e[q] ^^^ y)).take (e.length - 4))) := by
        rw [show (0 : Int) = ((0 : Nat) : Int) from rfl, sub_iz (by omega) (by rw [List.length_set]; omega), List.drop_zero]
      have hapy : app 1 (iz e) [((y : Nat) : Int)] = some (iz (e ++ [y])) := app_iz (m := [y]) (by simp; omega) (by simp; omega)
      rw [cnd_t (decide_eq_true (by rw [iz_len]; omega)), wrap_i64n (by omega), iz_len]
      rw [hrem, bnd_some, hcp, bnd_some, elt_iz hq, bnd_some, iXor_u8 hx (by omega), setE_iz hq, bnd_some, hz q (by omega), bnd_some]
      rw [show ((iz (e.set q (e[q] ^^^ y))).length : Int) = (e.length : Int) by rw [iz_len, List.length_set]]
      rw [w1, hz2, bnd_some, hrem2, bnd_some, hz _ (by omega), bnd_some, bnd_some, w2, sub_iz (by omega) (by omega), bnd_some, bnd_some, hapy, bnd_some]
      obtain ⟨r6, e6, h6⟩ := seal_ok (hlt2.take (e.length - 4)) (by rw [List.length_take, List.length_set]; omega)
      rw [e6, bnd_some]
      have hcp2 : app 1 ([] : List Int) (iz (e.take (q % (e.length - 4)))) = some (iz (e.take (q % (e.length - 4)))) := app_iz (l := []) (by simp; omega) (by simp; omega)
      rw [hcp2, bnd_some, app_iz (by simp; omega) (by simp; omega), bnd_some]
      obtain ⟨r7, e7, h7⟩ := seal_ok ((hlt.take (q % (e.length - 4))).app ((hlt.take (e.length - 4)).drop (q % (e.length - 4) + 1))) (by rw [List.length_append, List.length_take, List.length_drop, List.length_take]; omega)
      rw [e7, bnd_some, app24 (by simp), bnd_some]
      refine ⟨_, rfl, by simp, fun x hx' => ?_⟩
      simp only [List.cons_append, List.nil_append, List.mem_cons, List.not_mem_nil, or_false] at hx'
      rcases hx' with rfl | rfl | rfl | rfl | rfl | rfl | rfl | rfl
      · exact hraw
      · exact h5
      · exact ⟨_, rfl, hlt, by omega⟩
      · exact ⟨_, rfl, hlt.take _, by rw [List.length_take]; omega⟩
      · exact ⟨_, rfl, hlt.app (.cons (by omega) .nil), by rw [List.length_append]; simp; omega⟩
      · exact ⟨_, rfl, hlt2, by rw [List.length_set]; omega⟩
      · exact h6
      · exact h7
    · rw [encR_bad hv]
      refine ⟨_, rfl, by simp, fun x hx' => ?_⟩
      simp only [List.mem_cons, List.not_mem_nil, or_false] at hx'
      rcases hx' with rfl | rfl
      · exact hraw
      · exact h5
  · refine bnd_loop (fun i => (i : Int)) l.length (.inr ()) rfl (fun i hi => ?_) (by simp) rfl
    rw [decide_eq_true (by omega : (i : Int) < (l.length : Int)), cond_true]
    refine bnd_eq (elt_lt hi) ?_
    obtain ⟨m, h1, h2, h3⟩ := hP _ (List.getElem_mem hi)
    rw [h1]
    refine bnd_eq (Decode_prog h2 (by omega)) ?_
    refine bnd_eq (Decode_ref h2 (by omega)) ?_
    obtain ⟨s1, s2⟩ := decB_small m
    rw [cnd_f (by simp), same_refl _ (by omega) (by omega), bnd_some, bnd_some, Bool.not_true, cond_false, wrap_succ hi (by omega)]

end Go.Proofs.Ytgnmhmnglbbamaa
