/-
  What bytes are decoded to as a bundle: the program's answer is the plain one.
  Conditions: none.
-/
import Derived.Test.YtgnmhmnglbbamaaBun5
namespace Go.Proofs.Ytgnmhmnglbbamaa
open Go
set_option linter.unusedSimpArgs false
set_option linter.unusedVariables false

theorem crcF_range (l : List Int) : 0 ≤ crcF l ∧ crcF l ≤ 4294967295 := wrap32_range _

theorem rsp_start (b : List Nat) : RSP (⟨iz b, 0, false⟩ : T_bundle_reader) b (some b) := ⟨rfl, 0, rfl, by omega, .inl ⟨rfl, rfl⟩⟩
theorem rd_some {n : Nat} {r : List Nat} (h : n ≤ r.length) : rd n r = some (r.take n, r.drop n) := by
  unfold rd
  rw [if_pos h]
theorem rNum_some {n : Nat} {r : List Nat} (h : n ≤ r.length) : rNum n r = some (be (r.take n), r.drop n) := by
  unfold rNum
  rw [rd_some h]
  rfl

theorem rsp_some {s : T_bundle_reader} {b r : List Nat} (h : RSP s b (some r)) : s.bad = false ∧ ∃ a : Nat, s.at_ = (a : Int) ∧ a ≤ b.length ∧ r = b.drop a := by
  obtain ⟨_, a, h1, h2, h3⟩ := h
  rcases h3 with ⟨h3, h4⟩ | ⟨_, h4⟩
  · injection h4 with h4
    exact ⟨h3, a, h1, h2, h4⟩
  · cases h4
theorem rsp_none {s : T_bundle_reader} {b : List Nat} (h : RSP s b none) : s.bad = true := by
  obtain ⟨_, a, h1, h2, h3⟩ := h
  rcases h3 with ⟨_, h4⟩ | ⟨h3, _⟩
  · cases h4
  · exact h3

theorem getD_lt {o : Option (List Nat)} {b : List Nat} {s : T_bundle_reader} (h : RSP s b o) (hb : lt256 b) : ((o.bind (rNum 1)).map (·.1)).getD 0 < 256 := num_valP (b := b) 1 (by omega) (rs_ltP h hb)

theorem parse_eq (body : List Nat) (h5 : 5 ≤ body.length) : parseB body = (rImgs (be ((body.drop 4).take 1)) (body.drop 5)).bind fun x => (rNum 1 x.2).bind fun m => (rNeeds m.1 m.2).map fun y => (x.1, y.1, y.2) := by
  unfold parseB
  rw [rNum_some (by rw [List.length_drop]; omega), Option.bind_some, List.drop_drop]

theorem Decode_prog {b : List Nat} (hb : lt256 b) (hl : b.length ≤ 100000) : m_bundle_Decode (iz b) = some (decB b) := by
  unfold m_bundle_Decode decB noB
  by_cases c1 : 8192 < b.length
  · rw [if_pos c1, cnd_t (decide_eq_true (by rw [iz_len]; omega))]
  rw [if_neg c1, cnd_f (decide_eq_false (by rw [iz_len]; omega))]
  by_cases c2 : b.length < 10
  · rw [if_pos c2, cnd_t (decide_eq_true (by rw [iz_len]; omega))]
  rw [if_neg c2, cnd_f (decide_eq_false (by rw [iz_len]; omega))]
  have w : IntKind.wrap .i64 (((iz b).length : Int) - 4) = ((b.length - 4 : Nat) : Int) := by rw [iz_len, wrap_i64 (by omega) (by omega)]; omega
  have hs1 : sub (iz b) ((b.length - 4 : Nat) : Int) ((iz b).length : Int) = some (iz (b.drop (b.length - 4))) := by
    rw [iz_len, sub_iz (by omega) (by omega), List.take_length]
  have hs2 : sub (iz b) 0 ((b.length - 4 : Nat) : Int) = some (iz (b.take (b.length - 4))) := by
    rw [show (0 : Int) = ((0 : Nat) : Int) from rfl, sub_iz (by omega) (by omega), List.drop_zero]
  rw [w, hs1, bnd_some, hs2, bnd_some]
  have hbody : (b.take (b.length - 4)).length = b.length - 4 := by rw [List.length_take]; omega
  generalize hB : b.take (b.length - 4) = body at *
  generalize hT : b.drop (b.length - 4) = tail at *
  have hbo : lt256 body := by rw [← hB]; exact hb.take _
  have hta : lt256 tail := by rw [← hT]; exact hb.drop _
  have htl : tail.length = 4 := by rw [← hT, List.length_drop]; omega
  obtain ⟨s1, v1, f1, _, v1e⟩ := numP (rsp_start tail) hta (by omega) (n := 4) (by omega)
  rw [Option.bind_some, rNum_some (by omega), Option.map_some, Option.getD_some, List.take_of_length_le (by omega)] at v1e
  have hbe := be_lt tail hta
  rw [htl] at hbe
  refine bnd_eq f1 ?_
  refine bnd_eq (prog_crcF _ (by rw [iz_len]; omega)) ?_
  dsimp only
  rw [v1e, wrap_u32n (by omega)]
  by_cases c3 : ((be tail : Nat) : Int) ≠ crcF (iz body)
  · rw [if_pos c3, cnd_t (by simpa using c3)]
  rw [if_neg c3, cnd_f (by simpa using c3)]
  obtain ⟨s3, t3, f3, g3, w3, v3, _, _⟩ := takeP (rsp_start body) hbo (by omega) (n := 4) (by omega)
  have e3 := v3 _ (by rw [Option.bind_some]; exact rd_some (by omega))
  rw [Option.bind_some, rd_some (by omega), Option.map_some] at g3
  subst e3
  refine bnd_eq f3 ?_
  obtain ⟨s4, n4, f4, g4, v4⟩ := numP g3 hbo (by omega) (n := 1) (by omega)
  have hn4 := getD_lt g3 hbo
  rw [← v4] at hn4
  rw [Option.bind_some, rNum_some (by rw [List.length_drop]; omega), Option.map_some] at g4 v4
  simp only [Option.getD_some, List.drop_drop] at g4 v4
  refine bnd_eq f4 ?_
  obtain ⟨sm, s5, imgs, f5, g5, v5⟩ := imgsP hbo (by omega) _ (fun _ => rfl) n4 true [] s4 _ [] g4 (by simp; omega)
  refine bnd_eq f5 ?_
  obtain ⟨s6, n6, f6, g6, v6⟩ := numP g5 hbo (by omega) (n := 1) (by omega)
  have hn6 := getD_lt g5 hbo
  rw [← v6] at hn6
  refine bnd_eq (show m_bundle_reader_number (⟨s5.b, s5.at_, s5.bad⟩ : T_bundle_reader) 1 = _ from f6) ?_
  obtain ⟨s7, needs, f7, g7, v7⟩ := needsP hbo (by omega) _ (fun _ => rfl) n6 [] s6 _ [] g6 (by simp; omega)
  refine bnd_eq f7 ?_
  dsimp only
  have hlet : ((strOf (iz (body.take 4))).toList == ((⟨#[66, 77, 67, 70]⟩) : ByteArray).toList) = decide (body.take 4 = [66, 77, 67, 70]) := by
    rw [strOf_iz, str_beq', bs_sb (hbo.take 4)]
    rfl
  rw [hlet]
  have hlen : ((iz body).length : Int) = (body.length : Int) := by rw [iz_len]
  rw [hlen]
  unfold bodyB noB
  by_cases c4 : body.take 4 ≠ [66, 77, 67, 70]
  · rw [if_pos c4, decide_eq_false c4]
    rfl
  rw [if_neg c4, decide_eq_true (by simpa using c4), Bool.not_true, cond_false]
  rw [parse_eq body (by omega)]
  rw [show be ((body.drop 4).take 1) = n4 from v4.symm]
  have hfin : ∀ {β : Type} (x y : β), s7.bad = true → ∀ z, (bnd ((bif s7.bad then (some true) else z : Option Bool)) fun o6 => bif o6 then some x else some y) = some x := fun x y h z => by rw [h]; rfl
  cases hi : rImgs n4 (body.drop 5) with
  | none =>
    have e5 : ((some (List.drop (4 + 1) body)).bind fun r => Option.map (fun x => x.2) (rImgs n4 r)) = none := by rw [Option.bind_some, hi]; rfl
    rw [e5] at g6
    rw [Option.bind_none] at g6
    rw [show (((some (List.drop (4 + 1) body)).bind fun r => Option.map (fun x => x.2) (rImgs n4 r)).bind fun r => Option.map (fun x => x.2) (rNum 1 r)) = none by rw [e5]; rfl] at g7
    rw [rsp_none g7]
    rfl
  | some x =>
    have e5 : ((some (List.drop (4 + 1) body)).bind fun r => Option.map (fun x => x.2) (rImgs n4 r)) = some x.2 := by rw [Option.bind_some, hi]; rfl
    obtain ⟨i1, i2⟩ := v5 x (by rw [Option.bind_some]; exact hi)
    rw [e5] at g7 v7 v6
    rw [Option.bind_some] at g7 v7 v6
    rw [Option.bind_some]
    cases hn : rNum 1 x.2 with
    | none =>
      rw [hn] at g7
      rw [rsp_none g7]
      rfl
    | some y =>
      rw [hn] at g7 v7 v6
      rw [Option.map_some, Option.bind_some] at g7 v7
      rw [Option.map_some, Option.getD_some] at v6
      rw [Option.bind_some, ← v6]
      cases hm : rNeeds n6 y.2 with
      | none =>
        rw [hm] at g7
        rw [rsp_none g7]
        rfl
      | some z =>
        rw [hm] at g7
        have j1 := v7 z hm
        obtain ⟨k1, a, k2, k3, k4⟩ := rsp_some g7
        rw [k1, cond_false, bnd_some, Option.map_some]
        dsimp only
        rw [k2]
        have hrest : ((a : Int) != (body.length : Int)) = decide (z.2 ≠ []) := by
          rw [Bool.eq_iff_iff]
          simp only [bne_iff_ne, ne_eq, decide_eq_true_eq, k4, List.drop_eq_nil_iff]
          omega
        rw [hrest]
        by_cases c5 : z.2 ≠ []
        · rw [if_pos c5, decide_eq_true c5]
          rfl
        rw [if_neg c5, decide_eq_false c5, cond_false, i2, Bool.true_and, i1, j1, List.nil_append, List.nil_append]
        cases c6 : x.1.all okImg
        · rfl
        · rw [Bool.not_true, cond_false, Valid_prog, bnd_some]
          by_cases c7 : validB ⟨x.1.map (·.1), z.1⟩ ≠ 0
          · rw [if_neg (by simp), if_pos c7, cnd_t (by simpa using c7)]
          · rw [if_neg (by simp), if_neg c7, cnd_f (by simpa using c7)]

end Go.Proofs.Ytgnmhmnglbbamaa
