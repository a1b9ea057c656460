/-
  The reference decodes as the plain one does; the law of the reads.
  Conditions: none.
-/
import Derived.Test.YtgnmhmnglbbamaaBun9
namespace Go.Proofs.Ytgnmhmnglbbamaa
open Go
set_option linter.unusedSimpArgs false
set_option linter.unusedVariables false

theorem rsr_start (b : List Nat) : RSR (⟨iz b, 0, false⟩ : T_ref28_reader) b (some b) := ⟨rfl, 0, rfl, by omega, .inl ⟨rfl, rfl⟩⟩
theorem rsr_some {s : T_ref28_reader} {b r : List Nat} (h : RSR s b (some r)) : s.bad = false ∧ ∃ a : Nat, s.at_ = (a : Int) ∧ a ≤ b.length ∧ r = b.drop a := by
  obtain ⟨_, a, h1, h2, h3⟩ := h
  rcases h3 with ⟨h3, h4⟩ | ⟨_, h4⟩
  · injection h4 with h4
    exact ⟨h3, a, h1, h2, h4⟩
  · cases h4
theorem rsr_none {s : T_ref28_reader} {b : List Nat} (h : RSR s b none) : s.bad = true := by
  obtain ⟨_, a, h1, h2, h3⟩ := h
  rcases h3 with ⟨_, h4⟩ | ⟨h3, _⟩
  · cases h4
  · exact h3
theorem getD_ltR {o : Option (List Nat)} {b : List Nat} {s : T_ref28_reader} (h : RSR s b o) (hb : lt256 b) : ((o.bind (rNum 1)).map (·.1)).getD 0 < 256 := num_valR (b := b) 1 (by omega) (rs_ltR h hb)

theorem be_four {n : Nat} {l : List Nat} (hl : lt256 l) (h4 : l.length = 4) (hn : n < 4294967296) : fourN n = l ↔ be l = n := by
  constructor
  · intro h
    rw [← h, be_fourN hn]
  · intro h
    refine be_inj (lt_fourN n) hl h4.symm ?_
    rw [be_fourN hn, h]

theorem rImgs_length : ∀ (k : Nat) (r : List Nat) (y : List ImgR × List Nat), rImgs k r = some y → y.1.length = k
  | 0, r, y, h => by
    simp only [rImgs, Option.some.injEq] at h
    rw [← h]
    rfl
  | k + 1, r, y, h => by
    rw [rImgs] at h
    obtain ⟨x, h1, h2⟩ := bind_e h
    obtain ⟨w, h3, h4⟩ := map_e h2
    rw [← h4, List.length_cons, rImgs_length k _ w h3]

theorem Decode_ref {b : List Nat} (hb : lt256 b) (hl : b.length ≤ 100000) : m_ref28_Decode (iz b) = some (decB b) := by
  unfold m_ref28_Decode decB noB
  by_cases c1 : 8192 < b.length
  · rw [if_pos c1, cnd_t (decide_eq_true (by rw [iz_len]; omega))]
  rw [if_neg c1, cnd_f (decide_eq_false (by rw [iz_len]; omega))]
  by_cases c2 : b.length < 10
  · rw [if_pos c2, cnd_t (decide_eq_true (by rw [iz_len]; omega))]
  rw [if_neg c2, cnd_f (decide_eq_false (by rw [iz_len]; omega))]
  have w : IntKind.wrap .i64 (((iz b).length : Int) - 4) = ((b.length - 4 : Nat) : Int) := by rw [iz_len, wrap_i64 (by omega) (by omega)]; omega
  have hs1 : sub (iz b) ((b.length - 4 : Nat) : Int) ((iz b).length : Int) = some (iz (b.drop (b.length - 4))) := by
    rw [iz_len, sub_iz (by omega) (by omega), List.take_length]
  have hs2 : sub (iz b) 0 ((b.length - 4 : Nat) : Int) = some (iz (b.take (b.length - 4))) := by
    rw [show (0 : Int) = ((0 : Nat) : Int) from rfl, sub_iz (by omega) (by omega), List.drop_zero]
  rw [w, hs1, hs2]
  have hbody : (b.take (b.length - 4)).length = b.length - 4 := by rw [List.length_take]; omega
  have hlast : ((b.length - 4 : Nat) : Int) = ((b.take (b.length - 4)).length : Int) := by rw [hbody]
  rw [hlast]
  generalize hB : b.take (b.length - 4) = body at *
  generalize hT : b.drop (b.length - 4) = tail at *
  have hbo : lt256 body := by rw [← hB]; exact hb.take _
  have hta : lt256 tail := by rw [← hT]; exact hb.drop _
  have htl : tail.length = 4 := by rw [← hT, List.length_drop]; omega
  have hbe := be_lt tail hta
  rw [htl] at hbe
  have hcr := crcF_range (iz body)
  rw [bnd_some]
  refine bnd_eq (ref_crcF _ (by rw [iz_len]; omega)) ?_
  rw [bnd_some]
  refine bnd_eq (rfour _) ?_
  have hcmp : ((strOf (four (crcF (iz body)))).toList == (strOf (iz tail)).toList) = decide (((be tail : Nat) : Int) = crcF (iz body)) := by
    rw [four_izT hcr.1, strOf_iz, strOf_iz, str_beq', bs_sb (lt_fourN _), bs_sb hta, Bool.eq_iff_iff, decide_eq_true_eq, decide_eq_true_eq, be_four hta htl (by omega)]
    omega
  rw [hcmp]
  by_cases c3 : ((be tail : Nat) : Int) ≠ crcF (iz body)
  · rw [if_pos c3, decide_eq_false c3]
    rfl
  rw [if_neg c3, decide_eq_true (by simpa using c3), Bool.not_true, cond_false, bnd_some]
  obtain ⟨s3, t3, f3, g3, w3, v3, _, _⟩ := takeR (rsr_start body) hbo (by omega) (n := 4) (by omega)
  have e3 := v3 _ (by rw [Option.bind_some]; exact rd_some (by omega))
  rw [Option.bind_some, rd_some (by omega), Option.map_some] at g3
  subst e3
  refine bnd_eq f3 ?_
  dsimp only
  have hlet : ((strOf (iz (body.take 4))).toList == ((⟨#[66, 77, 67, 70]⟩) : ByteArray).toList) = decide (body.take 4 = [66, 77, 67, 70]) := by
    rw [strOf_iz, str_beq', bs_sb (hbo.take 4)]
    rfl
  rw [hlet]
  unfold bodyB noB
  by_cases c4 : body.take 4 ≠ [66, 77, 67, 70]
  · rw [if_pos c4, decide_eq_false c4]
    rfl
  rw [if_neg c4, decide_eq_true (by simpa using c4), Bool.not_true, cond_false]
  obtain ⟨s4, n4, f4, g4, v4⟩ := numR g3 hbo (by omega) (n := 1) (by omega)
  have hn4 := getD_ltR g3 hbo
  rw [← v4] at hn4
  rw [Option.bind_some, rNum_some (by rw [List.length_drop]; omega), Option.map_some] at g4 v4
  simp only [Option.getD_some, List.drop_drop] at g4 v4
  refine bnd_eq f4 ?_
  obtain ⟨sums, s5, imgs, f5, g5, v5⟩ := imgsR hbo (by omega) _ (fun _ => rfl) n4 [] [] s4 _ [] g4 (by simp; omega) rfl
  refine bnd_eq f5 ?_
  obtain ⟨s6, n6, f6, g6, v6⟩ := numR g5 hbo (by omega) (n := 1) (by omega)
  have hn6 := getD_ltR g5 hbo
  rw [← v6] at hn6
  refine bnd_eq (show m_ref28_reader_number (⟨s5.b, s5.at_, s5.bad⟩ : T_ref28_reader) 1 = _ from f6) ?_
  obtain ⟨s7, needs, f7, g7, v7⟩ := needsR hbo (by omega) _ (fun _ => rfl) n6 [] s6 _ [] g6 (by simp; omega)
  refine bnd_eq f7 ?_
  dsimp only
  rw [parse_eq body (by omega)]
  rw [show be ((body.drop 4).take 1) = n4 from v4.symm]
  cases hi : rImgs n4 (body.drop 5) with
  | none =>
    have e5 : ((some (List.drop (4 + 1) body)).bind fun r => Option.map (fun x => x.2) (rImgs n4 r)) = none := by rw [Option.bind_some, hi]; rfl
    rw [show (((some (List.drop (4 + 1) body)).bind fun r => Option.map (fun x => x.2) (rImgs n4 r)).bind fun r => Option.map (fun x => x.2) (rNum 1 r)) = none by rw [e5]; rfl] at g7
    rw [rsr_none g7]
    rfl
  | some x =>
    have e5 : ((some (List.drop (4 + 1) body)).bind fun r => Option.map (fun x => x.2) (rImgs n4 r)) = some x.2 := by rw [Option.bind_some, hi]; rfl
    obtain ⟨i1, i2⟩ := v5 x (by rw [Option.bind_some]; exact hi)
    rw [e5] at g7 v7 v6
    rw [Option.bind_some] at g7 v7 v6
    rw [Option.bind_some]
    cases hn : rNum 1 x.2 with
    | none =>
      rw [hn] at g7
      rw [rsr_none g7]
      rfl
    | some y =>
      rw [hn] at g7 v7 v6
      rw [Option.map_some, Option.bind_some] at g7 v7
      rw [Option.map_some, Option.getD_some] at v6
      rw [Option.bind_some, ← v6]
      cases hm : rNeeds n6 y.2 with
      | none =>
        rw [hm] at g7
        rw [rsr_none g7]
        rfl
      | some z =>
        rw [hm] at g7
        have j1 := v7 z hm
        obtain ⟨k1, a, k2, k3, k4⟩ := rsr_some g7
        rw [k1, cond_false, bnd_some, Option.map_some]
        dsimp only
        rw [k2]
        have hrest : ((a : Int) != (body.length : Int)) = decide (z.2 ≠ []) := by
          rw [Bool.eq_iff_iff]
          simp only [bne_iff_ne, ne_eq, decide_eq_true_eq, k4, List.drop_eq_nil_iff]
          omega
        rw [hrest]
        by_cases c5 : z.2 ≠ []
        · rw [if_pos c5, decide_eq_true c5]
          rfl
        rw [if_neg c5, decide_eq_false c5, cond_false, i2, i1, j1, List.nil_append, List.nil_append, List.nil_append]
        have hcut := rImgs_cut n4 _ x (hbo.drop 5) hi
        have hxl := rImgs_length n4 _ x hi
        refine bnd_loop_any (fun i => ((i : Int), x.1.map (·.1))) x.1.length (fun i => !((x.1[i]?.map okImg).getD true)) (.inl (⟨[], []⟩, 5)) (.inr (x.1.map (·.1))) rfl (fun i hi' => ?_) (by simp) ?_
        · have hz := hcut _ (List.getElem_mem hi')
          dsimp only
          rw [decide_eq_true (by rw [List.length_map]; omega : (i : Int) < ((x.1.map fun z => ((z.2.1 : Nat) : Int)).length : Int)), cond_true]
          refine bnd_eq (elt_lt (by rw [List.length_map]; omega)) ?_
          refine bnd_eq (elt_lt (by rw [List.length_map]; omega)) ?_
          refine bnd_eq (elt_lt (by rw [List.length_map]; omega)) ?_
          refine bnd_eq (elt_lt (by rw [List.length_map]; omega)) ?_
          rw [List.getElem_map, List.getElem_map]
          refine bnd_eq (bytes_refB ⟨hz.2.1, hz.2.2⟩) ?_
          refine bnd_eq (ref_crcF _ (by have := imgL_lenB ⟨hz.2.1, hz.2.2⟩; omega)) ?_
          rw [hz.1, List.getElem?_eq_getElem hi', Option.map_some, Option.getD_some]
          have : (crcF (iz x.1[i].2.2) != ((x.1[i].2.1 : Nat) : Int)) = !okImg x.1[i] := by
            unfold okImg
            rw [Bool.eq_iff_iff]
            simp only [bne_iff_ne, ne_eq, Bool.not_eq_true', decide_eq_false_iff_not]
            exact ⟨fun h g => h g.symm, fun h g => h g.symm⟩
          rw [this, wrap_succ hi' (by omega)]
          cases okImg x.1[i] <;> rfl
        · have hall : (List.range x.1.length).any (fun i => !((x.1[i]?.map okImg).getD true)) = !x.1.all okImg := by
            rw [any_range x.1 (fun z => !okImg z) _ fun i h => by rw [List.getElem?_eq_getElem h]; rfl]
            rw [List.not_all_eq_any_not]
          rw [hall]
          cases c6 : x.1.all okImg
          · rfl
          · rw [Bool.not_true, cond_false, retOr_inr, Valid_ref, bnd_some]
            by_cases c7 : validB ⟨x.1.map (·.1), z.1⟩ ≠ 0
            · rw [if_neg (by simp), if_pos c7, cnd_t (by simpa using c7)]
            · rw [if_neg (by simp), if_neg c7, cnd_f (by simpa using c7)]

end Go.Proofs.Ytgnmhmnglbbamaa
