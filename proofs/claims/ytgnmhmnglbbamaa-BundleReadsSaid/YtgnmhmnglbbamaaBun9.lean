/-
  What bytes are decoded to as a bundle: the reference's answer is the plain one.
  Conditions: none.
-/
import Derived.Test.YtgnmhmnglbbamaaBunR
import Derived.Test.YtgnmhmnglbbamaaBun4R
namespace Go.Proofs.Ytgnmhmnglbbamaa
open Go
set_option linter.unusedSimpArgs false
set_option linter.unusedVariables false

theorem append4 (acc : List Int) (x : Int) (h : acc.length ≤ 1000) : app 4 acc [x] = some (acc ++ [x]) := app_eq (by simp; omega) (by simp; omega)

theorem imgsR {b : List Nat} (hb : lt256 b) (hl : b.length ≤ 100000) (m : List Int × Int × List T_Image × List Int × Int × Bool × List T_Image → Option (Step (List Int × Int × List T_Image × List Int × Int × Bool × List T_Image) (List Int × List T_Image × List Int × Int × Bool × List T_Image)))
    (hm : ∀ s1, m s1 = bnd ((bif decide (s1.2.1 > 0) then (some (!s1.2.2.2.2.2.1)) else (some false) : Option Bool)) fun o2 => bif o2 then (bnd (m_ref28_reader_text (⟨s1.2.2.2.1, s1.2.2.2.2.1, s1.2.2.2.2.2.1⟩ : T_ref28_reader)) fun r5 => bnd (m_ref28_reader_version r5.1) fun r6 => bnd (m_ref28_reader_number r6.1 2) fun r7 => bnd (m_ref28_reader_take r7.1 r7.2) fun r8 => bnd (app 64 s1.2.2.2.2.2.2 [(⟨r5.2, r6.2, r8.2⟩ : T_Image)]) fun l4 => bnd (m_ref28_reader_number r8.1 4) fun r9 => bnd (app 4 s1.1 [IntKind.wrap .u32 r9.2]) fun l5 => some (.next (l5, IntKind.wrap .i64 (s1.2.1 - 1), s1.2.2.1, r9.1.b, r9.1.at_, r9.1.bad, l4))) else (some (.done (s1.1, s1.2.2.1, s1.2.2.2.1, s1.2.2.2.2.1, s1.2.2.2.2.2.1, s1.2.2.2.2.2.2)))) :
    ∀ (k : Nat) (sm : List Int) (x : List T_Image) (s : T_ref28_reader) (o : Option (List Nat)) (acc : List T_Image), RSR s b o → acc.length + k ≤ 300 → sm.length = acc.length →
      ∃ sm' s' acc', loopM m (sm, (k : Int), x, s.b, s.at_, s.bad, acc) = some (sm', x, s'.b, s'.at_, s'.bad, acc') ∧ RSR s' b (o.bind fun r => (rImgs k r).map (·.2)) ∧
        (∀ y, o.bind (rImgs k) = some y → acc' = acc ++ y.1.map (·.1) ∧ sm' = sm ++ y.1.map fun z => ((z.2.1 : Nat) : Int)) := by
  intro k
  induction k with
  | zero =>
    intro sm x s o acc hs _ _
    refine ⟨sm, s, acc, ?_, ?_, fun y hy => ?_⟩
    · apply loop_done
      rw [hm]
      rfl
    · cases o with
      | none => exact hs
      | some r => exact hs
    · obtain ⟨r, rfl, hr⟩ := bind_e hy
      simp only [rImgs, Option.some.injEq] at hr
      rw [← hr]
      simp
  | succ k ih =>
    intro sm x s o acc hs hacc hsm
    cases o with
    | none =>
      have hbad : s.bad = true := by
        obtain ⟨_, a, _, _, h⟩ := hs
        rcases h with ⟨_, h⟩ | ⟨h, _⟩
        · cases h
        · exact h
      refine ⟨sm, s, acc, ?_, hs, fun y hy => by cases hy⟩
      apply loop_done
      rw [hm]
      simp only [decide_eq_true (by omega : ((k + 1 : Nat) : Int) > 0), cond_true, hbad, Bool.not_true, bnd_some, cond_false]
    | some r =>
      have hs0 := hs
      obtain ⟨e1, a, e2, e3, e4⟩ := hs
      have hbad : s.bad = false ∧ r = b.drop a := by
        rcases e4 with ⟨h, h2⟩ | ⟨_, h⟩
        · injection h2 with h2
          exact ⟨h, h2⟩
        · cases h
      have heta : (⟨s.b, s.at_, s.bad⟩ : T_ref28_reader) = s := rfl
      obtain ⟨s5, t5, f5, g5, v5⟩ := textR hs0 hb (by omega)
      obtain ⟨s6, t6, f6, g6, v6⟩ := verR g5 hb (by omega)
      obtain ⟨s7, n7, f7, g7, v7⟩ := numR g6 hb (by omega) (n := 2) (by omega)
      have hn7 := num_valR (b := b) 2 (by omega) (rs_ltR g6 hb)
      rw [← v7] at hn7
      obtain ⟨s8, t8, f8, g8, w8, v8, _, l8⟩ := takeR g7 hb (by omega) (n := n7) (by omega)
      obtain ⟨s10, n10, f10, g10, v10⟩ := numR g8 hb (by omega) (n := 4) (by omega)
      have hn10 := num_valR (b := b) 4 (by omega) (rs_ltR g8 hb)
      rw [← v10] at hn10
      have hrec : (((((some r).bind fun r => (rText r).map (·.2)).bind fun r => (rVer r).map (·.2)).bind fun r => (rNum 2 r).map (·.2)).bind fun r => (rd n7 r).map (·.2)).bind (fun r => (rNum 4 r).map (·.2)) = (rImg r).map (·.2) := by
        simp only [Option.bind_some]
        unfold rImg
        cases h5 : rText r with
        | none => rfl
        | some t =>
          simp only [Option.map_some, Option.bind_some]
          cases h6 : rVer t.2 with
          | none => rfl
          | some v =>
            simp only [Option.map_some, Option.bind_some]
            cases h7 : rNum 2 v.2 with
            | none => rfl
            | some kk =>
              simp only [Option.map_some, Option.bind_some]
              have hv7 : n7 = kk.1 := by
                rw [v7]
                simp only [Option.bind_some, h5, h6, h7, Option.map_some, Option.getD_some]
              rw [hv7]
              cases h8 : rd kk.1 kk.2 with
              | none => rfl
              | some d =>
                simp only [Option.map_some, Option.bind_some]
                cases rNum 4 d.2 <;> rfl
      rw [hrec] at g10
      obtain ⟨sm', s', acc', c1, c2, c3⟩ := ih (sm ++ [((n10 : Nat) : Int)]) x s10 ((rImg r).map (·.2)) (acc ++ [⟨t5, t6, iz t8⟩]) g10 (by simp; omega) (by simp [hsm])
      refine ⟨sm', s', acc', ?_, ?_, fun y hy => ?_⟩
      · refine loop_next (s' := (sm ++ [((n10 : Nat) : Int)], (k : Int), x, s10.b, s10.at_, s10.bad, acc ++ [⟨t5, t6, iz t8⟩])) ?_ c1
        rw [hm]
        simp only [decide_eq_true (by omega : ((k + 1 : Nat) : Int) > 0), cond_true, hbad.1, Bool.not_false, bnd_some, heta, f5, f6]
        rw [show (⟨s.b, s.at_, false⟩ : T_ref28_reader) = s by rw [← hbad.1], f5, bnd_some, f6, bnd_some]
        rw [show m_ref28_reader_number s6 2 = some (s7, (n7 : Int)) from f7, bnd_some, f8, bnd_some, append64 _ _ (by omega), bnd_some, show m_ref28_reader_number s8 4 = some (s10, (n10 : Int)) from f10, bnd_some, wrap_u32n (by omega), append4 _ _ (by omega), bnd_some]
        congr 4
        rw [wrap_i64 (by omega) (by omega)]
        omega
      · simp only [Option.bind_some]
        rw [rImgs]
        cases hi : rImg r with
        | none => rw [hi] at c2; exact c2
        | some z =>
          rw [hi] at c2
          simp only [Option.map_some, Option.bind_some] at c2 ⊢
          cases hk : rImgs k z.2 with
          | none => rw [hk] at c2; exact c2
          | some w => rw [hk] at c2; exact c2
      · simp only [Option.bind_some] at hy
        rw [rImgs] at hy
        obtain ⟨z, hz, hy2⟩ := bind_e hy
        obtain ⟨w, hw, hy3⟩ := map_e hy2
        have h3 := c3 w (by rw [hz]; exact hw)
        -- the image
        obtain ⟨t, q1, q2⟩ := bind_e hz
        obtain ⟨v, q3, q4⟩ := bind_e q2
        obtain ⟨kk, q5, q6⟩ := bind_e q4
        obtain ⟨d, q7, q8⟩ := bind_e q6
        obtain ⟨ss, q9, q10⟩ := map_e q8
        have ht5 : t5 = sb t.1 := v5 t q1
        have ht6 : t6 = v.1 := v6 v (by simp only [Option.bind_some, q1, Option.map_some, q3])
        have hv7 : n7 = kk.1 := by
          rw [v7]
          simp only [Option.bind_some, q1, q3, q5, Option.map_some, Option.getD_some]
        have ht8 : t8 = d.1 := v8 d (by simp only [Option.bind_some, q1, q3, q5, Option.map_some, hv7, q7])
        have hv10 : n10 = ss.1 := by
          rw [v10]
          simp only [Option.bind_some, q1, q3, q5, Option.map_some, hv7, q7, q9, Option.getD_some]
        rw [← hy3, h3.1, h3.2, ← q10]
        simp only [List.map_cons, ht5, ht6, ht8, hv10, List.append_assoc, List.cons_append, List.nil_append]
        exact ⟨trivial, trivial⟩

theorem needsR {b : List Nat} (hb : lt256 b) (hl : b.length ≤ 100000) (m : Int × List T_Need × List Int × Int × Bool × List T_Need → Option (Step (Int × List T_Need × List Int × Int × Bool × List T_Need) (List T_Need × List Int × Int × Bool × List T_Need)))
    (hm : ∀ s2, m s2 = bnd ((bif decide (s2.1 > 0) then (some (!s2.2.2.2.2.1)) else (some false) : Option Bool)) fun o5 => bif o5 then (bnd (m_ref28_reader_text (⟨s2.2.2.1, s2.2.2.2.1, s2.2.2.2.2.1⟩ : T_ref28_reader)) fun r13 => bnd (m_ref28_reader_version r13.1) fun r14 => bnd (m_ref28_reader_text r14.1) fun r15 => bnd (m_ref28_reader_version r15.1) fun r16 => bnd (app 80 s2.2.2.2.2.2 [(⟨r13.2, r14.2, r15.2, r16.2⟩ : T_Need)]) fun l5 => some (.next (IntKind.wrap .i64 (s2.1 - 1), s2.2.1, r16.1.b, r16.1.at_, r16.1.bad, l5))) else (some (.done (s2.2.1, s2.2.2.1, s2.2.2.2.1, s2.2.2.2.2.1, s2.2.2.2.2.2)))) :
    ∀ (k : Nat) (x : List T_Need) (s : T_ref28_reader) (o : Option (List Nat)) (acc : List T_Need), RSR s b o → acc.length + k ≤ 300 →
      ∃ s' acc', loopM m ((k : Int), x, s.b, s.at_, s.bad, acc) = some (x, s'.b, s'.at_, s'.bad, acc') ∧ RSR s' b (o.bind fun r => (rNeeds k r).map (·.2)) ∧
        (∀ y, o.bind (rNeeds k) = some y → acc' = acc ++ y.1) := by
  intro k
  induction k with
  | zero =>
    intro x s o acc hs _
    refine ⟨s, acc, ?_, ?_, fun y hy => ?_⟩
    · apply loop_done
      rw [hm]
      rfl
    · cases o with
      | none => exact hs
      | some r => exact hs
    · obtain ⟨r, rfl, hr⟩ := bind_e hy
      simp only [rNeeds, Option.some.injEq] at hr
      rw [← hr]
      simp
  | succ k ih =>
    intro x s o acc hs hacc
    cases o with
    | none =>
      have hbad : s.bad = true := by
        obtain ⟨_, a, _, _, h⟩ := hs
        rcases h with ⟨_, h⟩ | ⟨h, _⟩
        · cases h
        · exact h
      refine ⟨s, acc, ?_, hs, fun y hy => by cases hy⟩
      apply loop_done
      rw [hm]
      simp only [decide_eq_true (by omega : ((k + 1 : Nat) : Int) > 0), cond_true, hbad, Bool.not_true, bnd_some, cond_false]
    | some r =>
      have hs0 := hs
      obtain ⟨e1, a, e2, e3, e4⟩ := hs
      have hbad : s.bad = false := by
        rcases e4 with ⟨h, h2⟩ | ⟨_, h⟩
        · exact h
        · cases h
      obtain ⟨s5, t5, f5, g5, v5⟩ := textR hs0 hb (by omega)
      obtain ⟨s6, t6, f6, g6, v6⟩ := verR g5 hb (by omega)
      obtain ⟨s7, t7, f7, g7, v7⟩ := textR g6 hb (by omega)
      obtain ⟨s8, t8, f8, g8, v8⟩ := verR g7 hb (by omega)
      have hrec : ((((some r).bind fun r => (rText r).map (·.2)).bind fun r => (rVer r).map (·.2)).bind fun r => (rText r).map (·.2)).bind (fun r => (rVer r).map (·.2)) = (rNeed r).map (·.2) := by
        simp only [Option.bind_some]
        unfold rNeed
        cases h5 : rText r with
        | none => rfl
        | some t =>
          simp only [Option.map_some, Option.bind_some]
          cases h6 : rVer t.2 with
          | none => rfl
          | some v =>
            simp only [Option.map_some, Option.bind_some]
            cases h7 : rText v.2 with
            | none => rfl
            | some u =>
              simp only [Option.map_some, Option.bind_some]
              cases rVer u.2 <;> rfl
      rw [hrec] at g8
      obtain ⟨s', acc', c1, c2, c3⟩ := ih x s8 ((rNeed r).map (·.2)) (acc ++ [⟨t5, t6, t7, t8⟩]) g8 (by simp; omega)
      refine ⟨s', acc', ?_, ?_, fun y hy => ?_⟩
      · refine loop_next (s' := ((k : Int), x, s8.b, s8.at_, s8.bad, acc ++ [⟨t5, t6, t7, t8⟩])) ?_ c1
        rw [hm]
        simp only [decide_eq_true (by omega : ((k + 1 : Nat) : Int) > 0), cond_true, hbad, Bool.not_false, bnd_some]
        rw [show (⟨s.b, s.at_, false⟩ : T_ref28_reader) = s by rw [← hbad], f5, bnd_some, f6, bnd_some, f7, bnd_some, f8, bnd_some, append80 _ _ (by omega), bnd_some]
        congr 3
        rw [wrap_i64 (by omega) (by omega)]
        omega
      · simp only [Option.bind_some]
        rw [rNeeds]
        cases hi : rNeed r with
        | none => rw [hi] at c2; exact c2
        | some z =>
          rw [hi] at c2
          simp only [Option.map_some, Option.bind_some] at c2 ⊢
          cases hk : rNeeds k z.2 with
          | none => rw [hk] at c2; exact c2
          | some w => rw [hk] at c2; exact c2
      · simp only [Option.bind_some] at hy
        rw [rNeeds] at hy
        obtain ⟨z, hz, hy2⟩ := bind_e hy
        obtain ⟨w, hw, hy3⟩ := map_e hy2
        have h3 := c3 w (by rw [hz]; exact hw)
        obtain ⟨t, q1, q2⟩ := bind_e hz
        obtain ⟨v, q3, q4⟩ := bind_e q2
        obtain ⟨u, q5, q6⟩ := bind_e q4
        obtain ⟨w2, q7, q8⟩ := map_e q6
        have ht5 : t5 = sb t.1 := v5 t q1
        have ht6 : t6 = v.1 := v6 v (by simp only [Option.bind_some, q1, Option.map_some, q3])
        have ht7 : t7 = sb u.1 := v7 u (by simp only [Option.bind_some, q1, Option.map_some, q3, q5])
        have ht8 : t8 = w2.1 := v8 w2 (by simp only [Option.bind_some, q1, Option.map_some, q3, q5, q7])
        rw [← hy3, h3, ← q8]
        simp only [ht5, ht6, ht7, ht8, List.append_assoc, List.cons_append, List.nil_append]

/-! ## What was read is what the image's bytes are -/

theorem rd_cut {n : Nat} {r : List Nat} {x : List Nat × List Nat} (h : rd n r = some x) : r = x.1 ++ x.2 ∧ x.1.length = n := by
  obtain ⟨h1, h2, h3⟩ := rd_len h
  rw [h1, h2, List.take_append_drop, List.length_take]
  exact ⟨rfl, by omega⟩
theorem rNum_cut {n : Nat} {r : List Nat} {x : Nat × List Nat} (h : rNum n r = some x) : ∃ l, r = l ++ x.2 ∧ l.length = n ∧ x.1 = be l := by
  obtain ⟨y, h1, rfl⟩ := map_e h
  obtain ⟨h2, h3⟩ := rd_cut h1
  exact ⟨y.1, h2, h3, rfl⟩
theorem lt_left {l m : List Nat} (h : lt256 (l ++ m)) : lt256 l := fun x hx => h x (List.mem_append_left _ hx)
theorem lt_right {l m : List Nat} (h : lt256 (l ++ m)) : lt256 m := fun x hx => h x (List.mem_append_right _ hx)
theorem two_be {l : List Nat} (h : lt256 l) (hl : l.length = 2) : two ((be l : Nat) : Int) = iz l := by
  match l, hl with
  | [a, b], _ =>
    have h1 := h a (by simp)
    have h2 := h b (by simp)
    rw [two_iz]
    congr 1
    simp only [be, twoN, List.foldl_cons, List.foldl_nil]
    rw [show ((0 * 256 + a) * 256 + b) / 256 % 256 = a by omega, show ((0 * 256 + a) * 256 + b) % 256 = b by omega]
theorem txt_sb {l : List Nat} (h : lt256 l) (hl : l.length < 256) : txtL (sb l) = iz (l.length :: l) := by
  rw [txt_iz]
  unfold txtN
  rw [sb_size, bs_sb h, Nat.mod_eq_of_lt hl]

theorem rText_cut {r : List Nat} {t : List Nat × List Nat} (hr : lt256 r) (h : rText r = some t) : ∃ raw, r = raw ++ t.2 ∧ txtL (sb t.1) = iz raw ∧ t.1.length < 256 := by
  obtain ⟨x, h1, h2⟩ := bind_e h
  obtain ⟨l, h3, h4, h5⟩ := rNum_cut h1
  obtain ⟨h6, h7⟩ := rd_cut h2
  match l, h4 with
  | [a], _ =>
    subst h3
    have ha := hr a (by simp)
    have hx : x.1 = a := by rw [h5]; simp [be]
    have hlt : lt256 t.1 := by
      have := lt_right hr
      rw [h6] at this
      exact lt_left this
    refine ⟨a :: t.1, ?_, ?_, by omega⟩
    · rw [h6]; rfl
    · rw [txt_sb hlt (by omega), h7, hx]
theorem rVer_cut {r : List Nat} {v : T_Version × List Nat} (hr : lt256 r) (h : rVer r = some v) : ∃ raw, r = raw ++ v.2 ∧ verL v.1 = iz raw := by
  obtain ⟨x, h1, h2⟩ := bind_e h
  obtain ⟨y, h3, h4⟩ := bind_e h2
  obtain ⟨z, h5, h6⟩ := map_e h4
  obtain ⟨l1, a1, a2, a3⟩ := rNum_cut h1
  obtain ⟨l2, b1, b2, b3⟩ := rNum_cut h3
  obtain ⟨l3, c1, c2, c3⟩ := rNum_cut h5
  rw [a1] at hr
  have q1 := lt_left hr
  have q2 := lt_right hr
  rw [b1] at q2
  have q3 := lt_left q2
  have q4 := lt_right q2
  rw [c1] at q4
  have q5 := lt_left q4
  refine ⟨l1 ++ (l2 ++ l3), ?_, ?_⟩
  · rw [a1, b1, c1, ← h6]
    simp only [List.append_assoc]
  · rw [← h6]
    unfold verL
    dsimp only
    rw [a3, b3, c3, two_be q1 a2, two_be q3 b2, two_be q5 c2, iz_app, iz_app]

theorem rImg_cut {r : List Nat} {z : ImgR × List Nat} (hr : lt256 r) (h : rImg r = some z) : imgL z.1.1 = iz z.1.2.2 ∧ z.1.1.Name.size < 256 ∧ z.1.1.Data.length < 65536 ∧ lt256 z.2 := by
  obtain ⟨t, q1, q2⟩ := bind_e h
  obtain ⟨v, q3, q4⟩ := bind_e q2
  obtain ⟨kk, q5, q6⟩ := bind_e q4
  obtain ⟨d, q7, q8⟩ := bind_e q6
  obtain ⟨ss, q9, q10⟩ := map_e q8
  obtain ⟨r1, a1, a2, a3⟩ := rText_cut hr q1
  have hr2 : lt256 t.2 := by rw [a1] at hr; exact lt_right hr
  obtain ⟨r2, b1, b2⟩ := rVer_cut hr2 q3
  have hr3 : lt256 v.2 := by rw [b1] at hr2; exact lt_right hr2
  obtain ⟨l, c1, c2, c3⟩ := rNum_cut q5
  have hl : lt256 l := by rw [c1] at hr3; exact lt_left hr3
  have hr4 : lt256 kk.2 := by rw [c1] at hr3; exact lt_right hr3
  obtain ⟨d1, d2⟩ := rd_cut q7
  have hr5 : lt256 d.2 := by rw [d1] at hr4; exact lt_right hr4
  obtain ⟨m, e1, e2, e3⟩ := rNum_cut q9
  have hr6 : lt256 ss.2 := by rw [e1] at hr5; exact lt_right hr5
  have hk := be_lt l hl
  rw [c2] at hk
  have hfull : r = (r1 ++ (r2 ++ (l ++ d.1))) ++ d.2 := by
    rw [a1, b1, c1, d1]
    simp only [List.append_assoc]
  have hraw : r.take (r.length - d.2.length) = r1 ++ (r2 ++ (l ++ d.1)) := by
    rw [hfull, List.length_append, Nat.add_sub_cancel, List.take_left]
  subst q10
  dsimp only
  refine ⟨?_, by rw [sb_size]; exact a3, by rw [iz_len]; omega, hr6⟩
  rw [hraw]
  have : imgL ⟨sb t.1, v.1, iz d.1⟩ = txtL (sb t.1) ++ (verL v.1 ++ (two (((iz d.1).length : Nat) : Int) ++ iz d.1)) := rfl
  rw [this, a2, b2, iz_len, d2, c3, two_be hl c2, iz_app, iz_app, iz_app]
theorem rImgs_cut : ∀ (k : Nat) (r : List Nat) (y : List ImgR × List Nat), lt256 r → rImgs k r = some y → ∀ z ∈ y.1, imgL z.1 = iz z.2.2 ∧ z.1.Name.size < 256 ∧ z.1.Data.length < 65536
  | 0, r, y, _, h => by
    simp only [rImgs, Option.some.injEq] at h
    subst h
    intro z hz
    cases hz
  | k + 1, r, y, hr, h => by
    rw [rImgs] at h
    obtain ⟨x, h1, h2⟩ := bind_e h
    obtain ⟨w, h3, h4⟩ := map_e h2
    obtain ⟨a, b, c, d⟩ := rImg_cut hr h1
    subst h4
    intro z hz
    rcases List.mem_cons.1 hz with rfl | hz
    · exact ⟨a, b, c⟩
    · exact rImgs_cut k x.2 w d h3 z hz
theorem bytes_refB {i : T_Image} (h : i.Name.size < 256 ∧ i.Data.length < 65536) : m_ref28_image i = some (imgL i) := by
  have hb := bytesOf_len i.Name
  unfold m_ref28_image m_ref28_name m_ref28_version m_ref28_two
  rw [app1 (by simp [hb]; omega)]
  simp only [bnd_some]
  rw [app1 (by simp)]
  simp only [bnd_some]
  rw [app1 (by simp)]
  simp only [bnd_some]
  rw [app1 (by simp [hb]; omega)]
  simp only [bnd_some]
  rw [app1 (by simp [hb]; omega)]
  simp only [bnd_some]
  rw [app1 (by simp [hb]; omega)]
  simp [imgL, verL, two]

theorem imgL_lenB {i : T_Image} (h : i.Name.size < 256 ∧ i.Data.length < 65536) : (imgL i).length ≤ 70000 := by
  simp [imgL, verL, two, bytesOf_len]
  omega

end Go.Proofs.Ytgnmhmnglbbamaa
