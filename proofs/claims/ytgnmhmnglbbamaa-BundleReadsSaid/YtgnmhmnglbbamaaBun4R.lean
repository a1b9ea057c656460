/-
  The reader of the reference: the program's and the reference's, against one plain one.
  Conditions: none.
-/
import Derived.Test.YtgnmhmnglbbamaaBun4
import Derived.Test.YtgnmhmnglbbamaaGenBundleReads
namespace Go.Proofs.Ytgnmhmnglbbamaa
open Go
set_option linter.unusedSimpArgs false
set_option linter.unusedVariables false

/-! ## The reader of the reference -/

/-- A reader at some bytes: what is left, or nothing after a failure. -/
def RSR (s : T_ref28_reader) (b : List Nat) (o : Option (List Nat)) : Prop := s.b = iz b ∧ ∃ a : Nat, s.at_ = (a : Int) ∧ a ≤ b.length ∧ ((s.bad = false ∧ o = some (b.drop a)) ∨ (s.bad = true ∧ o = none))

theorem takeR {s : T_ref28_reader} {b : List Nat} {o : Option (List Nat)} (h : RSR s b o) (hb : lt256 b) (hl : b.length ≤ 1000000) {n : Nat} (hn : n ≤ 70000) :
    ∃ s' out, m_ref28_reader_take s (n : Int) = some (s', iz out) ∧ RSR s' b (o.bind fun r => (rd n r).map (·.2)) ∧ lt256 out ∧ (∀ x, o.bind (rd n) = some x → out = x.1) ∧ (o.bind (rd n) = none → be out = 0) ∧ out.length ≤ n := by
  obtain ⟨h1, a, h2, h3, h4⟩ := h
  obtain ⟨sb, sa, sd⟩ := s
  simp only at h1 h2 h4
  subst h1; subst h2
  unfold m_ref28_reader_take
  rcases h4 with ⟨rfl, rfl⟩ | ⟨rfl, rfl⟩
  · have w1 : IntKind.wrap .i64 (((iz b).length : Int) - (a : Int)) = ((b.length - a : Nat) : Int) := by rw [iz_len, wrap_i64 (by omega) (by omega)]; omega
    simp only [cond_false, w1, bnd_some]
    by_cases hc : n ≤ b.length - a
    · have w2 : IntKind.wrap .i64 ((a : Int) + (n : Int)) = ((a + n : Nat) : Int) := by rw [wrap_i64 (by omega) (by omega)]; omega
      have w3 : IntKind.wrap .i64 (((a + n : Nat) : Int) - (n : Int)) = (a : Int) := by rw [wrap_i64 (by omega) (by omega)]; omega
      have hr : rd n (b.drop a) = some ((b.drop a).take n, b.drop (a + n)) := by
        unfold rd
        rw [if_pos (by rw [List.length_drop]; exact hc), List.drop_drop]
      have ht : (b.take (a + n)).drop a = (b.drop a).take n := by rw [List.drop_take]; congr 1; omega
      rw [decide_eq_false (by omega : ¬ (n : Int) > ((b.length - a : Nat) : Int)), cond_false, w2, w3, sub_iz (by omega) (by omega), bnd_some, ht]
      rw [show app 1 ([] : List Int) (iz ((b.drop a).take n)) = some (iz ((b.drop a).take n)) from app_iz (l := []) (by simp; omega) (by simp; omega), bnd_some]
      refine ⟨_, (b.drop a).take n, rfl, ⟨rfl, a + n, rfl, by omega, .inl ⟨rfl, ?_⟩⟩, (hb.drop a).take n, fun x hx => ?_, fun hx => ?_, by rw [List.length_take]; omega⟩
      · simp [hr]
      · simp only [Option.bind_some, hr, Option.some.injEq] at hx
        rw [← hx]
      · simp [hr] at hx
    · have hr : rd n (b.drop a) = none := by
        unfold rd
        rw [if_neg (by rw [List.length_drop]; exact hc)]
      rw [decide_eq_true (by omega : (n : Int) > ((b.length - a : Nat) : Int)), cond_true]
      refine ⟨_, [], rfl, ⟨rfl, a, rfl, h3, .inr ⟨rfl, ?_⟩⟩, lt256.nil, fun x hx => ?_, fun _ => rfl, by simp⟩
      · simp [hr]
      · simp [hr] at hx
  · simp only [cond_true, bnd_some]
    refine ⟨_, [], rfl, ⟨rfl, a, rfl, h3, .inr ⟨rfl, ?_⟩⟩, lt256.nil, fun x hx => ?_, fun _ => rfl, by simp⟩
    · simp
    · simp at hx

theorem numR {s : T_ref28_reader} {b : List Nat} {o : Option (List Nat)} (h : RSR s b o) (hb : lt256 b) (hl : b.length ≤ 1000000) {n : Nat} (hn : n ≤ 4) :
    ∃ s' v, m_ref28_reader_number s (n : Int) = some (s', ((v : Nat) : Int)) ∧ RSR s' b (o.bind fun r => (rNum n r).map (·.2)) ∧ v = ((o.bind (rNum n)).map (·.1)).getD 0 := by
  obtain ⟨s', out, h1, h2, h3, h4, h5, h6⟩ := takeR h hb hl (n := n) (by omega)
  refine ⟨s', ((o.bind (rNum n)).map (·.1)).getD 0, ?_, ?_, rfl⟩
  · unfold m_ref28_reader_number
    refine bnd_eq h1 ?_
    have hv : ((o.bind (rNum n)).map (·.1)).getD 0 = be out := by
      cases o with
      | none => exact (h5 rfl).symm
      | some r =>
        simp only [Option.bind_some] at h4 h5 ⊢
        unfold rNum
        cases hr : rd n r with
        | none => exact (h5 hr).symm
        | some x =>
          rw [h4 x hr]
          rfl
    rw [hv]
    refine bnd_loop (fun i => (((be (out.take i) : Nat) : Int), (i : Int))) out.length ((be out : Nat) : Int) rfl (fun i hi => ?_) ?_ rfl
    · have hx := h3.get hi
      have hbe := be_lt (out.take i) (h3.take i)
      rw [List.length_take, Nat.min_eq_left (by omega)] at hbe
      have hb3 : be (out.take i) < 16777216 := Nat.lt_of_lt_of_le hbe (by
        have : (256 : Nat) ^ i ≤ 256 ^ 3 := Nat.pow_le_pow_right (by omega) (by omega)
        omega)
      dsimp only
      rw [decide_eq_true (by rw [iz_len]; omega : (i : Int) < ((iz out).length : Int)), cond_true]
      refine bnd_eq (elt_iz hi) ?_
      rw [wrap_i64n (by omega), be_step hb3 hx, wrap_succ hi (by omega), be_succ hi]
    · dsimp only
      rw [decide_eq_false (by rw [iz_len]; omega : ¬ (out.length : Int) < ((iz out).length : Int)), cond_false, List.take_length]
  · have : (o.bind fun r => (rNum n r).map (·.2)) = (o.bind fun r => (rd n r).map (·.2)) := by
      cases o with
      | none => rfl
      | some r =>
        simp only [Option.bind_some]
        unfold rNum
        cases rd n r <;> rfl
    rw [this]
    exact h2

theorem num_valR {o : Option (List Nat)} {b : List Nat} (n : Nat) (hn : n ≤ 4) (ho : ∀ r, o = some r → lt256 r) : ((o.bind (rNum n)).map (·.1)).getD 0 < 256 ^ n := by
  have hp : 0 < 256 ^ n := Nat.pow_pos (by omega)
  cases o with
  | none => simpa using hp
  | some r =>
    simp only [Option.bind_some]
    unfold rNum
    cases hr : rd n r with
    | none => simpa using hp
    | some x =>
      simp only [Option.map_some, Option.getD_some]
      unfold rd at hr
      split at hr
      · rename_i hle
        injection hr with hr
        rw [← hr]
        have := be_lt (r.take n) ((ho r rfl).take n)
        rw [List.length_take, Nat.min_eq_left hle] at this
        exact this
      · cases hr

theorem rs_ltR {s : T_ref28_reader} {b : List Nat} {o : Option (List Nat)} (h : RSR s b o) (hb : lt256 b) : ∀ r, o = some r → lt256 r := by
  obtain ⟨_, a, _, _, h4⟩ := h
  intro r hr
  rcases h4 with ⟨_, h5⟩ | ⟨_, h5⟩
  · rw [h5] at hr
    injection hr with hr
    rw [← hr]
    exact hb.drop a
  · rw [h5] at hr
    cases hr

theorem textR {s : T_ref28_reader} {b : List Nat} {o : Option (List Nat)} (h : RSR s b o) (hb : lt256 b) (hl : b.length ≤ 1000000) :
    ∃ s' t, m_ref28_reader_text s = some (s', t) ∧ RSR s' b (o.bind fun r => (rText r).map (·.2)) ∧ (∀ x, o.bind rText = some x → t = sb x.1) := by
  obtain ⟨s1, v1, h1, h2, rfl⟩ := numR h hb hl (n := 1) (by omega)
  have hv := num_valR (b := b) 1 (by omega) (rs_ltR h hb)
  obtain ⟨s2, out, h3, h4, h5, h6, h7, h8⟩ := takeR h2 hb hl (n := ((o.bind (rNum 1)).map (·.1)).getD 0) (by omega)
  refine ⟨s2, sb out, ?_, ?_, fun x hx => ?_⟩
  · unfold m_ref28_reader_text
    refine bnd_eq h1 ?_
    refine bnd_eq h3 ?_
    rw [strOf_iz]
  · cases o with
    | none => exact h4
    | some r =>
      simp only [Option.bind_some] at h4 ⊢
      unfold rText
      cases hr : rNum 1 r with
      | none => rw [hr] at h4; exact h4
      | some y => rw [hr] at h4; exact h4
  · cases o with
    | none => cases hx
    | some r =>
      simp only [Option.bind_some] at h6 hx
      unfold rText at hx
      cases hr : rNum 1 r with
      | none => rw [hr] at hx; cases hx
      | some y =>
        rw [hr] at hx h6
        rw [h6 x hx]

theorem verR {s : T_ref28_reader} {b : List Nat} {o : Option (List Nat)} (h : RSR s b o) (hb : lt256 b) (hl : b.length ≤ 1000000) :
    ∃ s' v, m_ref28_reader_version s = some (s', v) ∧ RSR s' b (o.bind fun r => (rVer r).map (·.2)) ∧ (∀ x, o.bind rVer = some x → v = x.1) := by
  obtain ⟨s1, v1, h1, h2, e1⟩ := numR h hb hl (n := 2) (by omega)
  obtain ⟨s2, v2, h3, h4, e2⟩ := numR h2 hb hl (n := 2) (by omega)
  obtain ⟨s3, v3, h5, h6, e3⟩ := numR h4 hb hl (n := 2) (by omega)
  refine ⟨s3, ⟨(v1 : Int), (v2 : Int), (v3 : Int)⟩, ?_, ?_, fun x hx => ?_⟩
  · unfold m_ref28_reader_version
    refine bnd_eq h1 ?_
    refine bnd_eq h3 ?_
    refine bnd_eq h5 ?_
    rfl
  · cases o with
    | none => exact h6
    | some r =>
      simp only [Option.bind_some] at h6 ⊢
      unfold rVer
      cases hr : rNum 2 r with
      | none => rw [hr] at h6; exact h6
      | some y =>
        rw [hr] at h6
        simp only [Option.map_some, Option.bind_some] at h6 ⊢
        cases hr2 : rNum 2 y.2 with
        | none => rw [hr2] at h6; exact h6
        | some z =>
          rw [hr2] at h6
          simp only [Option.map_some, Option.bind_some] at h6 ⊢
          cases hr3 : rNum 2 z.2 with
          | none => rw [hr3] at h6; exact h6
          | some u => rw [hr3] at h6; exact h6
  · cases o with
    | none => cases hx
    | some r =>
      simp only [Option.bind_some] at hx ⊢
      unfold rVer at hx
      cases hr : rNum 2 r with
      | none => rw [hr] at hx; cases hx
      | some y =>
        rw [hr] at hx
        simp only [Option.map_some, Option.bind_some] at hx ⊢
        cases hr2 : rNum 2 y.2 with
        | none => rw [hr2] at hx; cases hx
        | some z =>
          rw [hr2] at hx
          simp only [Option.map_some, Option.bind_some] at hx ⊢
          cases hr3 : rNum 2 z.2 with
          | none => rw [hr3] at hx; cases hx
          | some u =>
            rw [hr3] at hx
            simp only [Option.map_some, Option.some.injEq] at hx
            rw [← hx, e1, e2, e3]
            simp only [Option.bind_some, hr, hr2, hr3, Option.map_some, Option.getD_some]

end Go.Proofs.Ytgnmhmnglbbamaa
