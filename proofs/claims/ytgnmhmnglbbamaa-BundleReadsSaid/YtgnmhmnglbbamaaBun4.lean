/-
  Readers of bytes: the program's and the reference's, against one plain one.
  Conditions: none.
-/
import Derived.Test.YtgnmhmnglbbamaaBun3
namespace Go.Proofs.Ytgnmhmnglbbamaa
open Go
set_option linter.unusedSimpArgs false
set_option linter.unusedVariables false

def rd (n : Nat) (r : List Nat) : Option (List Nat × List Nat) := if n ≤ r.length then some (r.take n, r.drop n) else none
/-- A number, the most significant byte first. -/
def be (l : List Nat) : Nat := l.foldl (fun v x => v * 256 + x) 0
def rNum (n : Nat) (r : List Nat) : Option (Nat × List Nat) := (rd n r).map fun x => (be x.1, x.2)
def rText (r : List Nat) : Option (List Nat × List Nat) := (rNum 1 r).bind fun x => rd x.1 x.2
def rVer (r : List Nat) : Option (T_Version × List Nat) := (rNum 2 r).bind fun x => (rNum 2 x.2).bind fun y => (rNum 2 y.2).map fun z => (⟨(x.1 : Int), (y.1 : Int), (z.1 : Int)⟩, z.2)

theorem be_app (x : Nat) (l : List Nat) : be (l ++ [x]) = be l * 256 + x := by simp [be]
theorem be_succ {l : List Nat} {i : Nat} (h : i < l.length) : be (l.take (i + 1)) = be (l.take i) * 256 + l[i] := by rw [take_succ_get h, be_app]
theorem be_lt (l : List Nat) (h : lt256 l) : be l < 256 ^ l.length := by
  have : ∀ n, n ≤ l.length → be (l.take n) < 256 ^ n := by
    intro n
    induction n with
    | zero => intro _; simp [be]
    | succ n ih =>
      intro hn
      have h1 := ih (by omega)
      have h2 := h.get (i := n) (by omega)
      rw [be_succ (by omega), Nat.pow_succ]
      omega
  have h1 := this l.length (Nat.le_refl _)
  rwa [List.take_length] at h1
theorem be_zeros (n : Nat) : be (List.replicate n 0) = 0 := by
  induction n with
  | zero => rfl
  | succ n ih => rw [List.replicate_succ', be_app, ih]
theorem be_step {v x : Nat} (hv : v < 16777216) (hx : x < 256) : iOr .i64 (iShl .i64 (v : Int) 8) (x : Int) = ((v * 256 + x : Nat) : Int) := by
  have := iShl_i64 (a := v) (s := 8) (by omega) (by omega)
  rw [show ((8 : Nat) : Int) = 8 from rfl] at this
  rw [this, iOr_i64 (by omega) (by omega), or_add' (s := 8) (by omega)]

/-! ## The reader of the program -/

/-- A reader at some bytes: what is left, or nothing after a failure. -/
def RSP (s : T_bundle_reader) (b : List Nat) (o : Option (List Nat)) : Prop := s.b = iz b ∧ ∃ a : Nat, s.at_ = (a : Int) ∧ a ≤ b.length ∧ ((s.bad = false ∧ o = some (b.drop a)) ∨ (s.bad = true ∧ o = none))

theorem takeP {s : T_bundle_reader} {b : List Nat} {o : Option (List Nat)} (h : RSP s b o) (hb : lt256 b) (hl : b.length ≤ 1000000) {n : Nat} (hn : n ≤ 70000) :
    ∃ s' out, m_bundle_reader_take s (n : Int) = some (s', iz out) ∧ RSP s' b (o.bind fun r => (rd n r).map (·.2)) ∧ lt256 out ∧ (∀ x, o.bind (rd n) = some x → out = x.1) ∧ (o.bind (rd n) = none → be out = 0) ∧ out.length ≤ n := by
  obtain ⟨h1, a, h2, h3, h4⟩ := h
  obtain ⟨sb, sa, sd⟩ := s
  simp only at h1 h2 h4
  subst h1; subst h2
  unfold m_bundle_reader_take
  rcases h4 with ⟨rfl, rfl⟩ | ⟨rfl, rfl⟩
  · have w1 : IntKind.wrap .i64 (((iz b).length : Int) - (a : Int)) = ((b.length - a : Nat) : Int) := by rw [iz_len, wrap_i64 (by omega) (by omega)]; omega
    simp only [cond_false, w1, bnd_some]
    by_cases hc : n ≤ b.length - a
    · have w2 : IntKind.wrap .i64 ((a : Int) + (n : Int)) = ((a + n : Nat) : Int) := by rw [wrap_i64 (by omega) (by omega)]; omega
      have w3 : IntKind.wrap .i64 (((a + n : Nat) : Int) - (n : Int)) = (a : Int) := by rw [wrap_i64 (by omega) (by omega)]; omega
      have hr : rd n (b.drop a) = some ((b.drop a).take n, b.drop (a + n)) := by
        unfold rd
        rw [if_pos (by rw [List.length_drop]; exact hc), List.drop_drop]
      have ht : (b.take (a + n)).drop a = (b.drop a).take n := by rw [List.drop_take]; congr 1; omega
      rw [decide_eq_false (by omega : ¬ (n : Int) > ((b.length - a : Nat) : Int)), cond_false, w2, w3, sub_iz (by omega) (by omega), bnd_some, ht]
      refine ⟨_, (b.drop a).take n, rfl, ⟨rfl, a + n, rfl, by omega, .inl ⟨rfl, ?_⟩⟩, (hb.drop a).take n, fun x hx => ?_, fun hx => ?_, by rw [List.length_take]; omega⟩
      · simp [hr]
      · simp only [Option.bind_some, hr, Option.some.injEq] at hx
        rw [← hx]
      · simp [hr] at hx
    · have hr : rd n (b.drop a) = none := by
        unfold rd
        rw [if_neg (by rw [List.length_drop]; exact hc)]
      rw [decide_eq_true (by omega : (n : Int) > ((b.length - a : Nat) : Int)), cond_true]
      rw [mkS_iz (b := 1) (n := n) (by omega) (by omega), bnd_some]
      refine ⟨_, List.replicate n 0, rfl, ⟨rfl, a, rfl, h3, .inr ⟨rfl, ?_⟩⟩, fun x hx => by rw [List.eq_of_mem_replicate hx]; omega, fun x hx => ?_, fun _ => be_zeros n, by simp⟩
      · simp [hr]
      · simp [hr] at hx
  · simp only [cond_true, bnd_some]
    rw [mkS_iz (b := 1) (n := n) (by omega) (by omega), bnd_some]
    refine ⟨_, List.replicate n 0, rfl, ⟨rfl, a, rfl, h3, .inr ⟨rfl, ?_⟩⟩, fun x hx => by rw [List.eq_of_mem_replicate hx]; omega, fun x hx => ?_, fun _ => be_zeros n, by simp⟩
    · simp
    · simp at hx

theorem numP {s : T_bundle_reader} {b : List Nat} {o : Option (List Nat)} (h : RSP s b o) (hb : lt256 b) (hl : b.length ≤ 1000000) {n : Nat} (hn : n ≤ 4) :
    ∃ s' v, m_bundle_reader_number s (n : Int) = some (s', ((v : Nat) : Int)) ∧ RSP s' b (o.bind fun r => (rNum n r).map (·.2)) ∧ v = ((o.bind (rNum n)).map (·.1)).getD 0 := by
  obtain ⟨s', out, h1, h2, h3, h4, h5, h6⟩ := takeP h hb hl (n := n) (by omega)
  refine ⟨s', ((o.bind (rNum n)).map (·.1)).getD 0, ?_, ?_, rfl⟩
  · unfold m_bundle_reader_number
    refine bnd_eq h1 ?_
    have hv : ((o.bind (rNum n)).map (·.1)).getD 0 = be out := by
      cases o with
      | none => exact (h5 rfl).symm
      | some r =>
        simp only [Option.bind_some] at h4 h5 ⊢
        unfold rNum
        cases hr : rd n r with
        | none => exact (h5 hr).symm
        | some x =>
          rw [h4 x hr]
          rfl
    rw [hv]
    refine bnd_loop (fun i => (((be (out.take i) : Nat) : Int), (i : Int))) out.length ((be out : Nat) : Int) rfl (fun i hi => ?_) ?_ rfl
    · have hx := h3.get hi
      have hbe := be_lt (out.take i) (h3.take i)
      rw [List.length_take, Nat.min_eq_left (by omega)] at hbe
      have hb3 : be (out.take i) < 16777216 := Nat.lt_of_lt_of_le hbe (by
        have : (256 : Nat) ^ i ≤ 256 ^ 3 := Nat.pow_le_pow_right (by omega) (by omega)
        omega)
      dsimp only
      rw [decide_eq_true (by rw [iz_len]; omega : (i : Int) < ((iz out).length : Int)), cond_true]
      refine bnd_eq (elt_iz hi) ?_
      rw [wrap_i64n (by omega), be_step hb3 hx, wrap_succ hi (by omega), be_succ hi]
    · dsimp only
      rw [decide_eq_false (by rw [iz_len]; omega : ¬ (out.length : Int) < ((iz out).length : Int)), cond_false, List.take_length]
  · have : (o.bind fun r => (rNum n r).map (·.2)) = (o.bind fun r => (rd n r).map (·.2)) := by
      cases o with
      | none => rfl
      | some r =>
        simp only [Option.bind_some]
        unfold rNum
        cases rd n r <;> rfl
    rw [this]
    exact h2

theorem num_valP {o : Option (List Nat)} {b : List Nat} (n : Nat) (hn : n ≤ 4) (ho : ∀ r, o = some r → lt256 r) : ((o.bind (rNum n)).map (·.1)).getD 0 < 256 ^ n := by
  have hp : 0 < 256 ^ n := Nat.pow_pos (by omega)
  cases o with
  | none => simpa using hp
  | some r =>
    simp only [Option.bind_some]
    unfold rNum
    cases hr : rd n r with
    | none => simpa using hp
    | some x =>
      simp only [Option.map_some, Option.getD_some]
      unfold rd at hr
      split at hr
      · rename_i hle
        injection hr with hr
        rw [← hr]
        have := be_lt (r.take n) ((ho r rfl).take n)
        rw [List.length_take, Nat.min_eq_left hle] at this
        exact this
      · cases hr

theorem rs_ltP {s : T_bundle_reader} {b : List Nat} {o : Option (List Nat)} (h : RSP s b o) (hb : lt256 b) : ∀ r, o = some r → lt256 r := by
  obtain ⟨_, a, _, _, h4⟩ := h
  intro r hr
  rcases h4 with ⟨_, h5⟩ | ⟨_, h5⟩
  · rw [h5] at hr
    injection hr with hr
    rw [← hr]
    exact hb.drop a
  · rw [h5] at hr
    cases hr

theorem textP {s : T_bundle_reader} {b : List Nat} {o : Option (List Nat)} (h : RSP s b o) (hb : lt256 b) (hl : b.length ≤ 1000000) :
    ∃ s' t, m_bundle_reader_text s = some (s', t) ∧ RSP s' b (o.bind fun r => (rText r).map (·.2)) ∧ (∀ x, o.bind rText = some x → t = sb x.1) := by
  obtain ⟨s1, v1, h1, h2, rfl⟩ := numP h hb hl (n := 1) (by omega)
  have hv := num_valP (b := b) 1 (by omega) (rs_ltP h hb)
  obtain ⟨s2, out, h3, h4, h5, h6, h7, h8⟩ := takeP h2 hb hl (n := ((o.bind (rNum 1)).map (·.1)).getD 0) (by omega)
  refine ⟨s2, sb out, ?_, ?_, fun x hx => ?_⟩
  · unfold m_bundle_reader_text
    refine bnd_eq h1 ?_
    refine bnd_eq h3 ?_
    rw [strOf_iz]
  · cases o with
    | none => exact h4
    | some r =>
      simp only [Option.bind_some] at h4 ⊢
      unfold rText
      cases hr : rNum 1 r with
      | none => rw [hr] at h4; exact h4
      | some y => rw [hr] at h4; exact h4
  · cases o with
    | none => cases hx
    | some r =>
      simp only [Option.bind_some] at h6 hx
      unfold rText at hx
      cases hr : rNum 1 r with
      | none => rw [hr] at hx; cases hx
      | some y =>
        rw [hr] at hx h6
        rw [h6 x hx]

theorem verP {s : T_bundle_reader} {b : List Nat} {o : Option (List Nat)} (h : RSP s b o) (hb : lt256 b) (hl : b.length ≤ 1000000) :
    ∃ s' v, m_bundle_reader_version s = some (s', v) ∧ RSP s' b (o.bind fun r => (rVer r).map (·.2)) ∧ (∀ x, o.bind rVer = some x → v = x.1) := by
  obtain ⟨s1, v1, h1, h2, e1⟩ := numP h hb hl (n := 2) (by omega)
  obtain ⟨s2, v2, h3, h4, e2⟩ := numP h2 hb hl (n := 2) (by omega)
  obtain ⟨s3, v3, h5, h6, e3⟩ := numP h4 hb hl (n := 2) (by omega)
  refine ⟨s3, ⟨(v1 : Int), (v2 : Int), (v3 : Int)⟩, ?_, ?_, fun x hx => ?_⟩
  · unfold m_bundle_reader_version
    refine bnd_eq h1 ?_
    refine bnd_eq h3 ?_
    refine bnd_eq h5 ?_
    rfl
  · cases o with
    | none => exact h6
    | some r =>
      simp only [Option.bind_some] at h6 ⊢
      unfold rVer
      cases hr : rNum 2 r with
      | none => rw [hr] at h6; exact h6
      | some y =>
        rw [hr] at h6
        simp only [Option.map_some, Option.bind_some] at h6 ⊢
        cases hr2 : rNum 2 y.2 with
        | none => rw [hr2] at h6; exact h6
        | some z =>
          rw [hr2] at h6
          simp only [Option.map_some, Option.bind_some] at h6 ⊢
          cases hr3 : rNum 2 z.2 with
          | none => rw [hr3] at h6; exact h6
          | some u => rw [hr3] at h6; exact h6
  · cases o with
    | none => cases hx
    | some r =>
      simp only [Option.bind_some] at hx ⊢
      unfold rVer at hx
      cases hr : rNum 2 r with
      | none => rw [hr] at hx; cases hx
      | some y =>
        rw [hr] at hx
        simp only [Option.map_some, Option.bind_some] at hx ⊢
        cases hr2 : rNum 2 y.2 with
        | none => rw [hr2] at hx; cases hx
        | some z =>
          rw [hr2] at hx
          simp only [Option.map_some, Option.bind_some] at hx ⊢
          cases hr3 : rNum 2 z.2 with
          | none => rw [hr3] at hx; cases hx
          | some u =>
            rw [hr3] at hx
            simp only [Option.map_some, Option.some.injEq] at hx
            rw [← hx, e1, e2, e3]
            simp only [Option.bind_some, hr, hr2, hr3, Option.map_some, Option.getD_some]

end Go.Proofs.Ytgnmhmnglbbamaa
