/-
  Lists of fields: what bytes are decoded to.
  Conditions: none.
-/
import Derived.Test.YtcekbbbjagfacaaDoorUniL
import Derived.Test.YtcekbbbjagfacaaDoorFldR
namespace Go.Proofs.YtcekbbbjagfacaaDoor
open Go
set_option linter.unusedSimpArgs false
set_option linter.unusedVariables false

theorem sameF_self (f : T_Field) : m_ref02_Same f f = some true := by
  unfold m_ref02_Same
  simp

/-! ## What bytes are decoded to -/

def decLf (b : List Nat) : Nat → List T_Field → Nat → List T_Field × Int × Int
  | 0, _, _ => ([], 0, 3)
  | fuel + 1, l, n =>
    if (decF (b.drop n)).2.2.2 ≠ 0 then ([], 0, (decF (b.drop n)).2.2.2)
    else if (decF (b.drop n)).2.2.1 = true then (l, (n : Int) + (decF (b.drop n)).2.1, 0)
    else if l.length = 16 then ([], 0, 3)
    else decLf b fuel (l ++ [(decF (b.drop n)).1]) (n + (decF (b.drop n)).2.1.toNat)
def decL (b : List Nat) : List T_Field × Int × Int := decLf b 17 [] 0

theorem decF_size (b : List Nat) : 0 ≤ (decF b).2.1 ∧ (decF b).2.1 ≤ b.length := by
  cases b with
  | nil => exact ⟨by decide, by decide⟩
  | cons x r =>
    simp only [decF, List.length_cons]
    split
    · exact ⟨by show (0 : Int) ≤ 1; omega, by show (1 : Int) ≤ _; omega⟩
    · split
      · exact ⟨by show (0 : Int) ≤ 0; omega, by show (0 : Int) ≤ _; omega⟩
      · split
        · exact ⟨by show (0 : Int) ≤ 0; omega, by show (0 : Int) ≤ _; omega⟩
        · exact ⟨by show (0 : Int) ≤ ((1 + x % 64 : Nat) : Int); omega, by show ((1 + x % 64 : Nat) : Int) ≤ _; omega⟩

theorem decL_loop (b : List Nat) (hb : lt256 b) (hn : b.length ≤ 1000000) (dec : List Int → Option (T_Field × Int × Bool × Int)) (hdec : ∀ l, lt256 l → l.length ≤ 1000000 → dec (iz l) = some (decF l))
    (m : List T_Field × Int → Option (Step (List T_Field × Int) ((List T_Field × Int × Int) ⊕ Unit)))
    (hm : ∀ s1, m s1 = bnd (sub (iz b) s1.2 ((iz b).length : Int)) fun l1 => bnd (dec l1) fun r1 => bif (r1.2.2.2 != 0) then (some (.done (.inl ([], 0, r1.2.2.2)))) else (bif r1.2.2.1 then (some (.done (.inl (s1.1, IntKind.wrap .i64 (s1.2 + r1.2.1), 0)))) else (bif ((s1.1.length : Int) == 16) then (some (.done (.inl ([], 0, 3)))) else (bnd (app 24 s1.1 [r1.1]) fun l2 => some (.next (l2, IntKind.wrap .i64 (s1.2 + r1.2.1))))))) :
    ∀ (fuel : Nat) (l : List T_Field) (n : Nat), l.length + fuel = 17 → 0 < fuel → n ≤ b.length → loopM m (l, (n : Int)) = some (.inl (decLf b fuel l n)) := by
  intro fuel
  induction fuel with
  | zero => intro l n h1 h2; omega
  | succ fuel ih =>
    intro l n h1 _ h3
    have hsub : sub (iz b) (n : Int) ((iz b).length : Int) = some (iz (b.drop n)) := by
      have := sub_iz (l := b) (a := n) (b := b.length) h3 (Nat.le_refl _)
      rw [List.take_length] at this
      rw [iz_len]
      exact this
    have hd := hdec (b.drop n) (hb.drop n) (by rw [List.length_drop]; omega)
    obtain ⟨s1, s2⟩ := decF_size (b.drop n)
    rw [List.length_drop] at s2
    have hw : IntKind.wrap .i64 ((n : Int) + (decF (b.drop n)).2.1) = (n : Int) + (decF (b.drop n)).2.1 := wrap_i64 (by omega) (by omega)
    have hmn := hm (l, (n : Int))
    simp only [hsub, bnd_some, hd, hw] at hmn
    unfold decLf
    by_cases e1 : (decF (b.drop n)).2.2.2 = 0
    · have g1 : ((decF (b.drop n)).2.2.2 != 0) = false := by simpa using e1
      rw [if_neg (by simpa using e1)]
      rw [g1, cond_false] at hmn
      by_cases e2 : (decF (b.drop n)).2.2.1 = true
      · rw [if_pos e2]
        rw [e2, cond_true] at hmn
        exact loop_done hmn
      · have g2 : (decF (b.drop n)).2.2.1 = false := by simpa using e2
        rw [if_neg e2]
        rw [g2, cond_false] at hmn
        by_cases e3 : l.length = 16
        · rw [if_pos e3]
          rw [show ((l.length : Int) == 16) = true by simp; omega, cond_true] at hmn
          exact loop_done hmn
        · rw [if_neg e3]
          rw [show ((l.length : Int) == 16) = false by simp; omega, cond_false, app_eq (by simp; omega) (by simp; omega), bnd_some] at hmn
          have hcast : (n : Int) + (decF (b.drop n)).2.1 = ((n + (decF (b.drop n)).2.1.toNat : Nat) : Int) := by omega
          rw [hcast] at hmn
          exact loop_next hmn (ih _ _ (by simp; omega) (by omega) (by omega))
    · have g1 : ((decF (b.drop n)).2.2.2 != 0) = true := by simpa using e1
      rw [if_pos e1]
      rw [g1, cond_true] at hmn
      exact loop_done hmn

theorem DecodeList_prog (b : List Nat) (hb : lt256 b) (hn : b.length ≤ 1000000) : m_fields_DecodeList (iz b) = some (decL b) := by
  unfold m_fields_DecodeList
  exact bnd_eq (decL_loop b hb hn m_fields_Decode Decode_prog _ (fun _ => rfl) 17 [] 0 rfl (by omega) (by omega)) rfl

/-! ## Sameness of lists -/

theorem sameL_self (l : List T_Field) (h : l.length ≤ 1000000) : m_ref02_SameList l l = some true := by
  unfold m_ref02_SameList
  rw [show ((l.length : Int) != (l.length : Int)) = false by simp, cond_false]
  refine bnd_loop (fun i => (i : Int)) l.length (.inr ()) rfl (fun i hi => ?_) ?_ rfl
  · have h1 : decide ((i : Int) < (l.length : Int)) = true := decide_eq_true (by omega)
    rw [h1, cond_true]
    refine bnd_eq (elt_lt hi) ?_
    refine bnd_eq (elt_lt hi) ?_
    refine bnd_eq (sameF_self _) ?_
    rw [wrap_succ hi (by omega)]
    rfl
  · rw [show decide ((l.length : Int) < (l.length : Int)) = false from decide_eq_false (by omega)]
    rfl

theorem decLf_len (b : List Nat) : ∀ (fuel : Nat) (l : List T_Field) (n : Nat), l.length + fuel ≤ 17 → (decLf b fuel l n).1.length ≤ 17
  | 0, l, n, h => by simp [decLf]
  | fuel + 1, l, n, h => by
    unfold decLf
    split
    · simp
    split
    · show l.length ≤ 17
      omega
    split
    · simp
    · exact decLf_len b fuel _ _ (by simp; omega)

/-! ## Lists come back -/

theorem decLf_enc (fs : List T_Field) (hv : ∀ f ∈ fs, valT f = true) (pre : List Nat) (acc : List T_Field) (tail : List Nat) : ∀ (rest : List T_Field) (fuel n : Nat) (acc : List T_Field) (b : List Nat),
    (∀ f ∈ rest, valT f = true) → b.drop n = encL rest ++ tail → acc.length + rest.length ≤ 16 → acc.length + (fuel + rest.length) = 17 → decLf b (fuel + rest.length) acc n = decLf b fuel (acc ++ rest) (n + (encL rest).length)
  | [], fuel, n, acc, b, _, _, _, _ => by simp [encL]
  | f :: r, fuel, n, acc, b, hv, hb, hl, hf => by
    have hvf := hv f (by simp)
    have hd : decF (b.drop n) = (⟨f.Kind, sb (bs f.Value)⟩, (((encT f).length : Nat) : Int), false, 0) := by
      rw [hb]
      show decF ((f :: r).flatMap encT ++ tail) = _
      rw [List.flatMap_cons, List.append_assoc]
      exact dec_enc hvf (bs_lt _) _
    rw [sb_bs] at hd
    have hff : (⟨f.Kind, f.Value⟩ : T_Field) = f := rfl
    rw [hff] at hd
    rw [List.length_cons, show fuel + (r.length + 1) = (fuel + r.length) + 1 by omega]
    rw [decLf, hd]
    simp only [List.length_cons] at hl hf
    rw [if_neg (by simp), if_neg (by simp), if_neg (by omega)]
    simp only [Int.toNat_natCast]
    have hb2 : b.drop (n + (encT f).length) = encL r ++ tail := by
      rw [← List.drop_drop, hb]
      show ((f :: r).flatMap encT ++ tail).drop (encT f).length = _
      rw [List.flatMap_cons, List.append_assoc, List.drop_left]
      rfl
    rw [decLf_enc fs (by assumption) pre acc tail r fuel (n + (encT f).length) (acc ++ [f]) b (fun x hx => hv x (by simp [hx])) hb2 (by simp; omega) (by simp; omega)]
    congr 1
    · simp
    · show n + (encT f).length + (encL r).length = n + ((f :: r).flatMap encT).length
      rw [List.flatMap_cons, List.length_append]
      show _ = n + ((encT f).length + (encL r).length)
      omega

end Go.Proofs.YtcekbbbjagfacaaDoor
