/-
  Lists of fields: what bytes are decoded to.
  Conditions: none.
-/
import Derived.Test.YtelepclajhpnfaaGreatDoorUniL
import Derived.Test.YtelepclajhpnfaaGreatDoorFldR
namespace Go.Proofs.YtelepclajhpnfaaGreatDoor
open Go
set_option linter.unusedSimpArgs false
set_option linter.unusedVariables false
def decLf (b : List Nat) : Nat → List T_Field → Nat → List T_Field × Int × Int
  | 0, _, _ => ([], 0, 3)
  | fuel + 1, l, n =>
    if (decF (b.drop n)).2.2.2 ≠ 0 then ([], 0, (decF (b.drop n)).2.2.2)
    else if (decF (b.drop n)).2.2.1 = true then (l, (n : Int) + (decF (b.drop n)).2.1, 0)
    else if l.length = 16 then ([], 0, 3)
    else decLf b fuel (l ++ [(decF (b.drop n)).1]) (n + (decF (b.drop n)).2.1.toNat)
def decL (b : List Nat) : List T_Field × Int × Int := decLf b 17 [] 0
theorem decF_size (b : List Nat) : 0 ≤ (decF b).2.1 ∧ (decF b).2.1 ≤ b.length := by
  cases b with
  | nil => exact ⟨by decide, by decide⟩
  | cons x r =>
    simp only [decF, List.length_cons]
    split
    · exact ⟨by show (0 : Int) ≤ 1; omega, by show (1 : Int) ≤ _; omega⟩
    · split
      · exact ⟨by show (0 : Int) ≤ 0; omega, by show (0 : Int) ≤ _; omega⟩
      · split
        · exact ⟨by show (0 : Int) ≤ 0; omega, by show (0 : Int) ≤ _; omega⟩
        · exact ⟨by show (0 : Int) ≤ ((1 + x % 64 : Nat) : Int); omega, by show ((1 + x % 64 : Nat) : Int) ≤ _; omega⟩
theorem decL_loop (b : List Nat) (hb : lt256 b) (hn : b.length ≤ 1000000) (dec : List Int → Option (T_Field × Int × Bool × Int)) (hdec : ∀ l, lt256 l → l.length ≤ 1000000 → dec (iz l) = some (decF l))
    (m : List T_Field × Int → Option (Step (List T_Field × Int) ((List T_Field × Int × Int) ⊕ Unit)))
    (hm : ∀ s1, m s1 = bnd (sub (iz b) s1.2 ((iz b).length : Int)) fun l1 => bnd (dec l1) fun r1 => bif (r1.2.2.2 != 0) then (some (.done (.inl ([], 0, r1.2.2.2)))) else (bif r1.2.2.1 then (some (.done (.inl (s1.1, IntKind.wrap .i64 (s1.2 + r1.2.1), 0)))) else (bif ((s1.1.length : Int) == 16) then (some (.done (.inl ([], 0, 3)))) else (bnd (app 24 s1.1 [r1.1]) fun l2 => some (.next (l2, IntKind.wrap .i64 (s1.2 + r1.2.1))))))) :
    ∀ (fuel : Nat) (l : List T_Field) (n : Nat), l.length + fuel = 17 → 0 < fuel → n ≤ b.length → loopM m (l, (n : Int)) = some (.inl (decLf b fuel l n)) := by
  intro fuel
  induction fuel with
  | zero => intro l n h1 h2; omega
  | succ fuel ih =>
    intro l n h1 _ h3
    have hsub : sub (iz b) (n : Int) ((iz b).length : Int) = some (iz (b.drop n)) := by
      have := sub_iz (l := b) (a := n) (b := b.length) h3 (Nat.le_refl _)
      rw [List.take_length] at this
      rw [iz_len]
      exact this
    have hd := hdec (b.drop n) (hb.drop n) (by rw [List.length_drop]; omega)
    obtain ⟨s1, s2⟩ := decF_size (b.drop n)
    rw [List.length_drop] at s2
    have hw : IntKind.wrap .i64 ((n : Int) + (decF (b.drop n)).2.1) = (n : Int) + (decF (b.drop n)).2.1 := wrap_i64 (by omega) (by omega)
    have hmn := hm (l, (n : Int))
    simp only [hsub, bnd_some, hd, hw] at hmn
    unfold decLf
    by_cases e1 : (decF (b.drop n)).2.2.2 = 0
    · have g1 : ((decF (b.drop n)).2.2.2 != 0) = false := by simpa using e1
      rw [if_neg (by simpa using e1)]
      rw [g1, cond_false] at hmn
      by_cases e2 : (decF (b.drop n)).2.2.1 = true
      · rw [if_pos e2]
        rw [e2, cond_true] at hmn
        exact loop_done hmn
      · have g2 : (decF (b.drop n)).2.2.1 = false := by simpa using e2
        rw [if_neg e2]
        rw [g2, cond_false] at hmn
        by_cases e3 : l.length = 16
        · rw [if_pos e3]
          rw [show ((l.length : Int) == 16) = true by simp; omega, cond_true] at hmn
          exact loop_done hmn
        · rw [if_neg e3]
          rw [show ((l.length : Int) == 16) = false by simp; omega, cond_false, app_eq (by simp; omega) (by simp; omega), bnd_some] at hmn
          have hcast : (n : Int) + (decF (b.drop n)).2.1 = ((n + (decF (b.drop n)).2.1.toNat : Nat) : Int) := by omega
          rw [hcast] at hmn
          exact loop_next hmn (ih _ _ (by simp; omega) (by omega) (by omega))
    · have g1 : ((decF (b.drop n)).2.2.2 != 0) = true := by simpa using e1
      rw [if_pos e1]
      rw [g1, cond_true] at hmn
      exact loop_done hmn
theorem DecodeList_prog (b : List Nat) (hb : lt256 b) (hn : b.length ≤ 1000000) : m_fields_DecodeList (iz b) = some (decL b) := by
  unfold m_fields_DecodeList
  exact bnd_eq (decL_loop b hb hn m_fields_Decode Decode_prog _ (fun _ => rfl) 17 [] 0 rfl (by omega) (by omega)) rfl
theorem decLf_len (b : List Nat) : ∀ (fuel : Nat) (l : List T_Field) (n : Nat), l.length + fuel ≤ 17 → (decLf b fuel l n).1.length ≤ 17
  | 0, l, n, h => by simp [decLf]
  | fuel + 1, l, n, h => by
    unfold decLf
    split
    · simp
    split
    · show l.length ≤ 17
      omega
    split
    · simp
    · exact decLf_len b fuel _ _ (by simp; omega)
end Go.Proofs.YtelepclajhpnfaaGreatDoor
