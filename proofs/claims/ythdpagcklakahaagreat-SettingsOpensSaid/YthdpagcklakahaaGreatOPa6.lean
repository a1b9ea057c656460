/-
  Texts of this seat, put together: rules, walks, plain laws.
  Conditions: none.
-/
import Derived.Test.YthdpagcklakahaaGreatOPa5
section
namespace Go.Proofs.YthdpagcklakahaaGreat
open Go
set_option linter.unusedSimpArgs false
set_option linter.unusedVariables false
def endR (r : T_ref06_Store) : T_ref06_Store := ⟨r.F_, r.First, r.Active, 0, [], r.Tail, true⟩
theorem refEnd_eq (r : T_ref06_Store) (g : T_Flash) : m_ref06_Store_end r g = some (endR r, 10) := rfl
noncomputable def chkStepR (s_p0 : T_ref06_Store) (l_p1 : List T_Setting) : Int → Option (Step Int ((T_ref06_Store × Int) ⊕ Unit)) :=
  (fun (s1 : Int) => bif decide (s1 < (l_p1.length : Int)) then (bnd ((bnd (elt l_p1 s1) fun x1 => bif decide ((x1.Value.length : Int) > 28) then (some true) else (bif x1.Delete then (some (decide ((x1.Value.length : Int) > 0))) else (some false)) : Option Bool)) fun o4 => bif o4 then (some (.done (.inl (s_p0, 1)))) else (bnd (loopM (τ := (T_ref06_Store × Int) ⊕ Unit) (fun (s2 : Int) => bif decide (s2 < s1) then (bnd (elt l_p1 s2) fun x2 => bnd (elt l_p1 s1) fun x3 => bif (x2.Key == x3.Key) then (some (.done (.inl (s_p0, 7)))) else (some (.next (IntKind.wrap .i64 (s2 + 1))))) else (some (.done (.inr ())))) 0) fun o5 => retOrW (fun r_ => (.done (.inl r_))) o5 fun o6 => some (.next (IntKind.wrap .i64 (s1 + 1))))) else (some (.done (.inr ()))))
def chkOutR (r : T_ref06_Store) (e : Int) : (T_ref06_Store × Int) ⊕ Unit := if e = 0 then .inr () else .inl (r, e)
theorem chk_loopR {r : T_ref06_Store} {l : List T_Setting} (hl : l.length ≤ 1000000) : ∀ (k i : Nat) (seen : List Int), i + k = l.length → (∀ q, q ∈ seen ↔ ∃ j, j < i ∧ (l[j]?.map (·.Key)) = some q) →
    loopM (chkStepR r l) (i : Int) = some (chkOutR r (chkG seen (l.drop i)))
  | 0, i, seen, h, _ => by
    refine loop_done ?_
    unfold chkStepR
    rw [cnd_f (by simp; omega), List.drop_eq_nil_of_le (by omega)]
    rfl
  | k + 1, i, seen, h, hm => by
    have hi : i < l.length := by omega
    have hd : l.drop i = l[i] :: l.drop (i + 1) := (List.getElem_cons_drop (h := hi)).symm
    rw [hd]
    have hst : chkStepR r l (i : Int) = some (if l[i].Value.length > 28 ∨ (l[i].Delete = true ∧ l[i].Value.length > 0) then .done (.inl (r, 1)) else if l[i].Key ∈ seen then .done (.inl (r, 7)) else .next ((i + 1 : Nat) : Int)) := by
      unfold chkStepR
      rw [cnd_t (by simp; omega), elt_lt hi, bnd_some]
      have hc : (bif decide ((l[i].Value.length : Int) > 28) then (some true) else (bif l[i].Delete then (some (decide ((l[i].Value.length : Int) > 0))) else (some false)) : Option Bool) = some (decide (l[i].Value.length > 28 ∨ (l[i].Delete = true ∧ l[i].Value.length > 0))) := by
        by_cases h1 : l[i].Value.length > 28
        · rw [cnd_t (by simp; omega), decide_eq_true (.inl h1)]
        · rw [cnd_f (by simp; omega)]
          cases hdl : l[i].Delete
          · rw [cond_false]
            congr 1
            symm
            simp [h1]
          · rw [cond_true]
            congr 1
            rw [decide_eq_decide]
            simp [h1]
      rw [hc, bnd_some]
      by_cases h1 : l[i].Value.length > 28 ∨ (l[i].Delete = true ∧ l[i].Value.length > 0)
      · rw [decide_eq_true h1, cond_true, if_pos h1]
      · rw [decide_eq_false h1, cond_false, if_neg h1]
        refine bnd_loop_any (fun k => (k : Int)) i (fun k => (l[k]?.map (·.Key)) == some l[i].Key) (.inl (r, 7)) (.inr ()) rfl (fun j hj => ?_) ?_ ?_
        · have hjl : j < l.length := by omega
          rw [cnd_t (by simp; omega), elt_lt hjl, bnd_some, bnd_some, List.getElem?_eq_getElem hjl]
          by_cases hk : l[j].Key = l[i].Key
          · rw [cnd_t (by simpa using hk), cnd_t (by simpa using hk)]
          · rw [cnd_f (by simpa using hk), wrap_succ hjl (by omega), cnd_f (by simpa using hk)]
        · rw [cnd_f (by simp)]
        · by_cases h2 : l[i].Key ∈ seen
          · rw [if_pos h2]
            have : (List.range i).any (fun k => (l[k]?.map (·.Key)) == some l[i].Key) = true := by
              obtain ⟨j, hj, e⟩ := (hm _).1 h2
              rw [List.any_eq_true]
              exact ⟨j, List.mem_range.2 hj, by rw [e]; simp⟩
            rw [this]
            rfl
          · rw [if_neg h2]
            have : (List.range i).any (fun k => (l[k]?.map (·.Key)) == some l[i].Key) = false := by
              rw [List.any_eq_false]
              intro j hj e
              exact h2 ((hm _).2 ⟨j, List.mem_range.1 hj, by simpa using e⟩)
            rw [this, wrap_succ hi (by omega)]
            rfl
    unfold chkG
    by_cases h1 : l[i].Value.length > 28 ∨ (l[i].Delete = true ∧ l[i].Value.length > 0)
    · rw [if_pos h1] at hst
      rw [if_pos h1]
      exact loop_done hst
    · rw [if_neg h1] at hst
      rw [if_neg h1]
      by_cases h2 : l[i].Key ∈ seen
      · rw [if_pos h2] at hst
        rw [if_pos h2]
        exact loop_done hst
      · rw [if_neg h2] at hst
        rw [if_neg h2]
        refine loop_next hst (chk_loopR hl k (i + 1) (l[i].Key :: seen) (by omega) fun q => ?_)
        rw [List.mem_cons, hm]
        constructor
        · rintro (rfl | ⟨j, hj, e⟩)
          · exact ⟨i, by omega, by rw [List.getElem?_eq_getElem hi]; rfl⟩
          · exact ⟨j, by omega, e⟩
        · rintro ⟨j, hj, e⟩
          by_cases hji : j = i
          · subst hji
            rw [List.getElem?_eq_getElem hi] at e
            injection e with e
            exact .inl e.symm
          · exact .inr ⟨j, by omega, e⟩
theorem refCheck_eq {f : Nat} {o : OS} {d : T_Device} {l : List T_Setting} (hK : OkK o.K) (hll : l.length ≤ 1000000) : m_ref06_Store_Check (refS f o) l (toF d) =
    some (if d.down then (endR (refS f o), 10) else if chkF l ≠ 0 then (refS f o, chkF l) else if (allK o.K l).length > 32 then (refS f o, 3) else (refS f o, 0)) := by
  unfold m_ref06_Store_Check
  rw [show (refS f o).Ended = false from rfl, cond_false, show chkB (refS f o).F_ = some true from rfl, bnd_some, bnd_some, show (toF d).Down = d.down from rfl]
  cases hd : d.down
  · rw [cond_false, if_neg (by simp)]
    unfold chkF
    by_cases h32 : l.length > 32
    · rw [cnd_t (by simp; omega), if_pos h32, if_pos (by decide)]
    · rw [cnd_f (by simp; omega), if_neg h32]
      have hlp := chk_loopR (r := refS f o) (l := l) hll l.length 0 [] (by omega) (fun q => by simp)
      unfold chkStepR at hlp
      refine bnd_eq hlp ?_
      rw [List.drop_zero]
      unfold chkOutR
      by_cases hc : chkG [] l = 0
      · rw [if_pos hc, retOr_inr, hc, if_neg (by decide), show (refS f o).Keys = o.K from rfl, applyAll_eq hK.asc (by have := hK.len; omega), bnd_some]
        by_cases hg : (allK o.K l).length > 32
        · rw [cnd_t (by simp; omega), if_pos hg]
        · rw [cnd_f (by simp; omega), if_neg hg]
      · rw [if_neg hc, retOr_inl, if_pos hc]
  · rw [cond_true, refEnd_eq, bnd_some, if_pos rfl]
theorem refBatch_eq {l : List T_Setting} (hl : l.length ≤ 1000) (hv : ∀ x ∈ l, x.Value.length ≤ 1000) : m_ref06_batch l = some (encF l) := by
  unfold m_ref06_batch
  have hb : ∀ i, i ≤ l.length → (IntKind.wrap .u8 (l.length : Int) :: (l.take i).flatMap encS).length ≤ 1 + i * 1002 := fun i hi => by
    have := flat_le (l := l.take i) fun x hx => hv x (List.mem_of_mem_take hx)
    simp only [List.length_take, List.length_cons] at *
    rw [Nat.min_eq_left hi] at this
    omega
  refine bnd_loop (fun i => (IntKind.wrap .u8 (l.length : Int) :: (l.take i).flatMap encS, (i : Int))) l.length (IntKind.wrap .u8 (l.length : Int) :: l.flatMap encS) rfl (fun i hi => ?_) ?_ ?_
  · have h1 := hb i (by omega)
    have h2 := hv l[i] (List.getElem_mem hi)
    have h3 : i * 1002 ≤ 1000 * 1002 := Nat.mul_le_mul_right _ (by omega)
    simp only
    rw [cnd_t (by simp; omega), elt_lt hi, bnd_some, take_succ_get hi, List.flatMap_append]
    simp only [List.flatMap_cons, List.flatMap_nil, List.append_nil]
    have hE : ∀ (z : List Int), (IntKind.wrap .u8 (l.length : Int) :: ((l.take i).flatMap encS ++ z)) = (IntKind.wrap .u8 (l.length : Int) :: (l.take i).flatMap encS) ++ z := fun z => rfl
    rw [hE]
    generalize hpre : IntKind.wrap .u8 (l.length : Int) :: (l.take i).flatMap encS = pre at h1 ⊢
    unfold encS
    cases hd : l[i].Delete
    · simp only [cond_false]
      rw [bnd_some, app_eq (by simp; omega) (by simp; omega), bnd_some, app_eq (by simp; omega) (by simp; omega), bnd_some, wrap_succ hi (by omega)]
      simp
    · simp only [cond_true]
      rw [app_eq (by simp; omega) (by simp; omega), bnd_some, wrap_succ hi (by omega)]
      simp
  · simp only
    rw [cnd_f (by simp), List.take_length]
  · have h1 := hb l.length (Nat.le_refl _)
    rw [List.take_length] at h1
    have h3 : l.length * 1002 ≤ 1000 * 1002 := Nat.mul_le_mul_right _ hl
    rw [app_eq (by simp only [List.length_cons, List.length_nil] at *; omega) (by simp only [List.length_cons, List.length_nil] at *; omega), bnd_some]
    rfl
theorem little_eq {g : Int} (h0 : 0 ≤ g) (h1 : g ≤ 4294967295) : m_ref01_Little g 4 = some (gen4 g) := by
  obtain ⟨n, rfl⟩ : ∃ n : Nat, g = (n : Int) := ⟨g.toNat, by omega⟩
  have e8 : (8 : Int) = ((8 : Nat) : Int) := rfl
  have e16 : (16 : Int) = ((16 : Nat) : Int) := rfl
  have e24 : (24 : Int) = ((24 : Nat) : Int) := rfl
  have p8 : 2 ^ 8 = 256 := rfl
  have p16 : 2 ^ 16 = 65536 := rfl
  have p24 : 2 ^ 24 = 16777216 := rfl
  have hb : IntKind.bits .i64 = 64 := rfl
  unfold gen4
  rw [e8, e16, e24, iShr_n (by omega), iShr_n (by omega), iShr_n (by omega), wrap_u8_modn, wrap_u8_modn, wrap_u8_modn, wrap_u8_modn, p8, p16, p24]
  have hm : ∀ k : Nat, (k : Int).tmod 256 = ((k % 256 : Nat) : Int) := fun k => rfl
  have hd : ∀ k : Nat, (k : Int).tdiv 256 = ((k / 256 : Nat) : Int) := fun k => rfl
  have st : ∀ (k : Nat) (L : List Int) (i : Nat), i < 4 → L.length ≤ 4 → k ≤ 4294967295 → (bif decide (((k : Int), L, (i : Int)).2.2 < 4) then (bnd (app 1 ((k : Int), L, (i : Int)).2.1 [IntKind.wrap .u8 (((k : Int), L, (i : Int)).1.tmod 256)]) fun l1 => some (Step.next (IntKind.wrap .u64 (((k : Int), L, (i : Int)).1.tdiv 256), l1, IntKind.wrap .i64 (((k : Int), L, (i : Int)).2.2 + 1)) : Step (Int × List Int × Int) (List Int))) else (some (.done ((k : Int), L, (i : Int)).2.1))) = some (.next (((k / 256 : Nat) : Int), L ++ [((k % 256 : Nat) : Int)], ((i + 1 : Nat) : Int))) := by
    intro k L i hi hL hk
    dsimp only
    rw [cnd_t (by simp; omega), hm, hd, wrap_u8n (by omega), wrap_u64n (by omega), app_eq (by simp; omega) (by simp; omega), bnd_some, wrapS (by omega)]
  unfold m_ref01_Little
  have q1 : n / 256 / 256 = n / 65536 := by omega
  have q2 : n / 65536 / 256 = n / 16777216 := by omega
  have s0 := st n [] 0 (by omega) (by simp) (by omega)
  have s1 := st (n / 256) [((n % 256 : Nat) : Int)] 1 (by omega) (by simp) (by omega)
  have s2 := st (n / 65536) [((n % 256 : Nat) : Int), ((n / 256 % 256 : Nat) : Int)] 2 (by omega) (by simp) (by omega)
  have s3 := st (n / 16777216) [((n % 256 : Nat) : Int), ((n / 256 % 256 : Nat) : Int), ((n / 65536 % 256 : Nat) : Int)] 3 (by omega) (by simp) (by omega)
  rw [q1] at s1
  rw [q2] at s2
  exact bnd_eq (loop_next s0 (loop_next s1 (loop_next s2 (loop_next s3 (loop_done rfl))))) rfl
theorem programF_in {d : T_Device} {at_ : Int} {b : List Int} (h : 0 ≤ at_ ∧ at_ + b.length ≤ d.bytes.length) : (programF d at_ b).2 = 0 ∨ (programF d at_ b).2 = 10 := by
  unfold programF
  split
  · exact .inr rfl
  · rw [if_pos ⟨by omega, by omega, by omega, by omega⟩]
    exact progL_err _ _ _
theorem eraseF_in {d : T_Device} {s : Int} (h : 0 ≤ s ∧ s < d.wear.length) : (eraseF d s).2 = 0 ∨ (eraseF d s).2 = 10 := by
  unfold eraseF
  split
  · exact .inr rfl
  · rw [if_neg (by omega)]
    cases (stepF (wrW d s.toNat)).2 <;> simp
structure OkR (o : OS) (d : T_Device) (f : Nat) : Prop where
  oo : OkO o
  clean : 0 ≤ o.act → o.clean = blankF ((sect d (f + o.act.toNat)).drop o.tail.toNat) ∧ o.tail ≤ d.size
  none : o.act < 0 → o.gen = 0
theorem okR_open {d : T_Device} (h : OkD d) (hz : 1024 ≤ d.size) {f : Nat} (hf : f + 1 < d.wear.length) : OkR (openF d f) d f := by
  have ho := openF_okO h hz hf
  refine ⟨ho, fun ha => ?_, fun ha => ?_⟩
  · rw [openF_sel] at *
    have hl0 := sect_len h (k := f) (by omega)
    have hl1 := sect_len h (k := f + 1) hf
    have hs := h.size
    rcases sel_cases (sect d f) (sect d (f + 1)) with ⟨h0, h1, h2⟩ | ⟨g, K, t, h0, h1, h2⟩ | ⟨g, K, t, h1, h0, h2⟩
    · rw [h2] at ha; exact absurd ha (by decide)
    · rw [h2]
      obtain ⟨_, _, _, _, hk⟩ := secF_gen h0
      have := (readK_le (sect_rng h f)).2
      rw [hk] at this
      simp only [List.length_drop] at this
      exact ⟨rfl, by show (t : Int) ≤ d.size; omega⟩
    · rw [h2]
      obtain ⟨_, _, _, _, hk⟩ := secF_gen h1
      have := (readK_le (sect_rng h (f + 1))).2
      rw [hk] at this
      simp only [List.length_drop] at this
      exact ⟨rfl, by show (t : Int) ≤ d.size; omega⟩
  · rw [openF_sel] at *
    rcases sel_cases (sect d f) (sect d (f + 1)) with ⟨h0, h1, h2⟩ | ⟨g, K, t, h0, h1, h2⟩ | ⟨g, K, t, h1, h0, h2⟩
    · rw [h2]; rfl
    · rw [h2] at ha; exact absurd ha (by show ¬ (0 : Int) < 0; omega)
    · rw [h2] at ha; exact absurd ha (by show ¬ (1 : Int) < 0; omega)
def RelR (r : T_ref06_Store) (f : Nat) (o : Option OS) : Prop := match o with
  | none => r.Ended = true ∧ r.Keys = [] ∧ r.Gen = 0
  | some o => r = refS f o
theorem refU_fin {f : Nat} {o o' : OS} {r : T_Device × Int} (h : r.2 = 0 ∨ r.2 = 10) : ∃ r', (if r.2 = 0 then some (refS f o', toF r.1, 0) else some (endR (refS f o), toF r.1, 10)) = some (r', toF (finU o o' r).2.1, (finU o o' r).2.2) ∧ RelR r' f (finU o o' r).1 := by
  unfold finU
  rcases h with h | h
  · rw [if_pos h, if_pos h]
    exact ⟨_, rfl, rfl⟩
  · rw [if_neg (by omega), if_neg (by omega), if_pos h]
    exact ⟨_, rfl, rfl, rfl, rfl⟩
theorem refUpdate_eq {f : Nat} {o : OS} {d : T_Device} {l : List T_Setting} (hR : OkR o d f) (h : OkD d) (hz : 1024 ≤ d.size) (hf : f + 1 < d.wear.length) (hll : l.length ≤ 1000000) (hl : ∀ x ∈ l, 0 ≤ x.Key ∧ x.Key ≤ 255 ∧ rng x.Value) :
    ∃ r', m_ref06_Store_Update (refS f o) l (toF d) = some (r', toF (updF o d f l).2.1, (updF o d f l).2.2) ∧ RelR r' f (updF o d f l).1 := by
  have ho := hR.oo
  have hw := h.wear
  have hsz := h.size
  have hb := h.bound
  have hot := ho.tail
  have hoa := ho.act
  have hog := ho.gen
  obtain ⟨z, hzz⟩ : ∃ z : Nat, d.size = (z : Int) := ⟨d.size.toNat, by omega⟩
  have hz1 : d.size.toNat = z := by rw [hzz]; rfl
  unfold m_ref06_Store_Update updF
  rw [refCheck_eq ho.K hll, bnd_some]
  cases hd : d.down
  case true => exact ⟨_, rfl, rfl, rfl, rfl⟩
  rw [if_neg (show ¬ (false = true) by decide), if_neg (show ¬ (false = true) by decide)]
  by_cases hc : chkF l ≠ 0
  · rw [if_pos hc, if_pos hc, cnd_t (by simpa using hc)]
    exact ⟨_, rfl, rfl⟩
  have hc0 : chkF l = 0 := by omega
  rw [if_neg hc, if_neg hc]
  by_cases hnil : l = []
  · subst hnil
    rw [if_neg (by show ¬ o.K.length > 32; have := ho.K.len; omega), if_pos rfl]
    exact ⟨_, rfl, rfl⟩
  rw [if_neg hnil]
  have hpos : 0 < l.length := List.length_pos_iff.2 hnil
  have hco := chkF_ok hc0
  have hlok : ∀ x ∈ l, OkC x := fun x hx => ⟨⟨(hl x hx).1, (hl x hx).2.1⟩, (hco.2 x hx).1, (hl x hx).2.2, (hco.2 x hx).2⟩
  by_cases h32 : (allK o.K l).length > 32
  · rw [if_pos h32, if_pos h32, cnd_t (by rfl)]
    exact ⟨_, rfl, rfl⟩
  rw [if_neg h32, if_neg h32, cnd_f (by rfl), cnd_f (by simp; omega)]
  have hKok : OkK (allK o.K l) := ho.K.all hlok (by omega)
  have hel := enc_len hco.1 hlok
  have her := enc_rng hco.1 hlok
  rw [copyL ⟨hll, fun x hx => by have := (hco.2 x hx).1; omega⟩, bnd_some, show (refS f o).Keys = o.K from rfl, applyAll_eq ho.K.asc (by have := ho.K.len; omega), bnd_some, refBatch_eq (by omega) (fun x hx => by have := (hco.2 x hx).1; omega), bnd_some]
  rw [show (refS f o).Active = o.act from rfl, show (refS f o).First = (f : Int) from rfl, show (refS f o).Tail = o.tail from rfl, show (refS f o).Gen = o.gen from rfl, show (refS f o).F_ = true from rfl, show (refS f o).Ended = false from rfl, show (toF d).Size = d.size from rfl, show (toF d).Data = d.bytes from rfl, show chkB true = some true from rfl]
  by_cases hap : 0 ≤ o.act ∧ o.clean = true ∧ ((encF l).length : Int) ≤ d.size - o.tail
  · -- one more batch
    rw [if_pos hap]
    obtain ⟨ha, hcl, hfit⟩ := hap
    obtain ⟨hcl2, htl⟩ := hR.clean ha
    have hfa : f + o.act.toNat < d.wear.length := by omega
    have hle := sector_le h hfa
    rw [hz1] at hle
    have e1 : IntKind.wrap .i64 ((f : Int) + o.act) = ((f + o.act.toNat : Nat) : Int) := by rw [wrap_i64 (by omega) (by omega)]; omega
    have e2 : IntKind.wrap .i64 (((f + o.act.toNat : Nat) : Int) * d.size) = (((f + o.act.toNat) * d.size.toNat : Nat) : Int) := by
      rw [hz1, hzz]
      have : (((f + o.act.toNat : Nat) : Int) * (z : Int)) = (((f + o.act.toNat) * z : Nat) : Int) := by simp
      rw [this, wrap_i64n (by omega)]
    obtain ⟨r, hr⟩ : ∃ r, programF d ((((f + o.act.toNat) * d.size.toNat : Nat) : Int) + o.tail) (encF l) = r := ⟨_, rfl⟩
    have hr2 : r.2 = 0 ∨ r.2 = 10 := by rw [← hr]; exact programF_in ⟨by omega, by rw [hz1]; omega⟩
    rw [hr]
    have hblk := refU_fin (f := f) (o := o) (o' := ⟨o.act, o.gen, allK o.K l, o.tail + ((encF l).length : Int), o.clean⟩) hr2
    obtain ⟨r', hr', hrel⟩ := hblk
    refine ⟨r', ?_, hrel⟩
    rw [← hr']
    refine bnd_eq (a := .inl (if r.2 = 0 then (refS f ⟨o.act, o.gen, allK o.K l, o.tail + ((encF l).length : Int), o.clean⟩, toF r.1, 0) else (endR (refS f o), toF r.1, 10))) ?_ ?_
    · rw [cnd_t (by simpa using ha), bnd_some, e1, e2, wrap_i64 (x := (((f + o.act.toNat) * d.size.toNat : Nat) : Int) + o.tail) (by omega) (by rw [hz1]; omega), wrap_i64 (x := (((f + o.act.toNat) * d.size.toNat : Nat) : Int) + d.size) (by omega) (by rw [hz1]; omega)]
      have hp : partM d.bytes.length ((((f + o.act.toNat) * d.size.toNat : Nat) : Int) + o.tail) ((((f + o.act.toNat) * d.size.toNat : Nat) : Int) + d.size) = some (z - o.tail.toNat) := by
        unfold partM
        rw [if_pos ⟨by omega, by omega, by rw [hz1]; omega⟩]
        congr 1
        rw [hz1]
        omega
      have hs : Go.Proofs.YthdpagcklakahaaGreat.sub d.bytes ((Int.toNat ((((f + o.act.toNat) * d.size.toNat : Nat) : Int) + o.tail) : Nat) : Int) (((Int.toNat ((((f + o.act.toNat) * d.size.toNat : Nat) : Int) + o.tail)) + (z - o.tail.toNat) : Nat) : Int) = some ((sect d (f + o.act.toNat)).drop o.tail.toNat) := by
        have e3 : Int.toNat ((((f + o.act.toNat) * d.size.toNat : Nat) : Int) + o.tail) = (f + o.act.toNat) * d.size.toNat + o.tail.toNat := by omega
        rw [e3, sub_nat (by omega) (by rw [hz1]; omega), Nat.add_sub_cancel_left]
        congr 1
        unfold sect
        rw [List.drop_take, List.drop_drop, hz1]
      have hlen : ((sect d (f + o.act.toNat)).drop o.tail.toNat).length ≤ 1000000 := by
        have := sect_len h hfa
        simp only [List.length_drop]
        omega
      rw [hp, bnd_some, cnd_t (by simp; omega), hs, bnd_some, refBlank_eq hlen, bnd_some, ← hcl2, hcl, bnd_some, cond_true, refProg_eq h her, hr, bnd_some]
      rcases hr2 with h0 | h0
      · rw [cnd_f (by simpa using h0), if_pos h0, wrap_i64 (by omega) (by omega)]
        rfl
      · rw [cnd_t (by simp [h0]), refEnd_eq, bnd_some, if_neg (by omega)]
    · rw [retOr_inl]
      split <;> rfl
  rw [if_neg hap]
  by_cases hg : o.gen = 2147483648
  · have ha : 0 ≤ o.act := by
      by_cases ha : 0 ≤ o.act
      · exact ha
      · have := hR.none (by omega); omega
    rw [if_pos hg]
    refine ⟨refS f o, ?_, rfl⟩
    obtain ⟨hcl2, htl⟩ := hR.clean ha
    have hfa : f + o.act.toNat < d.wear.length := by omega
    have hle := sector_le h hfa
    rw [hz1] at hle
    have e1 : IntKind.wrap .i64 ((f : Int) + o.act) = ((f + o.act.toNat : Nat) : Int) := by rw [wrap_i64 (by omega) (by omega)]; omega
    have e2 : IntKind.wrap .i64 (((f + o.act.toNat : Nat) : Int) * d.size) = (((f + o.act.toNat) * d.size.toNat : Nat) : Int) := by
      rw [hz1, hzz]
      have : (((f + o.act.toNat : Nat) : Int) * (z : Int)) = (((f + o.act.toNat) * z : Nat) : Int) := by simp
      rw [this, wrap_i64n (by omega)]
    refine bnd_eq (a := .inl (refS f o, toF d, 3)) ?_ rfl
    rw [cnd_t (by simpa using ha), bnd_some, e1, e2, wrap_i64 (x := (((f + o.act.toNat) * d.size.toNat : Nat) : Int) + o.tail) (by omega) (by rw [hz1]; omega), wrap_i64 (x := (((f + o.act.toNat) * d.size.toNat : Nat) : Int) + d.size) (by omega) (by rw [hz1]; omega)]
    have hp : partM d.bytes.length ((((f + o.act.toNat) * d.size.toNat : Nat) : Int) + o.tail) ((((f + o.act.toNat) * d.size.toNat : Nat) : Int) + d.size) = some (z - o.tail.toNat) := by
      unfold partM
      rw [if_pos ⟨by omega, by omega, by rw [hz1]; omega⟩]
      congr 1
      rw [hz1]
      omega
    have hs : Go.Proofs.YthdpagcklakahaaGreat.sub d.bytes ((Int.toNat ((((f + o.act.toNat) * d.size.toNat : Nat) : Int) + o.tail) : Nat) : Int) (((Int.toNat ((((f + o.act.toNat) * d.size.toNat : Nat) : Int) + o.tail)) + (z - o.tail.toNat) : Nat) : Int) = some ((sect d (f + o.act.toNat)).drop o.tail.toNat) := by
      have e3 : Int.toNat ((((f + o.act.toNat) * d.size.toNat : Nat) : Int) + o.tail) = (f + o.act.toNat) * d.size.toNat + o.tail.toNat := by omega
      rw [e3, sub_nat (by omega) (by rw [hz1]; omega), Nat.add_sub_cancel_left]
      congr 1
      unfold sect
      rw [List.drop_take, List.drop_drop, hz1]
    have hlen : ((sect d (f + o.act.toNat)).drop o.tail.toNat).length ≤ 1000000 := by
      have := sect_len h hfa
      simp only [List.length_drop]
      omega
    rw [hp, bnd_some, hs]
    have ho3 : (bif decide (((encF l).length : Int) ≤ ((z - o.tail.toNat : Nat) : Int)) then (bnd (some ((sect d (f + o.act.toNat)).drop o.tail.toNat)) fun l1 => bnd (m_ref05_Blank l1) fun r5 => some r5) else some false) = some false := by
      by_cases hfit : ((encF l).length : Int) ≤ ((z - o.tail.toNat : Nat) : Int)
      · rw [cnd_t (by simpa using hfit), bnd_some, refBlank_eq hlen, bnd_some, ← hcl2]
        congr 1
        cases hcl : o.clean
        · rfl
        · exact absurd ⟨ha, hcl, by omega⟩ hap
      · rw [cnd_f (by simpa using hfit)]
    rw [ho3, bnd_some, cond_false, cnd_t (by simpa using hg)]
  -- the other sector
  rw [if_neg hg]
  generalize hN : allK o.K l = N at hKok ⊢
  have hfirst : ∀ (blk : Option ((T_ref06_Store × T_Flash × Int) ⊕ Bool)), blk = some (.inr true) → blk = some (.inr true) := fun _ h => h
  have hk : f + othF o < d.wear.length := by unfold othF; split <;> omega
  have hle := sector_le h hk
  rw [hz1] at hle
  have hot1 : othF o ≤ 1 := by unfold othF; split <;> omega
  have hfo : IntKind.wrap .i64 ((f : Int) + ((othF o : Nat) : Int)) = ((f + othF o : Nat) : Int) := by rw [wrap_i64 (by omega) (by omega)]; omega
  have hoff : IntKind.wrap .i64 (((f + othF o : Nat) : Int) * d.size) = (((f + othF o) * d.size.toNat : Nat) : Int) := by
    rw [hz1, hzz]
    have : (((f + othF o : Nat) : Int) * (z : Int)) = (((f + othF o) * z : Nat) : Int) := by simp
    rw [this, wrap_i64n (by omega)]
  have hoth : ((bif (o.act == 0) then (some 1) else (some 0) : Option Int)) = some ((othF o : Nat) : Int) := by
    unfold othF
    by_cases ha : o.act = 0
    · rw [cnd_t (by simpa using ha), if_pos ha]; rfl
    · rw [cnd_f (by simpa using ha), if_neg ha]; rfl
  have hsl : (sect d (f + othF o)).length = d.size.toNat := sect_len h hk
  obtain ⟨r1, hr1⟩ : ∃ r1, (if blankF (sect d (f + othF o)) then (d, 0) else eraseF d ((f + othF o : Nat) : Int)) = r1 := ⟨_, rfl⟩
  have ok1 : OkD r1.1 ∧ r1.1.size = d.size ∧ r1.1.wear.length = d.wear.length ∧ r1.1.bytes.length = d.bytes.length ∧ r1.1.torn = d.torn := by
    rw [← hr1]
    split
    · exact ⟨h, rfl, rfl, rfl, rfl⟩
    · exact eraseF_ok h _
  have er1 : r1.2 = 0 ∨ r1.2 = 10 := by
    rw [← hr1]
    split
    · exact .inl rfl
    · exact eraseF_in ⟨by omega, by omega⟩
  obtain ⟨r2, hr2⟩ : ∃ r2, (andD r1 fun d1 => programF d1 (((f + othF o) * d.size.toNat : Nat) : Int) (gen4 (o.gen + 1))) = r2 := ⟨_, rfl⟩
  have ok2 : OkD r2.1 ∧ r2.1.size = d.size ∧ r2.1.wear.length = d.wear.length ∧ r2.1.bytes.length = d.bytes.length ∧ r2.1.torn = d.torn := by
    rw [← hr2]
    exact andD_ok ok1 fun e a b c g t => progOk' a b c g t (gen4_rng _) _
  have er2 : r2.2 = 0 ∨ r2.2 = 10 := by
    rw [← hr2]
    unfold andD
    split
    · exact programF_in ⟨by omega, by rw [ok1.2.2.2.1, hz1]; show _ + (4 : Int) ≤ _; omega⟩
    · exact er1
  obtain ⟨r3, hr3⟩ : ∃ r3, (andD r2 fun d2 => if N = [] then (d2, 0) else programF d2 ((((f + othF o) * d.size.toNat : Nat) : Int) + 5) (encF N)) = r3 := ⟨_, rfl⟩
  have hel2 := enc_len hKok.len hKok.ok
  have ok3 : OkD r3.1 ∧ r3.1.size = d.size ∧ r3.1.wear.length = d.wear.length ∧ r3.1.bytes.length = d.bytes.length ∧ r3.1.torn = d.torn := by
    rw [← hr3]
    refine andD_ok ok2 fun e a b c g t => ?_
    split
    · exact ⟨a, b, c, g, t⟩
    · exact progOk' a b c g t (enc_rng hKok.len hKok.ok) _
  have er3 : r3.2 = 0 ∨ r3.2 = 10 := by
    rw [← hr3]
    unfold andD
    split
    · split
      · exact .inl rfl
      · exact programF_in ⟨by omega, by rw [ok2.2.2.2.1, hz1]; omega⟩
    · exact er2
  obtain ⟨r4, hr4⟩ : ∃ r4, (andD r3 fun d3 => programF d3 ((((f + othF o) * d.size.toNat : Nat) : Int) + 4) [0]) = r4 := ⟨_, rfl⟩
  have er4 : r4.2 = 0 ∨ r4.2 = 10 := by
    rw [← hr4]
    unfold andD
    split
    · exact programF_in ⟨by omega, by rw [ok3.2.2.2.1, hz1]; show _ + (1 : Int) ≤ _; omega⟩
    · exact er3
  have hmo : moveD o d f N = r4 := by
    unfold moveD
    simp only
    rw [hr1, hr2, hr3, hr4]
  rw [hmo]
  obtain ⟨r', hr', hrel⟩ := refU_fin (f := f) (o := o) (o' := moveO o N) er4
  refine ⟨r', ?_, hrel⟩
  rw [← hr']
  refine bnd_eq (a := .inr true) ?_ ?_
  · by_cases ha : 0 ≤ o.act
    · obtain ⟨hcl2, htl⟩ := hR.clean ha
      have hfa : f + o.act.toNat < d.wear.length := by omega
      have hle := sector_le h hfa
      rw [hz1] at hle
      have e1 : IntKind.wrap .i64 ((f : Int) + o.act) = ((f + o.act.toNat : Nat) : Int) := by rw [wrap_i64 (by omega) (by omega)]; omega
      have e2 : IntKind.wrap .i64 (((f + o.act.toNat : Nat) : Int) * d.size) = (((f + o.act.toNat) * d.size.toNat : Nat) : Int) := by
        rw [hz1, hzz]
        have : (((f + o.act.toNat : Nat) : Int) * (z : Int)) = (((f + o.act.toNat) * z : Nat) : Int) := by simp
        rw [this, wrap_i64n (by omega)]
      rw [cnd_t (by simpa using ha), bnd_some, e1, e2, wrap_i64 (x := (((f + o.act.toNat) * d.size.toNat : Nat) : Int) + o.tail) (by omega) (by rw [hz1]; omega), wrap_i64 (x := (((f + o.act.toNat) * d.size.toNat : Nat) : Int) + d.size) (by omega) (by rw [hz1]; omega)]
      have hp : partM d.bytes.length ((((f + o.act.toNat) * d.size.toNat : Nat) : Int) + o.tail) ((((f + o.act.toNat) * d.size.toNat : Nat) : Int) + d.size) = some (z - o.tail.toNat) := by
        unfold partM
        rw [if_pos ⟨by omega, by omega, by rw [hz1]; omega⟩]
        congr 1
        rw [hz1]
        omega
      have hs : Go.Proofs.YthdpagcklakahaaGreat.sub d.bytes ((Int.toNat ((((f + o.act.toNat) * d.size.toNat : Nat) : Int) + o.tail) : Nat) : Int) (((Int.toNat ((((f + o.act.toNat) * d.size.toNat : Nat) : Int) + o.tail)) + (z - o.tail.toNat) : Nat) : Int) = some ((sect d (f + o.act.toNat)).drop o.tail.toNat) := by
        have e3 : Int.toNat ((((f + o.act.toNat) * d.size.toNat : Nat) : Int) + o.tail) = (f + o.act.toNat) * d.size.toNat + o.tail.toNat := by omega
        rw [e3, sub_nat (by omega) (by rw [hz1]; omega), Nat.add_sub_cancel_left]
        congr 1
        unfold sect
        rw [List.drop_take, List.drop_drop, hz1]
      have hlen : ((sect d (f + o.act.toNat)).drop o.tail.toNat).length ≤ 1000000 := by
        have := sect_len h hfa
        simp only [List.length_drop]
        omega
      rw [hp, bnd_some, hs]
      have ho3 : (bif decide (((encF l).length : Int) ≤ ((z - o.tail.toNat : Nat) : Int)) then (bnd (some ((sect d (f + o.act.toNat)).drop o.tail.toNat)) fun l1 => bnd (m_ref05_Blank l1) fun r5 => some r5) else some false) = some false := by
        by_cases hfit : ((encF l).length : Int) ≤ ((z - o.tail.toNat : Nat) : Int)
        · rw [cnd_t (by simpa using hfit), bnd_some, refBlank_eq hlen, bnd_some, ← hcl2]
          congr 1
          cases hcl : o.clean
          · rfl
          · exact absurd ⟨ha, hcl, by omega⟩ hap
        · rw [cnd_f (by simpa using hfit)]
      rw [ho3, bnd_some, cond_false, cnd_f (by simpa using hg)]
    · rw [cnd_f (by simpa using ha)]
  rw [retOr_inr, hoth, bnd_some, show chkB true = some true from rfl, bnd_some, hfo, hoff, wrap_i64 (x := (((f + othF o) * d.size.toNat : Nat) : Int) + d.size) (by omega) (by rw [hz1]; omega)]
  have hp : partM d.bytes.length (((f + othF o) * d.size.toNat : Nat) : Int) ((((f + othF o) * d.size.toNat : Nat) : Int) + d.size) = some z := by
    unfold partM
    rw [if_pos ⟨by omega, by omega, by rw [hz1]; omega⟩]
    congr 1
    rw [hz1]
    omega
  have hs : Go.Proofs.YthdpagcklakahaaGreat.sub d.bytes ((Int.toNat (((f + othF o) * d.size.toNat : Nat) : Int) : Nat) : Int) (((Int.toNat (((f + othF o) * d.size.toNat : Nat) : Int)) + z : Nat) : Int) = some (sect d (f + othF o)) := by
    have e3 : Int.toNat (((f + othF o) * d.size.toNat : Nat) : Int) = (f + othF o) * d.size.toNat := by omega
    rw [e3, sub_nat (by omega) (by rw [hz1]; omega), Nat.add_sub_cancel_left]
    unfold sect
    rw [hz1]
  have hgw : IntKind.wrap .i64 (o.gen + 1) = o.gen + 1 := wrap_i64 (by omega) (by omega)
  -- it may fail at each stage
  by_cases h1 : r1.2 = 0
  rotate_left
  · have e2 : r2 = r1 := by rw [← hr2]; unfold andD; rw [if_neg h1]
    have e3 : r3 = r1 := by rw [← hr3, e2]; unfold andD; rw [if_neg h1]
    have e4 : r4 = r1 := by rw [← hr4, e3]; unfold andD; rw [if_neg h1]
    rw [e4, if_neg h1]
    refine bnd_eq (a := .inl (endR (refS f o), toF r1.1, 10)) ?_ rfl
    rw [hp, bnd_some, hs, bnd_some, refBlank_eq (by rw [hsl]; omega), bnd_some]
    cases hbl : blankF (sect d (f + othF o))
    · rw [hbl, if_neg (by decide)] at hr1
      rw [Bool.not_false, cond_true, refErase_eq h _ (by omega), bnd_some, hr1, cnd_t (by simpa using h1), refEnd_eq, bnd_some]
    · rw [hbl, if_pos rfl] at hr1
      rw [← hr1] at h1
      exact absurd rfl h1
  refine bnd_eq (a := .inr (toF r1.1)) ?_ ?_
  · rw [hp, bnd_some, hs, bnd_some, refBlank_eq (by rw [hsl]; omega), bnd_some]
    cases hbl : blankF (sect d (f + othF o))
    · rw [hbl, if_neg (by decide)] at hr1
      rw [Bool.not_false, cond_true, refErase_eq h _ (by omega), bnd_some, hr1, cnd_f (by simpa using h1)]
    · rw [hbl, if_pos rfl] at hr1
      rw [← hr1]
      rfl
  have hr2' : programF r1.1 (((f + othF o) * d.size.toNat : Nat) : Int) (gen4 (o.gen + 1)) = r2 := by rw [← hr2]; unfold andD; rw [if_pos h1]
  rw [retOr_inr, hgw, wrap_u64 (x := o.gen + 1) (by omega) (by omega), little_eq (by omega) (by omega), bnd_some, refProg_eq ok1.1 (gen4_rng _), bnd_some, hr2']
  by_cases h2 : r2.2 = 0
  rotate_left
  · have e3 : r3 = r2 := by rw [← hr3]; unfold andD; rw [if_neg h2]
    have e4 : r4 = r2 := by rw [← hr4, e3]; unfold andD; rw [if_neg h2]
    rw [e4, if_neg h2, cnd_t (by simpa using h2), refEnd_eq, bnd_some]
  rw [cnd_f (by simpa using h2)]
  have hr3' : (if N = [] then (r2.1, 0) else programF r2.1 ((((f + othF o) * d.size.toNat : Nat) : Int) + 5) (encF N)) = r3 := by rw [← hr3]; unfold andD; rw [if_pos h2]
  by_cases h3 : r3.2 = 0
  rotate_left
  · have e4 : r4 = r3 := by rw [← hr4]; unfold andD; rw [if_neg h3]
    rw [e4, if_neg h3]
    have hne : N ≠ [] := fun e => by rw [if_pos e] at hr3'; rw [← hr3'] at h3; exact h3 rfl
    have hpos2 : 0 < N.length := List.length_pos_iff.2 hne
    rw [if_neg hne] at hr3'
    refine bnd_eq (a := .inl (endR (refS f o), toF r3.1, 10)) ?_ rfl
    rw [cnd_t (by simp; omega), refBatch_eq (by have := hKok.len; omega) (fun x hx => by have := (hKok.ok x hx).len; omega), bnd_some, wrap_i64 (x := (((f + othF o) * d.size.toNat : Nat) : Int) + 5) (by omega) (by rw [hz1]; omega), refProg_eq ok2.1 (enc_rng hKok.len hKok.ok), bnd_some, hr3', cnd_t (by simpa using h3), refEnd_eq, bnd_some]
  refine bnd_eq (a := .inr (5 + (if N = [] then 0 else ((encF N).length : Int)), toF r3.1)) ?_ ?_
  · by_cases hne : N = []
    · rw [if_pos hne] at hr3'
      rw [if_pos hne, cnd_f (by rw [hne]; rfl), ← hr3']
      rfl
    · have hpos2 : 0 < N.length := List.length_pos_iff.2 hne
      rw [if_neg hne] at hr3'
      rw [if_neg hne, cnd_t (by simp; omega), refBatch_eq (by have := hKok.len; omega) (fun x hx => by have := (hKok.ok x hx).len; omega), bnd_some, wrap_i64 (x := (((f + othF o) * d.size.toNat : Nat) : Int) + 5) (by omega) (by rw [hz1]; omega), refProg_eq ok2.1 (enc_rng hKok.len hKok.ok), bnd_some, hr3', cnd_f (by simpa using h3), wrap_i64 (by omega) (by omega)]
  have hr4' : programF r3.1 ((((f + othF o) * d.size.toNat : Nat) : Int) + 4) [0] = r4 := by rw [← hr4]; unfold andD; rw [if_pos h3]
  rw [retOr_inr, wrap_i64 (x := (((f + othF o) * d.size.toNat : Nat) : Int) + 4) (by omega) (by rw [hz1]; omega)]
  show bnd (m_ref05_Flash_Program (toF r3.1) _ [0]) _ = _
  rw [refProg_eq ok3.1 (rng.cons (by decide) rng.nil), bnd_some, hr4']
  by_cases h4 : r4.2 = 0
  · rw [cnd_f (by simpa using h4), if_pos h4]
    rfl
  · rw [cnd_t (by simpa using h4), if_neg h4, refEnd_eq, bnd_some]
theorem refUpdate_end {r : T_ref06_Store} {f : Nat} (h : RelR r f none) (l : List T_Setting) (d : T_Device) : ∃ r', m_ref06_Store_Update r l (toF d) = some (r', toF d, 10) ∧ RelR r' f none := by
  obtain ⟨h1, h2, h3⟩ := h
  refine ⟨endR r, ?_, rfl, rfl, rfl⟩
  unfold m_ref06_Store_Update m_ref06_Store_Check
  rw [h1, cond_true, bnd_some, cond_true, refEnd_eq]
  rfl
theorem refGet_eq {r : T_ref06_Store} {f : Nat} {o : OS} (h : RelR r f (some o)) (ho : OkK o.K) (k : Int) (g : T_Flash) : m_ref06_Store_Get r k g = some ((look o.K k).getD [], (look o.K k).isSome) := by
  have hr : r = refS f o := h
  subst hr
  have hlen := ho.len
  unfold m_ref06_Store_Get
  rw [show (refS f o).Keys = o.K from rfl]
  have : ∀ (n i : Nat), i + n = o.K.length → loopM (fun (s1 : Int) => bif decide (s1 < (o.K.length : Int)) then (bnd (elt o.K s1) fun x1 => bif (x1.Key == k) then (bnd (m_ref01_Copy x1.Value) fun r1 => some (.done (.inl (r1, true)))) else (some (.next (IntKind.wrap .i64 (s1 + 1))))) else (some (.done (.inr ())))) (i : Int) = some (match look (o.K.drop i) k with | some v => (.inl (v, true) : (List Int × Bool) ⊕ Unit) | none => .inr ()) := by
    intro n
    induction n with
    | zero =>
      intro i hi
      rw [List.drop_eq_nil_of_le (by omega)]
      exact loop_done (by rw [cnd_f (by simp; omega)]; rfl)
    | succ n ih =>
      intro i hi
      have hil : i < o.K.length := by omega
      rw [← List.getElem_cons_drop (h := hil), look_cons]
      by_cases hk : o.K[i].Key = k
      · rw [if_pos hk]
        refine loop_done ?_
        rw [cnd_t (by simp; omega), elt_lt hil, bnd_some, cnd_t (by simpa using hk), copyJ (by have := (ho.ok _ (List.getElem_mem hil)).len; omega), bnd_some]
      · rw [if_neg hk]
        refine loop_next (s' := ((i + 1 : Nat) : Int)) ?_ (ih (i + 1) (by omega))
        rw [cnd_t (by simp; omega), elt_lt hil, bnd_some, cnd_f (by simpa using hk), wrap_succ hil (by omega)]
  have h0 := this o.K.length 0 (by omega)
  rw [List.drop_zero] at h0
  refine bnd_eq h0 ?_
  cases look o.K k <;> rfl
theorem refGet_end {r : T_ref06_Store} {f : Nat} (h : RelR r f none) (k : Int) (g : T_Flash) : m_ref06_Store_Get r k g = some ([], false) := by
  obtain ⟨h1, h2, h3⟩ := h
  unfold m_ref06_Store_Get
  rw [h2]
  exact bnd_eq (loop_done (t := .inr ()) rfl) rfl
theorem refAll_eq {r : T_ref06_Store} {f : Nat} {o : OS} (h : RelR r f (some o)) (ho : OkK o.K) (g : T_Flash) : m_ref06_Store_All r g = some o.K := by
  have hr : r = refS f o := h
  subst hr
  unfold m_ref06_Store_All
  rw [show (refS f o).Keys = o.K from rfl, copyL ⟨by have := ho.len; omega, fun x hx => by have := (ho.ok x hx).len; omega⟩, bnd_some]
theorem refAll_end {r : T_ref06_Store} {f : Nat} (h : RelR r f none) (g : T_Flash) : m_ref06_Store_All r g = some [] := by
  obtain ⟨h1, h2, h3⟩ := h
  unfold m_ref06_Store_All
  rw [h2, copyL ⟨by simp, fun x hx => by cases hx⟩]
  rfl
end Go.Proofs.YthdpagcklakahaaGreat
end
section
namespace Go.Proofs.YthdpagcklakahaaGreat
open Go
set_option linter.unusedSimpArgs false
set_option linter.unusedVariables false
structure Pair (d : T_Device) (s : T_settings_Store) (r : T_ref06_Store) (f : Nat) : Prop where
  ok : OkD d
  size : 1024 ≤ d.size
  first : f + 1 < d.wear.length
  say : (d.down = false ∧ RelO s f (openF d f) ∧ RelR r f (some (openF d f))) ∨ (d.down = true ∧ s = endS ∧ RelR r f none)
theorem Pair.upd {d : T_Device} {s : T_settings_Store} {r : T_ref06_Store} {f : Nat} (h : Pair d s r f) {l : List T_Setting} (hl : okU l) :
    ∃ s' r' d' e, m_settings_Store_Update s l d = some (s', d', e) ∧ m_ref06_Store_Update r l (toF d) = some (r', toF d', e) ∧ Pair d' s' r' f ∧ (e = 10 → d'.down = true) := by
  rcases h.say with ⟨h1, h2, h3⟩ | ⟨h1, h2, h3⟩
  · have hO := openF_okO h.ok h.size h.first
    obtain ⟨s', a1, a2⟩ := update_eq h2 hO h.ok h.size h.first hl.1 hl.2
    have hr : r = refS f (openF d f) := h3
    obtain ⟨r', b1, b2⟩ := refUpdate_eq (okR_open h.ok h.size h.first) h.ok h.size h.first hl.1 hl.2
    have hU := upd_ok h.ok h1 h.size h.first rfl hl.2
    obtain ⟨u, hu⟩ : ∃ u, updF (openF d f) d f l = u := ⟨_, rfl⟩
    rw [hu] at a1 a2 b1 b2 hU
    rw [← hr] at b1
    refine ⟨s', r', u.2.1, u.2.2, a1, b1, ⟨hU.like.ok, by rw [hU.like.size]; exact h.size, by rw [hU.like.wear]; exact h.first, ?_⟩, fun he => ?_⟩
    · rcases hU.cases with ⟨c1, c2, c3, _⟩ | ⟨c1, c2, c3⟩ | ⟨c1, c2, c3, _⟩
      · rw [c3] at a2 b2
        exact .inl ⟨c2, a2, b2⟩
      · rw [c2] at a2 b2
        rw [c3]
        exact .inl ⟨h1, a2, b2⟩
      · rw [c3] at a2 b2
        exact .inr ⟨c2, a2, b2⟩
    · rcases hU.cases with ⟨c1, _⟩ | ⟨c1, _⟩ | ⟨c1, c2, _⟩
      · omega
      · omega
      · exact c2
  · obtain ⟨r', b1, b2⟩ := refUpdate_end h3 l d
    exact ⟨endS, r', d, 10, by rw [h2]; exact update_end l d, b1, ⟨h.ok, h.size, h.first, .inr ⟨h1, rfl, b2⟩⟩, fun _ => h1⟩
theorem refS_gen {r : T_ref06_Store} {f : Nat} {o : OS} (h : RelR r f (some o)) : r.Gen = o.gen := by
  have hr : r = refS f o := h
  rw [hr]
  rfl
theorem Pair.same {d : T_Device} {s : T_settings_Store} {r : T_ref06_Store} {f : Nat} (h : Pair d s r f) (k : Int) : m_law06_same s r k d (toF d) = some true := by
  unfold m_law06_same m_settings_Store_Generation
  rcases h.say with ⟨h1, h2, h3⟩ | ⟨h1, h2, h3⟩
  · have hO := openF_ok h.ok f
    have hv : ((look (openF d f).K k).getD []).length ≤ 1000000 := by
      cases hk : look (openF d f).K k with
      | none => simp
      | some v =>
        unfold look at hk
        obtain ⟨x, hx, hxv⟩ := Option.map_eq_some_iff.1 hk
        have := (hO.ok x (List.mem_of_find?_eq_some hx)).len
        rw [← hxv]
        simp only [Option.getD_some]
        omega
    rw [get_eq h2 hO, bnd_some, refGet_eq h3 hO, bnd_some, all_eq h2 hO, bnd_some, refAll_eq h3 hO, bnd_some, sameL ⟨by have := hO.len; omega, fun x hx => by have := (hO.ok x hx).len; omega⟩, bnd_some, decide_eq_true rfl, cond_true, cnd_t (by simp), sameI hv, bnd_some, decide_eq_true rfl, cond_true, bnd_some, h2.gen, refS_gen h3, bnd_some]
    simp
  · rw [h2, get_end, bnd_some, refGet_end h3, bnd_some, all_end, bnd_some, refAll_end h3, bnd_some, sameL ⟨by simp, fun x hx => by cases hx⟩, bnd_some, decide_eq_true rfl, cond_true, cnd_t (by simp), sameI (by simp), bnd_some, decide_eq_true rfl, cond_true, bnd_some, h3.2.2, bnd_some]
    rfl
theorem pair_open {d : T_Device} (h : OkD d) (hd : d.down = false) (hz : 1024 ≤ d.size) {f : Nat} (hf : f + 1 < d.wear.length) : ∃ s r, m_settings_Open d (f : Int) = some (d, some s, 0) ∧ m_ref06_Open (toF d) (f : Int) = some (toF d, some r, 0) ∧ Pair d s r f := by
  obtain ⟨s, h1, h2⟩ := open_eq h hd hz hf
  exact ⟨s, _, h1, refOpen_eq h hd hz hf, h, hz, hf, .inl ⟨hd, h2, rfl⟩⟩
theorem Pair.again {d : T_Device} {s : T_settings_Store} {r : T_ref06_Store} {f : Nat} (h : Pair d s r f) : ∃ s' r', m_settings_Open (restF d) (f : Int) = some (restF d, some s', 0) ∧ m_ref06_Open (toF (restF d)) (f : Int) = some (toF (restF d), some r', 0) ∧ Pair (restF d) s' r' f :=
  pair_open (restF_ok h.ok) rfl h.size h.first
theorem clone_i {b : List Int} (h : b.length ≤ 1000000) : m_slices_Clone__int_int b = some b := by
  unfold m_slices_Clone__int_int
  rw [app_eq (by simp; omega) (by simp; omega), bnd_some]
  rfl
theorem sameDevice_eq {d : T_Device} (h : OkD d) : m_law06_sameDevice d (toF d) = some (d, toF d, true) := by
  have hw := h.wear
  have hb := h.bound
  unfold m_law06_sameDevice m_flash_Device_Wear m_flash_Device_Down m_flash_Device_Steps
  rw [clone_i (by omega), bnd_some, bnd_some]
  dsimp only
  rw [bnd_some, show (toF d).Down = d.down from rfl, show (toF d).Steps = d.steps from rfl, show (toF d).Wear = d.wear from rfl, cnd_f (by simp), bnd_some, cnd_f (by simp), bnd_some, cnd_f (by simp)]
  refine bnd_loop (fun i => (toF d, (i : Int))) d.wear.length (.inr (toF d)) rfl (fun i hi => ?_) ?_ ?_
  · simp only
    rw [cnd_t (by simp; omega), elt_lt hi, bnd_some, show (toF d).Wear = d.wear from rfl, elt_lt hi, bnd_some, cnd_f (by simp), wrap_succ hi (by omega)]
  · simp only
    rw [cnd_f (by simp)]
  · rw [retOr_inr, read_eq h 0 _ (by omega), bnd_some, show (toF d).Down = d.down from rfl, show (toF d).Data = d.bytes from rfl]
    dsimp only
    cases hd : d.down
    · rw [cond_false]
      have hr : readF d 0 (d.bytes.length : Int) = (d.bytes, 0) := by
        unfold readF
        rw [if_neg (by simp [hd]), if_pos (by omega)]
        simp
      rw [hr, cnd_t (by rfl), sameI (by show d.bytes.length ≤ 1000000; omega), bnd_some, decide_eq_true rfl, bnd_some]
    · rw [cond_true, bnd_some]
end Go.Proofs.YthdpagcklakahaaGreat
end
section
namespace Go.Proofs.YthdpagcklakahaaGreat
open Go
set_option linter.unusedSimpArgs false
set_option linter.unusedVariables false
noncomputable def opBlk (one two : List Int) (N M K : Int) (Q1 : T_Device) (Q3 : T_Flash) : Option (Bool ⊕ (T_Flash × T_Device)) :=
  (bnd ((bif decide (K ≥ 0) then (bif decide ((IntKind.wrap .i64 (K + 1)) < N) then (some (decide ((IntKind.wrap .i64 (N * M)) > 0))) else (some false)) else (some false) : Option Bool)) fun o5 => bif o5 then (bnd (m_flash_Device_Program Q1 (IntKind.wrap .i64 (K * M)) one) fun r17 => bnd (m_flash_Device_Program r17.1 (IntKind.wrap .i64 ((IntKind.wrap .i64 (K + 1)) * M)) two) fun r18 => bnd (m_ref05_Flash_Program Q3 (IntKind.wrap .i64 (K * M)) one) fun r19 => bnd (m_ref05_Flash_Program r19.1 (IntKind.wrap .i64 ((IntKind.wrap .i64 (K + 1)) * M)) two) fun r20 => bnd ((bif (r17.2 != 0) then (some true) else (some (r18.2 != 0)) : Option Bool)) fun o6 => bif o6 then (some (.inl false)) else (some (.inr (r20.1, r18.1)))) else (some (.inr (Q3, Q1))) : Option (Bool ⊕ (T_Flash × T_Device)))
theorem op_blk {one two : List Int} (ho : rng one) (ht : rng two) (h1 : one.length ≤ 300) (h2 : two.length ≤ 300) {n m : Nat} (hn : 1 ≤ n ∧ n ≤ 4) (hm : 1023 ≤ m ∧ m ≤ 1024) {k : Int} (hk : -1 ≤ k ∧ k ≤ n) :
    ∃ d, opBlk one two (n : Int) (m : Int) k (newD n m) (toF (newD n m)) = some (.inr (toF d, d)) ∧ OkD d ∧ d.size = (m : Int) ∧ d.wear.length = n ∧ d.down = false := by
  have hok := newD_ok (n := n) (m := m) (by omega) (by omega)
  have hnm : n * m ≤ 4 * 1024 := Nat.mul_le_mul hn.2 hm.2
  have hpos : 0 < n * m := Nat.mul_pos (by omega) (by omega)
  have hwl : (newD n m).wear.length = n := by simp [newD]
  have hbl : (newD n m).bytes.length = n * m := by simp [newD]
  have hmul : IntKind.wrap .i64 ((n : Int) * (m : Int)) = ((n * m : Nat) : Int) := by
    have : (n : Int) * (m : Int) = ((n * m : Nat) : Int) := by simp
    rw [this, wrap_i64n (by omega)]
  unfold opBlk
  by_cases hin : 0 ≤ k ∧ k + 1 < n
  · obtain ⟨q, rfl⟩ : ∃ q : Nat, k = (q : Int) := ⟨k.toNat, by omega⟩
    have hq1 : (q + 1) * m ≤ (n - 1) * m := Nat.mul_le_mul_right _ (by omega)
    have hq2 : (n - 1) * m + m = n * m := by
      rw [← Nat.succ_mul]
      congr 1
      omega
    have hq3 : q * m + m = (q + 1) * m := (Nat.succ_mul q m).symm
    have e1 : IntKind.wrap .i64 ((q : Int) + 1) = ((q + 1 : Nat) : Int) := by rw [wrap_i64 (by omega) (by omega)]; omega
    have e2 : IntKind.wrap .i64 ((q : Int) * (m : Int)) = ((q * m : Nat) : Int) := by
      have : (q : Int) * (m : Int) = ((q * m : Nat) : Int) := by simp
      rw [this, wrap_i64n (by omega)]
    have e3 : IntKind.wrap .i64 (((q + 1 : Nat) : Int) * (m : Int)) = (((q + 1) * m : Nat) : Int) := by
      have : ((q + 1 : Nat) : Int) * (m : Int) = (((q + 1) * m : Nat) : Int) := by simp
      rw [this, wrap_i64n (by omega)]
    rw [cnd_t (by simp), e1, cnd_t (by simp; omega), hmul, bnd_some, cnd_t (by rw [decide_eq_true_eq]; omega), e2, e3]
    have p1 := programF_ok hok ho ((q * m : Nat) : Int)
    have c1 := programF_calm (d := newD n m) rfl rfl ((q * m : Nat) : Int) one
    have i1 := programF_in (d := newD n m) (at_ := ((q * m : Nat) : Int)) (b := one) ⟨by omega, by rw [hbl]; omega⟩
    obtain ⟨r1, hr1⟩ : ∃ r1, programF (newD n m) ((q * m : Nat) : Int) one = r1 := ⟨_, rfl⟩
    rw [hr1] at p1 c1 i1
    have p2 := programF_ok p1.1 ht (((q + 1) * m : Nat) : Int)
    have c2 := programF_calm c1.2.1 c1.2.2 (((q + 1) * m : Nat) : Int) two
    have i2 := programF_in (d := r1.1) (at_ := (((q + 1) * m : Nat) : Int)) (b := two) ⟨by omega, by rw [p1.2.2.2.1, hbl]; omega⟩
    obtain ⟨r2, hr2⟩ : ∃ r2, programF r1.1 (((q + 1) * m : Nat) : Int) two = r2 := ⟨_, rfl⟩
    rw [hr2] at p2 c2 i2
    rw [program_eq hok ho _ (by omega), bnd_some, hr1, program_eq p1.1 ht _ (by omega), bnd_some, hr2, refProg_eq hok ho, bnd_some, hr1, refProg_eq p1.1 ht, bnd_some, hr2]
    have z1 : r1.2 = 0 := by rcases i1 with h | h; exact h; exact absurd h c1.1
    have z2 : r2.2 = 0 := by rcases i2 with h | h; exact h; exact absurd h c2.1
    rw [z1, z2]
    exact ⟨r2.1, rfl, p2.1, by rw [p2.2.1, p1.2.1]; rfl, by rw [p2.2.2.1, p1.2.2.1, hwl], c2.2.2⟩
  · refine ⟨newD n m, ?_, hok, rfl, hwl, rfl⟩
    by_cases h0 : 0 ≤ k
    · rw [cnd_t (by simpa using h0), wrap_i64 (x := k + 1) (by omega) (by omega), cnd_f (by simp; omega), bnd_some, cond_false]
    · rw [cnd_f (by simpa using h0), bnd_some, cond_false]
theorem opens_true (one two : List Int) (first sectors size : Int) (l : List Int) (h1 : okL (inK .u8) one) (h2 : okL (inK .u8) two) (_ : inK .i64 first) (_ : inK .i64 sectors) (_ : inK .i64 size) (_ : okL (inK .i64) l) : m_law06_SettingsOpens one two first sectors size l = some true := by
  unfold m_law06_SettingsOpens m_made_Light m_made_Roll
  have hin : ∃ b, (bif decide ((one.length : Int) > 300) then (some true) else (bif decide ((two.length : Int) > 300) then (some true) else (bnd (some (decide ((l.length : Int) ≤ 600))) fun r1 => some (!r1))) : Option Bool) = some b ∧ (b = false → one.length ≤ 300 ∧ two.length ≤ 300 ∧ l.length ≤ 600) := by
    by_cases a1 : one.length > 300
    · exact ⟨true, by rw [cnd_t (by simp; omega)], fun h => by cases h⟩
    · rw [cnd_f (by simp; omega)]
      by_cases a2 : two.length > 300
      · exact ⟨true, by rw [cnd_t (by simp; omega)], fun h => by cases h⟩
      · rw [cnd_f (by simp; omega), bnd_some]
        refine ⟨_, rfl, fun h => ?_⟩
        simp only [Bool.not_eq_false', decide_eq_true_eq] at h
        omega
  obtain ⟨b, e0, hb⟩ := hin
  rw [e0, bnd_some]
  cases b
  case true => rw [cond_true, awake_ok, bnd_some]
  obtain ⟨b1, b2, b3⟩ := hb rfl
  obtain ⟨a, ea, a0, a4, _⟩ := mod_some sectors 4 (by omega) (by omega)
  obtain ⟨c, ec, c0, c2, _⟩ := mod_some size 2 (by omega) (by omega)
  obtain ⟨n, hn⟩ : ∃ n : Nat, 1 + a = (n : Int) := ⟨(1 + a).toNat, by omega⟩
  obtain ⟨m, hm⟩ : ∃ m : Nat, 1023 + c = (m : Int) := ⟨(1023 + c).toNat, by omega⟩
  rw [cond_false, ea, bnd_some, ec, bnd_some, hn, hm, wrap_i64n (by omega), wrap_i64n (by omega), new_eq (n := n) (m := m) (by omega) (by omega), bnd_some]
  show bnd (m_ref05_New (n : Int) (m : Int)) _ = _
  rw [refNew_eq (n := n) (m := m) (by omega) (by omega), bnd_some]
  show (bif ((0 : Int) != 0) then (some false) else _) = _
  rw [cnd_f (by rfl)]
  obtain ⟨x, x1, x2, x3, x4⟩ := settings_ex ⟨l, 0⟩ 9 (roll_fair l b3) (by omega)
  have hU : okU x.2 := x4.okU (by omega) (by omega)
  obtain ⟨q, eq, q0, q2, _⟩ := mod_some first ((n : Int) + 2) (by omega) (by omega)
  rw [bnd_some, x1, bnd_some, wrap_i64 (x := (n : Int) + 2) (by omega) (by omega), eq, bnd_some, wrap_i64 (x := q - 1) (by omega) (by omega)]
  obtain ⟨d, hd, hok, hsz, hwl, hdn⟩ := op_blk (fun y hy => h1.1 y hy) (fun y hy => h2.1 y hy) b1 b2 (n := n) (m := m) (by omega) (by omega) (k := q - 1) (by omega)
  show bnd (opBlk one two (n : Int) (m : Int) (q - 1) (newD n m) (toF (newD n m))) _ = _
  rw [hd, bnd_some, retOr_inr]
  show bnd (m_settings_Open d (q - 1)) _ = _
  by_cases hr : q - 1 < 0 ∨ q - 1 > d.wear.length - 2
  · rw [open_range hok _ hr, bnd_some]
    have hO := refOpen_range hok _ hr
    dsimp only [optM]
    rw [hO, bnd_some]
    dsimp only [optM]
    rw [cnd_f (by rfl), bnd_some, cnd_f (by rfl), awake_ok, bnd_some]
  by_cases hs : d.size < 1024
  · rw [open_small hok _ (by omega) hs, bnd_some]
    have hO := refOpen_small hok (q - 1) (by omega) hs
    dsimp only [optM]
    rw [hO, bnd_some]
    dsimp only [optM]
    rw [cnd_f (by rfl), bnd_some, cnd_f (by rfl), awake_ok, bnd_some]
  obtain ⟨f, hf⟩ : ∃ f : Nat, q - 1 = (f : Int) := ⟨(q - 1).toNat, by omega⟩
  obtain ⟨s, r, e1, e2, hp⟩ := pair_open hok hdn (by omega) (f := f) (by omega)
  obtain ⟨s', r', d', e, u1, u2, u3, _⟩ := hp.upd hU
  rw [hf, e1, bnd_some]
  show bnd (m_ref06_Open (toF d) (f : Int)) _ = _
  rw [e2, bnd_some]
  dsimp only [optM]
  rw [cnd_f (by rfl), bnd_some, cnd_f (by rfl)]
  show bnd (bnd (m_law06_same s r 1 d (toF d)) _) _ = _
  rw [hp.same, bnd_some, cond_true]
  show bnd (bnd (m_settings_Store_Update s x.2 d) _) _ = _
  rw [u1, bnd_some]
  show bnd (bnd (m_ref06_Store_Update r x.2 (toF d)) _) _ = _
  rw [u2, bnd_some]
  dsimp only
  rw [cnd_t (by simp), u3.same, bnd_some, cond_true, sameDevice_eq u3.ok, bnd_some]
  dsimp only
  rw [cond_true, awake_ok, bnd_some, bnd_some]
end Go.Proofs.YthdpagcklakahaaGreat
end
