/-
  Texts of this seat, put together: rules, walks, plain laws.
  Conditions: none.
-/
import Derived.Test.YthdpagcklakahaaGreatPLa5
section
namespace Go.Proofs.YthdpagcklakahaaGreat
open Go
set_option linter.unusedSimpArgs false
set_option linter.unusedVariables false
def prt (b : List Int) (lo n : Nat) : List Int := (b.drop lo).take n
theorem prt_len {b : List Int} {lo n : Nat} (h : lo + n ≤ b.length) : (prt b lo n).length = n := by simp [prt]; omega
theorem prt_rng {b : List Int} (h : rng b) (lo n : Nat) : rng (prt b lo n) := (h.drop lo).take n
theorem prt_get {b : List Int} {lo n i : Nat} (h : i < n) : (prt b lo n)[i]? = b[lo + i]? := by
  unfold prt
  rw [List.getElem?_take, if_pos h, List.getElem?_drop]
theorem eltP_prt {b : List Int} {lo n i : Nat} (h : lo + n ≤ b.length) (hi : i < n) : eltP b lo n (i : Int) = some ((prt b lo n).getD i 0) := by
  unfold eltP
  rw [if_pos ⟨by omega, by omega⟩, show (lo : Int) + (i : Int) = ((lo + i : Nat) : Int) by omega, elt_nat, List.getD_eq_getElem?_getD, prt_get hi, List.getElem?_eq_getElem (by omega)]
  rfl
theorem sub_prt {b : List Int} {lo n i m : Nat} (h : lo + n ≤ b.length) (hi : i + m ≤ n) : Go.Proofs.YthdpagcklakahaaGreat.sub b ((lo + i : Nat) : Int) ((lo + i + m : Nat) : Int) = some (((prt b lo n).drop i).take m) := by
  rw [sub_nat (by omega) (by omega)]
  congr 1
  unfold prt
  rw [List.drop_take, List.take_take, List.drop_drop]
  congr 1
  omega
theorem drop_two {c : List Int} {i : Nat} (h : i + 2 ≤ c.length) : c.drop i = c.getD i 0 :: c.getD (i + 1) 0 :: c.drop (i + 2) := by
  rw [← List.getElem_cons_drop (h := (by omega : i < c.length)), ← List.getElem_cons_drop (h := (by omega : i + 1 < c.length))]
  simp only [List.getD_eq_getElem?_getD, List.getElem?_eq_getElem (by omega : i < c.length), List.getElem?_eq_getElem (by omega : i + 1 < c.length), Option.getD_some]
noncomputable def rdbStep (b_p0 : List Int) (b_p0_lo : Nat) (b_p0_n : Nat) : List T_Setting × Int × Int → Option (Step (List T_Setting × Int × Int) (((List T_Setting) × Int × Bool) ⊕ (List T_Setting × Int))) :=
  (fun (s1 : List T_Setting × Int × Int) => bnd (eltP b_p0 b_p0_lo b_p0_n 0) fun x3 => bif decide (s1.2.2 < (IntKind.wrap .i64 x3)) then (bif decide ((IntKind.wrap .i64 ((b_p0_n : Int) - s1.2.1)) < 2) then (some (.done (.inl ([], 0, false)))) else (bnd (eltP b_p0 b_p0_lo b_p0_n s1.2.1) fun x4 => bnd (eltP b_p0 b_p0_lo b_p0_n (IntKind.wrap .i64 (s1.2.1 + 1))) fun x5 => bnd ((bif ((IntKind.wrap .i64 x5) == 128) then (some (0, true)) else (some (IntKind.wrap .i64 x5, false)) : Option (Int × Bool))) fun o4 => bnd ((bif decide (o4.1 > 28) then (some true) else (some (decide ((IntKind.wrap .i64 ((b_p0_n : Int) - (IntKind.wrap .i64 (s1.2.1 + 2)))) < o4.1))) : Option Bool)) fun o5 => bif o5 then (some (.done (.inl ([], 0, false)))) else (bnd (partM2 b_p0.length b_p0_lo b_p0_n (IntKind.wrap .i64 (s1.2.1 + 2)) (IntKind.wrap .i64 ((IntKind.wrap .i64 (s1.2.1 + 2)) + o4.1))) fun n1 => bnd (sub b_p0 ((b_p0_lo + (Int.toNat (IntKind.wrap .i64 (s1.2.1 + 2))) : Nat) : Int) (((b_p0_lo + (Int.toNat (IntKind.wrap .i64 (s1.2.1 + 2)))) + n1 : Nat) : Int)) fun l1 => bnd (m_ref01_Copy l1) fun r1 => bnd (m_ref06_Apply s1.1 (⟨x4, r1, o4.2⟩ : T_Setting)) fun r2 => some (.next (r2, IntKind.wrap .i64 ((IntKind.wrap .i64 (s1.2.1 + 2)) + o4.1), IntKind.wrap .i64 (s1.2.2 + 1)))))) else (some (.done (.inr (s1.1, s1.2.1)))))
theorem wrapI {x : Int} (h : 0 ≤ x ∧ x ≤ 1000000000) : IntKind.wrap .i64 x = x := wrap_i64 (by omega) (by omega)
theorem rdb_step {b : List Int} (hr : rng b) {lo n : Nat} (h : lo + n ≤ b.length) (hn : n ≤ 16384) (h0 : 0 < n) {K : List T_Setting} (hK : Asc K) (hl : K.length ≤ 1000) {at_ i : Nat} (ha : at_ ≤ n) (hi : i ≤ 1000) :
    rdbStep b lo n (K, (at_ : Int), (i : Int)) = some (if (i : Int) < (prt b lo n).getD 0 0 then match chgF ((prt b lo n).drop at_) with | none => .done (.inl ([], 0, false)) | some (x, m) => .next (appK K x, ((at_ + m : Nat) : Int), ((i + 1 : Nat) : Int)) else .done (.inr (K, (at_ : Int)))) := by
  have hc := prt_rng hr lo n
  have hL := prt_len h
  generalize hcc : prt b lo n = c at hc hL
  have e0 : eltP b lo n 0 = some (c.getD 0 0) := by rw [← hcc]; exact eltP_prt h (i := 0) h0
  have h0r := hc.get 0
  unfold rdbStep
  simp only
  rw [e0, bnd_some, wrapI (by omega)]
  by_cases hlt : (i : Int) < c.getD 0 0
  · rw [cnd_t (by simpa using hlt), if_pos hlt, wrapI (by omega)]
    by_cases h2 : (n : Int) - (at_ : Int) < 2
    · rw [cnd_t (by simpa using h2)]
      have : c.drop at_ = [] ∨ ∃ x, c.drop at_ = [x] := by
        have hlen : (c.drop at_).length < 2 := by simp; omega
        match hd : c.drop at_, hlen with
        | [], _ => exact .inl rfl
        | [x], _ => exact .inr ⟨x, rfl⟩
      rcases this with e | ⟨x, e⟩ <;> rw [e] <;> rfl
    · have e1 : eltP b lo n (at_ : Int) = some (c.getD at_ 0) := by rw [← hcc]; exact eltP_prt h (by omega)
      have e2 : eltP b lo n ((at_ + 1 : Nat) : Int) = some (c.getD (at_ + 1) 0) := by rw [← hcc]; exact eltP_prt h (by omega)
      have hr2 := hc.get (at_ + 1)
      rw [cnd_f (by simpa using h2), e1, bnd_some, wrapI (x := (at_ : Int) + 1) (by omega), show (at_ : Int) + 1 = ((at_ + 1 : Nat) : Int) by omega, e2, bnd_some, wrapI (x := c.getD (at_ + 1) 0) (by omega), wrapI (x := (at_ : Int) + 2) (by omega), drop_two (c := c) (i := at_) (by omega), chgF_cons, wrapI (x := (i : Int) + 1) (by omega), wrapI (x := (n : Int) - ((at_ : Int) + 2)) (by omega)]
      have hdl : (c.drop (at_ + 2)).length = n - (at_ + 2) := by simp [hL]
      generalize hx : c.getD at_ 0 = x
      generalize hy : c.getD (at_ + 1) 0 = y at hr2
      -- what is read
      have hrest : ∀ (v : Nat) (D : Bool), at_ + 2 + v ≤ n → (bnd (partM2 b.length lo n ((at_ : Int) + 2) (IntKind.wrap .i64 (((at_ : Int) + 2) + (v : Int)))) fun n1 => bnd (sub b ((lo + (Int.toNat ((at_ : Int) + 2)) : Nat) : Int) (((lo + (Int.toNat ((at_ : Int) + 2))) + n1 : Nat) : Int)) fun l1 => bnd (m_ref01_Copy l1) fun r1 => bnd (m_ref06_Apply K (⟨x, r1, D⟩ : T_Setting)) fun r2 => some (Step.next (r2, IntKind.wrap .i64 (((at_ : Int) + 2) + (v : Int)), (i : Int) + 1) : Step (List T_Setting × Int × Int) (((List T_Setting) × Int × Bool) ⊕ (List T_Setting × Int)))) = some (.next (appK K ⟨x, (c.drop (at_ + 2)).take v, D⟩, ((at_ + (2 + v) : Nat) : Int), ((i + 1 : Nat) : Int))) := by
        intro v D hv
        rw [wrapI (by omega), show (at_ : Int) + 2 = ((at_ + 2 : Nat) : Int) by omega, show ((at_ + 2 : Nat) : Int) + (v : Int) = ((at_ + 2 + v : Nat) : Int) by omega]
        have hp : partM2 b.length lo n ((at_ + 2 : Nat) : Int) ((at_ + 2 + v : Nat) : Int) = some v := by
          unfold partM2
          rw [if_pos h, if_pos ⟨by omega, by omega, by omega⟩]
          congr 1
          omega
        rw [hp, bnd_some, show Int.toNat ((at_ + 2 : Nat) : Int) = at_ + 2 from rfl, sub_prt h (by omega), bnd_some, hcc, copyJ (by simp; omega), bnd_some, apply_eq hK (by omega), bnd_some, show at_ + 2 + v = at_ + (2 + v) by omega, show (i : Int) + 1 = ((i + 1 : Nat) : Int) by omega]
      by_cases hd : y = 128
      · rw [cnd_t (by simpa using hd), if_pos hd, bnd_some]
        dsimp only
        rw [cnd_f (by decide), bnd_some, cnd_f (by simp; omega)]
        have := hrest 0 true (by omega)
        rw [show (((0 : Nat) : Int)) = 0 from rfl] at this
        rw [this, List.take_zero]
      · rw [cnd_f (by simpa using hd), if_neg hd, bnd_some]
        dsimp only
        by_cases hbad : y > 28 ∨ ((c.drop (at_ + 2)).length : Int) < y
        · rw [if_pos hbad]
          by_cases h28 : y > 28
          · rw [cnd_t (by simpa using h28), bnd_some, cond_true]
          · rw [cnd_f (by simpa using h28), bnd_some, cnd_t (by simp; omega)]
        · rw [if_neg hbad, cnd_f (by simp; omega), bnd_some, cnd_f (by simp; omega)]
          have := hrest y.toNat false (by omega)
          rw [show ((y.toNat : Nat) : Int) = y by omega] at this
          rw [this]
  · rw [cnd_f (by simpa using hlt), if_neg hlt]
theorem rdb_loop {b : List Int} (hr : rng b) {lo n : Nat} (h : lo + n ≤ b.length) (hn : n ≤ 16384) (h0 : 0 < n) {q : Nat} (hq : (prt b lo n).getD 0 0 = (q : Int)) (hq32 : q ≤ 32) : ∀ (k i at_ : Nat) (K : List T_Setting), i + k = q → at_ ≤ n → Asc K → K.length ≤ 32 + i →
    loopM (rdbStep b lo n) (K, (at_ : Int), (i : Int)) = some (match chgsF k ((prt b lo n).drop at_) with | none => .inl ([], 0, false) | some (l, m) => .inr (allK K l, ((at_ + m : Nat) : Int)))
  | 0, i, at_, K, hk, ha, hK, hl => by
    have hs := rdb_step hr h hn h0 hK (by omega) ha (i := i) (by omega)
    rw [hq, if_neg (by omega)] at hs
    exact loop_done hs
  | k + 1, i, at_, K, hk, ha, hK, hl => by
    have hs := rdb_step hr h hn h0 hK (by omega) ha (i := i) (by omega)
    rw [hq, if_pos (by omega)] at hs
    unfold chgsF
    cases hcg : chgF ((prt b lo n).drop at_) with
    | none => rw [hcg] at hs; exact loop_done hs
    | some p =>
      obtain ⟨x, m⟩ := p
      have hm := chgF_len ((prt_rng hr lo n).drop _) hcg
      simp only [List.length_drop, prt_len h] at hm
      rw [hcg] at hs
      refine loop_next hs ?_
      have hlen := appK_len K x
      rw [rdb_loop hr h hn h0 hq hq32 k (i + 1) (at_ + m) (appK K x) (by omega) (by omega) (appK_asc hK x) (by omega)]
      simp only [List.drop_drop]
      cases hcs : chgsF k ((prt b lo n).drop (at_ + m)) with
      | none => rfl
      | some p =>
        obtain ⟨l, m'⟩ := p
        simp only [allK, List.foldl_cons]
        rw [Nat.add_assoc]
def rdbOut (K : List T_Setting) (o : Option (List T_Setting × Nat)) : List T_Setting × Int × Bool := match o with
  | some (l, n) => if (allK K l).length > 32 then ([], 0, false) else (allK K l, (n : Int), true)
  | none => ([], 0, false)
theorem rdb_eq {b : List Int} (hr : rng b) {lo n : Nat} (h : lo + n ≤ b.length) (hn : n ≤ 16384) {K : List T_Setting} (hK : Asc K) (hl : K.length ≤ 32) : m_ref06_readBatch_v0 b lo n K = some (rdbOut K (batchF (prt b lo n))) := by
  have hc := prt_rng hr lo n
  have hL := prt_len h
  unfold m_ref06_readBatch_v0
  by_cases h0 : n = 0
  · subst h0
    have : prt b lo 0 = [] := by simp [prt]
    rw [this, cnd_t (by decide), bnd_some, cond_true]
    rfl
  · have e0 : eltP b lo n 0 = some ((prt b lo n).getD 0 0) := eltP_prt h (i := 0) (by omega)
    have h0r := hc.get 0
    obtain ⟨c, r, hcr⟩ : ∃ c r, prt b lo n = c :: r := by
      match hp : prt b lo n with
      | [] => rw [hp] at hL; simp at hL; omega
      | c :: r => exact ⟨c, r, rfl⟩
    have hc0 : (prt b lo n).getD 0 0 = c := by rw [hcr]; rfl
    rw [hc0] at e0 h0r
    have hrl : r.length + 1 = n := by rw [hcr] at hL; simpa using hL
    rw [cnd_f (by simpa using h0), e0, hcr, batchF_cons]
    simp only [bnd_some]
    by_cases hb : c < 1 ∨ c > 32
    · rw [if_pos hb]
      by_cases h1 : c < 1
      · rw [cnd_t (by simpa using h1), bnd_some, cond_true]; rfl
      · rw [cnd_f (by simpa using h1), bnd_some, cnd_t (by simp; omega)]; rfl
    · rw [if_neg hb, cnd_f (by simp; omega), bnd_some, cnd_f (by simp; omega)]
      have hloop := rdb_loop hr h hn (by omega) (q := c.toNat) (by rw [hc0]; omega) (by omega) c.toNat 0 1 K (by omega) (by omega) hK (by omega)
      have hd1 : (prt b lo n).drop 1 = r := by rw [hcr]; rfl
      rw [hd1] at hloop
      unfold rdbStep at hloop
      rw [e0] at hloop
      simp only [bnd_some] at hloop
      have e1 : (((1 : Nat)) : Int) = 1 := rfl
      have e2 : (((0 : Nat)) : Int) = 0 := rfl
      rw [e1, e2] at hloop
      rw [hloop, bnd_some]
      cases hcs : chgsF c.toNat r with
      | none => rfl
      | some p =>
        obtain ⟨l, m⟩ := p
        simp only [retOr_inr]
        have hrr : rng r := by have := hc.drop 1; rw [hd1] at this; exact this
        have hm := chgsF_len _ hrr hcs
        by_cases hge : 1 + m ≥ n
        · rw [cnd_t (by simp; omega), bnd_some, cond_true]
          have : r[m]? = none := List.getElem?_eq_none (by omega)
          rw [this, if_neg (by simp)]
          rfl
        · rw [cnd_f (by simp; omega), eltP_prt h (i := 1 + m) (by omega), bnd_some, hcr]
          have hg : (c :: r).getD (1 + m) 0 = r.getD m 0 := by rw [Nat.add_comm]; rfl
          rw [hg]
          have hrm : r[m]? = some (r.getD m 0) := by rw [List.getD_eq_getElem?_getD, List.getElem?_eq_getElem (by omega)]; rfl
          rw [hrm]
          by_cases hz : r.getD m 0 = 0
          · rw [cnd_f (by simpa using hz), bnd_some, if_pos (by rw [hz])]
            simp only [rdbOut]
            by_cases hg32 : (allK K l).length > 32
            · rw [cnd_t (by simp; omega), if_pos hg32]
            · rw [cnd_f (by simp; omega), if_neg hg32, wrapI (by omega)]
              have : ((1 + m : Nat) : Int) + 1 = ((m + 2 : Nat) : Int) := by omega
              rw [this]
          · rw [cnd_t (by simpa using hz), bnd_some, cond_true, if_neg (by simpa using hz)]
            rfl
theorem number_eq {x y z t : Int} (hx : 0 ≤ x ∧ x ≤ 255) (hy : 0 ≤ y ∧ y ≤ 255) (hz : 0 ≤ z ∧ z ≤ 255) (ht : 0 ≤ t ∧ t ≤ 255) : m_ref01_Number [x, y, z, t] = some (x + 256 * y + 65536 * z + 16777216 * t) := by
  unfold m_ref01_Number
  have hstep : ∀ (a b c : Int), 0 ≤ a → a < 16777216 → 0 ≤ b ∧ b ≤ 255 → c = b + a * 256 → IntKind.wrap .u64 ((IntKind.wrap .u64 (256 * a)) + (IntKind.wrap .u64 b)) = c := fun a b c h0 ha hb hc => by
    rw [wrap_u64 (x := 256 * a) (by omega) (by omega), wrap_u64 (x := b) (by omega) (by omega), wrap_u64 (by omega) (by omega)]
    omega
  obtain ⟨v2, e2⟩ : ∃ v, v = z + t * 256 := ⟨_, rfl⟩
  obtain ⟨v3, e3⟩ : ∃ v, v = y + v2 * 256 := ⟨_, rfl⟩
  obtain ⟨v4, e4⟩ : ∃ v, v = x + v3 * 256 := ⟨_, rfl⟩
  rw [show x + 256 * y + 65536 * z + 16777216 * t = v4 by omega]
  have s1 := hstep 0 t t (by omega) (by omega) ht (by omega)
  have s2 := hstep t z v2 (by omega) (by omega) hz (by omega)
  have s3 := hstep v2 y v3 (by omega) (by omega) hy (by omega)
  have s4 := hstep v3 x v4 (by omega) (by omega) hx (by omega)
  refine bnd_loop (fun i => (([0, t, v2, v3, v4].getD i 0 : Int), (3 : Int) - (i : Int))) 4 v4 rfl (fun i hi => ?_) rfl rfl
  have h3 : i = 0 ∨ i = 1 ∨ i = 2 ∨ i = 3 := by omega
  rcases h3 with rfl | rfl | rfl | rfl
  · show some (Step.next (IntKind.wrap .u64 ((IntKind.wrap .u64 (256 * (0 : Int))) + (IntKind.wrap .u64 t)), _)) = _
    rw [s1]
    rfl
  · show some (Step.next (IntKind.wrap .u64 ((IntKind.wrap .u64 (256 * t)) + (IntKind.wrap .u64 z)), _)) = _
    rw [s2]
    rfl
  · show some (Step.next (IntKind.wrap .u64 ((IntKind.wrap .u64 (256 * v2)) + (IntKind.wrap .u64 y)), _)) = _
    rw [s3]
    rfl
  · show some (Step.next (IntKind.wrap .u64 ((IntKind.wrap .u64 (256 * v3)) + (IntKind.wrap .u64 x)), _)) = _
    rw [s4]
    rfl
def genR (b : List Int) : Int := match secF b with
  | none => 0
  | some (g, _, _) => g
theorem generation_eq {b : List Int} (hr : rng b) (h64 : 64 ≤ b.length) : m_ref06_generation b = some (genR b) := by
  have e4 : elt b 4 = some (b.getD 4 0) := getD_elt (i := 4) (by omega)
  have es : Go.Proofs.YthdpagcklakahaaGreat.sub b 0 4 = some [b.getD 0 0, b.getD 1 0, b.getD 2 0, b.getD 3 0] := by
    have := sub_nat (l := b) (a := 0) (b := 4) (by omega) (by omega)
    rw [show (0 : Int) = ((0 : Nat) : Int) from rfl, show (4 : Int) = ((4 : Nat) : Int) from rfl, this]
    congr 1
    match b, h64 with
    | x :: y :: z :: t :: r, _ => rfl
  have h0 := hr.get 0
  have h1 := hr.get 1
  have h2 := hr.get 2
  have h3 := hr.get 3
  unfold m_ref06_generation
  rw [es, bnd_some, number_eq h0 h1 h2 h3, bnd_some, e4]
  simp only [bnd_some]
  rw [show b.getD 0 0 + 256 * b.getD 1 0 + 65536 * b.getD 2 0 + 16777216 * b.getD 3 0 = genF b from rfl, wrap_i64 (by unfold genF; omega) (by unfold genF; omega)]
  unfold genR secF
  by_cases h4 : b.getD 4 0 ≠ 0
  · rw [if_pos (.inl h4), cnd_t (by simpa using h4), bnd_some]; rfl
  · rw [cnd_f (by simpa using h4)]
    by_cases hg1 : genF b < 1
    · rw [if_pos (.inr (.inl hg1)), cnd_t (by simpa using hg1), bnd_some]; rfl
    · rw [cnd_f (by simpa using hg1), bnd_some]
      by_cases hg2 : genF b > 2147483648
      · rw [if_pos (.inr (.inr hg2)), cnd_t (by simpa using hg2)]
      · rw [if_neg (by simp only [not_or]; exact ⟨h4, hg1, hg2⟩), cnd_f (by simpa using hg2)]
def refS (f : Nat) (o : OS) : T_ref06_Store := ⟨true, (f : Int), o.act, o.gen, o.K, o.tail, false⟩
noncomputable def rdoStep (d : T_Device) (base n3 : Nat) : T_ref06_Store → Option (Step T_ref06_Store ((T_Flash × (Option T_ref06_Store) × Int) ⊕ Unit)) :=
  (fun (s1 : T_ref06_Store) => bnd (partM2 (toF d).Data.length base n3 s1.Tail ((n3 : Nat) : Int)) fun n4 => bnd (m_ref06_readBatch_v0 (toF d).Data (base + (Int.toNat s1.Tail)) n4 s1.Keys) fun r3 => bif !r3.2.2 then (some (.done (.inl (toF d, (some s1), 0)))) else (some (.next (⟨s1.F_, s1.First, s1.Active, s1.Gen, r3.1, IntKind.wrap .i64 (s1.Tail + r3.2.1), s1.Ended⟩ : T_ref06_Store))))
theorem rdo_loop {d : T_Device} (h : OkD d) {base z : Nat} (hz : base + z ≤ d.bytes.length) (F A G : Int) : ∀ (fu t : Nat) (K : List T_Setting), z - t ≤ fu → t ≤ z → OkK K →
    loopM (rdoStep d base z) (⟨true, F, A, G, K, (t : Int), false⟩ : T_ref06_Store) = some (.inl (toF d, some ⟨true, F, A, G, (readK ((prt d.bytes base z).drop t) K t).1, ((readK ((prt d.bytes base z).drop t) K t).2 : Int), false⟩, 0))
  | fu, t, K, hf, ht, hK => by
    have hb := h.bound
    have hrd := (prt_rng h.rng base z).drop t
    have hpd : prt d.bytes (base + t) (z - t) = (prt d.bytes base z).drop t := by
      unfold prt
      rw [List.drop_take, List.drop_drop]
    rw [readK_eq hrd]
    have hstep : rdoStep d base z (⟨true, F, A, G, K, (t : Int), false⟩ : T_ref06_Store) = some (match batchF ((prt d.bytes base z).drop t) with
        | none => .done (.inl (toF d, some (⟨true, F, A, G, K, (t : Int), false⟩ : T_ref06_Store), 0))
        | some (l, n) => if (allK K l).length > 32 then .done (.inl (toF d, some (⟨true, F, A, G, K, (t : Int), false⟩ : T_ref06_Store), 0)) else .next (⟨true, F, A, G, allK K l, ((t + n : Nat) : Int), false⟩ : T_ref06_Store)) := by
      unfold rdoStep
      simp only
      have hp : partM2 (toF d).Data.length base z (t : Int) (z : Int) = some (z - t) := by
        unfold partM2
        rw [if_pos (by exact hz), if_pos ⟨by omega, by omega, by omega⟩]
        rfl
      rw [hp, bnd_some, show Int.toNat (t : Int) = t from rfl, show (toF d).Data = d.bytes from rfl, rdb_eq h.rng (by omega) (by omega) hK.asc hK.len, bnd_some, hpd]
      cases hbt : batchF ((prt d.bytes base z).drop t) with
      | none => rfl
      | some p =>
        obtain ⟨l, n⟩ := p
        have hn := batchF_len hrd hbt
        simp only [List.length_drop, prt_len hz] at hn
        simp only [rdbOut]
        by_cases hgt : (allK K l).length > 32
        · rw [if_pos hgt, if_pos hgt]; rfl
        · rw [if_neg hgt, if_neg hgt]
          simp only [Bool.not_true, cond_false]
          rw [wrapI (by omega)]
          rfl
    cases hbt : batchF ((prt d.bytes base z).drop t) with
    | none =>
      rw [hbt] at hstep
      exact loop_done hstep
    | some p =>
      obtain ⟨l, n⟩ := p
      have hn := batchF_len hrd hbt
      have hok := batchF_ok hrd hbt
      simp only [List.length_drop, prt_len hz] at hn
      rw [hbt] at hstep
      simp only at hstep ⊢
      split
      · rename_i hgt
        rw [if_pos hgt] at hstep
        exact loop_done hstep
      · rename_i hgt
        rw [if_neg hgt] at hstep
        match fu, hf with
        | 0, hf => omega
        | fu + 1, hf =>
          rw [List.drop_drop]
          exact loop_next hstep (rdo_loop h hz F A G fu (t + n) (allK K l) (by omega) (by omega) (hK.all hok.2.2 (by omega)))
theorem sect_prt (d : T_Device) (k : Nat) : sect d k = prt d.bytes (k * d.size.toNat) d.size.toNat := rfl
theorem refOpen_eq {d : T_Device} (h : OkD d) (hd : d.down = false) (hz : 1024 ≤ d.size) {f : Nat} (hf : f + 1 < d.wear.length) : m_ref06_Open (toF d) (f : Int) = some (toF d, some (refS f (openF d f)), 0) := by
  have hb := h.bound
  have hw := h.wear
  have hz2 := h.size
  obtain ⟨z, hzz⟩ : ∃ z : Nat, d.size = (z : Int) := ⟨d.size.toNat, by omega⟩
  have hzt : d.size.toNat = z := by omega
  have hse : ∀ k, k < d.wear.length → k * z + z ≤ d.bytes.length := fun k hk => by rw [← hzt]; exact sector_le h hk
  have hmul : ∀ k : Nat, (k : Int) * (z : Int) = ((k * z : Nat) : Int) := fun k => by simp
  have hadd : ∀ k : Nat, (k + 1) * z = k * z + z := fun k => by rw [Nat.add_mul, Nat.one_mul]
  have hpart : ∀ (i : Nat), f + i < d.wear.length → partM (toF d).Data.length (IntKind.wrap .i64 ((IntKind.wrap .i64 ((f : Int) + (i : Int))) * (toF d).Size)) (IntKind.wrap .i64 ((IntKind.wrap .i64 ((IntKind.wrap .i64 ((f : Int) + (i : Int))) + 1)) * (toF d).Size)) = some z ∧ IntKind.wrap .i64 ((IntKind.wrap .i64 ((f : Int) + (i : Int))) * (toF d).Size) = (((f + i) * z : Nat) : Int) := by
    intro i hi
    have h1 := hse (f + i) hi
    rw [show (toF d).Size = d.size from rfl, show (toF d).Data = d.bytes from rfl, hzz, wrapI (x := (f : Int) + (i : Int)) (by omega), wrapI (x := (f : Int) + (i : Int) + 1) (by omega), show (f : Int) + (i : Int) = ((f + i : Nat) : Int) by omega, show ((f + i : Nat) : Int) + 1 = ((f + i + 1 : Nat) : Int) by omega, hmul, hmul, hadd, wrapI (by omega), wrapI (by omega)]
    refine ⟨?_, rfl⟩
    unfold partM
    rw [if_pos ⟨by omega, by omega, by omega⟩]
    congr 1
    omega
  have hsub : ∀ (i : Nat), f + i < d.wear.length → Go.Proofs.YthdpagcklakahaaGreat.sub (toF d).Data (((f + i) * z : Nat) : Int) (((f + i) * z + z : Nat) : Int) = some (sect d (f + i)) := by
    intro i hi
    have h1 := hse (f + i) hi
    rw [sub_nat (by omega) (by exact h1)]
    congr 1
    unfold sect
    rw [hzt]
    show (d.bytes.drop ((f + i) * z)).take ((f + i) * z + z - (f + i) * z) = _
    rw [Nat.add_sub_cancel_left]
  have hgen : ∀ (i : Nat), f + i < d.wear.length → m_ref06_generation (sect d (f + i)) = some (genR (sect d (f + i))) := fun i hi =>
    generation_eq (sect_rng h _) (by rw [sect_len h hi]; omega)
  obtain ⟨p0, q0⟩ := hpart 0 (by omega)
  obtain ⟨p1, q1⟩ := hpart 1 (by omega)
  have e0 : ((0 : Nat) : Int) = 0 := rfl
  have e1 : ((1 : Nat) : Int) = 1 := rfl
  rw [e0] at p0 q0
  rw [e1] at p1 q1
  unfold m_ref06_Open
  rw [cnd_f (by simp <;> omega), bnd_some, show (toF d).Wear = d.wear from rfl, wrap_i64 (x := (d.wear.length : Int) - 1) (by omega) (by omega), cnd_f (by simp <;> omega), cnd_f (by show decide (d.size < 1024) = false; simp; omega), cnd_f (by exact hd)]
  rw [p0, bnd_some, q0]
  have t0 : Int.toNat (((f + 0) * z : Nat) : Int) = (f + 0) * z := rfl
  have t1 : Int.toNat (((f + 1) * z : Nat) : Int) = (f + 1) * z := rfl
  rw [t0, hsub 0 (by omega), bnd_some, hgen 0 (by omega), bnd_some]
  have ho2 : (bif decide (genR (sect d (f + 0)) > 0) then some (⟨true, (f : Int), 0, genR (sect d (f + 0)), [], 0, false⟩ : T_ref06_Store) else some (⟨true, (f : Int), (-1), 0, [], 0, false⟩ : T_ref06_Store)) = some (if genR (sect d (f + 0)) > 0 then (⟨true, (f : Int), 0, genR (sect d (f + 0)), [], 0, false⟩ : T_ref06_Store) else (⟨true, (f : Int), (-1), 0, [], 0, false⟩ : T_ref06_Store)) := by
    by_cases hg : genR (sect d (f + 0)) > 0
    · rw [cnd_t (by simpa using hg), if_pos hg]
    · rw [cnd_f (by simpa using hg), if_neg hg]
  rw [ho2, bnd_some, p1, bnd_some, q1, t1, hsub 1 hf, bnd_some, hgen 1 hf, bnd_some]
  -- the rest
  have hrest : ∀ (i : Nat) (g : Int) (K : List T_Setting) (t : Nat), i < 2 → secF (sect d (f + i)) = some (g, K, t) →
      bnd (partM (toF d).Data.length (IntKind.wrap .i64 ((IntKind.wrap .i64 ((f : Int) + (i : Int))) * (toF d).Size)) (IntKind.wrap .i64 ((IntKind.wrap .i64 ((IntKind.wrap .i64 ((f : Int) + (i : Int))) + 1)) * (toF d).Size))) (fun n3 => bnd (loopM (rdoStep d (Int.toNat (IntKind.wrap .i64 ((IntKind.wrap .i64 ((f : Int) + (i : Int))) * (toF d).Size))) n3) (⟨true, (f : Int), (i : Int), g, [], 5, false⟩ : T_ref06_Store)) fun o4 => retOr o4 fun o5 => none) = some (toF d, some (refS f (osOf (i : Int) (sect d (f + i)) g K t)), 0) := by
    intro i g K t hi hs
    obtain ⟨_, _, _, _, hk⟩ := secF_gen hs
    obtain ⟨pi, qi⟩ := hpart i (by omega)
    have h1 := hse (f + i) (by omega)
    rw [pi, bnd_some, qi, show Int.toNat (((f + i) * z : Nat) : Int) = (f + i) * z from rfl]
    have hl := rdo_loop h (base := (f + i) * z) (z := z) h1 (f : Int) (i : Int) g (z - 5) 5 [] (Nat.le_refl _) (by omega) OkK.nil
    have hsp : prt d.bytes ((f + i) * z) z = sect d (f + i) := by rw [sect_prt, hzt]
    rw [hsp, hk] at hl
    exact bnd_eq hl rfl
  have hsel := sel_cases (sect d (f + 0)) (sect d (f + 1))
  have ho : openF d f = selF (sect d (f + 0)) (sect d (f + 1)) := openF_sel d f
  rw [ho]
  rcases hsel with ⟨h0, h1, h2⟩ | ⟨g, K, t, h0, h1, h2⟩ | ⟨g, K, t, h1, h0, h2⟩
  · rw [h2]
    have g0 : genR (sect d (f + 0)) = 0 := by unfold genR; rw [h0]
    have g1 : genR (sect d (f + 1)) = 0 := by unfold genR; rw [h1]
    rw [g0, g1, if_neg (by omega)]
    rfl
  · rw [h2]
    have hg := secF_gen h0
    have g0 : genR (sect d (f + 0)) = g := by unfold genR; rw [h0]
    have g1 : genR (sect d (f + 1)) ≤ g := by
      unfold genR
      cases hs : secF (sect d (f + 1)) with
      | none => simp only; omega
      | some p => exact h1 p hs
    rw [g0, if_pos (by omega), cnd_f (by simp; omega), bnd_some, cnd_f (by simp)]
    exact hrest 0 g K t (by omega) h0
  · rw [h2]
    have hg := secF_gen h1
    have g1 : genR (sect d (f + 1)) = g := by unfold genR; rw [h1]
    have g0 : genR (sect d (f + 0)) < g := by
      unfold genR
      cases hs : secF (sect d (f + 0)) with
      | none => simp only; omega
      | some p => exact h0 p hs
    rw [g1]
    have hgt : (if genR (sect d (f + 0)) > 0 then (⟨true, (f : Int), 0, genR (sect d (f + 0)), [], 0, false⟩ : T_ref06_Store) else (⟨true, (f : Int), (-1), 0, [], 0, false⟩ : T_ref06_Store)).Gen < g := by split <;> simp only <;> omega
    rw [cnd_t (by simpa using hgt), bnd_some]
    have hst : ∀ c : Prop, [Decidable c] → (⟨(if c then (⟨true, (f : Int), 0, genR (sect d (f + 0)), [], 0, false⟩ : T_ref06_Store) else (⟨true, (f : Int), (-1), 0, [], 0, false⟩ : T_ref06_Store)).F_, (if c then (⟨true, (f : Int), 0, genR (sect d (f + 0)), [], 0, false⟩ : T_ref06_Store) else (⟨true, (f : Int), (-1), 0, [], 0, false⟩ : T_ref06_Store)).First, 1, g, (if c then (⟨true, (f : Int), 0, genR (sect d (f + 0)), [], 0, false⟩ : T_ref06_Store) else (⟨true, (f : Int), (-1), 0, [], 0, false⟩ : T_ref06_Store)).Keys, (if c then (⟨true, (f : Int), 0, genR (sect d (f + 0)), [], 0, false⟩ : T_ref06_Store) else (⟨true, (f : Int), (-1), 0, [], 0, false⟩ : T_ref06_Store)).Tail, (if c then (⟨true, (f : Int), 0, genR (sect d (f + 0)), [], 0, false⟩ : T_ref06_Store) else (⟨true, (f : Int), (-1), 0, [], 0, false⟩ : T_ref06_Store)).Ended⟩ : T_ref06_Store) = ⟨true, (f : Int), 1, g, [], 0, false⟩ := fun c _ => by split <;> rfl
    rw [hst, cnd_f (by simp)]
    exact hrest 1 g K t (by omega) h1
end Go.Proofs.YthdpagcklakahaaGreat
end
section
namespace Go.Proofs.YthdpagcklakahaaGreat
open Go
set_option linter.unusedSimpArgs false
set_option linter.unusedVariables false
def endR (r : T_ref06_Store) : T_ref06_Store := ⟨r.F_, r.First, r.Active, 0, [], r.Tail, true⟩
theorem refEnd_eq (r : T_ref06_Store) (g : T_Flash) : m_ref06_Store_end r g = some (endR r, 10) := rfl
noncomputable def chkStepR (s_p0 : T_ref06_Store) (l_p1 : List T_Setting) : Int → Option (Step Int ((T_ref06_Store × Int) ⊕ Unit)) :=
  (fun (s1 : Int) => bif decide (s1 < (l_p1.length : Int)) then (bnd ((bnd (elt l_p1 s1) fun x1 => bif decide ((x1.Value.length : Int) > 28) then (some true) else (bif x1.Delete then (some (decide ((x1.Value.length : Int) > 0))) else (some false)) : Option Bool)) fun o4 => bif o4 then (some (.done (.inl (s_p0, 1)))) else (bnd (loopM (τ := (T_ref06_Store × Int) ⊕ Unit) (fun (s2 : Int) => bif decide (s2 < s1) then (bnd (elt l_p1 s2) fun x2 => bnd (elt l_p1 s1) fun x3 => bif (x2.Key == x3.Key) then (some (.done (.inl (s_p0, 7)))) else (some (.next (IntKind.wrap .i64 (s2 + 1))))) else (some (.done (.inr ())))) 0) fun o5 => retOrW (fun r_ => (.done (.inl r_))) o5 fun o6 => some (.next (IntKind.wrap .i64 (s1 + 1))))) else (some (.done (.inr ()))))
def chkOutR (r : T_ref06_Store) (e : Int) : (T_ref06_Store × Int) ⊕ Unit := if e = 0 then .inr () else .inl (r, e)
theorem chk_loopR {r : T_ref06_Store} {l : List T_Setting} (hl : l.length ≤ 1000000) : ∀ (k i : Nat) (seen : List Int), i + k = l.length → (∀ q, q ∈ seen ↔ ∃ j, j < i ∧ (l[j]?.map (·.Key)) = some q) →
    loopM (chkStepR r l) (i : Int) = some (chkOutR r (chkG seen (l.drop i)))
  | 0, i, seen, h, _ => by
    refine loop_done ?_
    unfold chkStepR
    rw [cnd_f (by simp; omega), List.drop_eq_nil_of_le (by omega)]
    rfl
  | k + 1, i, seen, h, hm => by
    have hi : i < l.length := by omega
    have hd : l.drop i = l[i] :: l.drop (i + 1) := (List.getElem_cons_drop (h := hi)).symm
    rw [hd]
    have hst : chkStepR r l (i : Int) = some (if l[i].Value.length > 28 ∨ (l[i].Delete = true ∧ l[i].Value.length > 0) then .done (.inl (r, 1)) else if l[i].Key ∈ seen then .done (.inl (r, 7)) else .next ((i + 1 : Nat) : Int)) := by
      unfold chkStepR
      rw [cnd_t (by simp; omega), elt_lt hi, bnd_some]
      have hc : (bif decide ((l[i].Value.length : Int) > 28) then (some true) else (bif l[i].Delete then (some (decide ((l[i].Value.length : Int) > 0))) else (some false)) : Option Bool) = some (decide (l[i].Value.length > 28 ∨ (l[i].Delete = true ∧ l[i].Value.length > 0))) := by
        by_cases h1 : l[i].Value.length > 28
        · rw [cnd_t (by simp; omega), decide_eq_true (.inl h1)]
        · rw [cnd_f (by simp; omega)]
          cases hdl : l[i].Delete
          · rw [cond_false]
            congr 1
            symm
            simp [h1]
          · rw [cond_true]
            congr 1
            rw [decide_eq_decide]
            simp [h1]
      rw [hc, bnd_some]
      by_cases h1 : l[i].Value.length > 28 ∨ (l[i].Delete = true ∧ l[i].Value.length > 0)
      · rw [decide_eq_true h1, cond_true, if_pos h1]
      · rw [decide_eq_false h1, cond_false, if_neg h1]
        refine bnd_loop_any (fun k => (k : Int)) i (fun k => (l[k]?.map (·.Key)) == some l[i].Key) (.inl (r, 7)) (.inr ()) rfl (fun j hj => ?_) ?_ ?_
        · have hjl : j < l.length := by omega
          rw [cnd_t (by simp; omega), elt_lt hjl, bnd_some, bnd_some, List.getElem?_eq_getElem hjl]
          by_cases hk : l[j].Key = l[i].Key
          · rw [cnd_t (by simpa using hk), cnd_t (by simpa using hk)]
          · rw [cnd_f (by simpa using hk), wrap_succ hjl (by omega), cnd_f (by simpa using hk)]
        · rw [cnd_f (by simp)]
        · by_cases h2 : l[i].Key ∈ seen
          · rw [if_pos h2]
            have : (List.range i).any (fun k => (l[k]?.map (·.Key)) == some l[i].Key) = true := by
              obtain ⟨j, hj, e⟩ := (hm _).1 h2
              rw [List.any_eq_true]
              exact ⟨j, List.mem_range.2 hj, by rw [e]; simp⟩
            rw [this]
            rfl
          · rw [if_neg h2]
            have : (List.range i).any (fun k => (l[k]?.map (·.Key)) == some l[i].Key) = false := by
              rw [List.any_eq_false]
              intro j hj e
              exact h2 ((hm _).2 ⟨j, List.mem_range.1 hj, by simpa using e⟩)
            rw [this, wrap_succ hi (by omega)]
            rfl
    unfold chkG
    by_cases h1 : l[i].Value.length > 28 ∨ (l[i].Delete = true ∧ l[i].Value.length > 0)
    · rw [if_pos h1] at hst
      rw [if_pos h1]
      exact loop_done hst
    · rw [if_neg h1] at hst
      rw [if_neg h1]
      by_cases h2 : l[i].Key ∈ seen
      · rw [if_pos h2] at hst
        rw [if_pos h2]
        exact loop_done hst
      · rw [if_neg h2] at hst
        rw [if_neg h2]
        refine loop_next hst (chk_loopR hl k (i + 1) (l[i].Key :: seen) (by omega) fun q => ?_)
        rw [List.mem_cons, hm]
        constructor
        · rintro (rfl | ⟨j, hj, e⟩)
          · exact ⟨i, by omega, by rw [List.getElem?_eq_getElem hi]; rfl⟩
          · exact ⟨j, by omega, e⟩
        · rintro ⟨j, hj, e⟩
          by_cases hji : j = i
          · subst hji
            rw [List.getElem?_eq_getElem hi] at e
            injection e with e
            exact .inl e.symm
          · exact .inr ⟨j, by omega, e⟩
theorem refCheck_eq {f : Nat} {o : OS} {d : T_Device} {l : List T_Setting} (hK : OkK o.K) (hll : l.length ≤ 1000000) : m_ref06_Store_Check (refS f o) l (toF d) =
    some (if d.down then (endR (refS f o), 10) else if chkF l ≠ 0 then (refS f o, chkF l) else if (allK o.K l).length > 32 then (refS f o, 3) else (refS f o, 0)) := by
  unfold m_ref06_Store_Check
  rw [show (refS f o).Ended = false from rfl, cond_false, show chkB (refS f o).F_ = some true from rfl, bnd_some, bnd_some, show (toF d).Down = d.down from rfl]
  cases hd : d.down
  · rw [cond_false, if_neg (by simp)]
    unfold chkF
    by_cases h32 : l.length > 32
    · rw [cnd_t (by simp; omega), if_pos h32, if_pos (by decide)]
    · rw [cnd_f (by simp; omega), if_neg h32]
      have hlp := chk_loopR (r := refS f o) (l := l) hll l.length 0 [] (by omega) (fun q => by simp)
      unfold chkStepR at hlp
      refine bnd_eq hlp ?_
      rw [List.drop_zero]
      unfold chkOutR
      by_cases hc : chkG [] l = 0
      · rw [if_pos hc, retOr_inr, hc, if_neg (by decide), show (refS f o).Keys = o.K from rfl, applyAll_eq hK.asc (by have := hK.len; omega), bnd_some]
        by_cases hg : (allK o.K l).length > 32
        · rw [cnd_t (by simp; omega), if_pos hg]
        · rw [cnd_f (by simp; omega), if_neg hg]
      · rw [if_neg hc, retOr_inl, if_pos hc]
  · rw [cond_true, refEnd_eq, bnd_some, if_pos rfl]
theorem refBatch_eq {l : List T_Setting} (hl : l.length ≤ 1000) (hv : ∀ x ∈ l, x.Value.length ≤ 1000) : m_ref06_batch l = some (encF l) := by
  unfold m_ref06_batch
  have hb : ∀ i, i ≤ l.length → (IntKind.wrap .u8 (l.length : Int) :: (l.take i).flatMap encS).length ≤ 1 + i * 1002 := fun i hi => by
    have := flat_le (l := l.take i) fun x hx => hv x (List.mem_of_mem_take hx)
    simp only [List.length_take, List.length_cons] at *
    rw [Nat.min_eq_left hi] at this
    omega
  refine bnd_loop (fun i => (IntKind.wrap .u8 (l.length : Int) :: (l.take i).flatMap encS, (i : Int))) l.length (IntKind.wrap .u8 (l.length : Int) :: l.flatMap encS) rfl (fun i hi => ?_) ?_ ?_
  · have h1 := hb i (by omega)
    have h2 := hv l[i] (List.getElem_mem hi)
    have h3 : i * 1002 ≤ 1000 * 1002 := Nat.mul_le_mul_right _ (by omega)
    simp only
    rw [cnd_t (by simp; omega), elt_lt hi, bnd_some, take_succ_get hi, List.flatMap_append]
    simp only [List.flatMap_cons, List.flatMap_nil, List.append_nil]
    have hE : ∀ (z : List Int), (IntKind.wrap .u8 (l.length : Int) :: ((l.take i).flatMap encS ++ z)) = (IntKind.wrap .u8 (l.length : Int) :: (l.take i).flatMap encS) ++ z := fun z => rfl
    rw [hE]
    generalize hpre : IntKind.wrap .u8 (l.length : Int) :: (l.take i).flatMap encS = pre at h1 ⊢
    unfold encS
    cases hd : l[i].Delete
    · simp only [cond_false]
      rw [bnd_some, app_eq (by simp; omega) (by simp; omega), bnd_some, app_eq (by simp; omega) (by simp; omega), bnd_some, wrap_succ hi (by omega)]
      simp
    · simp only [cond_true]
      rw [app_eq (by simp; omega) (by simp; omega), bnd_some, wrap_succ hi (by omega)]
      simp
  · simp only
    rw [cnd_f (by simp), List.take_length]
  · have h1 := hb l.length (Nat.le_refl _)
    rw [List.take_length] at h1
    have h3 : l.length * 1002 ≤ 1000 * 1002 := Nat.mul_le_mul_right _ hl
    rw [app_eq (by simp only [List.length_cons, List.length_nil] at *; omega) (by simp only [List.length_cons, List.length_nil] at *; omega), bnd_some]
    rfl
theorem little_eq {g : Int} (h0 : 0 ≤ g) (h1 : g ≤ 4294967295) : m_ref01_Little g 4 = some (gen4 g) := by
  obtain ⟨n, rfl⟩ : ∃ n : Nat, g = (n : Int) := ⟨g.toNat, by omega⟩
  have e8 : (8 : Int) = ((8 : Nat) : Int) := rfl
  have e16 : (16 : Int) = ((16 : Nat) : Int) := rfl
  have e24 : (24 : Int) = ((24 : Nat) : Int) := rfl
  have p8 : 2 ^ 8 = 256 := rfl
  have p16 : 2 ^ 16 = 65536 := rfl
  have p24 : 2 ^ 24 = 16777216 := rfl
  have hb : IntKind.bits .i64 = 64 := rfl
  unfold gen4
  rw [e8, e16, e24, iShr_n (by omega), iShr_n (by omega), iShr_n (by omega), wrap_u8_modn, wrap_u8_modn, wrap_u8_modn, wrap_u8_modn, p8, p16, p24]
  have hm : ∀ k : Nat, (k : Int).tmod 256 = ((k % 256 : Nat) : Int) := fun k => rfl
  have hd : ∀ k : Nat, (k : Int).tdiv 256 = ((k / 256 : Nat) : Int) := fun k => rfl
  have st : ∀ (k : Nat) (L : List Int) (i : Nat), i < 4 → L.length ≤ 4 → k ≤ 4294967295 → (bif decide (((k : Int), L, (i : Int)).2.2 < 4) then (bnd (app 1 ((k : Int), L, (i : Int)).2.1 [IntKind.wrap .u8 (((k : Int), L, (i : Int)).1.tmod 256)]) fun l1 => some (Step.next (IntKind.wrap .u64 (((k : Int), L, (i : Int)).1.tdiv 256), l1, IntKind.wrap .i64 (((k : Int), L, (i : Int)).2.2 + 1)) : Step (Int × List Int × Int) (List Int))) else (some (.done ((k : Int), L, (i : Int)).2.1))) = some (.next (((k / 256 : Nat) : Int), L ++ [((k % 256 : Nat) : Int)], ((i + 1 : Nat) : Int))) := by
    intro k L i hi hL hk
    dsimp only
    rw [cnd_t (by simp; omega), hm, hd, wrap_u8n (by omega), wrap_u64n (by omega), app_eq (by simp; omega) (by simp; omega), bnd_some, wrapS (by omega)]
  unfold m_ref01_Little
  have q1 : n / 256 / 256 = n / 65536 := by omega
  have q2 : n / 65536 / 256 = n / 16777216 := by omega
  have s0 := st n [] 0 (by omega) (by simp) (by omega)
  have s1 := st (n / 256) [((n % 256 : Nat) : Int)] 1 (by omega) (by simp) (by omega)
  have s2 := st (n / 65536) [((n % 256 : Nat) : Int), ((n / 256 % 256 : Nat) : Int)] 2 (by omega) (by simp) (by omega)
  have s3 := st (n / 16777216) [((n % 256 : Nat) : Int), ((n / 256 % 256 : Nat) : Int), ((n / 65536 % 256 : Nat) : Int)] 3 (by omega) (by simp) (by omega)
  rw [q1] at s1
  rw [q2] at s2
  exact bnd_eq (loop_next s0 (loop_next s1 (loop_next s2 (loop_next s3 (loop_done rfl))))) rfl
theorem programF_in {d : T_Device} {at_ : Int} {b : List Int} (h : 0 ≤ at_ ∧ at_ + b.length ≤ d.bytes.length) : (programF d at_ b).2 = 0 ∨ (programF d at_ b).2 = 10 := by
  unfold programF
  split
  · exact .inr rfl
  · rw [if_pos ⟨by omega, by omega, by omega, by omega⟩]
    exact progL_err _ _ _
theorem eraseF_in {d : T_Device} {s : Int} (h : 0 ≤ s ∧ s < d.wear.length) : (eraseF d s).2 = 0 ∨ (eraseF d s).2 = 10 := by
  unfold eraseF
  split
  · exact .inr rfl
  · rw [if_neg (by omega)]
    cases (stepF (wrW d s.toNat)).2 <;> simp
structure OkR (o : OS) (d : T_Device) (f : Nat) : Prop where
  oo : OkO o
  clean : 0 ≤ o.act → o.clean = blankF ((sect d (f + o.act.toNat)).drop o.tail.toNat) ∧ o.tail ≤ d.size
  none : o.act < 0 → o.gen = 0
theorem okR_open {d : T_Device} (h : OkD d) (hz : 1024 ≤ d.size) {f : Nat} (hf : f + 1 < d.wear.length) : OkR (openF d f) d f := by
  have ho := openF_okO h hz hf
  refine ⟨ho, fun ha => ?_, fun ha => ?_⟩
  · rw [openF_sel] at *
    have hl0 := sect_len h (k := f) (by omega)
    have hl1 := sect_len h (k := f + 1) hf
    have hs := h.size
    rcases sel_cases (sect d f) (sect d (f + 1)) with ⟨h0, h1, h2⟩ | ⟨g, K, t, h0, h1, h2⟩ | ⟨g, K, t, h1, h0, h2⟩
    · rw [h2] at ha; exact absurd ha (by decide)
    · rw [h2]
      obtain ⟨_, _, _, _, hk⟩ := secF_gen h0
      have := (readK_le (sect_rng h f)).2
      rw [hk] at this
      simp only [List.length_drop] at this
      exact ⟨rfl, by show (t : Int) ≤ d.size; omega⟩
    · rw [h2]
      obtain ⟨_, _, _, _, hk⟩ := secF_gen h1
      have := (readK_le (sect_rng h (f + 1))).2
      rw [hk] at this
      simp only [List.length_drop] at this
      exact ⟨rfl, by show (t : Int) ≤ d.size; omega⟩
  · rw [openF_sel] at *
    rcases sel_cases (sect d f) (sect d (f + 1)) with ⟨h0, h1, h2⟩ | ⟨g, K, t, h0, h1, h2⟩ | ⟨g, K, t, h1, h0, h2⟩
    · rw [h2]; rfl
    · rw [h2] at ha; exact absurd ha (by show ¬ (0 : Int) < 0; omega)
    · rw [h2] at ha; exact absurd ha (by show ¬ (1 : Int) < 0; omega)
def RelR (r : T_ref06_Store) (f : Nat) (o : Option OS) : Prop := match o with
  | none => r.Ended = true ∧ r.Keys = [] ∧ r.Gen = 0
  | some o => r = refS f o
theorem refU_fin {f : Nat} {o o' : OS} {r : T_Device × Int} (h : r.2 = 0 ∨ r.2 = 10) : ∃ r', (if r.2 = 0 then some (refS f o', toF r.1, 0) else some (endR (refS f o), toF r.1, 10)) = some (r', toF (finU o o' r).2.1, (finU o o' r).2.2) ∧ RelR r' f (finU o o' r).1 := by
  unfold finU
  rcases h with h | h
  · rw [if_pos h, if_pos h]
    exact ⟨_, rfl, rfl⟩
  · rw [if_neg (by omega), if_neg (by omega), if_pos h]
    exact ⟨_, rfl, rfl, rfl, rfl⟩
theorem refUpdate_eq {f : Nat} {o : OS} {d : T_Device} {l : List T_Setting} (hR : OkR o d f) (h : OkD d) (hz : 1024 ≤ d.size) (hf : f + 1 < d.wear.length) (hll : l.length ≤ 1000000) (hl : ∀ x ∈ l, 0 ≤ x.Key ∧ x.Key ≤ 255 ∧ rng x.Value) :
    ∃ r', m_ref06_Store_Update (refS f o) l (toF d) = some (r', toF (updF o d f l).2.1, (updF o d f l).2.2) ∧ RelR r' f (updF o d f l).1 := by
  have ho := hR.oo
  have hw := h.wear
  have hsz := h.size
  have hb := h.bound
  have hot := ho.tail
  have hoa := ho.act
  have hog := ho.gen
  obtain ⟨z, hzz⟩ : ∃ z : Nat, d.size = (z : Int) := ⟨d.size.toNat, by omega⟩
  have hz1 : d.size.toNat = z := by rw [hzz]; rfl
  unfold m_ref06_Store_Update updF
  rw [refCheck_eq ho.K hll, bnd_some]
  cases hd : d.down
  case true => exact ⟨_, rfl, rfl, rfl, rfl⟩
  rw [if_neg (show ¬ (false = true) by decide), if_neg (show ¬ (false = true) by decide)]
  by_cases hc : chkF l ≠ 0
  · rw [if_pos hc, if_pos hc, cnd_t (by simpa using hc)]
    exact ⟨_, rfl, rfl⟩
  have hc0 : chkF l = 0 := by omega
  rw [if_neg hc, if_neg hc]
  by_cases hnil : l = []
  · subst hnil
    rw [if_neg (by show ¬ o.K.length > 32; have := ho.K.len; omega), if_pos rfl]
    exact ⟨_, rfl, rfl⟩
  rw [if_neg hnil]
  have hpos : 0 < l.length := List.length_pos_iff.2 hnil
  have hco := chkF_ok hc0
  have hlok : ∀ x ∈ l, OkC x := fun x hx => ⟨⟨(hl x hx).1, (hl x hx).2.1⟩, (hco.2 x hx).1, (hl x hx).2.2, (hco.2 x hx).2⟩
  by_cases h32 : (allK o.K l).length > 32
  · rw [if_pos h32, if_pos h32, cnd_t (by rfl)]
    exact ⟨_, rfl, rfl⟩
  rw [if_neg h32, if_neg h32, cnd_f (by rfl), cnd_f (by simp; omega)]
  have hKok : OkK (allK o.K l) := ho.K.all hlok (by omega)
  have hel := enc_len hco.1 hlok
  have her := enc_rng hco.1 hlok
  rw [copyL ⟨hll, fun x hx => by have := (hco.2 x hx).1; omega⟩, bnd_some, show (refS f o).Keys = o.K from rfl, applyAll_eq ho.K.asc (by have := ho.K.len; omega), bnd_some, refBatch_eq (by omega) (fun x hx => by have := (hco.2 x hx).1; omega), bnd_some]
  rw [show (refS f o).Active = o.act from rfl, show (refS f o).First = (f : Int) from rfl, show (refS f o).Tail = o.tail from rfl, show (refS f o).Gen = o.gen from rfl, show (refS f o).F_ = true from rfl, show (refS f o).Ended = false from rfl, show (toF d).Size = d.size from rfl, show (toF d).Data = d.bytes from rfl, show chkB true = some true from rfl]
  by_cases hap : 0 ≤ o.act ∧ o.clean = true ∧ ((encF l).length : Int) ≤ d.size - o.tail
  · -- one more batch
    rw [if_pos hap]
    obtain ⟨ha, hcl, hfit⟩ := hap
    obtain ⟨hcl2, htl⟩ := hR.clean ha
    have hfa : f + o.act.toNat < d.wear.length := by omega
    have hle := sector_le h hfa
    rw [hz1] at hle
    have e1 : IntKind.wrap .i64 ((f : Int) + o.act) = ((f + o.act.toNat : Nat) : Int) := by rw [wrap_i64 (by omega) (by omega)]; omega
    have e2 : IntKind.wrap .i64 (((f + o.act.toNat : Nat) : Int) * d.size) = (((f + o.act.toNat) * d.size.toNat : Nat) : Int) := by
      rw [hz1, hzz]
      have : (((f + o.act.toNat : Nat) : Int) * (z : Int)) = (((f + o.act.toNat) * z : Nat) : Int) := by simp
      rw [this, wrap_i64n (by omega)]
    obtain ⟨r, hr⟩ : ∃ r, programF d ((((f + o.act.toNat) * d.size.toNat : Nat) : Int) + o.tail) (encF l) = r := ⟨_, rfl⟩
    have hr2 : r.2 = 0 ∨ r.2 = 10 := by rw [← hr]; exact programF_in ⟨by omega, by rw [hz1]; omega⟩
    rw [hr]
    have hblk := refU_fin (f := f) (o := o) (o' := ⟨o.act, o.gen, allK o.K l, o.tail + ((encF l).length : Int), o.clean⟩) hr2
    obtain ⟨r', hr', hrel⟩ := hblk
    refine ⟨r', ?_, hrel⟩
    rw [← hr']
    refine bnd_eq (a := .inl (if r.2 = 0 then (refS f ⟨o.act, o.gen, allK o.K l, o.tail + ((encF l).length : Int), o.clean⟩, toF r.1, 0) else (endR (refS f o), toF r.1, 10))) ?_ ?_
    · rw [cnd_t (by simpa using ha), bnd_some, e1, e2, wrap_i64 (x := (((f + o.act.toNat) * d.size.toNat : Nat) : Int) + o.tail) (by omega) (by rw [hz1]; omega), wrap_i64 (x := (((f + o.act.toNat) * d.size.toNat : Nat) : Int) + d.size) (by omega) (by rw [hz1]; omega)]
      have hp : partM d.bytes.length ((((f + o.act.toNat) * d.size.toNat : Nat) : Int) + o.tail) ((((f + o.act.toNat) * d.size.toNat : Nat) : Int) + d.size) = some (z - o.tail.toNat) := by
        unfold partM
        rw [if_pos ⟨by omega, by omega, by rw [hz1]; omega⟩]
        congr 1
        rw [hz1]
        omega
      have hs : Go.Proofs.YthdpagcklakahaaGreat.sub d.bytes ((Int.toNat ((((f + o.act.toNat) * d.size.toNat : Nat) : Int) + o.tail) : Nat) : Int) (((Int.toNat ((((f + o.act.toNat) * d.size.toNat : Nat) : Int) + o.tail)) + (z - o.tail.toNat) : Nat) : Int) = some ((sect d (f + o.act.toNat)).drop o.tail.toNat) := by
        have e3 : Int.toNat ((((f + o.act.toNat) * d.size.toNat : Nat) : Int) + o.tail) = (f + o.act.toNat) * d.size.toNat + o.tail.toNat := by omega
        rw [e3, sub_nat (by omega) (by rw [hz1]; omega), Nat.add_sub_cancel_left]
        congr 1
        unfold sect
        rw [List.drop_take, List.drop_drop, hz1]
      have hlen : ((sect d (f + o.act.toNat)).drop o.tail.toNat).length ≤ 1000000 := by
        have := sect_len h hfa
        simp only [List.length_drop]
        omega
      rw [hp, bnd_some, cnd_t (by simp; omega), hs, bnd_some, refBlank_eq hlen, bnd_some, ← hcl2, hcl, bnd_some, cond_true, refProg_eq h her, hr, bnd_some]
      rcases hr2 with h0 | h0
      · rw [cnd_f (by simpa using h0), if_pos h0, wrap_i64 (by omega) (by omega)]
        rfl
      · rw [cnd_t (by simp [h0]), refEnd_eq, bnd_some, if_neg (by omega)]
    · rw [retOr_inl]
      split <;> rfl
  rw [if_neg hap]
  by_cases hg : o.gen = 2147483648
  · have ha : 0 ≤ o.act := by
      by_cases ha : 0 ≤ o.act
      · exact ha
      · have := hR.none (by omega); omega
    rw [if_pos hg]
    refine ⟨refS f o, ?_, rfl⟩
    obtain ⟨hcl2, htl⟩ := hR.clean ha
    have hfa : f + o.act.toNat < d.wear.length := by omega
    have hle := sector_le h hfa
    rw [hz1] at hle
    have e1 : IntKind.wrap .i64 ((f : Int) + o.act) = ((f + o.act.toNat : Nat) : Int) := by rw [wrap_i64 (by omega) (by omega)]; omega
    have e2 : IntKind.wrap .i64 (((f + o.act.toNat : Nat) : Int) * d.size) = (((f + o.act.toNat) * d.size.toNat : Nat) : Int) := by
      rw [hz1, hzz]
      have : (((f + o.act.toNat : Nat) : Int) * (z : Int)) = (((f + o.act.toNat) * z : Nat) : Int) := by simp
      rw [this, wrap_i64n (by omega)]
    refine bnd_eq (a := .inl (refS f o, toF d, 3)) ?_ rfl
    rw [cnd_t (by simpa using ha), bnd_some, e1, e2, wrap_i64 (x := (((f + o.act.toNat) * d.size.toNat : Nat) : Int) + o.tail) (by omega) (by rw [hz1]; omega), wrap_i64 (x := (((f + o.act.toNat) * d.size.toNat : Nat) : Int) + d.size) (by omega) (by rw [hz1]; omega)]
    have hp : partM d.bytes.length ((((f + o.act.toNat) * d.size.toNat : Nat) : Int) + o.tail) ((((f + o.act.toNat) * d.size.toNat : Nat) : Int) + d.size) = some (z - o.tail.toNat) := by
      unfold partM
      rw [if_pos ⟨by omega, by omega, by rw [hz1]; omega⟩]
      congr 1
      rw [hz1]
      omega
    have hs : Go.Proofs.YthdpagcklakahaaGreat.sub d.bytes ((Int.toNat ((((f + o.act.toNat) * d.size.toNat : Nat) : Int) + o.tail) : Nat) : Int) (((Int.toNat ((((f + o.act.toNat) * d.size.toNat : Nat) : Int) + o.tail)) + (z - o.tail.toNat) : Nat) : Int) = some ((sect d (f + o.act.toNat)).drop o.tail.toNat) := by
      have e3 : Int.toNat ((((f + o.act.toNat) * d.size.toNat : Nat) : Int) + o.tail) = (f + o.act.toNat) * d.size.toNat + o.tail.toNat := by omega
      rw [e3, sub_nat (by omega) (by rw [hz1]; omega), Nat.add_sub_cancel_left]
      congr 1
      unfold sect
      rw [List.drop_take, List.drop_drop, hz1]
    have hlen : ((sect d (f + o.act.toNat)).drop o.tail.toNat).length ≤ 1000000 := by
      have := sect_len h hfa
      simp only [List.length_drop]
      omega
    rw [hp, bnd_some, hs]
    have ho3 : (bif decide (((encF l).length : Int) ≤ ((z - o.tail.toNat : Nat) : Int)) then (bnd (some ((sect d (f + o.act.toNat)).drop o.tail.toNat)) fun l1 => bnd (m_ref05_Blank l1) fun r5 => some r5) else some false) = some false := by
      by_cases hfit : ((encF l).length : Int) ≤ ((z - o.tail.toNat : Nat) : Int)
      · rw [cnd_t (by simpa using hfit), bnd_some, refBlank_eq hlen, bnd_some, ← hcl2]
        congr 1
        cases hcl : o.clean
        · rfl
        · exact absurd ⟨ha, hcl, by omega⟩ hap
      · rw [cnd_f (by simpa using hfit)]
    rw [ho3, bnd_some, cond_false, cnd_t (by simpa using hg)]
  -- the other sector
  rw [if_neg hg]
  generalize hN : allK o.K l = N at hKok ⊢
  have hfirst : ∀ (blk : Option ((T_ref06_Store × T_Flash × Int) ⊕ Bool)), blk = some (.inr true) → blk = some (.inr true) := fun _ h => h
  have hk : f + othF o < d.wear.length := by unfold othF; split <;> omega
  have hle := sector_le h hk
  rw [hz1] at hle
  have hot1 : othF o ≤ 1 := by unfold othF; split <;> omega
  have hfo : IntKind.wrap .i64 ((f : Int) + ((othF o : Nat) : Int)) = ((f + othF o : Nat) : Int) := by rw [wrap_i64 (by omega) (by omega)]; omega
  have hoff : IntKind.wrap .i64 (((f + othF o : Nat) : Int) * d.size) = (((f + othF o) * d.size.toNat : Nat) : Int) := by
    rw [hz1, hzz]
    have : (((f + othF o : Nat) : Int) * (z : Int)) = (((f + othF o) * z : Nat) : Int) := by simp
    rw [this, wrap_i64n (by omega)]
  have hoth : ((bif (o.act == 0) then (some 1) else (some 0) : Option Int)) = some ((othF o : Nat) : Int) := by
    unfold othF
    by_cases ha : o.act = 0
    · rw [cnd_t (by simpa using ha), if_pos ha]; rfl
    · rw [cnd_f (by simpa using ha), if_neg ha]; rfl
  have hsl : (sect d (f + othF o)).length = d.size.toNat := sect_len h hk
  obtain ⟨r1, hr1⟩ : ∃ r1, (if blankF (sect d (f + othF o)) then (d, 0) else eraseF d ((f + othF o : Nat) : Int)) = r1 := ⟨_, rfl⟩
  have ok1 : OkD r1.1 ∧ r1.1.size = d.size ∧ r1.1.wear.length = d.wear.length ∧ r1.1.bytes.length = d.bytes.length ∧ r1.1.torn = d.torn := by
    rw [← hr1]
    split
    · exact ⟨h, rfl, rfl, rfl, rfl⟩
    · exact eraseF_ok h _
  have er1 : r1.2 = 0 ∨ r1.2 = 10 := by
    rw [← hr1]
    split
    · exact .inl rfl
    · exact eraseF_in ⟨by omega, by omega⟩
  obtain ⟨r2, hr2⟩ : ∃ r2, (andD r1 fun d1 => programF d1 (((f + othF o) * d.size.toNat : Nat) : Int) (gen4 (o.gen + 1))) = r2 := ⟨_, rfl⟩
  have ok2 : OkD r2.1 ∧ r2.1.size = d.size ∧ r2.1.wear.length = d.wear.length ∧ r2.1.bytes.length = d.bytes.length ∧ r2.1.torn = d.torn := by
    rw [← hr2]
    exact andD_ok ok1 fun e a b c g t => progOk' a b c g t (gen4_rng _) _
  have er2 : r2.2 = 0 ∨ r2.2 = 10 := by
    rw [← hr2]
    unfold andD
    split
    · exact programF_in ⟨by omega, by rw [ok1.2.2.2.1, hz1]; show _ + (4 : Int) ≤ _; omega⟩
    · exact er1
  obtain ⟨r3, hr3⟩ : ∃ r3, (andD r2 fun d2 => if N = [] then (d2, 0) else programF d2 ((((f + othF o) * d.size.toNat : Nat) : Int) + 5) (encF N)) = r3 := ⟨_, rfl⟩
  have hel2 := enc_len hKok.len hKok.ok
  have ok3 : OkD r3.1 ∧ r3.1.size = d.size ∧ r3.1.wear.length = d.wear.length ∧ r3.1.bytes.length = d.bytes.length ∧ r3.1.torn = d.torn := by
    rw [← hr3]
    refine andD_ok ok2 fun e a b c g t => ?_
    split
    · exact ⟨a, b, c, g, t⟩
    · exact progOk' a b c g t (enc_rng hKok.len hKok.ok) _
  have er3 : r3.2 = 0 ∨ r3.2 = 10 := by
    rw [← hr3]
    unfold andD
    split
    · split
      · exact .inl rfl
      · exact programF_in ⟨by omega, by rw [ok2.2.2.2.1, hz1]; omega⟩
    · exact er2
  obtain ⟨r4, hr4⟩ : ∃ r4, (andD r3 fun d3 => programF d3 ((((f + othF o) * d.size.toNat : Nat) : Int) + 4) [0]) = r4 := ⟨_, rfl⟩
  have er4 : r4.2 = 0 ∨ r4.2 = 10 := by
    rw [← hr4]
    unfold andD
    split
    · exact programF_in ⟨by omega, by rw [ok3.2.2.2.1, hz1]; show _ + (1 : Int) ≤ _; omega⟩
    · exact er3
  have hmo : moveD o d f N = r4 := by
    unfold moveD
    simp only
    rw [hr1, hr2, hr3, hr4]
  rw [hmo]
  obtain ⟨r', hr', hrel⟩ := refU_fin (f := f) (o := o) (o' := moveO o N) er4
  refine ⟨r', ?_, hrel⟩
  rw [← hr']
  refine bnd_eq (a := .inr true) ?_ ?_
  · by_cases ha : 0 ≤ o.act
    · obtain ⟨hcl2, htl⟩ := hR.clean ha
      have hfa : f + o.act.toNat < d.wear.length := by omega
      have hle := sector_le h hfa
      rw [hz1] at hle
      have e1 : IntKind.wrap .i64 ((f : Int) + o.act) = ((f + o.act.toNat : Nat) : Int) := by rw [wrap_i64 (by omega) (by omega)]; omega
      have e2 : IntKind.wrap .i64 (((f + o.act.toNat : Nat) : Int) * d.size) = (((f + o.act.toNat) * d.size.toNat : Nat) : Int) := by
        rw [hz1, hzz]
        have : (((f + o.act.toNat : Nat) : Int) * (z : Int)) = (((f + o.act.toNat) * z : Nat) : Int) := by simp
        rw [this, wrap_i64n (by omega)]
      rw [cnd_t (by simpa using ha), bnd_some, e1, e2, wrap_i64 (x := (((f + o.act.toNat) * d.size.toNat : Nat) : Int) + o.tail) (by omega) (by rw [hz1]; omega), wrap_i64 (x := (((f + o.act.toNat) * d.size.toNat : Nat) : Int) + d.size) (by omega) (by rw [hz1]; omega)]
      have hp : partM d.bytes.length ((((f + o.act.toNat) * d.size.toNat : Nat) : Int) + o.tail) ((((f + o.act.toNat) * d.size.toNat : Nat) : Int) + d.size) = some (z - o.tail.toNat) := by
        unfold partM
        rw [if_pos ⟨by omega, by omega, by rw [hz1]; omega⟩]
        congr 1
        rw [hz1]
        omega
      have hs : Go.Proofs.YthdpagcklakahaaGreat.sub d.bytes ((Int.toNat ((((f + o.act.toNat) * d.size.toNat : Nat) : Int) + o.tail) : Nat) : Int) (((Int.toNat ((((f + o.act.toNat) * d.size.toNat : Nat) : Int) + o.tail)) + (z - o.tail.toNat) : Nat) : Int) = some ((sect d (f + o.act.toNat)).drop o.tail.toNat) := by
        have e3 : Int.toNat ((((f + o.act.toNat) * d.size.toNat : Nat) : Int) + o.tail) = (f + o.act.toNat) * d.size.toNat + o.tail.toNat := by omega
        rw [e3, sub_nat (by omega) (by rw [hz1]; omega), Nat.add_sub_cancel_left]
        congr 1
        unfold sect
        rw [List.drop_take, List.drop_drop, hz1]
      have hlen : ((sect d (f + o.act.toNat)).drop o.tail.toNat).length ≤ 1000000 := by
        have := sect_len h hfa
        simp only [List.length_drop]
        omega
      rw [hp, bnd_some, hs]
      have ho3 : (bif decide (((encF l).length : Int) ≤ ((z - o.tail.toNat : Nat) : Int)) then (bnd (some ((sect d (f + o.act.toNat)).drop o.tail.toNat)) fun l1 => bnd (m_ref05_Blank l1) fun r5 => some r5) else some false) = some false := by
        by_cases hfit : ((encF l).length : Int) ≤ ((z - o.tail.toNat : Nat) : Int)
        · rw [cnd_t (by simpa using hfit), bnd_some, refBlank_eq hlen, bnd_some, ← hcl2]
          congr 1
          cases hcl : o.clean
          · rfl
          · exact absurd ⟨ha, hcl, by omega⟩ hap
        · rw [cnd_f (by simpa using hfit)]
      rw [ho3, bnd_some, cond_false, cnd_f (by simpa using hg)]
    · rw [cnd_f (by simpa using ha)]
  rw [retOr_inr, hoth, bnd_some, show chkB true = some true from rfl, bnd_some, hfo, hoff, wrap_i64 (x := (((f + othF o) * d.size.toNat : Nat) : Int) + d.size) (by omega) (by rw [hz1]; omega)]
  have hp : partM d.bytes.length (((f + othF o) * d.size.toNat : Nat) : Int) ((((f + othF o) * d.size.toNat : Nat) : Int) + d.size) = some z := by
    unfold partM
    rw [if_pos ⟨by omega, by omega, by rw [hz1]; omega⟩]
    congr 1
    rw [hz1]
    omega
  have hs : Go.Proofs.YthdpagcklakahaaGreat.sub d.bytes ((Int.toNat (((f + othF o) * d.size.toNat : Nat) : Int) : Nat) : Int) (((Int.toNat (((f + othF o) * d.size.toNat : Nat) : Int)) + z : Nat) : Int) = some (sect d (f + othF o)) := by
    have e3 : Int.toNat (((f + othF o) * d.size.toNat : Nat) : Int) = (f + othF o) * d.size.toNat := by omega
    rw [e3, sub_nat (by omega) (by rw [hz1]; omega), Nat.add_sub_cancel_left]
    unfold sect
    rw [hz1]
  have hgw : IntKind.wrap .i64 (o.gen + 1) = o.gen + 1 := wrap_i64 (by omega) (by omega)
  -- it may fail at each stage
  by_cases h1 : r1.2 = 0
  rotate_left
  · have e2 : r2 = r1 := by rw [← hr2]; unfold andD; rw [if_neg h1]
    have e3 : r3 = r1 := by rw [← hr3, e2]; unfold andD; rw [if_neg h1]
    have e4 : r4 = r1 := by rw [← hr4, e3]; unfold andD; rw [if_neg h1]
    rw [e4, if_neg h1]
    refine bnd_eq (a := .inl (endR (refS f o), toF r1.1, 10)) ?_ rfl
    rw [hp, bnd_some, hs, bnd_some, refBlank_eq (by rw [hsl]; omega), bnd_some]
    cases hbl : blankF (sect d (f + othF o))
    · rw [hbl, if_neg (by decide)] at hr1
      rw [Bool.not_false, cond_true, refErase_eq h _ (by omega), bnd_some, hr1, cnd_t (by simpa using h1), refEnd_eq, bnd_some]
    · rw [hbl, if_pos rfl] at hr1
      rw [← hr1] at h1
      exact absurd rfl h1
  refine bnd_eq (a := .inr (toF r1.1)) ?_ ?_
  · rw [hp, bnd_some, hs, bnd_some, refBlank_eq (by rw [hsl]; omega), bnd_some]
    cases hbl : blankF (sect d (f + othF o))
    · rw [hbl, if_neg (by decide)] at hr1
      rw [Bool.not_false, cond_true, refErase_eq h _ (by omega), bnd_some, hr1, cnd_f (by simpa using h1)]
    · rw [hbl, if_pos rfl] at hr1
      rw [← hr1]
      rfl
  have hr2' : programF r1.1 (((f + othF o) * d.size.toNat : Nat) : Int) (gen4 (o.gen + 1)) = r2 := by rw [← hr2]; unfold andD; rw [if_pos h1]
  rw [retOr_inr, hgw, wrap_u64 (x := o.gen + 1) (by omega) (by omega), little_eq (by omega) (by omega), bnd_some, refProg_eq ok1.1 (gen4_rng _), bnd_some, hr2']
  by_cases h2 : r2.2 = 0
  rotate_left
  · have e3 : r3 = r2 := by rw [← hr3]; unfold andD; rw [if_neg h2]
    have e4 : r4 = r2 := by rw [← hr4, e3]; unfold andD; rw [if_neg h2]
    rw [e4, if_neg h2, cnd_t (by simpa using h2), refEnd_eq, bnd_some]
  rw [cnd_f (by simpa using h2)]
  have hr3' : (if N = [] then (r2.1, 0) else programF r2.1 ((((f + othF o) * d.size.toNat : Nat) : Int) + 5) (encF N)) = r3 := by rw [← hr3]; unfold andD; rw [if_pos h2]
  by_cases h3 : r3.2 = 0
  rotate_left
  · have e4 : r4 = r3 := by rw [← hr4]; unfold andD; rw [if_neg h3]
    rw [e4, if_neg h3]
    have hne : N ≠ [] := fun e => by rw [if_pos e] at hr3'; rw [← hr3'] at h3; exact h3 rfl
    have hpos2 : 0 < N.length := List.length_pos_iff.2 hne
    rw [if_neg hne] at hr3'
    refine bnd_eq (a := .inl (endR (refS f o), toF r3.1, 10)) ?_ rfl
    rw [cnd_t (by simp; omega), refBatch_eq (by have := hKok.len; omega) (fun x hx => by have := (hKok.ok x hx).len; omega), bnd_some, wrap_i64 (x := (((f + othF o) * d.size.toNat : Nat) : Int) + 5) (by omega) (by rw [hz1]; omega), refProg_eq ok2.1 (enc_rng hKok.len hKok.ok), bnd_some, hr3', cnd_t (by simpa using h3), refEnd_eq, bnd_some]
  refine bnd_eq (a := .inr (5 + (if N = [] then 0 else ((encF N).length : Int)), toF r3.1)) ?_ ?_
  · by_cases hne : N = []
    · rw [if_pos hne] at hr3'
      rw [if_pos hne, cnd_f (by rw [hne]; rfl), ← hr3']
      rfl
    · have hpos2 : 0 < N.length := List.length_pos_iff.2 hne
      rw [if_neg hne] at hr3'
      rw [if_neg hne, cnd_t (by simp; omega), refBatch_eq (by have := hKok.len; omega) (fun x hx => by have := (hKok.ok x hx).len; omega), bnd_some, wrap_i64 (x := (((f + othF o) * d.size.toNat : Nat) : Int) + 5) (by omega) (by rw [hz1]; omega), refProg_eq ok2.1 (enc_rng hKok.len hKok.ok), bnd_some, hr3', cnd_f (by simpa using h3), wrap_i64 (by omega) (by omega)]
  have hr4' : programF r3.1 ((((f + othF o) * d.size.toNat : Nat) : Int) + 4) [0] = r4 := by rw [← hr4]; unfold andD; rw [if_pos h3]
  rw [retOr_inr, wrap_i64 (x := (((f + othF o) * d.size.toNat : Nat) : Int) + 4) (by omega) (by rw [hz1]; omega)]
  show bnd (m_ref05_Flash_Program (toF r3.1) _ [0]) _ = _
  rw [refProg_eq ok3.1 (rng.cons (by decide) rng.nil), bnd_some, hr4']
  by_cases h4 : r4.2 = 0
  · rw [cnd_f (by simpa using h4), if_pos h4]
    rfl
  · rw [cnd_t (by simpa using h4), if_neg h4, refEnd_eq, bnd_some]
theorem refUpdate_end {r : T_ref06_Store} {f : Nat} (h : RelR r f none) (l : List T_Setting) (d : T_Device) : ∃ r', m_ref06_Store_Update r l (toF d) = some (r', toF d, 10) ∧ RelR r' f none := by
  obtain ⟨h1, h2, h3⟩ := h
  refine ⟨endR r, ?_, rfl, rfl, rfl⟩
  unfold m_ref06_Store_Update m_ref06_Store_Check
  rw [h1, cond_true, bnd_some, cond_true, refEnd_eq]
  rfl
theorem refGet_eq {r : T_ref06_Store} {f : Nat} {o : OS} (h : RelR r f (some o)) (ho : OkK o.K) (k : Int) (g : T_Flash) : m_ref06_Store_Get r k g = some ((look o.K k).getD [], (look o.K k).isSome) := by
  have hr : r = refS f o := h
  subst hr
  have hlen := ho.len
  unfold m_ref06_Store_Get
  rw [show (refS f o).Keys = o.K from rfl]
  have : ∀ (n i : Nat), i + n = o.K.length → loopM (fun (s1 : Int) => bif decide (s1 < (o.K.length : Int)) then (bnd (elt o.K s1) fun x1 => bif (x1.Key == k) then (bnd (m_ref01_Copy x1.Value) fun r1 => some (.done (.inl (r1, true)))) else (some (.next (IntKind.wrap .i64 (s1 + 1))))) else (some (.done (.inr ())))) (i : Int) = some (match look (o.K.drop i) k with | some v => (.inl (v, true) : (List Int × Bool) ⊕ Unit) | none => .inr ()) := by
    intro n
    induction n with
    | zero =>
      intro i hi
      rw [List.drop_eq_nil_of_le (by omega)]
      exact loop_done (by rw [cnd_f (by simp; omega)]; rfl)
    | succ n ih =>
      intro i hi
      have hil : i < o.K.length := by omega
      rw [← List.getElem_cons_drop (h := hil), look_cons]
      by_cases hk : o.K[i].Key = k
      · rw [if_pos hk]
        refine loop_done ?_
        rw [cnd_t (by simp; omega), elt_lt hil, bnd_some, cnd_t (by simpa using hk), copyJ (by have := (ho.ok _ (List.getElem_mem hil)).len; omega), bnd_some]
      · rw [if_neg hk]
        refine loop_next (s' := ((i + 1 : Nat) : Int)) ?_ (ih (i + 1) (by omega))
        rw [cnd_t (by simp; omega), elt_lt hil, bnd_some, cnd_f (by simpa using hk), wrap_succ hil (by omega)]
  have h0 := this o.K.length 0 (by omega)
  rw [List.drop_zero] at h0
  refine bnd_eq h0 ?_
  cases look o.K k <;> rfl
theorem refGet_end {r : T_ref06_Store} {f : Nat} (h : RelR r f none) (k : Int) (g : T_Flash) : m_ref06_Store_Get r k g = some ([], false) := by
  obtain ⟨h1, h2, h3⟩ := h
  unfold m_ref06_Store_Get
  rw [h2]
  exact bnd_eq (loop_done (t := .inr ()) rfl) rfl
theorem refAll_eq {r : T_ref06_Store} {f : Nat} {o : OS} (h : RelR r f (some o)) (ho : OkK o.K) (g : T_Flash) : m_ref06_Store_All r g = some o.K := by
  have hr : r = refS f o := h
  subst hr
  unfold m_ref06_Store_All
  rw [show (refS f o).Keys = o.K from rfl, copyL ⟨by have := ho.len; omega, fun x hx => by have := (ho.ok x hx).len; omega⟩, bnd_some]
theorem refAll_end {r : T_ref06_Store} {f : Nat} (h : RelR r f none) (g : T_Flash) : m_ref06_Store_All r g = some [] := by
  obtain ⟨h1, h2, h3⟩ := h
  unfold m_ref06_Store_All
  rw [h2, copyL ⟨by simp, fun x hx => by cases hx⟩]
  rfl
end Go.Proofs.YthdpagcklakahaaGreat
end
section
namespace Go.Proofs.YthdpagcklakahaaGreat
open Go
set_option linter.unusedSimpArgs false
set_option linter.unusedVariables false
structure Pair (d : T_Device) (s : T_settings_Store) (r : T_ref06_Store) (f : Nat) : Prop where
  ok : OkD d
  size : 1024 ≤ d.size
  first : f + 1 < d.wear.length
  say : (d.down = false ∧ RelO s f (openF d f) ∧ RelR r f (some (openF d f))) ∨ (d.down = true ∧ s = endS ∧ RelR r f none)
theorem Pair.upd {d : T_Device} {s : T_settings_Store} {r : T_ref06_Store} {f : Nat} (h : Pair d s r f) {l : List T_Setting} (hl : okU l) :
    ∃ s' r' d' e, m_settings_Store_Update s l d = some (s', d', e) ∧ m_ref06_Store_Update r l (toF d) = some (r', toF d', e) ∧ Pair d' s' r' f ∧ (e = 10 → d'.down = true) := by
  rcases h.say with ⟨h1, h2, h3⟩ | ⟨h1, h2, h3⟩
  · have hO := openF_okO h.ok h.size h.first
    obtain ⟨s', a1, a2⟩ := update_eq h2 hO h.ok h.size h.first hl.1 hl.2
    have hr : r = refS f (openF d f) := h3
    obtain ⟨r', b1, b2⟩ := refUpdate_eq (okR_open h.ok h.size h.first) h.ok h.size h.first hl.1 hl.2
    have hU := upd_ok h.ok h1 h.size h.first rfl hl.2
    obtain ⟨u, hu⟩ : ∃ u, updF (openF d f) d f l = u := ⟨_, rfl⟩
    rw [hu] at a1 a2 b1 b2 hU
    rw [← hr] at b1
    refine ⟨s', r', u.2.1, u.2.2, a1, b1, ⟨hU.like.ok, by rw [hU.like.size]; exact h.size, by rw [hU.like.wear]; exact h.first, ?_⟩, fun he => ?_⟩
    · rcases hU.cases with ⟨c1, c2, c3, _⟩ | ⟨c1, c2, c3⟩ | ⟨c1, c2, c3, _⟩
      · rw [c3] at a2 b2
        exact .inl ⟨c2, a2, b2⟩
      · rw [c2] at a2 b2
        rw [c3]
        exact .inl ⟨h1, a2, b2⟩
      · rw [c3] at a2 b2
        exact .inr ⟨c2, a2, b2⟩
    · rcases hU.cases with ⟨c1, _⟩ | ⟨c1, _⟩ | ⟨c1, c2, _⟩
      · omega
      · omega
      · exact c2
  · obtain ⟨r', b1, b2⟩ := refUpdate_end h3 l d
    exact ⟨endS, r', d, 10, by rw [h2]; exact update_end l d, b1, ⟨h.ok, h.size, h.first, .inr ⟨h1, rfl, b2⟩⟩, fun _ => h1⟩
theorem refS_gen {r : T_ref06_Store} {f : Nat} {o : OS} (h : RelR r f (some o)) : r.Gen = o.gen := by
  have hr : r = refS f o := h
  rw [hr]
  rfl
theorem Pair.same {d : T_Device} {s : T_settings_Store} {r : T_ref06_Store} {f : Nat} (h : Pair d s r f) (k : Int) : m_law06_same s r k d (toF d) = some true := by
  unfold m_law06_same m_settings_Store_Generation
  rcases h.say with ⟨h1, h2, h3⟩ | ⟨h1, h2, h3⟩
  · have hO := openF_ok h.ok f
    have hv : ((look (openF d f).K k).getD []).length ≤ 1000000 := by
      cases hk : look (openF d f).K k with
      | none => simp
      | some v =>
        unfold look at hk
        obtain ⟨x, hx, hxv⟩ := Option.map_eq_some_iff.1 hk
        have := (hO.ok x (List.mem_of_find?_eq_some hx)).len
        rw [← hxv]
        simp only [Option.getD_some]
        omega
    rw [get_eq h2 hO, bnd_some, refGet_eq h3 hO, bnd_some, all_eq h2 hO, bnd_some, refAll_eq h3 hO, bnd_some, sameL ⟨by have := hO.len; omega, fun x hx => by have := (hO.ok x hx).len; omega⟩, bnd_some, decide_eq_true rfl, cond_true, cnd_t (by simp), sameI hv, bnd_some, decide_eq_true rfl, cond_true, bnd_some, h2.gen, refS_gen h3, bnd_some]
    simp
  · rw [h2, get_end, bnd_some, refGet_end h3, bnd_some, all_end, bnd_some, refAll_end h3, bnd_some, sameL ⟨by simp, fun x hx => by cases hx⟩, bnd_some, decide_eq_true rfl, cond_true, cnd_t (by simp), sameI (by simp), bnd_some, decide_eq_true rfl, cond_true, bnd_some, h3.2.2, bnd_some]
    rfl
theorem Pair.arm {d : T_Device} {s : T_settings_Store} {r : T_ref06_Store} {f : Nat} (h : Pair d s r f) {n t : Int} (hn : n ≤ 9223372036854775807) (ht : 0 ≤ t ∧ t ≤ 255) : Pair (armF d n t) s r f := by
  have hs : (armF d n t).size = d.size := by unfold armF; split <;> rfl
  have hw : (armF d n t).wear = d.wear := by unfold armF; split <;> rfl
  have hd : (armF d n t).down = d.down := by unfold armF; split <;> rfl
  refine ⟨armF_ok h.ok hn ht, by rw [hs]; exact h.size, by rw [hw]; exact h.first, ?_⟩
  rw [hd, openF_arm]
  exact h.say
theorem pair_open {d : T_Device} (h : OkD d) (hd : d.down = false) (hz : 1024 ≤ d.size) {f : Nat} (hf : f + 1 < d.wear.length) : ∃ s r, m_settings_Open d (f : Int) = some (d, some s, 0) ∧ m_ref06_Open (toF d) (f : Int) = some (toF d, some r, 0) ∧ Pair d s r f := by
  obtain ⟨s, h1, h2⟩ := open_eq h hd hz hf
  exact ⟨s, _, h1, refOpen_eq h hd hz hf, h, hz, hf, .inl ⟨hd, h2, rfl⟩⟩
theorem Pair.again {d : T_Device} {s : T_settings_Store} {r : T_ref06_Store} {f : Nat} (h : Pair d s r f) : ∃ s' r', m_settings_Open (restF d) (f : Int) = some (restF d, some s', 0) ∧ m_ref06_Open (toF (restF d)) (f : Int) = some (toF (restF d), some r', 0) ∧ Pair (restF d) s' r' f :=
  pair_open (restF_ok h.ok) rfl h.size h.first
theorem clone_i {b : List Int} (h : b.length ≤ 1000000) : m_slices_Clone__int_int b = some b := by
  unfold m_slices_Clone__int_int
  rw [app_eq (by simp; omega) (by simp; omega), bnd_some]
  rfl
theorem sameDevice_eq {d : T_Device} (h : OkD d) : m_law06_sameDevice d (toF d) = some (d, toF d, true) := by
  have hw := h.wear
  have hb := h.bound
  unfold m_law06_sameDevice m_flash_Device_Wear m_flash_Device_Down m_flash_Device_Steps
  rw [clone_i (by omega), bnd_some, bnd_some]
  dsimp only
  rw [bnd_some, show (toF d).Down = d.down from rfl, show (toF d).Steps = d.steps from rfl, show (toF d).Wear = d.wear from rfl, cnd_f (by simp), bnd_some, cnd_f (by simp), bnd_some, cnd_f (by simp)]
  refine bnd_loop (fun i => (toF d, (i : Int))) d.wear.length (.inr (toF d)) rfl (fun i hi => ?_) ?_ ?_
  · simp only
    rw [cnd_t (by simp; omega), elt_lt hi, bnd_some, show (toF d).Wear = d.wear from rfl, elt_lt hi, bnd_some, cnd_f (by simp), wrap_succ hi (by omega)]
  · simp only
    rw [cnd_f (by simp)]
  · rw [retOr_inr, read_eq h 0 _ (by omega), bnd_some, show (toF d).Down = d.down from rfl, show (toF d).Data = d.bytes from rfl]
    dsimp only
    cases hd : d.down
    · rw [cond_false]
      have hr : readF d 0 (d.bytes.length : Int) = (d.bytes, 0) := by
        unfold readF
        rw [if_neg (by simp [hd]), if_pos (by omega)]
        simp
      rw [hr, cnd_t (by rfl), sameI (by show d.bytes.length ≤ 1000000; omega), bnd_some, decide_eq_true rfl, bnd_some]
    · rw [cond_true, bnd_some]
end Go.Proofs.YthdpagcklakahaaGreat
end
section
namespace Go.Proofs.YthdpagcklakahaaGreat
open Go
set_option linter.unusedSimpArgs false
set_option linter.unusedVariables false
theorem short_ex (l : List T_Setting) : ∃ b, m_law06_short l = some b ∧ (b = true → l.length ≤ 50) := by
  unfold m_law06_short
  by_cases hl : l.length > 50
  · rw [cnd_t (by simp; omega)]
    exact ⟨false, rfl, fun h => by cases h⟩
  · rw [cnd_f (by simp; omega)]
    refine ⟨_, bnd_loop_any (fun i => (i : Int)) l.length (fun i => decide (((l[i]?.map (·.Value.length)).getD 0 : Nat) > 60)) (.inl false) (.inr ()) rfl (fun i hi => ?_) ?_ (r := some (!(List.range l.length).any (fun i => decide (((l[i]?.map (·.Value.length)).getD 0 : Nat) > 60)))) ?_, fun _ => by omega⟩
    · rw [cnd_t (by simp; omega), elt_lt hi, bnd_some, List.getElem?_eq_getElem hi]
      simp only [Option.map_some, Option.getD_some]
      by_cases hv : l[i].Value.length > 60
      · rw [cnd_t (by simp; omega), cnd_t (by simpa using hv)]
      · rw [cnd_f (by simp; omega), cnd_f (by simpa using hv), wrap_succ hi (by omega)]
    · rw [cnd_f (by simp)]
    · cases (List.range l.length).any (fun i => decide (((l[i]?.map (·.Value.length)).getD 0 : Nat) > 60)) <;> rfl
noncomputable def shortB (l : List T_Setting) : Bool := (m_law06_short l).getD false
theorem short_eq (l : List T_Setting) : m_law06_short l = some (shortB l) ∧ (shortB l = true → l.length ≤ 50) := by
  obtain ⟨b, h1, h2⟩ := short_ex l
  unfold shortB
  rw [h1]
  exact ⟨rfl, h2⟩
noncomputable def heavyB (x : T_Do) : Bool := !shortB x.L || decide (x.Value.length > 60) || decide (x.Seed.length > 80)
theorem light_ex (l : List T_Do) : ∃ b, m_law06_light l = some b ∧ (b = true → l.length ≤ 40 ∧ ∀ x ∈ l, x.L.length ≤ 50 ∧ x.Seed.length ≤ 80) := by
  unfold m_law06_light
  by_cases hl : l.length > 40
  · rw [cnd_t (by simp; omega)]
    exact ⟨false, rfl, fun h => by cases h⟩
  · rw [cnd_f (by simp; omega)]
    refine ⟨_, bnd_loop_any (fun i => (i : Int)) l.length (fun i => (l[i]?.map heavyB).getD false) (.inl false) (.inr ()) rfl (fun i hi => ?_) ?_ (r := some (!(List.range l.length).any (fun i => (l[i]?.map heavyB).getD false))) ?_, fun h => ⟨by omega, fun x hx => ?_⟩⟩
    · rw [cnd_t (by simp; omega), elt_lt hi, bnd_some, (short_eq l[i].L).1, bnd_some, List.getElem?_eq_getElem hi]
      simp only [Option.map_some, Option.getD_some]
      have hc : (bif !shortB l[i].L then (some true) else (bif decide ((l[i].Value.length : Int) > 60) then (some true) else (some (decide ((l[i].Seed.length : Int) > 80)))) : Option Bool) = some (heavyB l[i]) := by
        unfold heavyB
        cases shortB l[i].L
        · rfl
        · simp only [Bool.not_true, cond_false, Bool.false_or]
          by_cases hv : l[i].Value.length > 60
          · rw [cnd_t (by simp; omega), decide_eq_true hv]; rfl
          · rw [cnd_f (by simp; omega), decide_eq_false hv, Bool.false_or]
            congr 1
            rw [decide_eq_decide]
            omega
      rw [hc, bnd_some]
      cases heavyB l[i]
      · rw [cond_false, cond_false, wrap_succ hi (by omega)]
      · rfl
    · rw [cnd_f (by simp)]
    · cases (List.range l.length).any (fun i => (l[i]?.map heavyB).getD false) <;> rfl
    · rw [Bool.not_eq_true', List.any_eq_false] at h
      obtain ⟨i, hi, rfl⟩ := List.mem_iff_getElem.1 hx
      have := h i (List.mem_range.2 hi)
      rw [List.getElem?_eq_getElem hi] at this
      simp only [Option.map_some, Option.getD_some, heavyB, Bool.or_eq_true, Bool.not_eq_true', decide_eq_true_eq, not_or, Bool.not_eq_false] at this
      exact ⟨(short_eq l[i].L).2 this.1.1, by omega⟩
noncomputable def plBlk (s1 : T_Device × T_Flash × T_settings_Store × T_ref06_Store × Int) (x1 : T_Do) : Option (Bool ⊕ (T_settings_Store × T_ref06_Store × Int × Int × T_Flash × T_Device)) :=
  ((bnd (m_made_Mod x1.Kind 6) fun r10 => bif (r10 == 0) then (bnd (m_settings_Store_Update s1.2.2.1 x1.L s1.1) fun r11 => bnd (m_ref06_Store_Update s1.2.2.2.1 x1.L s1.2.1) fun r12 => some (.inr (r11.1, r12.1, r11.2.2, r12.2.2, r12.2.1, r11.2.1))) else (bif (r10 == 1) then (bnd (m_settings_Store_Put s1.2.2.1 x1.Key x1.Value s1.1) fun r13 => bnd (m_ref06_Store_Update s1.2.2.2.1 ([(⟨x1.Key, x1.Value, false⟩ : T_Setting)]) s1.2.1) fun r14 => some (.inr (r13.1, r14.1, r13.2.2, r14.2.2, r14.2.1, r13.2.1))) else (bif (r10 == 2) then (bnd (m_settings_Store_Delete s1.2.2.1 x1.Key s1.1) fun r15 => bnd (m_ref06_Store_Update s1.2.2.2.1 ([(⟨x1.Key, [], true⟩ : T_Setting)]) s1.2.1) fun r16 => some (.inr (r15.1, r16.1, r15.2.2, r16.2.2, r16.2.1, r15.2.1))) else (bif (r10 == 3) then (bnd (m_flash_Device_Arm s1.1 (x1.N.tmod 400) x1.Torn) fun r17 => bnd (m_ref05_Flash_Arm s1.2.1 (x1.N.tmod 400) x1.Torn) fun r18 => some (.inr (s1.2.2.1, s1.2.2.2.1, 0, 0, r18, r17))) else (bif (r10 == 4) then (bnd (m_flash_Device_Restore s1.1) fun r19 => bnd (m_ref05_Flash_Restore s1.2.1) fun r20 => bnd (m_settings_Open r19 0) fun r21 => optM r21.2.1 (bnd (m_ref06_Open r20 0) fun r22 => optM r22.2.1 (some (.inl false)) (fun q9 => some (.inl false))) (fun q8 => bnd (m_ref06_Open r20 0) fun r23 => optM r23.2.1 (none) (fun q10 => some (.inr (q8, q10, r21.2.2, r23.2.2, r23.1, r21.1))))) else (bnd (m_made_Roll x1.Seed) fun r24 => bnd (m_made_Dice_Settings r24 12) fun r25 => bnd (m_settings_Store_Update s1.2.2.1 r25.2 s1.1) fun r26 => bnd (m_ref06_Store_Update s1.2.2.2.1 r25.2 s1.2.1) fun r27 => some (.inr (r26.1, r27.1, r26.2.2, r27.2.2, r27.2.1, r26.2.1))))))) : Option (Bool ⊕ (T_settings_Store × T_ref06_Store × Int × Int × T_Flash × T_Device))))
noncomputable def plStep (l_p0 : List T_Do) : T_Device × T_Flash × T_settings_Store × T_ref06_Store × Int → Option (Step (T_Device × T_Flash × T_settings_Store × T_ref06_Store × Int) (Bool ⊕ (T_Device × T_Flash))) :=
  (fun (s1 : T_Device × T_Flash × T_settings_Store × T_ref06_Store × Int) => bif decide (s1.2.2.2.2 < (l_p0.length : Int)) then (bnd (elt l_p0 s1.2.2.2.2) fun x1 => bnd ((bnd (m_made_Mod x1.Kind 6) fun r10 => bif (r10 == 0) then (bnd (m_settings_Store_Update s1.2.2.1 x1.L s1.1) fun r11 => bnd (m_ref06_Store_Update s1.2.2.2.1 x1.L s1.2.1) fun r12 => some (.inr (r11.1, r12.1, r11.2.2, r12.2.2, r12.2.1, r11.2.1))) else (bif (r10 == 1) then (bnd (m_settings_Store_Put s1.2.2.1 x1.Key x1.Value s1.1) fun r13 => bnd (m_ref06_Store_Update s1.2.2.2.1 ([(⟨x1.Key, x1.Value, false⟩ : T_Setting)]) s1.2.1) fun r14 => some (.inr (r13.1, r14.1, r13.2.2, r14.2.2, r14.2.1, r13.2.1))) else (bif (r10 == 2) then (bnd (m_settings_Store_Delete s1.2.2.1 x1.Key s1.1) fun r15 => bnd (m_ref06_Store_Update s1.2.2.2.1 ([(⟨x1.Key, [], true⟩ : T_Setting)]) s1.2.1) fun r16 => some (.inr (r15.1, r16.1, r15.2.2, r16.2.2, r16.2.1, r15.2.1))) else (bif (r10 == 3) then (bnd (m_flash_Device_Arm s1.1 (x1.N.tmod 400) x1.Torn) fun r17 => bnd (m_ref05_Flash_Arm s1.2.1 (x1.N.tmod 400) x1.Torn) fun r18 => some (.inr (s1.2.2.1, s1.2.2.2.1, 0, 0, r18, r17))) else (bif (r10 == 4) then (bnd (m_flash_Device_Restore s1.1) fun r19 => bnd (m_ref05_Flash_Restore s1.2.1) fun r20 => bnd (m_settings_Open r19 0) fun r21 => optM r21.2.1 (bnd (m_ref06_Open r20 0) fun r22 => optM r22.2.1 (some (.inl false)) (fun q9 => some (.inl false))) (fun q8 => bnd (m_ref06_Open r20 0) fun r23 => optM r23.2.1 (none) (fun q10 => some (.inr (q8, q10, r21.2.2, r23.2.2, r23.1, r21.1))))) else (bnd (m_made_Roll x1.Seed) fun r24 => bnd (m_made_Dice_Settings r24 12) fun r25 => bnd (m_settings_Store_Update s1.2.2.1 r25.2 s1.1) fun r26 => bnd (m_ref06_Store_Update s1.2.2.2.1 r25.2 s1.2.1) fun r27 => some (.inr (r26.1, r27.1, r26.2.2, r27.2.2, r27.2.1, r26.2.1))))))) : Option (Bool ⊕ (T_settings_Store × T_ref06_Store × Int × Int × T_Flash × T_Device)))) fun o3 => retOrW (fun r_ => (.done (.inl r_))) o3 fun o4 => bnd ((bif (o4.2.2.1 != o4.2.2.2.1) then (some (true, o4.2.2.2.2.1, o4.2.2.2.2.2)) else (bnd (m_law06_same o4.1 o4.2.1 x1.Key o4.2.2.2.2.2 o4.2.2.2.2.1) fun r28 => bif !r28 then (some (true, o4.2.2.2.2.1, o4.2.2.2.2.2)) else (bnd (m_law06_sameDevice o4.2.2.2.2.2 o4.2.2.2.2.1) fun r29 => some (!r29.2.2, r29.2.1, r29.1))) : Option (Bool × T_Flash × T_Device))) fun o5 => bif o5.1 then (some (.done (.inl false))) else (some (.next (o5.2.2, o5.2.1, o4.1, o4.2.1, IntKind.wrap .i64 (s1.2.2.2.2 + 1))))) else (some (.done (.inr (s1.1, s1.2.1)))))
theorem tm400 {x : Int} : x.tmod 400 ≤ 9223372036854775807 := by
  have := Int.tmod_lt_of_pos x (b := 400) (by omega)
  omega
theorem pl_blk {d : T_Device} {s : T_settings_Store} {r : T_ref06_Store} (h : Pair d s r 0) (i : Int) {x : T_Do} (hx : ok_T_Do x) (hL : x.L.length ≤ 50) (hS : x.Seed.length ≤ 80) :
    ∃ s' r' e d', plBlk (d, toF d, s, r, i) x = some (.inr (s', r', e, e, toF d', d')) ∧ Pair d' s' r' 0 := by
  obtain ⟨hkind, hn, htorn, hkey, hval, hlist, hseed⟩ := hx
  have htn : 0 ≤ x.Torn ∧ x.Torn ≤ 255 := htorn
  have hkk : 0 ≤ x.Key ∧ x.Key ≤ 255 := hkey
  obtain ⟨m, e, m0, m6, _⟩ := mod_some x.Kind 6 (by omega) (by omega)
  unfold plBlk
  rw [e, bnd_some]
  dsimp only
  have hU : ∀ l : List T_Setting, okU l → ∀ w : T_settings_Store × T_ref06_Store × Int × Int × T_Flash × T_Device → T_settings_Store × T_ref06_Store × Int × Int × T_Flash × T_Device, True := fun _ _ _ => trivial
  by_cases h0 : m = 0
  · rw [cnd_t (by simpa using h0)]
    have ho : okU x.L := ⟨by omega, fun y hy => by
      obtain ⟨k1, k2, _⟩ := hlist.1 y hy
      have k1' : 0 ≤ y.Key ∧ y.Key ≤ 255 := k1
      exact ⟨k1'.1, k1'.2, fun z hz => k2.1 z hz⟩⟩
    obtain ⟨s', r', d', q, a1, a2, a3, _⟩ := h.upd ho
    rw [a1, bnd_some, a2, bnd_some]
    exact ⟨s', r', q, d', rfl, a3⟩
  rw [cnd_f (by simpa using h0)]
  by_cases h1 : m = 1
  · rw [cnd_t (by simpa using h1)]
    have ho : okU [⟨x.Key, x.Value, false⟩] := ⟨by simp, fun y hy => by
      rw [List.mem_singleton] at hy
      subst hy
      exact ⟨hkk.1, hkk.2, fun z hz => hval.1 z hz⟩⟩
    obtain ⟨s', r', d', q, a1, a2, a3, _⟩ := h.upd ho
    rw [put_eq, a1, bnd_some, a2, bnd_some]
    exact ⟨s', r', q, d', rfl, a3⟩
  rw [cnd_f (by simpa using h1)]
  by_cases h2 : m = 2
  · rw [cnd_t (by simpa using h2)]
    have ho : okU [⟨x.Key, [], true⟩] := ⟨by simp, fun y hy => by
      rw [List.mem_singleton] at hy
      subst hy
      exact ⟨hkk.1, hkk.2, rng.nil⟩⟩
    obtain ⟨s', r', d', q, a1, a2, a3, _⟩ := h.upd ho
    have hd : m_settings_Store_Delete s x.Key d = some (s', d', q) := by
      unfold m_settings_Store_Delete
      rw [a1, bnd_some]
    rw [hd, bnd_some, a2, bnd_some]
    exact ⟨s', r', q, d', rfl, a3⟩
  rw [cnd_f (by simpa using h2)]
  by_cases h3 : m = 3
  · rw [cnd_t (by simpa using h3), arm_eq, bnd_some, refArm_eq, bnd_some]
    exact ⟨s, r, 0, _, rfl, h.arm tm400 htn⟩
  rw [cnd_f (by simpa using h3)]
  by_cases h4 : m = 4
  · obtain ⟨s', r', a1, a2, a3⟩ := h.again
    rw [cnd_t (by simpa using h4), rest_eq, bnd_some, refRest_eq, bnd_some, show m_settings_Open (restF d) 0 = _ from a1, bnd_some]
    show ∃ s' r' e d', bnd (m_ref06_Open (toF (restF d)) 0) _ = _ ∧ _
    rw [show m_ref06_Open (toF (restF d)) 0 = _ from a2, bnd_some]
    exact ⟨s', r', 0, restF d, rfl, a3⟩
  rw [cnd_f (by simpa using h4)]
  unfold m_made_Roll
  rw [bnd_some]
  obtain ⟨c, b1, b2, b3, b4⟩ := settings_ex ⟨x.Seed, 0⟩ 12 (roll_fair x.Seed (by omega)) (by omega)
  obtain ⟨s', r', d', q, a1, a2, a3, _⟩ := h.upd (b4.okU (by omega) (by omega))
  rw [b1, bnd_some, a1, bnd_some, a2, bnd_some]
  exact ⟨s', r', q, d', rfl, a3⟩
theorem pl_step {l : List T_Do} (hl : l.length ≤ 40) (hx : ∀ x ∈ l, ok_T_Do x ∧ x.L.length ≤ 50 ∧ x.Seed.length ≤ 80) {d : T_Device} {s : T_settings_Store} {r : T_ref06_Store} (h : Pair d s r 0) {i : Nat} (hi : i < l.length) :
    ∃ s' r' d', plStep l (d, toF d, s, r, (i : Int)) = some (.next (d', toF d', s', r', ((i + 1 : Nat) : Int))) ∧ Pair d' s' r' 0 := by
  obtain ⟨x1, x2, x3⟩ := hx l[i] (List.getElem_mem hi)
  obtain ⟨s', r', e, d', a1, a2⟩ := pl_blk h (i : Int) x1 x2 x3
  refine ⟨s', r', d', ?_, a2⟩
  unfold plBlk at a1
  unfold plStep
  dsimp only at a1 ⊢
  rw [cnd_t (by simp; omega), elt_lt hi, bnd_some, a1, bnd_some]
  show bnd _ _ = _
  dsimp only
  rw [cnd_f (by simp), a2.same, bnd_some, cnd_f (by rfl), sameDevice_eq a2.ok, bnd_some]
  dsimp only
  rw [bnd_some, cnd_f (by rfl), wrap_succ hi (by omega)]
theorem pl_loop {l : List T_Do} (hl : l.length ≤ 40) (hx : ∀ x ∈ l, ok_T_Do x ∧ x.L.length ≤ 50 ∧ x.Seed.length ≤ 80) : ∀ (n i : Nat), i + n = l.length → ∀ {d : T_Device} {s : T_settings_Store} {r : T_ref06_Store}, Pair d s r 0 →
    ∃ d', loopM (plStep l) (d, toF d, s, r, (i : Int)) = some (.inr (d', toF d'))
  | 0, i, h, d, s, r, hp => by
    refine ⟨d, loop_done ?_⟩
    unfold plStep
    dsimp only
    rw [cnd_f (by simp; omega)]
  | n + 1, i, h, d, s, r, hp => by
    obtain ⟨s', r', d', a1, a2⟩ := pl_step hl hx hp (i := i) (by omega)
    obtain ⟨d2, h2⟩ := pl_loop hl hx n (i + 1) (by omega) a2
    exact ⟨d2, loop_next a1 h2⟩
theorem plays_true (l : List T_Do) (hl : okL ok_T_Do l) : m_law06_SettingsPlays l = some true := by
  obtain ⟨b, h1, h2⟩ := light_ex l
  unfold m_law06_SettingsPlays
  rw [h1, bnd_some]
  cases b
  · rw [cnd_t (by rfl), awake_ok, bnd_some]
  · obtain ⟨h3, h4⟩ := h2 rfl
    have hok := newD_ok (n := 3) (m := 1024) (by omega) (by omega)
    obtain ⟨s, r, e1, e2, hp⟩ := pair_open hok rfl (by show (1024 : Int) ≤ 1024; omega) (f := 0) (by show 0 + 1 < (List.replicate 3 (0 : Int)).length; simp)
    have hR : m_ref05_New 3 1024 = some (some (toF (newD 3 1024)), 0) := refNew_eq (n := 3) (m := 1024) (by omega) (by omega)
    have e1' : m_settings_Open (newD 3 1024) 0 = some (newD 3 1024, some s, 0) := e1
    have e2' : m_ref06_Open (toF (newD 3 1024)) 0 = some (toF (newD 3 1024), some r, 0) := e2
    obtain ⟨d', h5⟩ := pl_loop h3 (fun x hx => ⟨hl.1 x hx, h4 x hx⟩) l.length 0 (by omega) hp
    have h5' : loopM (plStep l) (newD 3 1024, toF (newD 3 1024), s, r, 0) = some (.inr (d', toF d')) := h5
    rw [cnd_f (by rfl), device_eq, bnd_some]
    generalize newD 3 1024 = D at hR e1' e2' h5'
    show bnd (m_ref05_New 3 1024) _ = _
    rw [hR, bnd_some]
    show bnd (m_settings_Open D 0) _ = _
    rw [e1', bnd_some]
    show bnd (m_ref06_Open (toF D) 0) _ = _
    rw [e2', bnd_some]
    show bnd (loopM (plStep l) (D, toF D, s, r, 0)) (fun o1 => retOr o1 fun o2 => bnd (m_law06_awake) fun r30 => some r30) = _
    rw [h5', bnd_some, retOr_inr, awake_ok, bnd_some]
end Go.Proofs.YthdpagcklakahaaGreat
end
