/-
  The law of inventories as settings.
  Conditions: none.
-/
import Derived.Test.YtnolaefjmjgfbaaInvLaw1
import Derived.Test.YtnolaefjmjgfbaaPureC
namespace Go.Proofs.Ytnolaefjmjgfbaa
open Go
set_option linter.unusedSimpArgs false
set_option linter.unusedVariables false

/-! ## Dice -/

theorem bool_ex (d : T_Dice) (n : Int) (hd : Fair d) (hn : 0 < n) (hb : n ≤ 4611686018427387904) : ∃ x, m_made_Dice_Bool d n = some x ∧ Fair x.1 := by
  obtain ⟨d', r, h, k⟩ := bool_some d n hd hn hb
  exact ⟨_, h, k⟩
theorem next_ex (d : T_Dice) (n : Int) (hd : Fair d) (hn : 0 < n) (hb : n ≤ 4611686018427387904) : ∃ x, m_made_Dice_Next d n = some x ∧ Fair x.1 ∧ 0 ≤ x.2 ∧ x.2 < n := by
  obtain ⟨d', r, h, k⟩ := next_some d n hd hn hb
  exact ⟨_, h, k⟩

/-- A byte. -/
theorem byte_ex (d : T_Dice) (hd : Fair d) : ∃ x, m_made_Dice_Byte d = some x ∧ Fair x.1 ∧ ∃ n : Nat, n < 256 ∧ x.2 = (n : Int) := by
  unfold m_made_Dice_Byte
  refine bnd_ex (bool_ex d 3 hd (by omega) (by omega)) fun a ha => ?_
  cases a.2
  · rw [cond_false]
    refine bnd_ex (next_ex a.1 256 ha (by omega) (by omega)) fun c ⟨h1, h2, h3⟩ => ?_
    refine ⟨_, rfl, h1, c.2.toNat, by omega, ?_⟩
    show IntKind.wrap .u8 c.2 = _
    rw [wrap_u8 (by omega) (by omega)]
    omega
  · rw [cond_true]
    refine bnd_ex (next_ex a.1 8 ha (by omega) (by omega)) fun c ⟨h1, h2, h3⟩ => ?_
    obtain ⟨k, hk⟩ : ∃ k : Nat, c.2 = (k : Int) := ⟨c.2.toNat, by omega⟩
    have hk8 : k < 8 := by omega
    have he : ∀ k : Nat, k < 8 → elt ([0, 1, 127, 128, 254, 255, 15, 240] : List Int) (k : Int) = some ((([0, 1, 127, 128, 254, 255, 15, 240] : List Nat).getD k 0 : Nat) : Int) ∧ ([0, 1, 127, 128, 254, 255, 15, 240] : List Nat).getD k 0 < 256 := by decide +kernel
    rw [hk, (he k hk8).1, bnd_some]
    exact ⟨_, rfl, h1, _, (he k hk8).2, rfl⟩

/-- Some bytes. -/
theorem bytes_ex (d : T_Dice) (n : Int) (hd : Fair d) (hn : 0 ≤ n) (hb : n ≤ 1000) : ∃ x, m_made_Dice_Bytes d n = some x ∧ Fair x.1 ∧ ∃ l : List Nat, lt256 l ∧ (l.length : Int) ≤ n ∧ x.2 = iz l := by
  unfold m_made_Dice_Bytes
  rw [wrap_i64 (by omega) (by omega)]
  refine bnd_ex (next_ex d (n + 1) hd (by omega) (by omega)) fun a ⟨h1, h2, h3⟩ => ?_
  refine bnd_loop_inv (fun s => Fair ⟨s.2.2.1, s.2.2.2⟩ ∧ 0 ≤ s.2.1 ∧ ∃ l : List Nat, lt256 l ∧ (l.length : Int) + s.2.1 ≤ n ∧ s.1 = iz l) (fun s => s.2.1.toNat) (fun t => Fair ⟨t.2.1, t.2.2⟩ ∧ ∃ l : List Nat, lt256 l ∧ (l.length : Int) ≤ n ∧ t.1 = iz l)
    ⟨h1, h2, [], lt256.nil, by simp; omega, rfl⟩ (fun s ⟨i1, i2, l, i3, i4, i5⟩ => ?_) (fun t ⟨t1, l, t2, t3, t4⟩ => ⟨_, rfl, t1, l, t2, t3, t4⟩)
  by_cases hs : s.2.1 > 0
  · rw [decide_eq_true hs, cond_true]
    obtain ⟨x, hx, hf, b, hb256, hbe⟩ := byte_ex ⟨s.2.2.1, s.2.2.2⟩ i1
    have ha : app 1 s.1 [x.2] = some (iz (l ++ [b])) := by
      rw [i5, hbe]
      have := app_iz (l := l) (m := [b]) (b := 1) (by simp; omega) (by simp; omega)
      rw [iz_cons, iz_nil] at this
      exact this
    rw [hx, bnd_some, ha, bnd_some, wrap_i64 (by omega) (by omega)]
    refine .inl ⟨_, rfl, ⟨hf, by show 0 ≤ s.2.1 - 1; omega, l ++ [b], i3.app (lt256.cons hb256 lt256.nil), ?_, rfl⟩, ?_⟩
    · simp; omega
    · show (s.2.1 - 1).toNat < s.2.1.toNat
      omega
  · rw [decide_eq_false hs, cond_false]
    exact .inr ⟨_, rfl, i1, l, i3, by omega, i5⟩

theorem bnd_eq_ex {α β : Type} {x : Option α} {f : α → Option β} {a : α} {R : β → Prop} (h : x = some a) (k : ∃ r, f a = some r ∧ R r) : ∃ r, bnd x f = some r ∧ R r := by rw [h]; exact k

/-! ## Bytes -/

theorem iShl_u32 {a s : Nat} (hs : s ≤ 32) (h : a * 2 ^ s < 4294967296) : iShl .u32 (a : Int) (s : Int) = ((a * 2 ^ s : Nat) : Int) := by
  unfold iShl
  have : min (s : Int).toNat (IntKind.bits .u32) = s := by show min (s : Int).toNat 32 = s; omega
  rw [this]
  have e : ((a : Int) * 2 ^ s) = ((a * 2 ^ s : Nat) : Int) := by simp
  rw [e, wrap_u32n h]
theorem or4 {x y z t : Nat} (hx : x < 256) (hy : y < 256) (hz : z < 256) (ht : t < 256) : iOr .u32 (iOr .u32 (iOr .u32 (IntKind.wrap .u32 (x : Int)) (iShl .u32 (IntKind.wrap .u32 (y : Int)) 8)) (iShl .u32 (IntKind.wrap .u32 (z : Int)) 16)) (iShl .u32 (IntKind.wrap .u32 (t : Int)) 24) = ((x + y * 256 + z * 65536 + t * 16777216 : Nat) : Int) := by
  rw [wrap_u32n (by omega), wrap_u32n (by omega), wrap_u32n (by omega), wrap_u32n (by omega), show (8 : Int) = ((8 : Nat) : Int) from rfl, show (16 : Int) = ((16 : Nat) : Int) from rfl, show (24 : Int) = ((24 : Nat) : Int) from rfl, iShl_u32 (by omega) (by omega), iShl_u32 (by omega) (by omega), iShl_u32 (by omega) (by omega), iOr_u32 (by omega) (by omega), or_add (s := 8) (by omega), iOr_u32 (by omega) (by omega), or_add (s := 16) (by omega), iOr_u32 (by omega) (by omega), or_add (s := 24) (by omega)]

theorem number4 {x y z t : Nat} (hx : x < 256) (hy : y < 256) (hz : z < 256) (ht : t < 256) : m_ref01_Number (iz [x, y, z, t]) = some ((x + y * 256 + z * 65536 + t * 16777216 : Nat) : Int) := by
  unfold m_ref01_Number
  have hstep : ∀ (a b c : Nat), a < 16777216 → b < 256 → c = b + a * 256 → IntKind.wrap .u64 ((IntKind.wrap .u64 (256 * ((a : Nat) : Int))) + (IntKind.wrap .u64 ((b : Nat) : Int))) = ((c : Nat) : Int) := fun a b c ha hb hc => by
    rw [wrap_u64 (x := 256 * ((a : Nat) : Int)) (by omega) (by omega), wrap_u64n (n := b) (by omega), wrap_u64 (by omega) (by omega)]
    omega
  obtain ⟨v2, e2⟩ : ∃ v, v = z + t * 256 := ⟨_, rfl⟩
  obtain ⟨v3, e3⟩ : ∃ v, v = y + v2 * 256 := ⟨_, rfl⟩
  obtain ⟨v4, e4⟩ : ∃ v, v = x + v3 * 256 := ⟨_, rfl⟩
  rw [show x + y * 256 + z * 65536 + t * 16777216 = v4 by omega]
  have s1 := hstep 0 t t (by omega) ht (by omega)
  have s2 := hstep t z v2 (by omega) hz (by omega)
  have s3 := hstep v2 y v3 (by omega) hy (by omega)
  have s4 := hstep v3 x v4 (by omega) hx (by omega)
  refine bnd_loop (fun i => ((([0, t, v2, v3, v4].getD i 0 : Nat) : Int), (3 : Int) - (i : Int))) 4 ((v4 : Nat) : Int) rfl (fun i hi => ?_) rfl rfl
  have h3 : i = 0 ∨ i = 1 ∨ i = 2 ∨ i = 3 := by omega
  rcases h3 with rfl | rfl | rfl | rfl
  · show some (Step.next (IntKind.wrap .u64 ((IntKind.wrap .u64 (256 * ((0 : Nat) : Int))) + (IntKind.wrap .u64 ((t : Nat) : Int))), _)) = _
    rw [s1]
    rfl
  · show some (Step.next (IntKind.wrap .u64 ((IntKind.wrap .u64 (256 * ((t : Nat) : Int))) + (IntKind.wrap .u64 ((z : Nat) : Int))), _)) = _
    rw [s2]
    rfl
  · show some (Step.next (IntKind.wrap .u64 ((IntKind.wrap .u64 (256 * ((v2 : Nat) : Int))) + (IntKind.wrap .u64 ((y : Nat) : Int))), _)) = _
    rw [s3]
    rfl
  · show some (Step.next (IntKind.wrap .u64 ((IntKind.wrap .u64 (256 * ((v3 : Nat) : Int))) + (IntKind.wrap .u64 ((x : Nat) : Int))), _)) = _
    rw [s4]
    rfl

theorem little4 (m : Nat) (h : m < 4294967296) : m_ref01_Little (m : Int) 4 = some (iz [m % 256, m / 256 % 256, m / 65536 % 256, m / 16777216 % 256]) := by
  unfold m_ref01_Little
  refine bnd_loop (fun i => (((m / 256 ^ i : Nat) : Int), iz (([m % 256, m / 256 % 256, m / 65536 % 256, m / 16777216 % 256] : List Nat).take i), (i : Int))) 4 (iz [m % 256, m / 256 % 256, m / 65536 % 256, m / 16777216 % 256]) (by simp) (fun i hi => ?_) ?_ rfl
  · dsimp only
    rw [decide_eq_true (by omega : (i : Int) < 4), cond_true, show (256 : Int) = ((256 : Nat) : Int) from rfl, tmod_n, tdiv_n, wrap_u8n (Nat.mod_lt _ (by omega))]
    refine bnd_eq (app2 (by rw [List.length_take]; simp; omega) _) ?_
    have hq : m / 256 ^ i / 256 = m / 256 ^ (i + 1) := by rw [Nat.div_div_eq_div_mul, Nat.pow_succ]
    have hq2 : m / 256 ^ (i + 1) ≤ m := Nat.div_le_self _ _
    rw [hq, wrap_u64n (by omega), wrap_succ hi (by omega)]
    have h3 : i = 0 ∨ i = 1 ∨ i = 2 ∨ i = 3 := by omega
    rcases h3 with rfl | rfl | rfl | rfl <;> simp
  · dsimp only
    rw [decide_eq_false (by omega : ¬ ((4 : Nat) : Int) < 4), cond_false]
    rfl

theorem copyJ {l : List Int} (hl : l.length ≤ 1000000) : m_ref01_Copy l = some l := by
  unfold m_ref01_Copy
  refine bnd_loop (fun i => (l.take i, (i : Int))) l.length l rfl (fun i hi => ?_) ?_ rfl
  · dsimp only
    rw [decide_eq_true (by omega : (i : Int) < (l.length : Int)), cond_true, elt_lt hi, bnd_some, app_eq (by rw [List.length_take]; simp; omega) (by rw [List.length_take]; simp; omega), bnd_some, take_succ_get hi, wrap_succ hi (by omega)]
  · dsimp only
    rw [decide_eq_false (by omega : ¬ (l.length : Int) < (l.length : Int)), cond_false, List.take_length]

theorem sameJ {l : List Int} (hl : l.length ≤ 1000000) : m_ref01_Same l l = some true := by
  unfold m_ref01_Same
  rw [bne_self_eq_false, cond_false]
  refine bnd_loop (fun i => (i : Int)) l.length (.inr ()) rfl (fun i hi => ?_) ?_ rfl
  · rw [decide_eq_true (by omega : (i : Int) < (l.length : Int)), cond_true, elt_lt hi, bnd_some, bnd_some, bne_self_eq_false, cond_false, wrap_succ hi (by omega)]
  · rw [decide_eq_false (by omega : ¬ (l.length : Int) < (l.length : Int))]
    rfl

/-! ## Settings -/

structure OkT (x : T_Setting) : Prop where
  key : 0 ≤ x.Key ∧ x.Key ≤ 255
  val : ∃ m, x.Value = iz m ∧ lt256 m ∧ m.length ≤ 1000
theorem OkT.len {x : T_Setting} (h : OkT x) : x.Value.length ≤ 1000 := by
  obtain ⟨m, h1, _, h2⟩ := h.val
  rw [h1, iz_len]
  exact h2

theorem copyT {l : List T_Setting} (hl : l.length ≤ 1000) (h : ∀ x ∈ l, OkT x) : m_ref06_Copy l = some l := by
  unfold m_ref06_Copy
  refine bnd_loop (fun i => (l.take i, (i : Int))) l.length l rfl (fun i hi => ?_) ?_ rfl
  · have hx := (h _ (List.getElem_mem hi)).len
    dsimp only
    rw [decide_eq_true (by omega : (i : Int) < (l.length : Int)), cond_true, elt_lt hi, bnd_some, copyJ (by omega), bnd_some, app_eq (by rw [List.length_take]; simp; omega) (by rw [List.length_take]; simp; omega), bnd_some, take_succ_get hi, wrap_succ hi (by omega)]
  · dsimp only
    rw [decide_eq_false (by omega : ¬ (l.length : Int) < (l.length : Int)), cond_false, List.take_length]

theorem sameT {l : List T_Setting} (hl : l.length ≤ 1000) (h : ∀ x ∈ l, OkT x) : m_ref06_Same l l = some true := by
  unfold m_ref06_Same
  rw [bne_self_eq_false, cond_false]
  refine bnd_loop (fun i => (i : Int)) l.length (.inr ()) rfl (fun i hi => ?_) ?_ rfl
  · have hx := (h _ (List.getElem_mem hi)).len
    rw [decide_eq_true (by omega : (i : Int) < (l.length : Int)), cond_true, elt_lt hi, bnd_some, bnd_some, bne_self_eq_false, cond_false, BEq.rfl, Bool.not_true, cond_false, sameJ (by omega), bnd_some, Bool.not_true, bnd_some, cond_false, wrap_succ hi (by omega)]
  · rw [decide_eq_false (by omega : ¬ (l.length : Int) < (l.length : Int))]
    rfl

/-! ## Save -/

def valK (k : T_Known) : List Nat := [bif k.Good then 1 else 0, k.Sum.toNat % 256, k.Sum.toNat / 256 % 256, k.Sum.toNat / 65536 % 256, k.Sum.toNat / 16777216 % 256] ++ bs k.Serial
def saveS (l : List T_Known) (s : Nat) : T_Setting := bif (atS l s).2 then ⟨((16 + s : Nat) : Int), iz (valK (atS l s).1), false⟩ else ⟨((16 + s : Nat) : Int), [], true⟩
def saveL (l : List T_Known) : List T_Setting × Int := bif validB l then ((List.range 16).map (saveS l), 0) else ([], 1)

def SumR (l : List T_Known) : Prop := ∀ x ∈ l, 0 ≤ x.Sum ∧ x.Sum ≤ 4294967295

theorem save_eq (l : List T_Known) (i : Nat) : saveS l i = bif (atS l (i : Int)).2 then ⟨((16 + i : Nat) : Int), iz (valK (atS l (i : Int)).1), false⟩ else ⟨((16 + i : Nat) : Int), [], true⟩ := rfl
theorem take_map_succ (f : Nat → T_Setting) {i : Nat} (h : i < 16) : ((List.range 16).map f).take (i + 1) = ((List.range 16).map f).take i ++ [f i] := by
  rw [take_succ_get (by simpa using h)]
  simp

theorem at_facts {l : List T_Known} (hv : validB l = true) (hs : SumR l) {s : Int} (h : (atS l s).2 = true) : (atS l s).1.Serial.size ≤ 23 ∧ 0 ≤ (atS l s).1.Sum ∧ (atS l s).1.Sum ≤ 4294967295 := by
  have hm := atS_mem h
  refine ⟨?_, hs _ hm⟩
  obtain ⟨i, hi, he⟩ := List.mem_iff_getElem.1 hm
  have h1 : badAt l i = false := by
    unfold validB at hv
    rw [Bool.not_eq_true', List.any_eq_false] at hv
    simpa using hv i (List.mem_range.2 hi)
  unfold badAt at h1
  rw [List.getElem?_eq_getElem hi, he] at h1
  simp only [Bool.or_eq_false_iff, decide_eq_false_iff_not] at h1
  have := h1.2.2.2.1
  omega

theorem key_wrap {i : Nat} (h : i < 16) : IntKind.wrap .u8 (IntKind.wrap .i64 (16 + (i : Int))) = ((16 + i : Nat) : Int) := by
  rw [wrap_i64 (by omega) (by omega), wrap_u8 (by omega) (by omega)]
  omega

theorem val_len (k : T_Known) : (valK k).length = 5 + k.Serial.size := by
  unfold valK
  rw [List.length_append, bs_len]
  rfl
theorem val_lt (k : T_Known) : lt256 (valK k) := by
  refine lt256.app ?_ (bs_lt _)
  refine .cons ?_ (.cons (Nat.mod_lt _ (by omega)) (.cons (Nat.mod_lt _ (by omega)) (.cons (Nat.mod_lt _ (by omega)) (.cons (Nat.mod_lt _ (by omega)) .nil))))
  cases k.Good <;> decide

theorem save_prog {l : List T_Known} (hl : Short l) (hs : SumR l) : m_inventory_Save l = some (saveL l) := by
  unfold m_inventory_Save saveL
  rw [prog_valid l hl, bnd_some]
  cases hv : validB l
  · rfl
  rw [Bool.not_true, cond_false, cond_true]
  refine bnd_loop (fun i => (((List.range 16).map (saveS l)).take i, (i : Int))) 16 ((List.range 16).map (saveS l)) rfl (fun i hi => ?_) rfl rfl
  have happ : ∀ k : T_Setting, app 40 (((List.range 16).map (saveS l)).take i) [k] = some (((List.range 16).map (saveS l)).take i ++ [k]) := fun k => app_eq (by rw [List.length_take]; simp; omega) (by rw [List.length_take]; simp; omega)
  dsimp only
  rw [decide_eq_true (by omega : (i : Int) < 16), cond_true, prog_at l _ hl, bnd_some, take_map_succ _ hi, key_wrap hi, wrap_succ hi (by omega)]
  rw [save_eq]
  cases ha : (atS l (i : Int)).2
  · rw [cond_false, happ, bnd_some]
    rfl
  · obtain ⟨a1, a2, a3⟩ := at_facts hv hs ha
    rw [cond_true, cond_true]
    obtain ⟨m, hm⟩ : ∃ m : Nat, (atS l (i : Int)).1.Sum = (m : Int) := ⟨(atS l (i : Int)).1.Sum.toNat, by omega⟩
    refine bnd_eq (a := ((bif (atS l (i : Int)).1.Good then 1 else 0 : Nat) : Int)) (by cases (atS l (i : Int)).1.Good <;> rfl) ?_
    rw [hm, wrap_u8_modn, show (8 : Int) = ((8 : Nat) : Int) from rfl, show (16 : Int) = ((16 : Nat) : Int) from rfl, show (24 : Int) = ((24 : Nat) : Int) from rfl, iShr_n (by decide), iShr_n (by decide), iShr_n (by decide), wrap_u8_modn, wrap_u8_modn, wrap_u8_modn, bytesOf_iz]
    have hv2 : valK (atS l (i : Int)).1 = [bif (atS l (i : Int)).1.Good then 1 else 0, m % 256, m / 2 ^ 8 % 256, m / 2 ^ 16 % 256, m / 2 ^ 24 % 256] ++ bs (atS l (i : Int)).1.Serial := by
      unfold valK
      rw [hm]
      rfl
    refine bnd_eq (app_iz (l := [bif (atS l (i : Int)).1.Good then 1 else 0, m % 256, m / 2 ^ 8 % 256, m / 2 ^ 16 % 256, m / 2 ^ 24 % 256]) (m := bs (atS l (i : Int)).1.Serial) (b := 1) (by rw [bs_len]; simp; omega) (by rw [bs_len]; simp; omega)) ?_
    rw [← hv2, happ, bnd_some]

theorem save_ref {l : List T_Known} (hl : Short l) (hs : SumR l) : m_ref19_Save l = some (saveL l) := by
  unfold m_ref19_Save saveL
  rw [ref_valid l hl, bnd_some]
  cases hv : validB l
  · rfl
  rw [Bool.not_true, cond_false, cond_true]
  refine bnd_loop (fun i => (((List.range 16).map (saveS l)).take i, (i : Int))) 16 ((List.range 16).map (saveS l)) rfl (fun i hi => ?_) rfl rfl
  have happ : ∀ k : T_Setting, app 40 (((List.range 16).map (saveS l)).take i) [k] = some (((List.range 16).map (saveS l)).take i ++ [k]) := fun k => app_eq (by rw [List.length_take]; simp; omega) (by rw [List.length_take]; simp; omega)
  dsimp only
  rw [decide_eq_true (by omega : (i : Int) < 16), cond_true, ref_at l _ hl, bnd_some, take_map_succ _ hi, key_wrap hi, wrap_succ hi (by omega)]
  rw [save_eq]
  cases ha : (atS l (i : Int)).2
  · rw [Bool.not_false, cond_true, cond_false, happ, bnd_some]
  · obtain ⟨a1, a2, a3⟩ := at_facts hv hs ha
    rw [Bool.not_true, cond_false, cond_true]
    obtain ⟨m, hm⟩ : ∃ m : Nat, (atS l (i : Int)).1.Sum = (m : Int) := ⟨(atS l (i : Int)).1.Sum.toNat, by omega⟩
    refine bnd_eq (a := ((bif (atS l (i : Int)).1.Good then 1 else 0 : Nat) : Int)) (by cases (atS l (i : Int)).1.Good <;> rfl) ?_
    rw [hm, wrap_u64n (by omega)]
    refine bnd_eq (little4 m (by omega)) ?_
    have hv2 : valK (atS l (i : Int)).1 = ([bif (atS l (i : Int)).1.Good then 1 else 0] ++ [m % 256, m / 256 % 256, m / 65536 % 256, m / 16777216 % 256]) ++ bs (atS l (i : Int)).1.Serial := by
      unfold valK
      rw [hm]
      rfl
    refine bnd_eq (app_iz (l := [bif (atS l (i : Int)).1.Good then 1 else 0]) (m := [m % 256, m / 256 % 256, m / 65536 % 256, m / 16777216 % 256]) (b := 1) (by simp) (by simp)) ?_
    rw [bytesOf_iz]
    refine bnd_eq (app_iz (b := 1) (by rw [bs_len]; simp; omega) (by rw [bs_len]; simp; omega)) ?_
    rw [← hv2, happ, bnd_some]

theorem save_ok {l : List T_Known} (hs : SumR l) : (saveL l).1.length ≤ 16 ∧ ∀ x ∈ (saveL l).1, OkT x := by
  unfold saveL
  cases hv : validB l
  · exact ⟨by simp, fun x hx => by cases hx⟩
  · refine ⟨by simp, fun x hx => ?_⟩
    obtain ⟨s, h1, rfl⟩ := List.mem_map.1 hx
    have h2 := List.mem_range.1 h1
    unfold saveS
    cases ha : (atS l (s : Int)).2
    · exact ⟨⟨by dsimp only [cond_false]; omega, by dsimp only [cond_false]; omega⟩, [], rfl, (fun x hx => by cases hx), by simp⟩
    · obtain ⟨a1, a2, a3⟩ := at_facts hv hs ha
      exact ⟨⟨by dsimp only [cond_true]; omega, by dsimp only [cond_true]; omega⟩, _, rfl, val_lt _, by rw [val_len]; omega⟩

/-! ## Load -/

theorem loop_exJ {σ τ ρ : Type} {m : σ → Option (Step σ τ)} {s0 : σ} {k : τ → Option ρ} {R : ρ → Prop} (I : σ → Prop) (μ : σ → Nat) (Q : τ → Prop) (h0 : I s0)
    (h : ∀ s, I s → ∃ r, m s = some r ∧ match r with | .next s' => I s' ∧ μ s' < μ s | .done t => Q t) (hk : ∀ t, Q t → ∃ r, k t = some r ∧ R r) : ∃ r, bnd (loopM m s0) k = some r ∧ R r := by
  refine bnd_loop_inv I μ Q h0 (fun s hI => ?_) hk
  obtain ⟨r, h1, h2⟩ := h s hI
  cases r with
  | next s' => exact .inl ⟨s', h1, h2.1, h2.2⟩
  | done t => exact .inr ⟨t, h1, h2⟩

def skipT (x : T_Setting) : Bool := x.Delete || (decide (x.Key < 16) || decide (x.Key > 31))
theorem skip_prog {x : T_Setting} (h : OkT x) : (bif x.Delete then (some true) else (bnd (m_inventory_slotted (IntKind.wrap .i64 ((IntKind.wrap .i64 x.Key) - 16))) fun r1 => some (!r1)) : Option Bool) = some (skipT x) := by
  have hk := h.key
  unfold skipT
  cases x.Delete
  · rw [cond_false, wrap_i64 (x := x.Key) (by omega) (by omega), wrap_i64 (by omega) (by omega), slotted_eq, bnd_some, Bool.false_or]
    by_cases h1 : x.Key < 16
    · rw [decide_eq_true h1, decide_eq_true (by omega : x.Key - 16 < 0)]
      rfl
    · rw [decide_eq_false h1, decide_eq_false (by omega : ¬ x.Key - 16 < 0)]
      by_cases h2 : x.Key > 31
      · rw [decide_eq_true h2, decide_eq_true (by omega : x.Key - 16 ≥ 16)]
        rfl
      · rw [decide_eq_false h2, decide_eq_false (by omega : ¬ x.Key - 16 ≥ 16)]
        rfl
  · rfl
theorem skip_ref (x : T_Setting) : (bif decide (x.Key < 16) then (some true) else (bif decide (x.Key > 31) then (some true) else (some x.Delete)) : Option Bool) = some (skipT x) := by
  unfold skipT
  cases decide (x.Key < 16) <;> cases decide (x.Key > 31) <;> cases x.Delete <;> rfl

def badV (v : List Int) : Option Bool := bif decide ((v.length : Int) < 5) then (some true) else (bif decide ((v.length : Int) > 28) then (some true) else (bnd (elt v 0) fun x3 => bif decide (x3 > 1) then (some true) else (bif (x3 == 0) then (some (decide ((v.length : Int) > 5))) else (some false))))
theorem badV_ex {m : List Nat} : ∃ o, badV (iz m) = some o ∧ (o = false → 5 ≤ m.length ∧ m.length ≤ 28) := by
  unfold badV
  rw [iz_len]
  by_cases h1 : (m.length : Int) < 5
  · rw [decide_eq_true h1]
    exact ⟨_, rfl, fun h => by cases h⟩
  rw [decide_eq_false h1, cond_false]
  by_cases h2 : (m.length : Int) > 28
  · rw [decide_eq_true h2]
    exact ⟨_, rfl, fun h => by cases h⟩
  rw [decide_eq_false h2, cond_false, show elt (iz m) 0 = some ((m[0] : Nat) : Int) from elt_iz (i := 0) (by omega), bnd_some]
  cases decide (((m[0] : Nat) : Int) > 1)
  · cases (((m[0] : Nat) : Int) == 0)
    · exact ⟨_, rfl, fun _ => by omega⟩
    · exact ⟨_, rfl, fun _ => by omega⟩
  · exact ⟨_, rfl, fun h => by cases h⟩

theorem five {m : List Nat} (h : 5 ≤ m.length) : ∃ a b c d e r, m = a :: b :: c :: d :: e :: r := by
  match m, h with
  | a :: b :: c :: d :: e :: r, _ => exact ⟨a, b, c, d, e, r, rfl⟩

theorem tail_prog {m : List Nat} (hm : lt256 m) (h5 : 5 ≤ m.length) (h28 : m.length ≤ 28) {β : Type} (g : Int → List Int → Int → Option β) :
    (bnd (elt (iz m) 1) fun x4 => bnd (elt (iz m) 2) fun x5 => bnd (elt (iz m) 3) fun x6 => bnd (elt (iz m) 4) fun x7 => bnd (elt (iz m) 0) fun x8 => bnd (sub (iz m) 5 ((iz m).length : Int)) fun l1 => g x8 l1 (iOr .u32 (iOr .u32 (iOr .u32 (IntKind.wrap .u32 x4) (iShl .u32 (IntKind.wrap .u32 x5) 8)) (iShl .u32 (IntKind.wrap .u32 x6) 16)) (iShl .u32 (IntKind.wrap .u32 x7) 24))) =
    (bnd (elt (iz m) 0) fun x6 => bnd (sub (iz m) 5 ((iz m).length : Int)) fun l1 => bnd (sub (iz m) 1 5) fun l2 => bnd (m_ref01_Number l2) fun r1 => g x6 l1 (IntKind.wrap .u32 r1)) := by
  have hsub : sub (iz m) 1 5 = some (iz ((m.take 5).drop 1)) := sub_iz (a := 1) (b := 5) (by omega) (by omega)
  have hsub5 : sub (iz m) 5 ((iz m).length : Int) = some (iz ((m.take m.length).drop 5)) := by rw [iz_len]; exact sub_iz (a := 5) (by omega) (by omega)
  rw [hsub, hsub5]
  obtain ⟨a, b, c, d, e, r, rfl⟩ := five h5
  have hb := hm b (by simp)
  have hc := hm c (by simp)
  have hd := hm d (by simp)
  have he := hm e (by simp)
  have e0 : elt (iz (a :: b :: c :: d :: e :: r)) 0 = some ((a : Nat) : Int) := rfl
  have e1 : elt (iz (a :: b :: c :: d :: e :: r)) 1 = some ((b : Nat) : Int) := rfl
  have e2 : elt (iz (a :: b :: c :: d :: e :: r)) 2 = some ((c : Nat) : Int) := rfl
  have e3 : elt (iz (a :: b :: c :: d :: e :: r)) 3 = some ((d : Nat) : Int) := rfl
  have e4 : elt (iz (a :: b :: c :: d :: e :: r)) 4 = some ((e : Nat) : Int) := rfl
  have ht : ((a :: b :: c :: d :: e :: r).take 5).drop 1 = [b, c, d, e] := rfl
  rw [e0, e1, e2, e3, e4, ht]
  simp only [bnd_some]
  rw [number4 hb hc hd he, bnd_some, or4 hb hc hd he, wrap_u32n (by omega)]

theorem load_eq {l : List T_Setting} (h : ∀ x ∈ l, OkT x) : m_inventory_Load l = m_ref19_Load l := by
  unfold m_inventory_Load m_ref19_Load
  refine congrArg (fun m => bnd (loopM m (([] : List T_Known), (0 : Int))) fun o1 => retOr o1 fun o2 => some (o2, (0 : Int))) (funext fun s => ?_)
  cases decide (s.2 < (l.length : Int))
  · rfl
  rw [cond_true, cond_true]
  cases he : elt l s.2 with
  | none => rfl
  | some x =>
    obtain ⟨_, _, h2⟩ := elt_some he
    have hx := h x (List.mem_of_getElem? h2)
    obtain ⟨m, m1, m2, m3⟩ := hx.val
    simp only [bnd_some]
    rw [skip_prog hx, skip_ref, bnd_some, bnd_some]
    cases skipT x
    · rw [cond_false, cond_false]
      refine congrArg (bnd _) (funext fun o4 => ?_)
      cases o4.2
      · rw [cond_false, cond_false]
        obtain ⟨o, q1, q2⟩ := badV_ex (m := m)
        rw [← m1] at q1
        unfold badV at q1
        rw [q1, bnd_some, bnd_some]
        cases o
        · obtain ⟨q3, q4⟩ := q2 rfl
          rw [cond_false, cond_false, m1]
          exact tail_prog m2 q3 q4 (fun x8 l1 n => bnd (app 40 o4.1 [(⟨IntKind.wrap .i64 ((IntKind.wrap .i64 x.Key) - 16), (x8 == 1), strOf l1, n⟩ : T_Known)]) fun l2 => some (Step.next (l2, IntKind.wrap .i64 (s.2 + 1)) : Step (List T_Known × Int) ((List T_Known × Int) ⊕ List T_Known)))
        · rfl
      · rfl
    · rfl

theorem load_some {l : List T_Setting} (hl : l.length ≤ 1000) (h : ∀ x ∈ l, OkT x) : ∃ r, m_inventory_Load l = some r ∧ r.1.length ≤ 1000 := by
  unfold m_inventory_Load
  refine loop_exJ (fun s => 0 ≤ s.2 ∧ s.2 ≤ (l.length : Int) ∧ (s.1.length : Int) ≤ s.2) (fun s => ((l.length : Int) - s.2).toNat) (fun t => match t with | .inl r => r.1.length ≤ 1000 | .inr k => k.length ≤ 1000) ⟨by simp, by simp, by simp⟩ (fun s ⟨i1, i2, i3⟩ => ?_) (fun t ht => ?_)
  · by_cases hs : s.2 < (l.length : Int)
    · obtain ⟨i, hi⟩ : ∃ i : Nat, s.2 = (i : Int) := ⟨s.2.toNat, by omega⟩
      have hil : i < l.length := by omega
      have hx := h _ (List.getElem_mem hil)
      obtain ⟨m, m1, m2, m3⟩ := hx.val
      have hnext : ∀ k : List T_Known, (k.length : Int) ≤ s.2 + 1 → (0 ≤ ((k, s.2 + 1) : List T_Known × Int).2 ∧ ((k, s.2 + 1) : List T_Known × Int).2 ≤ (l.length : Int) ∧ (((k, s.2 + 1) : List T_Known × Int).1.length : Int) ≤ ((k, s.2 + 1) : List T_Known × Int).2) ∧ ((l.length : Int) - ((k, s.2 + 1) : List T_Known × Int).2).toNat < ((l.length : Int) - s.2).toNat := fun k hk => by dsimp only; omega
      rw [decide_eq_true hs, cond_true, hi, elt_lt hil, bnd_some, skip_prog hx, bnd_some, ← hi, wrap_i64 (x := s.2 + 1) (by omega) (by omega)]
      cases skipT l[i]
      · rw [cond_false]
        refine bnd_ex (P := fun o : List T_Known × Bool => o.1 = s.1) ?_ fun o4 h4 => ?_
        · by_cases h0 : (s.1.length : Int) > 0
          · obtain ⟨j, hj⟩ : ∃ j : Nat, s.1.length = j + 1 := ⟨s.1.length - 1, by omega⟩
            have hjl : j < s.1.length := by omega
            rw [decide_eq_true h0, cond_true, wrap_i64 (by omega) (by omega), show (s.1.length : Int) - 1 = (j : Int) by omega, elt_lt hjl, bnd_some]
            exact ⟨_, rfl, rfl⟩
          · rw [decide_eq_false h0]
            exact ⟨_, rfl, rfl⟩
        · cases o4.2
          · rw [cond_false]
            obtain ⟨o, q1, q2⟩ := badV_ex (m := m)
            rw [← m1] at q1
            unfold badV at q1
            rw [q1, bnd_some]
            cases o
            · obtain ⟨q3, q4⟩ := q2 rfl
              rw [cond_false, m1]
              have hg : ∀ k, k < m.length → ∃ v, elt (iz m) (k : Int) = some v ∧ True := fun k hk => ⟨_, elt_iz hk, trivial⟩
              refine bnd_ex (hg 1 (by omega)) fun x4 _ => ?_
              refine bnd_ex (hg 2 (by omega)) fun x5 _ => ?_
              refine bnd_ex (hg 3 (by omega)) fun x6 _ => ?_
              refine bnd_ex (hg 4 (by omega)) fun x7 _ => ?_
              refine bnd_ex (hg 0 (by omega)) fun x8 _ => ?_
              rw [iz_len]
              refine bnd_eq_ex (sub_iz (a := 5) (b := m.length) (by omega) (by omega)) ?_
              rw [h4, app_eq (by simp; omega) (by simp; omega), bnd_some]
              exact ⟨_, rfl, hnext _ (by rw [List.length_append]; simp; omega)⟩
            · exact ⟨_, rfl, by simp⟩
          · exact ⟨_, rfl, by simp⟩
      · exact ⟨_, rfl, hnext _ (by omega)⟩
    · rw [decide_eq_false hs]
      exact ⟨_, rfl, by dsimp only; omega⟩
  · cases t with
    | inl r => exact ⟨_, rfl, ht⟩
    | inr k => exact ⟨_, rfl, ht⟩

theorem same19 {l : List T_Known} (hl : l.length ≤ 1000) : m_ref19_Same l l = some true := by
  unfold m_ref19_Same
  rw [bne_self_eq_false, cond_false]
  refine bnd_loop (fun i => (i : Int)) l.length (.inr ()) rfl (fun i hi => ?_) ?_ rfl
  · have hi2 : (i : Int) < (l.length : Int) := by omega
    simp only [hi2, decide_true, cond_true, elt_lt hi, bnd_some, wrap_succ hi (by omega : l.length ≤ 140737488355328)]
    simp
  · rw [decide_eq_false (by omega : ¬ (l.length : Int) < (l.length : Int))]
    rfl

/-! ## The law -/

theorem chk_save {l : List T_Known} (hl : Short l) (hs : SumR l) (K : Option Bool) :
    (bnd (m_inventory_Save l) fun r15 => bnd (m_ref19_Save l) fun r16 => bnd ((bif (r15.2 != r16.2) then (some true) else (bnd (m_ref06_Same r15.1 r16.1) fun r17 => some (!r17)) : Option Bool)) fun o5 => bif o5 then (some false) else K) = K := by
  obtain ⟨h1, h2⟩ := save_ok hs
  rw [save_prog hl hs, save_ref hl hs, bnd_some, bnd_some, bne_self_eq_false, cond_false, sameT (by omega) h2]
  rfl
theorem chk_load {l : List T_Setting} (hl : l.length ≤ 1000) (h : ∀ x ∈ l, OkT x) (K : Option Bool) :
    (bnd (m_inventory_Load l) fun r15 => bnd (m_ref19_Load l) fun r16 => bnd ((bif (r15.2 != r16.2) then (some true) else (bnd (m_ref19_Same r15.1 r16.1) fun r17 => some (!r17)) : Option Bool)) fun o5 => bif o5 then (some false) else K) = K := by
  obtain ⟨r, h1, h2⟩ := load_some hl h
  rw [← load_eq h, h1, bnd_some, bnd_some, bne_self_eq_false, cond_false, same19 h2]
  rfl

theorem set_ok {l zs : List T_Setting} {q : Int} {y : T_Setting} (h : ∀ x ∈ l, OkT x) (hy : OkT y) (hz : setE l q y = some zs) : zs.length = l.length ∧ ∀ x ∈ zs, OkT x := by
  unfold setE at hz
  split at hz
  · injection hz with hz
    subst hz
    refine ⟨by simp, fun x hx => ?_⟩
    rcases List.mem_or_eq_of_mem_set hx with hx | rfl
    · exact h x hx
    · exact hy
  · cases hz

theorem setE_ex {l : List T_Setting} {n : Nat} (hn : l.length = n) {q : Int} (h0 : 0 ≤ q) (h1 : q < (n : Int)) {y : T_Setting} (h : ∀ x ∈ l, OkT x) (hy : OkT y) : ∃ zs, setE l q y = some zs ∧ (zs.length = n ∧ ∀ x ∈ zs, OkT x) := by
  have : setE l q y = some (l.set q.toNat y) := by unfold setE; rw [if_pos ⟨h0, by omega⟩]
  refine ⟨_, this, ?_⟩
  have := set_ok h hy this
  exact ⟨by omega, this.2⟩
theorem elt_ex {l : List T_Setting} {n : Nat} (hn : l.length = n) {q : Int} (h0 : 0 ≤ q) (h1 : q < (n : Int)) (h : ∀ x ∈ l, OkT x) : ∃ x, elt l q = some x ∧ OkT x := by
  obtain ⟨i, rfl⟩ : ∃ i : Nat, q = (i : Int) := ⟨q.toNat, by omega⟩
  have hi : i < l.length := by omega
  exact ⟨_, elt_lt hi, h _ (List.getElem_mem hi)⟩

theorem settings_true (a : List T_Known) (l : List T_Setting) (n : List Int) (ha : okL ok_T_Known a) (hl : okL ok_T_Setting l) (_ : okL (inK .i64) n) : m_law19_InventorySettings a l n = some true := by
  unfold m_law19_InventorySettings
  rw [law_light, bnd_some]
  cases h1 : lightB a
  · rw [Bool.not_false, cond_true, bnd_some, cond_true, awake_true]
    rfl
  rw [Bool.not_true, cond_false]
  by_cases c1 : 60 < l.length
  · rw [decide_eq_true (by omega : (l.length : Int) > 60), cond_true, bnd_some, cond_true, awake_true]
    rfl
  rw [decide_eq_false (by omega : ¬ (l.length : Int) > 60), cond_false, made_light, bnd_some]
  by_cases hn : n.length ≤ 600
  rotate_left
  · rw [decide_eq_false hn, bnd_some, Bool.not_false, cond_true, awake_true]
    rfl
  rw [decide_eq_true hn, bnd_some, Bool.not_true, cond_false]
  refine bnd_loop_any (fun i => (i : Int)) l.length (fun i => match l[i]? with | some u => decide (60 < u.Value.length) | none => false) (.inl true) (.inr ()) rfl (fun i hi => ?_) ?_ ?_
  · rw [decide_eq_true (by omega : (i : Int) < (l.length : Int)), cond_true, elt_lt hi, bnd_some, List.getElem?_eq_getElem hi]
    dsimp only
    by_cases h : 60 < l[i].Value.length
    · rw [decide_eq_true h, decide_eq_true (by omega : (l[i].Value.length : Int) > 60), cond_true, awake_true]
      rfl
    · rw [decide_eq_false h, decide_eq_false (by omega : ¬ (l[i].Value.length : Int) > 60), cond_false, wrap_succ hi (by omega)]
      rfl
  · rw [decide_eq_false (by omega : ¬ (l.length : Int) < (l.length : Int))]
    rfl
  cases hany : (List.range l.length).any fun i => match l[i]? with | some u => decide (60 < u.Value.length) | none => false
  rotate_left
  · rfl
  rw [cond_false, retOr_inr]
  have hok : ∀ u ∈ l, OkT u := fun u hm => by
    obtain ⟨i, hi, rfl⟩ := List.mem_iff_getElem.1 hm
    have h1 := List.any_eq_false.1 hany i (List.mem_range.2 hi)
    rw [List.getElem?_eq_getElem hi] at h1
    obtain ⟨k1, k2, _⟩ := hl.1 _ hm
    obtain ⟨m, h2, h3⟩ := okL_iz k2
    have k3 : 0 ≤ l[i].Key ∧ l[i].Key ≤ 255 := k1
    refine ⟨k3, m, h3, h2, ?_⟩
    have h4 : l[i].Value.length = m.length := by rw [h3, iz_len]
    have h5 : ¬ 60 < l[i].Value.length := by simpa using h1
    omega
  have hsa : Short a := by
    unfold lightB at h1
    simp only [Bool.and_eq_true, decide_eq_true_eq] at h1
    exact short_of h1.1 (by omega)
  have hra : SumR a := fun x hx => (ha.1 x hx).2.2.2
  suffices h : ∃ r, (_ : Option Bool) = some r ∧ r = true by
    obtain ⟨r, h1, rfl⟩ := h
    exact h1
  rw [show m_made_Roll n = some ⟨n, 0⟩ from rfl, bnd_some]
  obtain ⟨d1, x, e1, f1, x1, x2, x3⟩ := inventory_sum ⟨n, 0⟩ (roll_fair n hn)
  have hsx : Short x := short_of x1 (by omega)
  have hrx : SumR x := x3
  obtain ⟨s1, s2⟩ := save_ok hrx
  have s3 : (saveL x).1.length = 16 := by
    unfold saveL
    rw [x2]
    simp
  rw [e1, bnd_some]
  dsimp only
  refine bnd_eq_ex (save_ref hsx hrx) ?_
  refine bnd_eq_ex (copyT (by omega) s2) ?_
  refine bnd_ex (next_ex d1 ((saveL x).1.length : Int) f1 (by omega) (by omega)) fun r9 ⟨f9, g9, k9⟩ => ?_
  rw [s3] at k9
  refine bnd_ex (P := fun o : List T_Setting => o.length = 16 ∧ ∀ x ∈ o, OkT x) ?_ fun o4 ⟨w1, w2⟩ => ?_
  · refine bnd_ex (next_ex r9.1 4 f9 (by omega) (by omega)) fun r10 ⟨f10, _, _⟩ => ?_
    cases (r10.2 == 0)
    · rw [cond_false]
      cases (r10.2 == 1)
      · rw [cond_false]
        cases (r10.2 == 2)
        · exact ⟨_, rfl, s3, s2⟩
        · rw [cond_true]
          refine bnd_ex (next_ex r10.1 2 f10 (by omega) (by omega)) fun r13 ⟨f13, g13, k13⟩ => ?_
          obtain ⟨z, hz⟩ : ∃ z : Nat, r13.2 = (z : Int) := ⟨r13.2.toNat, by omega⟩
          have hw : IntKind.wrap .i64 (28 + r13.2) = ((28 + z : Nat) : Int) := by rw [wrap_i64 (by omega) (by omega)]; omega
          rw [hw]
          refine bnd_eq_ex (mkS_iz (b := 1) (n := 28 + z) (by omega) (by omega)) ?_
          refine bnd_ex (elt_ex s3 g9 k9 s2) fun x5 h5 => ?_
          refine bnd_ex (elt_ex s3 g9 k9 s2) fun x6 h6 => ?_
          refine bnd_ex (next_ex r13.1 3 f13 (by omega) (by omega)) fun r14 ⟨f14, g14, k14⟩ => ?_
          obtain ⟨t, ht⟩ : ∃ t : Nat, r14.2 = (t : Int) := ⟨r14.2.toNat, by omega⟩
          refine bnd_eq_ex (show elt (iz (List.replicate (28 + z) 0)) 0 = some _ from elt_iz (i := 0) (by simp; omega)) ?_
          rw [ht, wrap_u8n (by omega)]
          refine bnd_eq_ex (show setE (iz (List.replicate (28 + z) 0)) 0 (t : Int) = some _ from setE_iz (i := 0) (by simp; omega) t) ?_
          refine bnd_ex (setE_ex s3 g9 k9 s2 (y := ⟨x5.Key, _, x5.Delete⟩) ⟨h5.key, _, rfl, ?_, by simp; omega⟩) fun l6 ⟨v1, v2⟩ => ?_
          · intro y hy
            rcases List.mem_or_eq_of_mem_set hy with hy | rfl
            · rw [List.eq_of_mem_replicate hy]; omega
            · omega
          refine bnd_ex (elt_ex v1 g9 k9 v2) fun x8 h8 => ?_
          refine bnd_ex (setE_ex v1 g9 k9 v2 (y := ⟨x8.Key, x8.Value, false⟩) ⟨h8.key, h8.val⟩) fun l7 ⟨u1, u2⟩ => ?_
          exact ⟨_, rfl, u1, u2⟩
      · rw [cond_true]
        refine bnd_ex (next_ex r10.1 20 f10 (by omega) (by omega)) fun r12 ⟨f12, g12, k12⟩ => ?_
        refine bnd_ex (elt_ex s3 g9 k9 s2) fun x4 h4 => ?_
        refine bnd_ex (setE_ex s3 g9 k9 s2 (y := ⟨_, x4.Value, x4.Delete⟩) ⟨?_, h4.val⟩) fun l3 ⟨u1, u2⟩ => ?_
        · dsimp only
          rw [wrap_u8_mod]
          omega
        exact ⟨_, rfl, u1, u2⟩
    · rw [cond_true]
      refine bnd_ex (bytes_ex r10.1 9 f10 (by omega) (by omega)) fun r11 ⟨f11, m, m1, m2, m3⟩ => ?_
      refine bnd_ex (elt_ex s3 g9 k9 s2) fun x2 h2 => ?_
      refine bnd_ex (setE_ex s3 g9 k9 s2 (y := ⟨x2.Key, r11.2, x2.Delete⟩) ⟨h2.key, m, m3, m1, by omega⟩) fun l1 ⟨v1, v2⟩ => ?_
      refine bnd_ex (elt_ex v1 g9 k9 v2) fun x3 h3 => ?_
      refine bnd_ex (setE_ex v1 g9 k9 v2 (y := ⟨x3.Key, x3.Value, false⟩) ⟨h3.key, h3.val⟩) fun l2 ⟨u1, u2⟩ => ?_
      exact ⟨_, rfl, u1, u2⟩
  rw [chk_save hsa hra, chk_save hsx hrx, chk_load (by omega) hok, chk_load (by omega) s2, chk_load (by omega) w2, awake_true]
  exact ⟨_, rfl, rfl⟩

end Go.Proofs.Ytnolaefjmjgfbaa
