/-
  Chapter 31: the steps of a plan, the state behind them, and the search for an order, in plain words.
  Conditions: none.
-/
import Derived.Test.YteaoblglgcpdnaaAct1
namespace Go.Proofs.Yteaoblglgcpdnaa
open Go
set_option linter.unusedSimpArgs false
set_option linter.unusedVariables false

/-! ## Bits -/

def mask (n : Nat) (f : Nat → Bool) : Nat := (List.range n).foldl (fun s i => if f i = true then s ||| 2 ^ i else s) 0
theorem mask_succ (n : Nat) (f : Nat → Bool) : mask (n + 1) f = if f n = true then mask n f ||| 2 ^ n else mask n f := by
  simp [mask, List.range_succ]
theorem mask_lt (n : Nat) (f : Nat → Bool) : mask n f < 2 ^ n := by
  induction n with
  | zero => simp [mask]
  | succ n ih =>
    rw [mask_succ]
    have h1 : mask n f < 2 ^ (n + 1) := Nat.lt_trans ih (Nat.pow_lt_pow_right (by omega) (by omega))
    have h2 : 2 ^ n < 2 ^ (n + 1) := Nat.pow_lt_pow_right (by omega) (by omega)
    split
    · exact Nat.or_lt_two_pow h1 h2
    · exact h1
theorem mask_bit (n : Nat) (f : Nat → Bool) (i : Nat) : (mask n f).testBit i = (decide (i < n) && f i) := by
  induction n with
  | zero => simp [mask]
  | succ n ih =>
    rw [mask_succ]
    by_cases hi : i = n
    · subst hi
      cases h : f i
      · simp [ih]
      · simp [Nat.testBit_or, ih]
    · have e : decide (i < n + 1) = decide (i < n) := by
        congr 1
        simp only [eq_iff_iff]
        omega
      split
      · rw [Nat.testBit_or, ih, Nat.testBit_two_pow_of_ne (fun h => hi h.symm), e]
        simp
      · rw [ih, e]

theorem bit_mod (a i : Nat) : (a / 2 ^ i) &&& 1 = if a.testBit i = true then 1 else 0 := by
  rw [Nat.and_one_is_mod, Nat.testBit_eq_decide_div_mod_eq]
  by_cases h : a / 2 ^ i % 2 = 1
  · simp [h]
  · simp [h]; omega
theorem bit_is1 (a i : Nat) : (((((a / 2 ^ i) &&& 1 : Nat)) : Int) == 1) = a.testBit i := by
  rw [bit_mod]
  cases a.testBit i <;> rfl
theorem bit_is0 (a i : Nat) : (((((a / 2 ^ i) &&& 1 : Nat)) : Int) == 0) = !a.testBit i := by
  rw [bit_mod]
  cases a.testBit i <;> rfl
theorem or_same (a i : Nat) : ((((a ||| 2 ^ i : Nat)) : Int) == (a : Int)) = a.testBit i := by
  cases h : a.testBit i
  · rw [beq_eq_false_iff_ne]
    intro e
    have : a ||| 2 ^ i = a := by exact_mod_cast e
    have h2 : (a ||| 2 ^ i).testBit i = true := by simp [Nat.testBit_or]
    rw [this, h] at h2
    cases h2
  · rw [beq_iff_eq]
    congr 1
    apply Nat.eq_of_testBit_eq
    intro j
    rw [Nat.testBit_or]
    by_cases hj : i = j
    · subst hj; simp [h]
    · simp [Nat.testBit_two_pow_of_ne hj]

/-- A set within another one. -/
def sub2 (S F : Nat) : Prop := ∀ i, S.testBit i = true → F.testBit i = true
theorem sub2.le {S F : Nat} (h : sub2 S F) : S ≤ F := by
  have : S ||| F = F := by
    apply Nat.eq_of_testBit_eq
    intro i
    rw [Nat.testBit_or]
    cases hs : S.testBit i
    · simp
    · simp [h i hs]
  rw [← this]
  exact Nat.left_le_or
theorem sub2.zero (F : Nat) : sub2 0 F := fun i h => by simp at h
theorem sub2.refl (F : Nat) : sub2 F F := fun i h => h
theorem sub2.or {S F i : Nat} (h : sub2 S F) (hi : F.testBit i = true) : sub2 (S ||| 2 ^ i) F := fun j hj => by
  rw [Nat.testBit_or] at hj
  by_cases hji : i = j
  · subst hji; exact hi
  · rw [Nat.testBit_two_pow_of_ne hji] at hj
    exact h j (by simpa using hj)
theorem or_bit (S i j : Nat) : (S ||| 2 ^ i).testBit j = (S.testBit j || decide (i = j)) := by
  rw [Nat.testBit_or]
  by_cases h : i = j
  · subst h; simp
  · simp [Nat.testBit_two_pow_of_ne h, h]
theorem or_gt {S i : Nat} (h : S.testBit i = false) : S < S ||| 2 ^ i := by
  rcases Nat.lt_or_ge S (S ||| 2 ^ i) with g | g
  · exact g
  · have e : S ||| 2 ^ i = S := Nat.le_antisymm g Nat.left_le_or
    have := or_bit S i i
    rw [e, h] at this
    simp at this

/-! ## The steps of a plan -/

def diffAt (p : T_Plan) (i : Nat) : Bool := match p.Now[i]?, p.Next[i]? with
  | some x1, some x2 => !((x1.Version.Major == x2.Version.Major) && ((x1.Version.Minor == x2.Version.Minor) && ((x1.Version.Patch == x2.Version.Patch) && true)))
  | _, _ => false
def fullP (p : T_Plan) : Nat := mask p.Now.length (diffAt p)

theorem pow8 {i : Nat} (h : i < 8) : 2 ^ i < 256 := Nat.pow_lt_pow_right (a := 2) (n := 8) (by omega) h
theorem shl1 {i : Nat} (h : i < 8) : shlM .i64 1 (i : Int) = some ((2 ^ i : Nat) : Int) := by
  have := shlM_i64 (a := 1) (s := i) (by omega) (by rw [Nat.one_mul]; have := pow8 h; omega)
  rw [Nat.one_mul] at this
  exact this
theorem shr1 {a i : Nat} (h : i ≤ 64) : shrM .i64 (a : Int) (i : Int) = some ((a / 2 ^ i : Nat) : Int) := shrM_n h
theorem or1 {a i : Nat} (ha : a < 256) (h : i < 8) : iOr .i64 (a : Int) ((2 ^ i : Nat) : Int) = ((a ||| 2 ^ i : Nat) : Int) := iOr_i64 (a := a) (b := 2 ^ i) (by omega) (by have := pow8 h; omega)
theorem and1 {a : Nat} (h : a < 4611686018427387904) : iAnd .i64 (a : Int) 1 = ((a &&& 1 : Nat) : Int) := iAnd_i64 (b := 1) h (by omega)
theorem or256 {a i : Nat} (ha : a < 256) (h : i < 8) : a ||| 2 ^ i < 256 := Nat.or_lt_two_pow (n := 8) ha (pow8 h)
theorem mask256 {n : Nat} {f : Nat → Bool} (h : n ≤ 8) : mask n f < 256 := Nat.lt_of_lt_of_le (mask_lt n f) (Nat.pow_le_pow_right (by omega) h)

theorem all_eq {p : T_Plan} (h : p.Now.length ≤ 8) (hl : p.Next.length = p.Now.length) : m_activation_all p = some (fullP p : Int) := by
  unfold m_activation_all fullP
  refine bnd_loop (fun (i : Nat) => (((mask i (diffAt p) : Nat) : Int), (i : Int))) p.Now.length _ rfl (fun i hi => ?_) ?_ rfl
  · have d0 : decide ((i : Int) < (p.Now.length : Int)) = true := by simp; omega
    have hb : i < p.Next.length := by omega
    simp only [d0, cond_true, elt_lt hi, elt_lt hb, bnd_some, wrap_succ hi (by omega), shl1 (i := i) (by omega), or1 (a := mask i (diffAt p)) (mask256 (by omega)) (i := i) (by omega)]
    rw [mask_succ]
    have e : diffAt p i = !((p.Now[i].Version.Major == p.Next[i].Version.Major) && ((p.Now[i].Version.Minor == p.Next[i].Version.Minor) && ((p.Now[i].Version.Patch == p.Next[i].Version.Patch) && true))) := by
      unfold diffAt
      rw [List.getElem?_eq_getElem hi, List.getElem?_eq_getElem hb]
    rw [← e]
    cases diffAt p i <;> rfl
  · have d0 : decide ((p.Now.length : Int) < (p.Now.length : Int)) = false := by simp
    simp only [d0, cond_false]

/-- The state behind the steps of a set that stand before the i-th one. -/
def stU (p : T_Plan) (S i : Nat) : List T_Installed := p.Now.mapIdx fun j a => if (decide (j < i) && S.testBit j) = true then (p.Next[j]?).getD a else a
def stateP (p : T_Plan) (S : Nat) : List T_Installed := stU p S p.Now.length

@[simp] theorem stU_len (p : T_Plan) (S i : Nat) : (stU p S i).length = p.Now.length := by simp [stU]
theorem stU_get {p : T_Plan} (hl : p.Next.length = p.Now.length) {S i j : Nat} (hj : j < p.Now.length) : (stU p S i)[j]'(by simpa using hj) = if (decide (j < i) && S.testBit j) = true then p.Next[j] else p.Now[j] := by
  simp only [stU, List.getElem_mapIdx]
  have : j < p.Next.length := by omega
  rw [List.getElem?_eq_getElem this]
  rfl
theorem stU_zero (p : T_Plan) (S : Nat) : stU p S 0 = p.Now := by
  apply List.ext_getElem (by simp)
  intro j h1 h2
  simp [stU]
theorem stU_succ {p : T_Plan} (hl : p.Next.length = p.Now.length) {S i : Nat} (hi : i < p.Now.length) : stU p S (i + 1) = if S.testBit i = true then (stU p S i).set i p.Next[i] else stU p S i := by
  split
  · rename_i hb
    apply List.ext_getElem (by simp)
    intro j h1 h2
    have hj : j < p.Now.length := by simpa using h1
    rw [stU_get hl hj]
    by_cases hji : j = i
    · subst hji
      simp [hb]
    · rw [List.getElem_set_ne (fun h => hji h.symm), stU_get hl hj]
      have : decide (j < i + 1) = decide (j < i) := by
        congr 1
        simp only [eq_iff_iff]
        omega
      rw [this]
  · rename_i hb
    apply List.ext_getElem (by simp)
    intro j h1 h2
    have hj : j < p.Now.length := by simpa using h1
    rw [stU_get hl hj, stU_get hl hj]
    by_cases hji : j = i
    · subst hji
      simp [hb]
    · have : decide (j < i + 1) = decide (j < i) := by
        congr 1
        simp only [eq_iff_iff]
        omega
      rw [this]

theorem setE_nat {α : Type} {xs : List α} {i : Nat} {y : α} (h : i < xs.length) : setE xs (i : Int) y = some (xs.set i y) := by
  unfold setE
  rw [if_pos ⟨by omega, by omega⟩]
  simp

theorem state_eq {p : T_Plan} (h : p.Now.length ≤ 8) (hl : p.Next.length = p.Now.length) {S : Nat} (hS : S < 256) : m_activation_state p (S : Int) = some (stateP p S) := by
  unfold m_activation_state m_slices_Clone__api_Installed_api_Installed
  rw [app_eq (by simp; omega) (by simp; omega)]
  simp only [List.nil_append, bnd_some]
  refine bnd_loop (fun (i : Nat) => ((i : Int), stU p S i)) p.Now.length _ (by rw [stU_zero]; rfl) (fun i hi => ?_) ?_ rfl
  · have d0 : decide ((i : Int) < (p.Now.length : Int)) = true := by simp; omega
    have hb : i < p.Next.length := by omega
    have hst : i < (stU p S i).length := by simpa using hi
    have hd : S / 2 ^ i < 4611686018427387904 := Nat.lt_of_le_of_lt (Nat.div_le_self _ _) (by omega)
    simp only [d0, cond_true, shr1 (a := S) (i := i) (by omega), bnd_some, and1 hd, bit_is1, elt_lt hb, elt_lt hst, setE_nat hst, wrap_succ hi (by omega), stU_succ hl hi]
    cases S.testBit i <;> rfl
  · have d0 : decide ((p.Now.length : Int) < (p.Now.length : Int)) = false := by simp
    simp only [d0, cond_false, stateP]

theorem PlanOk.name {p : T_Plan} (h : PlanOk p) {i : Nat} (hi : i < p.Now.length) : (p.Next[i]'(by rw [h.len]; exact hi)).Name = p.Now[i].Name := by
  have h2 : i < p.Next.length := by rw [h.len]; exact hi
  have : (namesOf p.Now)[i]? = (namesOf p.Next)[i]? := by rw [h.names]
  simp [namesOf, hi, h2] at this
  exact (bs_inj this).symm

theorem compsOk_at {l : List T_Installed} (h : compsOk l = true) {i : Nat} (hi : i < l.length) : cOk l i = true := by
  unfold compsOk at h
  exact List.all_eq_true.1 (Bool.and_eq_true_iff.1 h).2 i (by simpa using hi)

theorem stateP_get {p : T_Plan} (h : PlanOk p) {S i : Nat} (hi : i < p.Now.length) : (stateP p S)[i]'(by simpa [stateP] using hi) = if S.testBit i = true then p.Next[i]'(by rw [h.len]; exact hi) else p.Now[i] := by
  unfold stateP
  rw [stU_get h.len hi]
  simp [hi]
theorem stateP_name {p : T_Plan} (h : PlanOk p) {S i : Nat} (hi : i < p.Now.length) : ((stateP p S)[i]'(by simpa [stateP] using hi)).Name = p.Now[i].Name := by
  rw [stateP_get h hi]
  split
  · exact h.name hi
  · rfl

theorem comps_state {p : T_Plan} (h : PlanOk p) (S : Nat) : compsOk (stateP p S) = true := by
  unfold compsOk
  have hlen : (stateP p S).length = p.Now.length := by simp [stateP]
  rw [hlen]
  refine Bool.and_eq_true_iff.2 ⟨by simpa using h.le8, List.all_eq_true.2 fun i hi => ?_⟩
  have hi : i < p.Now.length := by simpa using hi
  have h1 := compsOk_at h.now hi
  have h2 := compsOk_at h.next (i := i) (by rw [h.len]; exact hi)
  have hs : i < (stateP p S).length := by rw [hlen]; exact hi
  have hn : i < p.Next.length := by rw [h.len]; exact hi
  unfold cOk at h1 h2 ⊢
  rw [List.getElem?_eq_getElem hs]
  rw [List.getElem?_eq_getElem hi] at h1
  rw [List.getElem?_eq_getElem hn] at h2
  simp only [stateP_name h hi, Bool.and_eq_true] at h1 h2 ⊢
  refine ⟨⟨h1.1.1, ?_⟩, ?_⟩
  · rw [stateP_get h hi]
    split
    · exact h2.1.2
    · exact h1.1.2
  · have h3 := h1.2
    by_cases h0 : i = 0
    · simp [h0]
    · have hp : i - 1 < p.Now.length := by omega
      have hps : i - 1 < (stateP p S).length := by omega
      rw [List.getElem?_eq_getElem hp] at h3
      rw [List.getElem?_eq_getElem hps]
      simp only [stateP_name h hp]
      exact h3

def goodP (p : T_Plan) (S : Nat) : Bool := p.Needs.all (metB (stateP p S))

theorem good_eq {p : T_Plan} (h : PlanOk p) {S : Nat} (hS : S < 256) : m_activation_good p (S : Int) = some (goodP p S) := by
  unfold m_activation_good
  obtain ⟨r, a, b⟩ := check_eq (stateP p S) p.Needs
  rw [state_eq h.le8 h.len hS]
  simp only [bnd_some, a]
  unfold chkAns at b
  rw [if_neg (by rw [comps_state h]; simp), if_neg (by rw [h.needs]; simp)] at b
  have e : (r.2 == 0) = true := by rw [b.1]; rfl
  rw [e]
  simp only [cond_true, bnd_some, b.2]
  rfl

theorem state_none {p : T_Plan} (h : PlanOk p) : stateP p 0 = p.Now := by
  apply List.ext_getElem (by simp [stateP])
  intro i h1 h2
  rw [stateP_get h h2]
  simp
theorem full_bit {p : T_Plan} (i : Nat) : (fullP p).testBit i = (decide (i < p.Now.length) && diffAt p i) := mask_bit _ _ _
/-! ## The search -/

section
variable (n F : Nat) (G : Nat → Bool)

/-- A step that may be taken. -/
def stepB (S i : Nat) : Bool := F.testBit i && (!S.testBit i && G (S ||| 2 ^ i))

def leastF : Nat → Nat → Option (List Nat)
  | 0, _ => none
  | k + 1, S => if S = F then some [] else (List.range n).findSome? fun i => if stepB F G S i = true then (leastF k (S ||| 2 ^ i)).map (i :: ·) else none

/-- The least order of the steps that are left. -/
def lst (S : Nat) : Option (List Nat) := leastF n F G (F - S + 1) S

def okPath : Nat → List Nat → Prop
  | S, [] => S = F
  | S, i :: l => stepB F G S i = true ∧ okPath (S ||| 2 ^ i) l

theorem fs_congr {α β : Type} {l : List α} {f g : α → Option β} (h : ∀ x ∈ l, f x = g x) : l.findSome? f = l.findSome? g := by
  induction l with
  | nil => rfl
  | cons x r ih =>
    rw [List.findSome?_cons, List.findSome?_cons, h x (by simp), ih fun y hy => h y (by simp [hy])]

theorem step_parts {F : Nat} {G : Nat → Bool} {S i : Nat} (h : stepB F G S i = true) : F.testBit i = true ∧ S.testBit i = false ∧ G (S ||| 2 ^ i) = true := by
  unfold stepB at h
  simpa using h

theorem leastF_stable (k k' S : Nat) (hs : sub2 S F) (h1 : F - S < k) (h2 : F - S < k') : leastF n F G k S = leastF n F G k' S := by
  induction k generalizing k' S with
  | zero => omega
  | succ k ih =>
    cases k' with
    | zero => omega
    | succ k' =>
      unfold leastF
      by_cases he : S = F
      · rw [if_pos he, if_pos he]
      · rw [if_neg he, if_neg he]
        refine fs_congr fun i _ => ?_
        by_cases hst : stepB F G S i = true
        · rw [if_pos hst, if_pos hst]
          obtain ⟨a, b, _⟩ := step_parts hst
          have h3 := or_gt b
          have h4 := (hs.or a).le
          rw [ih k' (S ||| 2 ^ i) (hs.or a) (by omega) (by omega)]
        · rw [if_neg hst, if_neg hst]

theorem least_step {S : Nat} (hs : sub2 S F) (hne : S ≠ F) : lst n F G S = (List.range n).findSome? fun i => if stepB F G S i = true then (lst n F G (S ||| 2 ^ i)).map (i :: ·) else none := by
  have hle := hs.le
  unfold lst
  conv => lhs; unfold leastF
  rw [if_neg hne]
  refine fs_congr fun i _ => ?_
  by_cases hst : stepB F G S i = true
  · rw [if_pos hst, if_pos hst]
    obtain ⟨a, b, _⟩ := step_parts hst
    have h3 := or_gt b
    have h4 := (hs.or a).le
    rw [leastF_stable n F G _ (F - (S ||| 2 ^ i) + 1) _ (hs.or a) (by omega) (by omega)]
  · rw [if_neg hst, if_neg hst]
theorem least_full : lst n F G F = some [] := by
  unfold lst leastF
  rw [if_pos rfl]

theorem fs_first {β : Type} {f : Nat → Option β} {m i : Nat} {v : β} (hi : i < m) (h : f i = some v) (hn : ∀ j, j < i → f j = none) : (List.range m).findSome? f = some v := by
  induction m with
  | zero => omega
  | succ m ih =>
    rw [List.range_succ, List.findSome?_append]
    by_cases hm : i = m
    · subst hm
      have : (List.range i).findSome? f = none := List.findSome?_eq_none_iff.2 fun x hx => hn x (by simpa using hx)
      rw [this]
      simp [h]
    · rw [ih (by omega)]
      rfl
theorem fs_none {β : Type} {f : Nat → Option β} {m : Nat} (hn : ∀ j, j < m → f j = none) : (List.range m).findSome? f = none :=
  List.findSome?_eq_none_iff.2 fun x hx => hn x (by simpa using hx)
theorem fs_some {β : Type} {f : Nat → Option β} {m : Nat} {v : β} (h : (List.range m).findSome? f = some v) : ∃ i, i < m ∧ f i = some v ∧ ∀ j, j < i → f j = none := by
  induction m with
  | zero => simp at h
  | succ m ih =>
    rw [List.range_succ, List.findSome?_append] at h
    cases h1 : (List.range m).findSome? f with
    | some u =>
      rw [h1] at h
      simp at h
      subst h
      obtain ⟨i, a, b, c⟩ := ih h1
      exact ⟨i, by omega, b, c⟩
    | none =>
      rw [h1] at h
      simp at h
      exact ⟨m, by omega, h, fun j hj => List.findSome?_eq_none_iff.1 h1 j (by simpa using hj)⟩

theorem path_induct (P : Nat → Prop) (h : ∀ S, sub2 S F → (∀ i, stepB F G S i = true → P (S ||| 2 ^ i)) → P S) : ∀ S, sub2 S F → P S := by
  have : ∀ k S, F - S < k → sub2 S F → P S := by
    intro k
    induction k with
    | zero => intro S h1; omega
    | succ k ih =>
      intro S h1 hs
      refine h S hs fun i hst => ?_
      obtain ⟨a, b, _⟩ := step_parts hst
      have h3 := or_gt b
      have h4 := (hs.or a).le
      exact ih _ (by omega) (hs.or a)
  exact fun S hs => this (F - S + 1) S (by omega) hs

theorem least_path (S : Nat) (hs : sub2 S F) : ∀ l, lst n F G S = some l → okPath F G S l := by
  refine path_induct F G (fun S => ∀ l, lst n F G S = some l → okPath F G S l) (fun S hs ih l hl => ?_) S hs
  by_cases he : S = F
  · subst he
    rw [least_full] at hl
    injection hl with hl
    subst hl
    rfl
  · rw [least_step n F G hs he] at hl
    obtain ⟨i, _, h1, _⟩ := fs_some hl
    split at h1
    · rename_i hst
      rw [Option.map_eq_some_iff] at h1
      obtain ⟨r, h2, rfl⟩ := h1
      exact ⟨hst, ih i hst r h2⟩
    · cases h1

/-- The first place at which two lists differ. -/
def lexLe : List Nat → List Nat → Prop
  | [], _ => True
  | _ :: _, [] => True
  | x :: l, y :: m => x < y ∨ (x = y ∧ lexLe l m)

theorem bit_lt {F n i : Nat} (hF : F < 2 ^ n) (h : F.testBit i = true) : i < n := by
  rcases Nat.lt_or_ge i n with g | g
  · exact g
  · have := Nat.testBit_lt_two_pow (Nat.lt_of_lt_of_le hF (Nat.pow_le_pow_right (by omega) g))
    rw [this] at h; cases h

end

/-! ## The program's search -/

theorem kint_iff (k : IntKind) (a b : Int) : (kint k).eq a b = true ↔ a = b := by
  show (a == b) = true ↔ a = b
  exact beq_iff_eq

def DeadOk (n F : Nat) (G : Nat → Bool) (d : List (Int × Bool)) : Prop := ∀ T : Nat, sub2 T F → (mget (kint .i64).eq d (T : Int)).getD false = true → lst n F G T = none

theorem find_ok {p : T_Plan} (h : PlanOk p) : ∀ (fuel S : Nat) (d : List (Int × Bool)) (o : List Int), sub2 S (fullP p) → fullP p - S < fuel → o.length + (fullP p - S) ≤ 300 → DeadOk p.Now.length (fullP p) (goodP p) d →
    ∃ d', DeadOk p.Now.length (fullP p) (goodP p) d' ∧ m_find (fullP p : Int) p fuel d (S : Int) o = some (d', match lst p.Now.length (fullP p) (goodP p) S with | some l => (o ++ iz l, true) | none => ([], false))
  | 0, S, d, o, _, hf, _, _ => by omega
  | fuel + 1, S, d, o, hs, hf, ho, hd => by
    have hF : fullP p < 256 := mask256 h.le8
    have hle := hs.le
    show ∃ d', _ ∧ m_findStep (fullP p : Int) p (m_find (fullP p : Int) p fuel) d (S : Int) o = _
    unfold m_findStep
    by_cases he : S = fullP p
    · subst he
      have e : ((fullP p : Int) == (fullP p : Int)) = true := by simp
      rw [e, least_full]
      exact ⟨d, hd, by simp⟩
    · have e : ((S : Int) == (fullP p : Int)) = false := by
        rw [beq_eq_false_iff_ne]; exact_mod_cast he
      rw [e]
      simp only [cond_false]
      have hstep := least_step p.Now.length (fullP p) (goodP p) hs he
      have key : ∃ r, bnd (loopM (τ := (List (Int × Bool) × (List Int × Bool)) ⊕ (List (Int × Bool))) (fun (s1 : Int × (List (Int × Bool))) => bif decide (s1.1 < (p.Now.length : Int)) then
          bnd (shlM .i64 1 s1.1) fun q1 => bnd (shrM .i64 (fullP p : Int) s1.1) fun q2 =>
          bif ((iAnd .i64 q2 1) == 0) then some (.next (IntKind.wrap .i64 (s1.1 + 1), s1.2)) else
          bif ((iOr .i64 (S : Int) q1) == (S : Int)) then some (.next (IntKind.wrap .i64 (s1.1 + 1), s1.2)) else
          bif (mget (kint .i64).eq s1.2 (iOr .i64 (S : Int) q1)).getD false then some (.next (IntKind.wrap .i64 (s1.1 + 1), s1.2)) else
          bnd (m_activation_good p (iOr .i64 (S : Int) q1)) fun r1 => bif !r1 then some (.next (IntKind.wrap .i64 (s1.1 + 1), s1.2)) else
          bnd (app 8 o [s1.1]) fun l1 => bnd (m_find (fullP p : Int) p fuel s1.2 (iOr .i64 (S : Int) q1) l1) fun r2 =>
          bif r2.2.2 then some (.done (.inl (r2.1, r2.2.1, true))) else some (.next (IntKind.wrap .i64 (s1.1 + 1), r2.1))
          else some (.done (.inr s1.2))) (0, d)) (fun o2 => retOr o2 fun o3 => some (mset (kint .i64).eq o3 (S : Int) true, [], false)) = some r ∧
          (DeadOk p.Now.length (fullP p) (goodP p) r.1 ∧ r.2 = match lst p.Now.length (fullP p) (goodP p) S with | some l => (o ++ iz l, true) | none => ([], false)) := by
        refine bnd_loop_inv (fun s => ∃ i : Nat, i ≤ p.Now.length ∧ s.1 = (i : Int) ∧ DeadOk p.Now.length (fullP p) (goodP p) s.2 ∧ ∀ j, j < i → (if stepB (fullP p) (goodP p) S j = true then (lst p.Now.length (fullP p) (goodP p) (S ||| 2 ^ j)).map (j :: ·) else none) = none)
          (fun s => p.Now.length - s.1.toNat)
          (fun t => match t with
            | .inl r => DeadOk p.Now.length (fullP p) (goodP p) r.1 ∧ ∃ l, lst p.Now.length (fullP p) (goodP p) S = some l ∧ r.2 = (o ++ iz l, true)
            | .inr d' => DeadOk p.Now.length (fullP p) (goodP p) d' ∧ lst p.Now.length (fullP p) (goodP p) S = none) ⟨0, by omega, rfl, hd, fun j hj => by omega⟩ (fun s hI => ?_) (fun t ht => ?_)
        · obtain ⟨i, hi, h1, h2, h3⟩ := hI
          obtain ⟨s1, s2⟩ := s
          simp only at h1 h2
          subst h1
          by_cases hin : i < p.Now.length
          · have hi8 : i < 8 := by have := h.le8; omega
            have d0 : decide ((i : Int) < (p.Now.length : Int)) = true := by simp; omega
            have hdv : fullP p / 2 ^ i < 4611686018427387904 := Nat.lt_of_le_of_lt (Nat.div_le_self _ _) (by omega)
            have hS : S < 256 := by omega
            have hw := wrap_succ hin (by have := h.le8; omega)
            have hnext : ∀ d', DeadOk p.Now.length (fullP p) (goodP p) d' → (if stepB (fullP p) (goodP p) S i = true then (lst p.Now.length (fullP p) (goodP p) (S ||| 2 ^ i)).map (i :: ·) else none) = none →
                ∃ i' : Nat, i' ≤ p.Now.length ∧ (((i + 1 : Nat) : Int), d').1 = (i' : Int) ∧ DeadOk p.Now.length (fullP p) (goodP p) (((i + 1 : Nat) : Int), d').2 ∧ ∀ j, j < i' → (if stepB (fullP p) (goodP p) S j = true then (lst p.Now.length (fullP p) (goodP p) (S ||| 2 ^ j)).map (j :: ·) else none) = none :=
              fun d' hd' hno => ⟨i + 1, by omega, rfl, hd', fun j hj => by
                by_cases hji : j = i
                · subst hji; exact hno
                · exact h3 j (by omega)⟩
            have hmu : ∀ d' : List (Int × Bool), p.Now.length - (((i + 1 : Nat) : Int), d').1.toNat < p.Now.length - ((i : Int), s2).1.toNat := fun d' => by
              show p.Now.length - ((i + 1 : Nat) : Int).toNat < p.Now.length - ((i : Nat) : Int).toNat
              omega
            simp only [d0, cond_true, shl1 hi8, shr1 (a := fullP p) (i := i) (by omega), bnd_some, and1 hdv, bit_is0, or1 hS hi8, or_same, hw]
            cases hb1 : (fullP p).testBit i
            · refine .inl ⟨_, rfl, hnext s2 h2 ?_, hmu s2⟩
              rw [if_neg]
              unfold stepB
              simp [hb1]
            cases hb2 : S.testBit i
            · simp only [Bool.not_true, cond_false]
              have hor := or256 hS hi8
              have hsub := hs.or hb1
              cases hb3 : (mget (kint .i64).eq s2 (((S ||| 2 ^ i : Nat)) : Int)).getD false
              · simp only [cond_false, good_eq h hor, bnd_some]
                cases hb4 : goodP p (S ||| 2 ^ i)
                · refine .inl ⟨_, rfl, hnext s2 h2 ?_, hmu s2⟩
                  rw [if_neg]
                  unfold stepB
                  simp [hb4]
                · simp only [Bool.not_true, cond_false]
                  have hlt := or_gt hb2
                  have hle2 := hsub.le
                  have hst : stepB (fullP p) (goodP p) S i = true := by unfold stepB; simp [hb1, hb2, hb4]
                  rw [app_eq (by simp; omega) (by simp; omega)]
                  simp only [bnd_some]
                  obtain ⟨d', hd', hm⟩ := find_ok h fuel (S ||| 2 ^ i) s2 (o ++ [(i : Int)]) hsub (by omega) (by simp; omega) h2
                  rw [hm]
                  simp only [bnd_some]
                  cases hl : lst p.Now.length (fullP p) (goodP p) (S ||| 2 ^ i) with
                  | none =>
                    refine .inl ⟨_, rfl, hnext d' hd' ?_, hmu d'⟩
                    rw [if_pos hst, hl]
                    rfl
                  | some l =>
                    refine .inr ⟨_, rfl, hd', i :: l, ?_, ?_⟩
                    · rw [hstep]
                      refine fs_first hin ?_ h3
                      rw [if_pos hst, hl]
                      rfl
                    · simp [iz]
              · refine .inl ⟨_, rfl, hnext s2 h2 ?_, hmu s2⟩
                have := h2 _ hsub hb3
                rw [this]
                simp
            · refine .inl ⟨_, rfl, hnext s2 h2 ?_, hmu s2⟩
              rw [if_neg]
              unfold stepB
              simp [hb2]
          · have d0 : decide ((i : Int) < (p.Now.length : Int)) = false := by simp; omega
            rw [d0]
            refine .inr ⟨_, rfl, h2, ?_⟩
            rw [hstep]
            exact fs_none fun j hj => h3 j (by omega)
        · rcases t with r | d'
          · obtain ⟨h1, l, h2, h3⟩ := ht
            refine ⟨r, rfl, h1, ?_⟩
            rw [h2, h3]
          · obtain ⟨h1, h2⟩ := ht
            refine ⟨_, rfl, ?_, by rw [h2]⟩
            intro T hT hg
            rw [mget_mset (kint_iff .i64)] at hg
            by_cases hTS : (T : Int) = (S : Int)
            · have : T = S := by exact_mod_cast hTS
              subst this
              exact h2
            · rw [if_neg hTS] at hg
              exact h1 T hT hg
      obtain ⟨r, k1, k2, k3⟩ := key
      refine ⟨r.1, k2, ?_⟩
      rw [k1, ← k3]

def orderP (p : T_Plan) : Option (List Nat) := lst p.Now.length (fullP p) (goodP p) 0

theorem order_eq (p : T_Plan) : m_activation_Order p = some (if validN p = 0 then (match orderP p with | some l => (iz l, 0) | none => ([], 41)) else ([], (validN p : Int))) := by
  unfold m_activation_Order
  rw [valid_eq]
  simp only [bnd_some]
  by_cases hv : validN p = 0
  · have h := planOk.1 hv
    have e : ((validN p : Int) != 0) = false := by rw [hv]; rfl
    rw [e, if_pos hv, all_eq h.le8 h.len]
    simp only [cond_false, bnd_some]
    have hF : fullP p < 256 := mask256 h.le8
    obtain ⟨d', _, hm⟩ := find_ok h findFuel 0 [] [] (sub2.zero _) (by unfold findFuel; omega) (by simp; omega) (fun T _ hg => by simp [mget] at hg)
    have hm' : m_find (fullP p : Int) p findFuel [] 0 [] = _ := hm
    rw [hm']
    simp only [bnd_some]
    unfold orderP
    cases lst p.Now.length (fullP p) (goodP p) 0 <;> simp
  · have e : ((validN p : Int) != 0) = true := by
      rw [bne_iff_ne]; exact_mod_cast hv
    rw [e, if_neg hv]
    rfl
end Go.Proofs.Yteaoblglgcpdnaa
