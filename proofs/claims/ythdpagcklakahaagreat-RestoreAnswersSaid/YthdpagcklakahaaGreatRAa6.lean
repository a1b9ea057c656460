/-
  Texts of this seat, put together: rules, walks, plain laws.
  Conditions: none.
-/
import Derived.Test.YthdpagcklakahaaGreatRAa5
section
namespace Go.Proofs.YthdpagcklakahaaGreat
open Go
set_option linter.unusedSimpArgs false
set_option linter.unusedVariables false
theorem wrapS {i : Nat} (h : i ≤ 1000000000) : IntKind.wrap .i64 ((i : Int) + 1) = ((i + 1 : Nat) : Int) := by
  rw [wrap_i64 (by omega) (by omega)]; rfl
theorem set_iff (x y : T_Setting) : x = y ↔ x.Key = y.Key ∧ x.Delete = y.Delete ∧ x.Value = y.Value := by
  cases x; cases y; simp only [T_Setting.mk.injEq]
  exact ⟨fun h => ⟨h.1, h.2.2, h.2.1⟩, fun h => ⟨h.1, h.2.2, h.2.1⟩⟩
instance : DecidableEq T_Setting := fun x y => decidable_of_iff _ (set_iff x y).symm
theorem copyJ {l : List Int} (hl : l.length ≤ 1000000) : m_ref01_Copy l = some l := by
  unfold m_ref01_Copy
  refine bnd_loop (fun i => (l.take i, (i : Int))) l.length l rfl (fun i hi => ?_) ?_ rfl
  · simp only
    rw [cnd_t (by simpa using hi), elt_lt hi, bnd_some, app_eq (by simp; omega) (by simp; omega), bnd_some, wrapS (by omega), List.take_append_getElem hi]
  · simp only
    rw [cnd_f (by simp)]
    simp
theorem any_ne {α : Type} {n : Nat} {a b : List α} (p : Nat → Bool) (ha : a.length = n) (hb : b.length = n) (hp : ∀ i (hi : i < n), p i = false ↔ a[i]'(by omega) = b[i]'(by omega)) : (List.range n).any p = false ↔ a = b := by
  rw [List.any_eq_false]
  constructor
  · intro h
    refine List.ext_getElem (by omega) fun i h1 h2 => ?_
    have := h i (List.mem_range.2 (by omega))
    exact (hp i (by omega)).1 (by simpa using this)
  · intro h i hi
    have := (hp i (List.mem_range.1 hi)).2 (by subst h; rfl)
    simp [this]
theorem sameI {a b : List Int} (hl : a.length ≤ 1000000) : m_ref01_Same a b = some (decide (a = b)) := by
  unfold m_ref01_Same
  by_cases h : a.length = b.length
  · rw [cnd_f (by simp [h])]
    refine bnd_loop_any (fun i => (i : Int)) a.length (fun i => a[i]? != b[i]?) (.inl false) (.inr ()) rfl (fun i hi => ?_) ?_ ?_
    · have hi2 : i < b.length := by omega
      rw [cnd_t (by simpa using hi), elt_lt hi, bnd_some, elt_lt hi2, bnd_some, List.getElem?_eq_getElem hi, List.getElem?_eq_getElem hi2, wrapS (by omega)]
      have e : (some a[i] != some b[i]) = (a[i] != b[i]) := by simp [bne]
      rw [e]
      cases a[i] != b[i] <;> rfl
    · rw [cnd_f (by simp)]
    · have h1 := any_ne (a := a) (b := b) (fun i => a[i]? != b[i]?) rfl h.symm (fun i hi => by
        have hi2 : i < b.length := by omega
        simp only [List.getElem?_eq_getElem hi, List.getElem?_eq_getElem hi2]
        simp [bne])
      cases hh : (List.range a.length).any (fun i => a[i]? != b[i]?) with
      | false => rw [decide_eq_true (h1.1 hh)]; rfl
      | true =>
        have : ¬ a = b := fun e => by rw [h1.2 e] at hh; cases hh
        rw [decide_eq_false this]; rfl
  · rw [cnd_t (by simp only [bne_iff_ne, ne_eq]; omega), decide_eq_false (fun e => h (by rw [e]))]
def okV (l : List T_Setting) : Prop := l.length ≤ 1000000 ∧ ∀ x ∈ l, x.Value.length ≤ 1000000
theorem sameL {a b : List T_Setting} (hl : okV a) : m_ref06_Same a b = some (decide (a = b)) := by
  unfold m_ref06_Same
  by_cases h : a.length = b.length
  · rw [cnd_f (by simp [h])]
    refine bnd_loop_any (fun i => (i : Int)) a.length (fun i => decide (a[i]? ≠ b[i]?)) (.inl false) (.inr ()) rfl (fun i hi => ?_) ?_ ?_
    · have hi2 : i < b.length := by omega
      have := hl.1
      rw [cnd_t (by simpa using hi), elt_lt hi, bnd_some, elt_lt hi2, bnd_some, List.getElem?_eq_getElem hi, List.getElem?_eq_getElem hi2, wrapS (by omega), sameI (hl.2 _ (List.getElem_mem hi))]
      by_cases h1 : a[i].Key = b[i].Key
      · rw [cnd_f (by simp [h1])]
        by_cases h2 : a[i].Delete = b[i].Delete
        · rw [cnd_f (by simp [h2])]
          by_cases h3 : a[i].Value = b[i].Value
          · have e : a[i] = b[i] := (set_iff _ _).2 ⟨h1, h2, h3⟩
            simp [e]
          · have e : a[i] ≠ b[i] := fun e => h3 (by rw [e])
            simp [h3, e]
        · rw [cnd_t (by simp [h2])]
          rw [decide_eq_true (by simp; exact fun e => h2 (by rw [e]))]
          rfl
      · rw [cnd_t (by simp [h1])]
        rw [decide_eq_true (by simp; exact fun e => h1 (by rw [e]))]
        rfl
    · rw [cnd_f (by simp)]
    · have h1 := any_ne (a := a) (b := b) (fun i => decide (a[i]? ≠ b[i]?)) rfl h.symm (fun i hi => by
        have hi2 : i < b.length := by omega
        simp only [List.getElem?_eq_getElem hi, List.getElem?_eq_getElem hi2]
        simp)
      cases hh : (List.range a.length).any (fun i => decide (a[i]? ≠ b[i]?)) with
      | false => rw [decide_eq_true (h1.1 hh)]; rfl
      | true =>
        have : ¬ a = b := fun e => by rw [h1.2 e] at hh; cases hh
        rw [decide_eq_false this]; rfl
  · rw [cnd_t (by simp only [bne_iff_ne, ne_eq]; omega), decide_eq_false (fun e => h (by rw [e]))]
theorem copyL {l : List T_Setting} (hl : okV l) : m_ref06_Copy l = some l := by
  unfold m_ref06_Copy
  have := hl.1
  refine bnd_loop (fun i => (l.take i, (i : Int))) l.length l rfl (fun i hi => ?_) ?_ rfl
  · simp only
    rw [cnd_t (by simpa using hi), elt_lt hi, bnd_some, copyJ (hl.2 _ (List.getElem_mem hi)), bnd_some]
    have e : (⟨l[i].Key, l[i].Value, l[i].Delete⟩ : T_Setting) = l[i] := rfl
    rw [e, app_eq (by simp; omega) (by simp; omega), bnd_some, wrapS (by omega), List.take_append_getElem hi]
  · simp only
    rw [cnd_f (by simp)]
    simp
def appG (c : T_Setting) : Bool → List T_Setting → List T_Setting
  | true, r => r.filter fun x => x.Key != c.Key
  | false, [] => [c]
  | false, x :: r => if c.Key < x.Key then c :: x :: r.filter (fun x => x.Key != c.Key) else if x.Key ≠ c.Key then x :: appG c false r else c :: r.filter fun x => x.Key != c.Key
noncomputable def appStep (l_p0 : List T_Setting) (c_p1 : T_Setting) : List T_Setting × Bool × Int → Option (Step (List T_Setting × Bool × Int) (List T_Setting × Bool)) :=
  (fun (s1 : List T_Setting × Bool × Int) => bif decide (s1.2.2 < (l_p0.length : Int)) then (bnd ((bnd ((bif !s1.2.1 then (bnd (elt l_p0 s1.2.2) fun x1 => some (decide (c_p1.Key < x1.Key))) else (some false) : Option Bool)) fun o3 => bif o3 then (bnd (app 40 s1.1 [c_p1]) fun l1 => some (l1, true)) else (some (s1.1, s1.2.1)) : Option (List T_Setting × Bool))) fun o2 => bnd (elt l_p0 s1.2.2) fun x2 => bif (x2.Key != c_p1.Key) then (bnd (app 40 o2.1 [x2]) fun l2 => some (.next (l2, o2.2, IntKind.wrap .i64 (s1.2.2 + 1)))) else (bif !o2.2 then (bnd (app 40 o2.1 [c_p1]) fun l3 => some (.next (l3, true, IntKind.wrap .i64 (s1.2.2 + 1)))) else (some (.next (o2.1, o2.2, IntKind.wrap .i64 (s1.2.2 + 1)))))) else (some (.done (s1.1, s1.2.1))))
theorem app_loop {K : List T_Setting} (hK : K.length ≤ 1000000) (c : T_Setting) : ∀ (r : List T_Setting) (i : Nat) (o : List T_Setting) (d : Bool), K.drop i = r → i + r.length = K.length → o.length ≤ i + 1 → (d = false → o.length ≤ i) → ∃ o' d', loopM (appStep K c) (o, d, (i : Int)) = some (o', d') ∧ o'.length ≤ K.length + 1 ∧ (if d' = true then o' else o' ++ [c]) = o ++ appG c d r
  | [], i, o, d, h1, h2, h3, h3' => by
    simp only [List.length_nil] at h2
    refine ⟨o, d, loop_done ?_, by omega, ?_⟩
    · unfold appStep
      simp only
      rw [cnd_f (by simp; omega)]
    · cases d <;> simp [appG]
  | x :: r, i, o, d, h1, h2, h3, h3' => by
    simp only [List.length_cons] at h2
    have hi : i < K.length := by omega
    have hx : K[i] = x := by
      have := List.getElem?_drop (xs := K) (i := i) (j := 0)
      rw [h1] at this
      simp only [List.getElem?_cons_zero, Nat.add_zero, List.getElem?_eq_getElem hi] at this
      exact (Option.some.inj this).symm
    have hr : K.drop (i + 1) = r := by rw [← List.drop_drop, h1]; rfl
    have happ : ∀ (q : List T_Setting) (y : T_Setting), q.length ≤ i + 2 → app 40 q [y] = some (q ++ [y]) := fun q y hq => app_eq (by simp; omega) (by simp; omega)
    have step : ∀ s', appStep K c (o, d, (i : Int)) = some (.next s') → (∃ o2 d2, s' = (o2, d2, ((i + 1 : Nat) : Int)) ∧ o2.length ≤ i + 2 ∧ (d2 = false → o2.length ≤ i + 1) ∧ o2 ++ appG c d2 r = o ++ appG c d (x :: r)) → ∃ o' d', loopM (appStep K c) (o, d, (i : Int)) = some (o', d') ∧ o'.length ≤ K.length + 1 ∧ (if d' = true then o' else o' ++ [c]) = o ++ appG c d (x :: r) := by
      intro s' h4 ⟨o2, d2, h5, h6, h6', h7⟩
      subst h5
      obtain ⟨o', d', h8, h9, h10⟩ := app_loop hK c r (i + 1) o2 d2 hr (by omega) (by omega) h6'
      exact ⟨o', d', loop_next h4 h8, h9, by rw [h10, h7]⟩
    unfold appStep at step
    simp only at step
    rw [cnd_t (by simpa using hi), elt_lt hi, hx, wrapS (by omega), bnd_some] at step
    cases d with
    | true =>
      rw [cnd_f (by rfl), bnd_some, cnd_f rfl, bnd_some, bnd_some] at step
      by_cases hk : x.Key = c.Key
      · rw [cnd_f (by simp [hk]), cnd_f (by rfl)] at step
        exact step _ rfl ⟨o, true, by simp, by omega, by simp, by simp [appG, hk]⟩
      · rw [cnd_t (by simp [hk]), happ _ _ (by first | omega | (simp only; omega)), bnd_some] at step
        exact step _ rfl ⟨o ++ [x], true, by simp, by simp; omega, by simp, by simp [appG, hk]⟩
    | false =>
      rw [cnd_t (by rfl), bnd_some] at step
      by_cases hlt : c.Key < x.Key
      · rw [cnd_t (by simp [hlt]), happ _ _ (by first | omega | (simp only; omega)), bnd_some, bnd_some, bnd_some] at step
        have hk : ¬ x.Key = c.Key := by omega
        rw [cnd_t (by simp [hk]), happ _ _ (by simp; omega), bnd_some] at step
        have := h3' rfl
        exact step _ rfl ⟨o ++ [c] ++ [x], true, by simp, by simp; omega, by simp, by simp [appG, hlt]⟩
      · rw [cnd_f (by simp [hlt]), bnd_some, bnd_some] at step
        by_cases hk : x.Key = c.Key
        · rw [cnd_f (by simp [hk]), cnd_t (by rfl), happ _ _ (by first | omega | (simp only; omega)), bnd_some] at step
          exact step _ rfl ⟨o ++ [c], true, by simp, by simp; omega, by simp, by simp [appG, hlt, hk]⟩
        · rw [cnd_t (by simp [hk]), happ _ _ (by first | omega | (simp only; omega)), bnd_some] at step
          exact step _ rfl ⟨o ++ [x], false, by simp, by simp; omega, fun _ => by simp; exact h3' rfl, by simp [appG, hlt, hk]⟩
theorem filter_all {c : T_Setting} {r : List T_Setting} {p : T_Setting → Bool} (h : ∀ x ∈ r, p x = true) : r.filter p = r := List.filter_eq_self.2 h
theorem filter_no {r : List T_Setting} {p : T_Setting → Bool} (h : ∀ x ∈ r, p x = false) : r.filter p = [] := List.filter_eq_nil_iff.2 fun x hx => by simp [h x hx]
theorem appG_put {c : T_Setting} : ∀ {K : List T_Setting}, Asc K → appG c false K = (K.filter fun x => decide (x.Key < c.Key)) ++ c :: K.filter fun x => decide (c.Key < x.Key)
  | [], _ => rfl
  | x :: r, h => by
    have hp := List.pairwise_cons.1 h
    unfold appG
    by_cases h1 : c.Key < x.Key
    · rw [if_pos h1, List.filter_cons, List.filter_cons, if_neg (by simp; omega), if_pos (by simpa using h1), filter_no (p := fun x => decide (x.Key < c.Key)) (fun y hy => by have := hp.1 y hy; simp; omega), filter_all (c := c) (p := fun x => x.Key != c.Key) (fun y hy => by have := hp.1 y hy; simp; omega), filter_all (c := c) (p := fun x => decide (c.Key < x.Key)) (fun y hy => by have := hp.1 y hy; simp; omega)]
      rfl
    · rw [if_neg h1]
      by_cases h2 : x.Key = c.Key
      · rw [if_neg (by simpa using h2), List.filter_cons, List.filter_cons, if_neg (by simp; omega), if_neg (by simpa using h1), filter_no (p := fun x => decide (x.Key < c.Key)) (fun y hy => by have := hp.1 y hy; simp; omega), filter_all (c := c) (p := fun x => x.Key != c.Key) (fun y hy => by have := hp.1 y hy; simp; omega), filter_all (c := c) (p := fun x => decide (c.Key < x.Key)) (fun y hy => by have := hp.1 y hy; simp; omega)]
        rfl
      · rw [if_pos h2, List.filter_cons, List.filter_cons, if_pos (by simp; omega), if_neg (by simpa using h1), appG_put hp.2]
        rfl
theorem appG_eq {c : T_Setting} {K : List T_Setting} (h : Asc K) : appG c c.Delete K = appK K c := by
  unfold appK
  cases hd : c.Delete
  · rw [if_neg (by simp)]
    exact appG_put h
  · rw [if_pos rfl]
    cases K <;> rfl
theorem apply_eq {K : List T_Setting} (h : Asc K) (hK : K.length ≤ 1000000) (c : T_Setting) : m_ref06_Apply K c = some (appK K c) := by
  obtain ⟨o, d, h1, h2, h3⟩ := app_loop hK c K 0 [] c.Delete rfl (by simp) (by simp) (by simp)
  rw [appG_eq h, List.nil_append] at h3
  unfold m_ref06_Apply
  show bnd (loopM (appStep K c) _) _ = _
  rw [show (([], c.Delete, 0) : List T_Setting × Bool × Int) = ([], c.Delete, ((0 : Nat) : Int)) from rfl, h1, bnd_some, ← h3]
  cases d
  · simp only [Bool.not_false, cond_true]
    rw [app_eq (by simp; omega) (by simp; omega)]
    rfl
  · rfl
theorem appK_len (K : List T_Setting) (c : T_Setting) : (appK K c).length ≤ K.length + 1 := by
  unfold appK
  split
  · have := List.length_filter_le (fun x : T_Setting => x.Key != c.Key) K; omega
  · rw [List.length_append, List.length_cons]
    have e : ∀ L : List T_Setting, (L.filter fun x => decide (x.Key < c.Key)).length + (L.filter fun x => decide (c.Key < x.Key)).length ≤ L.length := fun L => by
      induction L with
      | nil => simp
      | cons x r ih =>
        rw [List.filter_cons, List.filter_cons, List.length_cons]
        by_cases h1 : x.Key < c.Key
        · rw [if_pos (by simpa using h1), if_neg (by simp; omega), List.length_cons]; omega
        · rw [if_neg (by simpa using h1)]
          split
          · rw [List.length_cons]; omega
          · omega
    have := e K
    omega
theorem allK_len : ∀ (l K : List T_Setting), (allK K l).length ≤ K.length + l.length
  | [], K => by simp [allK]
  | c :: l, K => by
    have h1 := allK_len l (appK K c)
    have h2 := appK_len K c
    unfold allK at h1 ⊢
    rw [List.foldl_cons, List.length_cons]
    omega
theorem allK_take {K l : List T_Setting} {i : Nat} (h : i < l.length) : appK (allK K (l.take i)) l[i] = allK K (l.take (i + 1)) := by
  unfold allK
  rw [← List.take_append_getElem h, List.foldl_append]
  rfl
theorem applyAll_eq {K l : List T_Setting} (h : Asc K) (hK : K.length + l.length ≤ 1000000) : m_ref06_ApplyAll K l = some (allK K l) := by
  unfold m_ref06_ApplyAll
  refine bnd_loop (fun i => (allK K (l.take i), (i : Int))) l.length (allK K l) rfl (fun i hi => ?_) ?_ rfl
  · simp only
    have := allK_len (l.take i) K
    rw [List.length_take] at this
    rw [cnd_t (by simpa using hi), elt_lt hi, bnd_some, apply_eq (allK_asc h) (by omega), bnd_some, wrapS (by omega), allK_take hi]
  · simp only
    rw [cnd_f (by simp), List.take_length]
theorem all_eq {s : T_settings_Store} {f : Nat} {o : OS} (hs : RelO s f o) (ho : OkK o.K) (d : T_Device) : m_settings_Store_All s d = some o.K := by
  obtain ⟨m, h1, h2, h3⟩ := hs.all
  unfold m_settings_Store_All
  have hl : m.length ≤ 1000 := by
    have := toL_len m
    have := ho.len
    rw [h3] at *
    omega
  rw [h1, sorted_eq h2 hl (fun k v hk => by have := (mgetS_ok h3 ho k v hk).1; omega), h3]
  rfl
theorem all_end (d : T_Device) : m_settings_Store_All endS d = some [] := by
  unfold m_settings_Store_All
  show bnd (m__settings_values_sorted (some [])) _ = _
  rw [sorted_eq (m := []) (by unfold NdK; exact List.Pairwise.nil) (by simp) (fun k v h => by cases h), List.eq_nil_of_length_eq_zero (toL_len [])]
  rfl
theorem get_eq {s : T_settings_Store} {f : Nat} {o : OS} (hs : RelO s f o) (ho : OkK o.K) (k : Int) (d : T_Device) : m_settings_Store_Get s k d = some ((look o.K k).getD [], (look o.K k).isSome) := by
  obtain ⟨m, h1, h2, h3⟩ := hs.all
  unfold m_settings_Store_Get
  have e : mget (kint .u8).eq (s.all.getD []) k = look o.K k := by
    rw [h1, ← h3, look_toL]
    rfl
  rw [e, clone_eq]
  · rfl
  · cases hk : look o.K k with
    | none => simp
    | some v =>
      have := (mgetS_ok h3 ho k v (by rw [← look_toL, h3]; exact hk)).1
      simp; omega
theorem get_end (k : Int) (d : T_Device) : m_settings_Store_Get endS k d = some ([], false) := by
  unfold m_settings_Store_Get
  show bnd (m_slices_Clone__byte_byte []) _ = _
  rw [clone_eq (by simp)]
  rfl
theorem put_eq (s : T_settings_Store) (k : Int) (v : List Int) (d : T_Device) : m_settings_Store_Put s k v d = m_settings_Store_Update s [⟨k, v, false⟩] d := by
  unfold m_settings_Store_Put
  cases m_settings_Store_Update s [⟨k, v, false⟩] d <;> rfl
end Go.Proofs.YthdpagcklakahaaGreat
end
section
namespace Go.Proofs.YthdpagcklakahaaGreat
open Go
set_option linter.unusedSimpArgs false
set_option linter.unusedVariables false
def okR (b : Int) (l : List T_Setting) : Prop := ∀ x ∈ l, (0 ≤ x.Key ∧ x.Key ≤ b) ∧ rng x.Value ∧ x.Value.length ≤ 29
theorem okR.add {b : Int} {l : List T_Setting} (h : okR b l) {x : T_Setting} (hx : (0 ≤ x.Key ∧ x.Key ≤ b) ∧ rng x.Value ∧ x.Value.length ≤ 29) : okR b (l ++ [x]) := fun y hy => by
  rcases List.mem_append.1 hy with hy | hy
  · exact h y hy
  · rw [List.mem_singleton] at hy; subst hy; exact hx
theorem Like.trans {d e g : T_Device} (h : Like d e) (k : Like e g) : Like d g := ⟨k.ok, k.size.trans h.size, k.wear.trans h.wear, k.torn.trans h.torn, k.len.trans h.len⟩
structure Sto (d : T_Device) (s : T_settings_Store) (f : Nat) : Prop where
  ok : OkD d
  size : 1024 ≤ d.size
  first : f + 1 < d.wear.length
  down : d.down = false
  rel : RelO s f (openF d f)
theorem Sto.okK {d : T_Device} {s : T_settings_Store} {f : Nat} (h : Sto d s f) : OkK (openF d f).K := openF_ok h.ok f
theorem open_sto {d : T_Device} (h : OkD d) (hd : d.down = false) (hz : 1024 ≤ d.size) {f : Nat} (hf : f + 1 < d.wear.length) : ∃ s, m_settings_Open d (f : Int) = some (d, some s, 0) ∧ Sto d s f := by
  obtain ⟨s, h1, h2⟩ := open_eq h hd hz hf
  exact ⟨s, h1, h, hz, hf, hd, h2⟩
theorem Sto.all {d : T_Device} {s : T_settings_Store} {f : Nat} (h : Sto d s f) (e : T_Device) : m_settings_Store_All s e = some (openF d f).K := all_eq h.rel h.okK e
theorem Sto.okV {d : T_Device} {s : T_settings_Store} {f : Nat} (h : Sto d s f) : okV (openF d f).K := ⟨by have := h.okK.len; omega, fun x hx => by have := (h.okK.ok x hx).len; omega⟩
structure UpdS (d : T_Device) (s : T_settings_Store) (f : Nat) (l : List T_Setting) (r : T_settings_Store × T_Device × Int) : Prop where
  like : Like d r.2.1
  val : r.2 = (updF (openF d f) d f l).2
  cases : (r.2.2 = 0 ∧ Sto r.2.1 r.1 f ∧ chkF l = 0 ∧ (openF r.2.1 f).K = allK (openF d f).K l ∧ (openF r.2.1 f).gen ≤ (openF d f).gen + 1) ∨
    ((r.2.2 = 1 ∨ r.2.2 = 3 ∨ r.2.2 = 7) ∧ r.2.1 = d ∧ RelO r.1 f (openF d f)) ∨
    (r.2.2 = 10 ∧ r.2.1.down = true ∧ r.1 = endS ∧ chkF l = 0 ∧ ((openF r.2.1 f).K = (openF d f).K ∨ (openF r.2.1 f).K = allK (openF d f).K l) ∧ (openF r.2.1 f).gen ≤ (openF d f).gen + 1)
  calm : d.left = 0 → r.2.2 ≠ 10 ∧ r.2.1.left = 0
  done : chkF l = 0 → (allK (openF d f).K l).length ≤ 32 → (openF d f).gen < 2147483648 → r.2.2 = 0 ∨ r.2.2 = 10
def okU (l : List T_Setting) : Prop := l.length ≤ 1000000 ∧ ∀ x ∈ l, 0 ≤ x.Key ∧ x.Key ≤ 255 ∧ rng x.Value
theorem okR.okU {b : Int} {l : List T_Setting} (h : okR b l) (hb : b ≤ 255) (hl : l.length ≤ 1000000) : okU l := ⟨hl, fun x hx => by obtain ⟨h1, h2, h3⟩ := h x hx; exact ⟨h1.1, by omega, h2⟩⟩
theorem okR.okV {b : Int} {l : List T_Setting} (h : okR b l) (hl : l.length ≤ 1000000) : okV l := ⟨hl, fun x hx => by have := (h x hx).2.2; omega⟩
theorem Sto.upd {d : T_Device} {s : T_settings_Store} {f : Nat} (h : Sto d s f) {l : List T_Setting} (hl : okU l) : ∃ r, m_settings_Store_Update s l d = some r ∧ UpdS d s f l r := by
  have hO := openF_okO h.ok h.size h.first
  obtain ⟨s', h1, h2⟩ := update_eq h.rel hO h.ok h.size h.first hl.1 hl.2
  have hU := upd_ok h.ok h.down h.size h.first rfl hl.2
  refine ⟨_, h1, hU.like, rfl, ?_, fun hc => ?_, fun h3 h4 h5 => upd_done h.ok h.down h.size h.first rfl hl.2 h3 h4 h5⟩
  · rcases hU.cases with ⟨a1, a2, a3, a4, a5, a6⟩ | ⟨a1, a2, a3⟩ | ⟨a1, a2, a3, a4, a5, a6⟩
    · refine .inl ⟨a1, ⟨hU.like.ok, by rw [hU.like.size]; exact h.size, by rw [hU.like.wear]; exact h.first, a2, ?_⟩, a4, a5, a6⟩
      rw [a3] at h2
      exact h2
    · refine .inr (.inl ⟨a1, a3, ?_⟩)
      rw [a2] at h2
      exact h2
    · refine .inr (.inr ⟨a1, a2, ?_, a4, a5, a6⟩)
      rw [a3] at h2
      exact h2
  · have := updF_calm hc h.down (openF d f) f l
    exact ⟨this.1, this.2.1⟩
structure Fil (d : T_Device) (s : T_settings_Store) (K : List T_Setting) (g : Int) : Prop where
  sto : Sto d s 0
  size : d.size = 1024
  wear : d.wear.length = 3
  left : d.left = 0
  list : (openF d 0).K = K
  gen : (openF d 0).gen ≤ g
  keys : ∀ x ∈ K, x.Key ≤ 26
end Go.Proofs.YthdpagcklakahaaGreat
end
section
namespace Go.Proofs.YthdpagcklakahaaGreat
open Go
set_option linter.unusedSimpArgs false
set_option linter.unusedVariables false
def okP (l : List T_Setting) : Prop := (∀ x ∈ l, (0 ≤ x.Key ∧ x.Key ≤ 255) ∧ rng x.Value ∧ x.Value.length ≤ 28 ∧ (x.Delete = true → x.Value = [])) ∧ l.Pairwise fun a b => a.Key ≠ b.Key
theorem chkG_zero : ∀ {l : List T_Setting} {seen : List Int}, okP l → (∀ x ∈ l, x.Key ∉ seen) → chkG seen l = 0
  | [], _, _, _ => rfl
  | x :: r, seen, h, hs => by
    have hx := h.1 x (by simp)
    have hp := List.pairwise_cons.1 h.2
    unfold chkG
    rw [if_neg (fun hb => by
      rcases hb with hb | ⟨hb, hb2⟩
      · omega
      · rw [hx.2.2.2 hb] at hb2; simp at hb2), if_neg (hs x (by simp))]
    refine chkG_zero ⟨fun y hy => h.1 y (by simp [hy]), hp.2⟩ fun y hy hm => ?_
    rcases List.mem_cons.1 hm with hm | hm
    · exact hp.1 y hy hm.symm
    · exact hs y (by simp [hy]) hm
theorem chkF_zero {l : List T_Setting} (h : okP l) (hl : l.length ≤ 32) : chkF l = 0 := by
  unfold chkF
  rw [if_neg (by omega)]
  exact chkG_zero h fun x _ h => by cases h
theorem okP.okU {l : List T_Setting} (h : okP l) (hl : l.length ≤ 1000000) : okU l := ⟨hl, fun x hx => ⟨(h.1 x hx).1.1, (h.1 x hx).1.2, (h.1 x hx).2.1⟩⟩
theorem okP.okV {l : List T_Setting} (h : okP l) (hl : l.length ≤ 1000000) : okV l := ⟨hl, fun x hx => by have := (h.1 x hx).2.2.1; omega⟩
theorem Sto.arm {d : T_Device} {s : T_settings_Store} {f : Nat} (h : Sto d s f) {n t : Int} (hn : n ≤ 9223372036854775807) (ht : 0 ≤ t ∧ t ≤ 255) : Sto (armF d n t) s f := by
  have e : armF d n t = ⟨d.size, d.bytes, d.wear, d.steps, max n 0, t, d.down⟩ := by unfold armF; rw [if_neg (by simp [h.down])]
  refine ⟨armF_ok h.ok hn ht, ?_, ?_, ?_, ?_⟩
  · rw [e]; exact h.size
  · rw [e]; exact h.first
  · rw [e]; exact h.down
  · rw [openF_arm]; exact h.rel
structure Cut (d : T_Device) (f : Nat) (l : List T_Setting) (r : T_settings_Store × T_Device × Int) (t : T_settings_Store) : Prop where
  err : r.2.2 = 0 ∧ r.2.1.down = false ∧ Sto r.2.1 r.1 f ∨ r.2.2 = 10 ∧ r.2.1.down = true ∧ r.1 = endS
  open_ : m_settings_Open (restF r.2.1) (f : Int) = some (restF r.2.1, some t, 0)
  sto : Sto (restF r.2.1) t f
  list : (openF (restF r.2.1) f).K = allK (openF d f).K l ∨ r.2.2 = 10 ∧ (openF (restF r.2.1) f).K = (openF d f).K
  gen : (openF (restF r.2.1) f).gen ≤ (openF d f).gen + 1
  size : r.2.1.size = d.size
  wear : r.2.1.wear.length = d.wear.length
  val : r.2 = (updF (openF d f) d f l).2
theorem Cut.calm {d : T_Device} {f : Nat} {l : List T_Setting} {r : T_settings_Store × T_Device × Int} {t : T_settings_Store} (h : Cut d f l r t) : (restF r.2.1).left = 0 := rfl
theorem Sto.sure {d : T_Device} {s : T_settings_Store} {f : Nat} (h : Sto d s f) (h0 : d.left = 0) {l : List T_Setting} (hl : okP l) (h32 : l.length ≤ 32) (hK : (allK (openF d f).K l).length ≤ 32) (hg : (openF d f).gen < 2147483648) : ∃ r, m_settings_Store_Update s l d = some r ∧ r.2.2 = 0 ∧ Sto r.2.1 r.1 f ∧ (openF r.2.1 f).K = allK (openF d f).K l ∧ (openF r.2.1 f).gen ≤ (openF d f).gen + 1 ∧ Like d r.2.1 ∧ r.2.1.left = 0 := by
  obtain ⟨r, h1, h2⟩ := h.upd (hl.okU (by omega))
  have hd := h2.done (chkF_zero hl h32) hK hg
  have hc := h2.calm h0
  rcases h2.cases with ⟨a1, a2, a3, a4, a5⟩ | ⟨a1, _⟩ | ⟨a1, _⟩
  · exact ⟨r, h1, a1, a2, a4, a5, h2.like, hc.2⟩
  · omega
  · exact absurd a1 hc.1
end Go.Proofs.YthdpagcklakahaaGreat
end
section
namespace Go.Proofs.YthdpagcklakahaaGreat
open Go
set_option linter.unusedSimpArgs false
set_option linter.unusedVariables false
theorem okU.nil : okU [] := ⟨by simp, fun x h => by cases h⟩
theorem Sto.none {d : T_Device} {s : T_settings_Store} {f : Nat} (h : Sto d s f) : ∃ s', m_settings_Store_Update s [] d = some (s', d, 0) ∧ Sto d s' f := by
  obtain ⟨s', h1, h2⟩ := update_eq (l := []) h.rel (openF_okO h.ok h.size h.first) h.ok h.size h.first okU.nil.1 okU.nil.2
  have e : updF (openF d f) d f [] = (some (openF d f), d, 0) := by
    unfold updF
    rw [if_neg (by simp [h.down]), if_neg (by decide), if_pos rfl]
  rw [e] at h1 h2
  exact ⟨s', h1, h.ok, h.size, h.first, h.down, h2⟩
end Go.Proofs.YthdpagcklakahaaGreat
end
section
namespace Go.Proofs.YthdpagcklakahaaGreat
open Go
set_option linter.unusedSimpArgs false
set_option linter.unusedVariables false
def toF (d : T_Device) : T_Flash := ⟨d.size, d.bytes, d.wear, d.steps, d.left, d.torn, d.down⟩
theorem fits_eq {d : T_Device} (h : OkD d) (at_ n : Int) : m_ref05_Flash_Fits (toF d) at_ n = some (decide (0 ≤ at_ ∧ at_ ≤ d.bytes.length ∧ 0 ≤ n ∧ n ≤ d.bytes.length - at_)) := by
  have hb := h.bound
  unfold m_ref05_Flash_Fits
  show bnd (bif decide (at_ ≥ 0) then (bif decide (n ≥ 0) then (bif decide (at_ ≤ (d.bytes.length : Int)) then (some (decide (n ≤ (IntKind.wrap .i64 ((d.bytes.length : Int) - at_))))) else (some false)) else (some false)) else (some false)) _ = _
  by_cases h1 : at_ ≥ 0
  · rw [cnd_t (by simpa using h1)]
    by_cases h3 : n ≥ 0
    · rw [cnd_t (by simpa using h3)]
      by_cases h2 : at_ ≤ (d.bytes.length : Int)
      · rw [cnd_t (by simpa using h2), bnd_some, wrap_i64 (by omega) (by omega)]
        congr 1
        rw [decide_eq_decide]
        omega
      · rw [cnd_f (by simpa using h2), bnd_some]
        congr 1
        symm
        rw [decide_eq_false_iff_not]
        omega
    · rw [cnd_f (by simpa using h3), bnd_some]
      congr 1
      symm
      rw [decide_eq_false_iff_not]
      omega
  · rw [cnd_f (by simpa using h1), bnd_some]
    congr 1
    symm
    rw [decide_eq_false_iff_not]
    omega
theorem fails_eq {d : T_Device} (h : OkD d) (hd : d.down = false) : m_ref05_Flash_fails (toF d) = some (toF (stepF d).1, (stepF d).2) := by
  have hl := h.left
  unfold m_ref05_Flash_fails stepF
  simp only [toF, hd]
  by_cases h0 : d.left = 0
  · rw [cnd_t (by simpa using h0), if_neg (by omega)]
  · rw [cnd_f (by simpa using h0), if_pos (by omega), wrap_i64 (by omega) (by omega)]
    by_cases h1 : d.left - 1 > 0
    · rw [cnd_t (by simpa using h1)]
      have : (d.left - 1 == 0) = false := by simp; omega
      simp only [this]
    · rw [cnd_f (by simpa using h1)]
      have : (d.left - 1 == 0) = true := by simp; omega
      simp only [this]
noncomputable def progStepR (at_p1 : Int) (b_p2 : List Int) : T_Flash × Int → Option (Step (T_Flash × Int) ((T_Flash × Int) ⊕ T_Flash)) :=
  (fun (s1 : T_Flash × Int) => bif decide (s1.2 < (b_p2.length : Int)) then (bnd (m_ref05_Flash_fails s1.1) fun r2 => bif r2.2 then (bnd (elt r2.1.Data (IntKind.wrap .i64 (at_p1 + s1.2))) fun x1 => bnd (elt r2.1.Data (IntKind.wrap .i64 (at_p1 + s1.2))) fun x2 => bnd (elt b_p2 s1.2) fun x3 => bnd (elt r2.1.Data (IntKind.wrap .i64 (at_p1 + s1.2))) fun x4 => bnd (setE r2.1.Data (IntKind.wrap .i64 (at_p1 + s1.2)) (iAnd .u8 x2 (iOr .u8 x3 r2.1.Torn))) fun l1 => some (.done (.inl ((⟨r2.1.Size, l1, r2.1.Wear, r2.1.Steps, r2.1.Left, r2.1.Torn, r2.1.Down⟩ : T_Flash), 10)))) else (bnd (elt r2.1.Data (IntKind.wrap .i64 (at_p1 + s1.2))) fun x5 => bnd (elt r2.1.Data (IntKind.wrap .i64 (at_p1 + s1.2))) fun x6 => bnd (elt b_p2 s1.2) fun x7 => bnd (elt r2.1.Data (IntKind.wrap .i64 (at_p1 + s1.2))) fun x8 => bnd (setE r2.1.Data (IntKind.wrap .i64 (at_p1 + s1.2)) (iAnd .u8 x6 x7)) fun l2 => some (.next ((⟨r2.1.Size, l2, r2.1.Wear, r2.1.Steps, r2.1.Left, r2.1.Torn, r2.1.Down⟩ : T_Flash), IntKind.wrap .i64 (s1.2 + 1))))) else (some (.done (.inr s1.1))))
def progOutR (r : T_Device × Int) : (T_Flash × Int) ⊕ T_Flash := if r.2 = 0 then .inr (toF r.1) else .inl (toF r.1, r.2)
theorem prog_loopR (at_ : Nat) (b : List Int) (hr : rng b) : ∀ (rest : List Int) (j : Nat) (d : T_Device), OkD d → d.down = false → b.drop j = rest → j + rest.length = b.length → at_ + b.length ≤ d.bytes.length →
    loopM (progStepR (at_ : Int) b) (toF d, (j : Int)) = some (progOutR (progL d (at_ + j) rest))
  | [], j, d, hd, hdn, h1, h2, h3 => by
    refine loop_done ?_
    unfold progStepR
    simp only [List.length_nil] at h2
    rw [cnd_f (by simp; omega)]
    rfl
  | x :: rest, j, d, hd, hdn, h1, h2, h3 => by
    have hb := hd.bound
    simp only [List.length_cons] at h2
    have hj : j < b.length := by omega
    have hx : b[j] = x := by
      have := List.getElem_cons_drop (h := hj)
      rw [h1] at this
      exact (List.cons.inj this).1
    have hrest : b.drop (j + 1) = rest := by
      have := List.getElem_cons_drop (h := hj)
      rw [h1] at this
      exact (List.cons.inj this).2
    have hxr := hr x (by rw [← hx]; exact List.getElem_mem hj)
    have hi : at_ + j < (toF (stepF d).1).Data.length := by simp only [toF, stepF_bytes]; omega
    have hw : IntKind.wrap .i64 ((at_ : Int) + (j : Int)) = ((at_ + j : Nat) : Int) := by rw [wrap_i64 (by omega) (by omega)]; omega
    have hstep : progStepR (at_ : Int) b (toF d, (j : Int)) = some (if (stepF d).2 then .done (.inl (toF (wrB (stepF d).1 (at_ + j) (iAnd .u8 (d.bytes.getD (at_ + j) 0) (iOr .u8 x d.torn))), 10)) else .next (toF (wrB (stepF d).1 (at_ + j) (iAnd .u8 (d.bytes.getD (at_ + j) 0) x)), ((j + 1 : Nat) : Int))) := by
      unfold progStepR
      simp only
      rw [cnd_t (by simp; omega), fails_eq hd hdn, bnd_some]
      cases hf : (stepF d).2
      · rw [cond_false, hw, getD_elt hi, bnd_some, bnd_some, elt_lt hj, hx, bnd_some, bnd_some, setE_nat hi, bnd_some, wrap_succ hj (by omega), if_neg (by decide)]
        simp only [wrB, toF, stepF_bytes]
      · rw [cond_true, hw, getD_elt hi, bnd_some, bnd_some, elt_lt hj, hx, bnd_some, bnd_some, setE_nat hi, bnd_some, if_pos rfl]
        simp only [wrB, toF, stepF_bytes, stepF_torn]
    cases hf : (stepF d).2
    · rw [hf] at hstep
      refine loop_next hstep ?_
      have := prog_loopR at_ b hr rest (j + 1) (wrB (stepF d).1 (at_ + j) (iAnd .u8 (d.bytes.getD (at_ + j) 0) x)) (wrB_ok (stepF_ok hd) _ (and_r (hd.rng.get _) hxr)) (by simp only [wrB]; rw [stepF_down hdn, hf]) hrest (by omega) (by simp [wrB, stepF_bytes]; omega)
      rw [this]
      conv => rhs; unfold progL
      rw [if_neg (by rw [hf]; decide)]
      rfl
    · rw [hf] at hstep
      rw [loop_done hstep]
      conv => rhs; unfold progL
      rw [if_pos hf]
      simp only [progOutR]
      rw [if_neg (by decide)]
theorem progOutR_ret (r : T_Device × Int) (h : r.2 = 0 ∨ r.2 = 10) : (retOr (progOutR r) fun o2 => some (o2, 0)) = some (toF r.1, r.2) := by
  unfold progOutR
  rcases h with h | h
  · rw [if_pos h, retOr_inr, ← h]
  · rw [if_neg (by rw [h]; decide), retOr_inl]
theorem refProg_eq {d : T_Device} (h : OkD d) {b : List Int} (hb : rng b) (at_ : Int) : m_ref05_Flash_Program (toF d) at_ b = some (toF (programF d at_ b).1, (programF d at_ b).2) := by
  unfold m_ref05_Flash_Program programF
  rw [show (toF d).Down = d.down from rfl]
  cases hd : d.down
  · rw [cond_false, fits_eq h, bnd_some]
    by_cases hw : 0 ≤ at_ ∧ at_ ≤ d.bytes.length ∧ 0 ≤ (b.length : Int) ∧ (b.length : Int) ≤ d.bytes.length - at_
    · rw [if_neg (by simp), if_pos hw, cnd_f (by simp only [hw, decide_true]; rfl)]
      have := prog_loopR at_.toNat b hb b 0 d h hd rfl (by omega) (by omega)
      have e : ((at_.toNat : Nat) : Int) = at_ := by omega
      rw [e] at this
      unfold progStepR at this
      exact bnd_eq this (progOutR_ret _ (progL_err b d _))
    · rw [if_neg (by simp), if_neg hw, cnd_t (by rw [decide_eq_false hw]; rfl)]
  · rw [cond_true, if_pos rfl]
theorem refErase_eq {d : T_Device} (h : OkD d) (s : Int) (hs : s ≤ 4611686018427387904) : m_ref05_Flash_Erase (toF d) s = some (toF (eraseF d s).1, (eraseF d s).2) := by
  have hb := h.bound
  unfold m_ref05_Flash_Erase eraseF
  rw [show (toF d).Down = d.down from rfl, show (toF d).Wear = d.wear from rfl]
  cases hd : d.down
  · rw [cond_false, if_neg (by simp)]
    by_cases hs0 : s < 0
    · rw [cnd_t (by simpa using hs0), bnd_some, cond_true, if_pos (.inl hs0)]
    · rw [cnd_f (by simpa using hs0), bnd_some]
      by_cases hs1 : s ≥ d.wear.length
      · rw [cnd_t (by simpa using hs1), if_pos (.inr hs1)]
      · rw [cnd_f (by simpa using hs1), if_neg (by omega)]
        obtain ⟨k, rfl⟩ : ∃ k : Nat, s = (k : Int) := ⟨s.toNat, by omega⟩
        have hk : k < d.wear.length := by omega
        have hk16 := h.wear
        have hok := stepF_ok (wrW_ok h k)
        have hst : m_ref05_Flash_fails (⟨(toF d).Size, (toF d).Data, d.wear.set k (IntKind.wrap .i64 (d.wear.getD k 0 + 1)), (toF d).Steps, (toF d).Left, (toF d).Torn, false⟩ : T_Flash) = some (toF (stepF (wrW d k)).1, (stepF (wrW d k)).2) := by
          rw [← fails_eq (wrW_ok h k) (by exact hd)]
          simp only [wrW, toF, hd]
        rw [getD_elt hk, bnd_some, setE_nat hk, bnd_some, hst, bnd_some]
        have hz := h.size
        obtain ⟨z, hzz⟩ : ∃ z : Nat, d.size = (z : Int) := ⟨d.size.toNat, by omega⟩
        have hsz : (stepF (wrW d k)).1.size = (z : Int) := (stepF_size _).trans hzz
        have hby : (stepF (wrW d k)).1.bytes = d.bytes := stepF_bytes _
        have hT : (stepF (wrW d k)).1.torn = d.torn := stepF_torn _
        have hse := sector_le h hk
        rw [hzz] at hse
        have hkz : k * z ≤ 16384 := by
          have : ((z : Int)).toNat = z := rfl
          rw [this] at hse
          omega
        have hse' : k * z + z ≤ d.bytes.length := hse
        have e1 : IntKind.wrap .i64 ((k : Int) * (z : Int)) = ((k * z : Nat) : Int) := by
          have : (k : Int) * (z : Int) = ((k * z : Nat) : Int) := by simp
          rw [this, wrap_i64n (by omega)]
        have e2 : IntKind.wrap .i64 (IntKind.wrap .i64 ((k : Int) + 1) * (z : Int)) = ((k * z + z : Nat) : Int) := by
          rw [wrap_i64 (x := (k : Int) + 1) (by omega) (by omega)]
          have : ((k : Int) + 1) * (z : Int) = ((k * z + z : Nat) : Int) := by simp [Int.add_mul]
          rw [this, wrap_i64n (by omega)]
        have e3 : (((k * z : Nat) : Int)).toNat = k * z := rfl
        have hround : ∀ (v : Int) (j : Nat), j < z → ∀ q : T_Flash, q.Data = orP d.bytes (k * z) j v → elt q.Data ((k * z + j : Nat) : Int) = some (d.bytes.getD (k * z + j) 0) ∧ setE q.Data ((k * z + j : Nat) : Int) (iOr .u8 (d.bytes.getD (k * z + j) 0) v) = some (orP d.bytes (k * z) (j + 1) v) := by
          intro v j hj q hq
          have hlt : k * z + j < d.bytes.length := by omega
          have hlt2 : k * z + j < (orP d.bytes (k * z) j v).length := by rw [orP_len _ _ _ _ (by omega)]; exact hlt
          rw [hq, getD_elt hlt2, orP_get v hlt, setE_nat hlt2, orP_succ v hlt]
          exact ⟨rfl, rfl⟩
        have e4 : ((z : Int)).toNat = z := rfl
        have e5 : ((k : Int)).toNat = k := rfl
        rw [hzz]
        simp only [e4, e5]
        have hS : (toF (stepF (wrW d k)).1).Size = (z : Int) := hsz
        cases hf : (stepF (wrW d k)).2
        · rw [cond_false, hS, e1]
          refine bnd_loop (fun j => (toF (wrA (stepF (wrW d k)).1 (orP d.bytes (k * z) j 255)), ((k * z + j : Nat) : Int))) z (toF (wrA (stepF (wrW d k)).1 (orP d.bytes (k * z) z 255))) ?_ (fun j hj => ?_) ?_ rfl
          · rw [orP_zero, ← hby]; rfl
          · have hS2 : (toF (wrA (stepF (wrW d k)).1 (orP d.bytes (k * z) j 255))).Size = (z : Int) := hsz
            have hr := hround 255 j hj (toF (wrA (stepF (wrW d k)).1 (orP d.bytes (k * z) j 255))) rfl
            have hx := h.rng.get (k * z + j)
            rw [or_ff hx] at hr
            simp only [hS2, e2]
            rw [cnd_t (by simp; omega), hr.1, bnd_some, hr.2, bnd_some, wrap_i64 (by omega) (by omega), show ((k * z + j : Nat) : Int) + 1 = ((k * z + (j + 1) : Nat) : Int) by omega]
            simp only [toF, wrA, hsz, hT]
          · have hS2 : (toF (wrA (stepF (wrW d k)).1 (orP d.bytes (k * z) z 255))).Size = (z : Int) := hsz
            simp only [hS2, e2]
            rw [cnd_f (by simp)]
        · rw [cond_true, hS, e1]
          refine bnd_loop (fun j => (toF (wrA (stepF (wrW d k)).1 (orP d.bytes (k * z) j d.torn)), ((k * z + j : Nat) : Int))) z (toF (wrA (stepF (wrW d k)).1 (orP d.bytes (k * z) z d.torn))) ?_ (fun j hj => ?_) ?_ rfl
          · rw [orP_zero, ← hby]; rfl
          · have hS2 : (toF (wrA (stepF (wrW d k)).1 (orP d.bytes (k * z) j d.torn))).Size = (z : Int) := hsz
            have hT2 : (toF (wrA (stepF (wrW d k)).1 (orP d.bytes (k * z) j d.torn))).Torn = d.torn := stepF_torn _
            have hr := hround d.torn j hj (toF (wrA (stepF (wrW d k)).1 (orP d.bytes (k * z) j d.torn))) rfl
            simp only [hS2, hT2, e2]
            rw [cnd_t (by simp; omega), hr.1, bnd_some, bnd_some, bnd_some, hr.2, bnd_some, wrap_i64 (by omega) (by omega), show ((k * z + j : Nat) : Int) + 1 = ((k * z + (j + 1) : Nat) : Int) by omega]
            simp only [toF, wrA, hsz, hT]
          · have hS2 : (toF (wrA (stepF (wrW d k)).1 (orP d.bytes (k * z) z d.torn))).Size = (z : Int) := hsz
            simp only [hS2, e2]
            rw [cnd_f (by simp)]
  · rw [cond_true, if_pos rfl]
theorem refArm_eq (d : T_Device) (n t : Int) : m_ref05_Flash_Arm (toF d) n t = some (toF (armF d n t)) := by
  unfold m_ref05_Flash_Arm armF
  rw [show (toF d).Down = d.down from rfl]
  cases hd : d.down <;> simp [toF, hd]
theorem refRest_eq (d : T_Device) : m_ref05_Flash_Restore (toF d) = some (toF (restF d)) := rfl
theorem refNew_eq {n m : Nat} (hn : 1 ≤ n ∧ n ≤ 16) (hm : 64 ≤ m ∧ m ≤ 1024) : m_ref05_New (n : Int) (m : Int) = some (some (toF (newD n m)), 0) := by
  have hnm : n * m ≤ 16 * 1024 := Nat.mul_le_mul hn.2 hm.2
  unfold m_ref05_New
  rw [cnd_f (by simp; omega), cnd_f (by simp; omega), cnd_f (by simp; omega), show decide ((m : Int) > 1024) = false by simp; omega, bnd_some, cnd_f rfl]
  have e0 : mkS 8 (0 : Int) (n : Int) (n : Int) = some (List.replicate n 0) := by
    unfold mkS
    rw [if_pos ⟨by omega, by omega, by omega, by omega⟩]
    simp
  have e1 : IntKind.wrap .i64 ((n : Int) * (m : Int)) = ((n * m : Nat) : Int) := by
    have : (n : Int) * (m : Int) = ((n * m : Nat) : Int) := by simp
    rw [this, wrap_i64n (by omega)]
  rw [e0, bnd_some, e1]
  refine bnd_loop (fun i => ((⟨(m : Int), List.replicate i 255, List.replicate n 0, 0, 0, 0, false⟩ : T_Flash), (i : Int))) (n * m) (toF (newD n m)) rfl (fun i hi => ?_) ?_ rfl
  · simp only
    rw [cnd_t (by simp; omega), app_eq (by simp; omega) (by simp; omega), bnd_some, wrapS (by omega), List.replicate_succ']
  · simp only
    rw [cnd_f (by simp)]
    rfl
theorem refBlank_eq {b : List Int} (hl : b.length ≤ 1000000) : m_ref05_Blank b = some (blankF b) := by
  unfold m_ref05_Blank
  refine bnd_loop_any (fun i => (i : Int)) b.length (fun i => b.getD i 255 != 255) (.inl false) (.inr ()) rfl (fun i hi => ?_) ?_ ?_
  · rw [cnd_t (by simp; omega), elt_lt hi, bnd_some, List.getD_eq_getElem?_getD, List.getElem?_eq_getElem hi]
    simp only [Option.getD_some]
    by_cases hb : b[i] = 255
    · rw [cnd_f (by simpa using hb), wrap_succ hi (by omega), cnd_f (by simpa using hb)]
    · rw [cnd_t (by simpa using hb), cnd_t (by simpa using hb)]
  · rw [cnd_f (by simp)]
  · have : (List.range b.length).any (fun i => b.getD i 255 != 255) = !blankF b := by
      rw [Bool.eq_iff_iff]
      unfold blankF
      simp only [List.any_eq_true, List.mem_range, Bool.not_eq_true', List.all_eq_false]
      constructor
      · rintro ⟨i, hi, h⟩
        rw [List.getD_eq_getElem?_getD, List.getElem?_eq_getElem hi] at h
        exact ⟨b[i], List.getElem_mem hi, by simpa using h⟩
      · rintro ⟨x, hx, h⟩
        obtain ⟨i, hi, rfl⟩ := List.mem_iff_getElem.1 hx
        exact ⟨i, hi, by rw [List.getD_eq_getElem?_getD, List.getElem?_eq_getElem hi]; simpa using h⟩
    rw [this]
    cases blankF b <;> rfl
end Go.Proofs.YthdpagcklakahaaGreat
end
section
namespace Go.Proofs.YthdpagcklakahaaGreat
open Go
set_option linter.unusedSimpArgs false
set_option linter.unusedVariables false
def prt (b : List Int) (lo n : Nat) : List Int := (b.drop lo).take n
theorem prt_len {b : List Int} {lo n : Nat} (h : lo + n ≤ b.length) : (prt b lo n).length = n := by simp [prt]; omega
theorem prt_rng {b : List Int} (h : rng b) (lo n : Nat) : rng (prt b lo n) := (h.drop lo).take n
theorem prt_get {b : List Int} {lo n i : Nat} (h : i < n) : (prt b lo n)[i]? = b[lo + i]? := by
  unfold prt
  rw [List.getElem?_take, if_pos h, List.getElem?_drop]
theorem eltP_prt {b : List Int} {lo n i : Nat} (h : lo + n ≤ b.length) (hi : i < n) : eltP b lo n (i : Int) = some ((prt b lo n).getD i 0) := by
  unfold eltP
  rw [if_pos ⟨by omega, by omega⟩, show (lo : Int) + (i : Int) = ((lo + i : Nat) : Int) by omega, elt_nat, List.getD_eq_getElem?_getD, prt_get hi, List.getElem?_eq_getElem (by omega)]
  rfl
theorem sub_prt {b : List Int} {lo n i m : Nat} (h : lo + n ≤ b.length) (hi : i + m ≤ n) : Go.Proofs.YthdpagcklakahaaGreat.sub b ((lo + i : Nat) : Int) ((lo + i + m : Nat) : Int) = some (((prt b lo n).drop i).take m) := by
  rw [sub_nat (by omega) (by omega)]
  congr 1
  unfold prt
  rw [List.drop_take, List.take_take, List.drop_drop]
  congr 1
  omega
theorem drop_two {c : List Int} {i : Nat} (h : i + 2 ≤ c.length) : c.drop i = c.getD i 0 :: c.getD (i + 1) 0 :: c.drop (i + 2) := by
  rw [← List.getElem_cons_drop (h := (by omega : i < c.length)), ← List.getElem_cons_drop (h := (by omega : i + 1 < c.length))]
  simp only [List.getD_eq_getElem?_getD, List.getElem?_eq_getElem (by omega : i < c.length), List.getElem?_eq_getElem (by omega : i + 1 < c.length), Option.getD_some]
noncomputable def rdbStep (b_p0 : List Int) (b_p0_lo : Nat) (b_p0_n : Nat) : List T_Setting × Int × Int → Option (Step (List T_Setting × Int × Int) (((List T_Setting) × Int × Bool) ⊕ (List T_Setting × Int))) :=
  (fun (s1 : List T_Setting × Int × Int) => bnd (eltP b_p0 b_p0_lo b_p0_n 0) fun x3 => bif decide (s1.2.2 < (IntKind.wrap .i64 x3)) then (bif decide ((IntKind.wrap .i64 ((b_p0_n : Int) - s1.2.1)) < 2) then (some (.done (.inl ([], 0, false)))) else (bnd (eltP b_p0 b_p0_lo b_p0_n s1.2.1) fun x4 => bnd (eltP b_p0 b_p0_lo b_p0_n (IntKind.wrap .i64 (s1.2.1 + 1))) fun x5 => bnd ((bif ((IntKind.wrap .i64 x5) == 128) then (some (0, true)) else (some (IntKind.wrap .i64 x5, false)) : Option (Int × Bool))) fun o4 => bnd ((bif decide (o4.1 > 28) then (some true) else (some (decide ((IntKind.wrap .i64 ((b_p0_n : Int) - (IntKind.wrap .i64 (s1.2.1 + 2)))) < o4.1))) : Option Bool)) fun o5 => bif o5 then (some (.done (.inl ([], 0, false)))) else (bnd (partM2 b_p0.length b_p0_lo b_p0_n (IntKind.wrap .i64 (s1.2.1 + 2)) (IntKind.wrap .i64 ((IntKind.wrap .i64 (s1.2.1 + 2)) + o4.1))) fun n1 => bnd (sub b_p0 ((b_p0_lo + (Int.toNat (IntKind.wrap .i64 (s1.2.1 + 2))) : Nat) : Int) (((b_p0_lo + (Int.toNat (IntKind.wrap .i64 (s1.2.1 + 2)))) + n1 : Nat) : Int)) fun l1 => bnd (m_ref01_Copy l1) fun r1 => bnd (m_ref06_Apply s1.1 (⟨x4, r1, o4.2⟩ : T_Setting)) fun r2 => some (.next (r2, IntKind.wrap .i64 ((IntKind.wrap .i64 (s1.2.1 + 2)) + o4.1), IntKind.wrap .i64 (s1.2.2 + 1)))))) else (some (.done (.inr (s1.1, s1.2.1)))))
theorem wrapI {x : Int} (h : 0 ≤ x ∧ x ≤ 1000000000) : IntKind.wrap .i64 x = x := wrap_i64 (by omega) (by omega)
theorem rdb_step {b : List Int} (hr : rng b) {lo n : Nat} (h : lo + n ≤ b.length) (hn : n ≤ 16384) (h0 : 0 < n) {K : List T_Setting} (hK : Asc K) (hl : K.length ≤ 1000) {at_ i : Nat} (ha : at_ ≤ n) (hi : i ≤ 1000) :
    rdbStep b lo n (K, (at_ : Int), (i : Int)) = some (if (i : Int) < (prt b lo n).getD 0 0 then match chgF ((prt b lo n).drop at_) with | none => .done (.inl ([], 0, false)) | some (x, m) => .next (appK K x, ((at_ + m : Nat) : Int), ((i + 1 : Nat) : Int)) else .done (.inr (K, (at_ : Int)))) := by
  have hc := prt_rng hr lo n
  have hL := prt_len h
  generalize hcc : prt b lo n = c at hc hL
  have e0 : eltP b lo n 0 = some (c.getD 0 0) := by rw [← hcc]; exact eltP_prt h (i := 0) h0
  have h0r := hc.get 0
  unfold rdbStep
  simp only
  rw [e0, bnd_some, wrapI (by omega)]
  by_cases hlt : (i : Int) < c.getD 0 0
  · rw [cnd_t (by simpa using hlt), if_pos hlt, wrapI (by omega)]
    by_cases h2 : (n : Int) - (at_ : Int) < 2
    · rw [cnd_t (by simpa using h2)]
      have : c.drop at_ = [] ∨ ∃ x, c.drop at_ = [x] := by
        have hlen : (c.drop at_).length < 2 := by simp; omega
        match hd : c.drop at_, hlen with
        | [], _ => exact .inl rfl
        | [x], _ => exact .inr ⟨x, rfl⟩
      rcases this with e | ⟨x, e⟩ <;> rw [e] <;> rfl
    · have e1 : eltP b lo n (at_ : Int) = some (c.getD at_ 0) := by rw [← hcc]; exact eltP_prt h (by omega)
      have e2 : eltP b lo n ((at_ + 1 : Nat) : Int) = some (c.getD (at_ + 1) 0) := by rw [← hcc]; exact eltP_prt h (by omega)
      have hr2 := hc.get (at_ + 1)
      rw [cnd_f (by simpa using h2), e1, bnd_some, wrapI (x := (at_ : Int) + 1) (by omega), show (at_ : Int) + 1 = ((at_ + 1 : Nat) : Int) by omega, e2, bnd_some, wrapI (x := c.getD (at_ + 1) 0) (by omega), wrapI (x := (at_ : Int) + 2) (by omega), drop_two (c := c) (i := at_) (by omega), chgF_cons, wrapI (x := (i : Int) + 1) (by omega), wrapI (x := (n : Int) - ((at_ : Int) + 2)) (by omega)]
      have hdl : (c.drop (at_ + 2)).length = n - (at_ + 2) := by simp [hL]
      generalize hx : c.getD at_ 0 = x
      generalize hy : c.getD (at_ + 1) 0 = y at hr2
      -- what is read
      have hrest : ∀ (v : Nat) (D : Bool), at_ + 2 + v ≤ n → (bnd (partM2 b.length lo n ((at_ : Int) + 2) (IntKind.wrap .i64 (((at_ : Int) + 2) + (v : Int)))) fun n1 => bnd (sub b ((lo + (Int.toNat ((at_ : Int) + 2)) : Nat) : Int) (((lo + (Int.toNat ((at_ : Int) + 2))) + n1 : Nat) : Int)) fun l1 => bnd (m_ref01_Copy l1) fun r1 => bnd (m_ref06_Apply K (⟨x, r1, D⟩ : T_Setting)) fun r2 => some (Step.next (r2, IntKind.wrap .i64 (((at_ : Int) + 2) + (v : Int)), (i : Int) + 1) : Step (List T_Setting × Int × Int) (((List T_Setting) × Int × Bool) ⊕ (List T_Setting × Int)))) = some (.next (appK K ⟨x, (c.drop (at_ + 2)).take v, D⟩, ((at_ + (2 + v) : Nat) : Int), ((i + 1 : Nat) : Int))) := by
        intro v D hv
        rw [wrapI (by omega), show (at_ : Int) + 2 = ((at_ + 2 : Nat) : Int) by omega, show ((at_ + 2 : Nat) : Int) + (v : Int) = ((at_ + 2 + v : Nat) : Int) by omega]
        have hp : partM2 b.length lo n ((at_ + 2 : Nat) : Int) ((at_ + 2 + v : Nat) : Int) = some v := by
          unfold partM2
          rw [if_pos h, if_pos ⟨by omega, by omega, by omega⟩]
          congr 1
          omega
        rw [hp, bnd_some, show Int.toNat ((at_ + 2 : Nat) : Int) = at_ + 2 from rfl, sub_prt h (by omega), bnd_some, hcc, copyJ (by simp; omega), bnd_some, apply_eq hK (by omega), bnd_some, show at_ + 2 + v = at_ + (2 + v) by omega, show (i : Int) + 1 = ((i + 1 : Nat) : Int) by omega]
      by_cases hd : y = 128
      · rw [cnd_t (by simpa using hd), if_pos hd, bnd_some]
        dsimp only
        rw [cnd_f (by decide), bnd_some, cnd_f (by simp; omega)]
        have := hrest 0 true (by omega)
        rw [show (((0 : Nat) : Int)) = 0 from rfl] at this
        rw [this, List.take_zero]
      · rw [cnd_f (by simpa using hd), if_neg hd, bnd_some]
        dsimp only
        by_cases hbad : y > 28 ∨ ((c.drop (at_ + 2)).length : Int) < y
        · rw [if_pos hbad]
          by_cases h28 : y > 28
          · rw [cnd_t (by simpa using h28), bnd_some, cond_true]
          · rw [cnd_f (by simpa using h28), bnd_some, cnd_t (by simp; omega)]
        · rw [if_neg hbad, cnd_f (by simp; omega), bnd_some, cnd_f (by simp; omega)]
          have := hrest y.toNat false (by omega)
          rw [show ((y.toNat : Nat) : Int) = y by omega] at this
          rw [this]
  · rw [cnd_f (by simpa using hlt), if_neg hlt]
theorem rdb_loop {b : List Int} (hr : rng b) {lo n : Nat} (h : lo + n ≤ b.length) (hn : n ≤ 16384) (h0 : 0 < n) {q : Nat} (hq : (prt b lo n).getD 0 0 = (q : Int)) (hq32 : q ≤ 32) : ∀ (k i at_ : Nat) (K : List T_Setting), i + k = q → at_ ≤ n → Asc K → K.length ≤ 32 + i →
    loopM (rdbStep b lo n) (K, (at_ : Int), (i : Int)) = some (match chgsF k ((prt b lo n).drop at_) with | none => .inl ([], 0, false) | some (l, m) => .inr (allK K l, ((at_ + m : Nat) : Int)))
  | 0, i, at_, K, hk, ha, hK, hl => by
    have hs := rdb_step hr h hn h0 hK (by omega) ha (i := i) (by omega)
    rw [hq, if_neg (by omega)] at hs
    exact loop_done hs
  | k + 1, i, at_, K, hk, ha, hK, hl => by
    have hs := rdb_step hr h hn h0 hK (by omega) ha (i := i) (by omega)
    rw [hq, if_pos (by omega)] at hs
    unfold chgsF
    cases hcg : chgF ((prt b lo n).drop at_) with
    | none => rw [hcg] at hs; exact loop_done hs
    | some p =>
      obtain ⟨x, m⟩ := p
      have hm := chgF_len ((prt_rng hr lo n).drop _) hcg
      simp only [List.length_drop, prt_len h] at hm
      rw [hcg] at hs
      refine loop_next hs ?_
      have hlen := appK_len K x
      rw [rdb_loop hr h hn h0 hq hq32 k (i + 1) (at_ + m) (appK K x) (by omega) (by omega) (appK_asc hK x) (by omega)]
      simp only [List.drop_drop]
      cases hcs : chgsF k ((prt b lo n).drop (at_ + m)) with
      | none => rfl
      | some p =>
        obtain ⟨l, m'⟩ := p
        simp only [allK, List.foldl_cons]
        rw [Nat.add_assoc]
def rdbOut (K : List T_Setting) (o : Option (List T_Setting × Nat)) : List T_Setting × Int × Bool := match o with
  | some (l, n) => if (allK K l).length > 32 then ([], 0, false) else (allK K l, (n : Int), true)
  | none => ([], 0, false)
theorem rdb_eq {b : List Int} (hr : rng b) {lo n : Nat} (h : lo + n ≤ b.length) (hn : n ≤ 16384) {K : List T_Setting} (hK : Asc K) (hl : K.length ≤ 32) : m_ref06_readBatch_v0 b lo n K = some (rdbOut K (batchF (prt b lo n))) := by
  have hc := prt_rng hr lo n
  have hL := prt_len h
  unfold m_ref06_readBatch_v0
  by_cases h0 : n = 0
  · subst h0
    have : prt b lo 0 = [] := by simp [prt]
    rw [this, cnd_t (by decide), bnd_some, cond_true]
    rfl
  · have e0 : eltP b lo n 0 = some ((prt b lo n).getD 0 0) := eltP_prt h (i := 0) (by omega)
    have h0r := hc.get 0
    obtain ⟨c, r, hcr⟩ : ∃ c r, prt b lo n = c :: r := by
      match hp : prt b lo n with
      | [] => rw [hp] at hL; simp at hL; omega
      | c :: r => exact ⟨c, r, rfl⟩
    have hc0 : (prt b lo n).getD 0 0 = c := by rw [hcr]; rfl
    rw [hc0] at e0 h0r
    have hrl : r.length + 1 = n := by rw [hcr] at hL; simpa using hL
    rw [cnd_f (by simpa using h0), e0, hcr, batchF_cons]
    simp only [bnd_some]
    by_cases hb : c < 1 ∨ c > 32
    · rw [if_pos hb]
      by_cases h1 : c < 1
      · rw [cnd_t (by simpa using h1), bnd_some, cond_true]; rfl
      · rw [cnd_f (by simpa using h1), bnd_some, cnd_t (by simp; omega)]; rfl
    · rw [if_neg hb, cnd_f (by simp; omega), bnd_some, cnd_f (by simp; omega)]
      have hloop := rdb_loop hr h hn (by omega) (q := c.toNat) (by rw [hc0]; omega) (by omega) c.toNat 0 1 K (by omega) (by omega) hK (by omega)
      have hd1 : (prt b lo n).drop 1 = r := by rw [hcr]; rfl
      rw [hd1] at hloop
      unfold rdbStep at hloop
      rw [e0] at hloop
      simp only [bnd_some] at hloop
      have e1 : (((1 : Nat)) : Int) = 1 := rfl
      have e2 : (((0 : Nat)) : Int) = 0 := rfl
      rw [e1, e2] at hloop
      rw [hloop, bnd_some]
      cases hcs : chgsF c.toNat r with
      | none => rfl
      | some p =>
        obtain ⟨l, m⟩ := p
        simp only [retOr_inr]
        have hrr : rng r := by have := hc.drop 1; rw [hd1] at this; exact this
        have hm := chgsF_len _ hrr hcs
        by_cases hge : 1 + m ≥ n
        · rw [cnd_t (by simp; omega), bnd_some, cond_true]
          have : r[m]? = none := List.getElem?_eq_none (by omega)
          rw [this, if_neg (by simp)]
          rfl
        · rw [cnd_f (by simp; omega), eltP_prt h (i := 1 + m) (by omega), bnd_some, hcr]
          have hg : (c :: r).getD (1 + m) 0 = r.getD m 0 := by rw [Nat.add_comm]; rfl
          rw [hg]
          have hrm : r[m]? = some (r.getD m 0) := by rw [List.getD_eq_getElem?_getD, List.getElem?_eq_getElem (by omega)]; rfl
          rw [hrm]
          by_cases hz : r.getD m 0 = 0
          · rw [cnd_f (by simpa using hz), bnd_some, if_pos (by rw [hz])]
            simp only [rdbOut]
            by_cases hg32 : (allK K l).length > 32
            · rw [cnd_t (by simp; omega), if_pos hg32]
            · rw [cnd_f (by simp; omega), if_neg hg32, wrapI (by omega)]
              have : ((1 + m : Nat) : Int) + 1 = ((m + 2 : Nat) : Int) := by omega
              rw [this]
          · rw [cnd_t (by simpa using hz), bnd_some, cond_true, if_neg (by simpa using hz)]
            rfl
theorem number_eq {x y z t : Int} (hx : 0 ≤ x ∧ x ≤ 255) (hy : 0 ≤ y ∧ y ≤ 255) (hz : 0 ≤ z ∧ z ≤ 255) (ht : 0 ≤ t ∧ t ≤ 255) : m_ref01_Number [x, y, z, t] = some (x + 256 * y + 65536 * z + 16777216 * t) := by
  unfold m_ref01_Number
  have hstep : ∀ (a b c : Int), 0 ≤ a → a < 16777216 → 0 ≤ b ∧ b ≤ 255 → c = b + a * 256 → IntKind.wrap .u64 ((IntKind.wrap .u64 (256 * a)) + (IntKind.wrap .u64 b)) = c := fun a b c h0 ha hb hc => by
    rw [wrap_u64 (x := 256 * a) (by omega) (by omega), wrap_u64 (x := b) (by omega) (by omega), wrap_u64 (by omega) (by omega)]
    omega
  obtain ⟨v2, e2⟩ : ∃ v, v = z + t * 256 := ⟨_, rfl⟩
  obtain ⟨v3, e3⟩ : ∃ v, v = y + v2 * 256 := ⟨_, rfl⟩
  obtain ⟨v4, e4⟩ : ∃ v, v = x + v3 * 256 := ⟨_, rfl⟩
  rw [show x + 256 * y + 65536 * z + 16777216 * t = v4 by omega]
  have s1 := hstep 0 t t (by omega) (by omega) ht (by omega)
  have s2 := hstep t z v2 (by omega) (by omega) hz (by omega)
  have s3 := hstep v2 y v3 (by omega) (by omega) hy (by omega)
  have s4 := hstep v3 x v4 (by omega) (by omega) hx (by omega)
  refine bnd_loop (fun i => (([0, t, v2, v3, v4].getD i 0 : Int), (3 : Int) - (i : Int))) 4 v4 rfl (fun i hi => ?_) rfl rfl
  have h3 : i = 0 ∨ i = 1 ∨ i = 2 ∨ i = 3 := by omega
  rcases h3 with rfl | rfl | rfl | rfl
  · show some (Step.next (IntKind.wrap .u64 ((IntKind.wrap .u64 (256 * (0 : Int))) + (IntKind.wrap .u64 t)), _)) = _
    rw [s1]
    rfl
  · show some (Step.next (IntKind.wrap .u64 ((IntKind.wrap .u64 (256 * t)) + (IntKind.wrap .u64 z)), _)) = _
    rw [s2]
    rfl
  · show some (Step.next (IntKind.wrap .u64 ((IntKind.wrap .u64 (256 * v2)) + (IntKind.wrap .u64 y)), _)) = _
    rw [s3]
    rfl
  · show some (Step.next (IntKind.wrap .u64 ((IntKind.wrap .u64 (256 * v3)) + (IntKind.wrap .u64 x)), _)) = _
    rw [s4]
    rfl
def genR (b : List Int) : Int := match secF b with
  | none => 0
  | some (g, _, _) => g
theorem generation_eq {b : List Int} (hr : rng b) (h64 : 64 ≤ b.length) : m_ref06_generation b = some (genR b) := by
  have e4 : elt b 4 = some (b.getD 4 0) := getD_elt (i := 4) (by omega)
  have es : Go.Proofs.YthdpagcklakahaaGreat.sub b 0 4 = some [b.getD 0 0, b.getD 1 0, b.getD 2 0, b.getD 3 0] := by
    have := sub_nat (l := b) (a := 0) (b := 4) (by omega) (by omega)
    rw [show (0 : Int) = ((0 : Nat) : Int) from rfl, show (4 : Int) = ((4 : Nat) : Int) from rfl, this]
    congr 1
    match b, h64 with
    | x :: y :: z :: t :: r, _ => rfl
  have h0 := hr.get 0
  have h1 := hr.get 1
  have h2 := hr.get 2
  have h3 := hr.get 3
  unfold m_ref06_generation
  rw [es, bnd_some, number_eq h0 h1 h2 h3, bnd_some, e4]
  simp only [bnd_some]
  rw [show b.getD 0 0 + 256 * b.getD 1 0 + 65536 * b.getD 2 0 + 16777216 * b.getD 3 0 = genF b from rfl, wrap_i64 (by unfold genF; omega) (by unfold genF; omega)]
  unfold genR secF
  by_cases h4 : b.getD 4 0 ≠ 0
  · rw [if_pos (.inl h4), cnd_t (by simpa using h4), bnd_some]; rfl
  · rw [cnd_f (by simpa using h4)]
    by_cases hg1 : genF b < 1
    · rw [if_pos (.inr (.inl hg1)), cnd_t (by simpa using hg1), bnd_some]; rfl
    · rw [cnd_f (by simpa using hg1), bnd_some]
      by_cases hg2 : genF b > 2147483648
      · rw [if_pos (.inr (.inr hg2)), cnd_t (by simpa using hg2)]
      · rw [if_neg (by simp only [not_or]; exact ⟨h4, hg1, hg2⟩), cnd_f (by simpa using hg2)]
def refS (f : Nat) (o : OS) : T_ref06_Store := ⟨true, (f : Int), o.act, o.gen, o.K, o.tail, false⟩
noncomputable def rdoStep (d : T_Device) (base n3 : Nat) : T_ref06_Store → Option (Step T_ref06_Store ((T_Flash × (Option T_ref06_Store) × Int) ⊕ Unit)) :=
  (fun (s1 : T_ref06_Store) => bnd (partM2 (toF d).Data.length base n3 s1.Tail ((n3 : Nat) : Int)) fun n4 => bnd (m_ref06_readBatch_v0 (toF d).Data (base + (Int.toNat s1.Tail)) n4 s1.Keys) fun r3 => bif !r3.2.2 then (some (.done (.inl (toF d, (some s1), 0)))) else (some (.next (⟨s1.F_, s1.First, s1.Active, s1.Gen, r3.1, IntKind.wrap .i64 (s1.Tail + r3.2.1), s1.Ended⟩ : T_ref06_Store))))
theorem rdo_loop {d : T_Device} (h : OkD d) {base z : Nat} (hz : base + z ≤ d.bytes.length) (F A G : Int) : ∀ (fu t : Nat) (K : List T_Setting), z - t ≤ fu → t ≤ z → OkK K →
    loopM (rdoStep d base z) (⟨true, F, A, G, K, (t : Int), false⟩ : T_ref06_Store) = some (.inl (toF d, some ⟨true, F, A, G, (readK ((prt d.bytes base z).drop t) K t).1, ((readK ((prt d.bytes base z).drop t) K t).2 : Int), false⟩, 0))
  | fu, t, K, hf, ht, hK => by
    have hb := h.bound
    have hrd := (prt_rng h.rng base z).drop t
    have hpd : prt d.bytes (base + t) (z - t) = (prt d.bytes base z).drop t := by
      unfold prt
      rw [List.drop_take, List.drop_drop]
    rw [readK_eq hrd]
    have hstep : rdoStep d base z (⟨true, F, A, G, K, (t : Int), false⟩ : T_ref06_Store) = some (match batchF ((prt d.bytes base z).drop t) with
        | none => .done (.inl (toF d, some (⟨true, F, A, G, K, (t : Int), false⟩ : T_ref06_Store), 0))
        | some (l, n) => if (allK K l).length > 32 then .done (.inl (toF d, some (⟨true, F, A, G, K, (t : Int), false⟩ : T_ref06_Store), 0)) else .next (⟨true, F, A, G, allK K l, ((t + n : Nat) : Int), false⟩ : T_ref06_Store)) := by
      unfold rdoStep
      simp only
      have hp : partM2 (toF d).Data.length base z (t : Int) (z : Int) = some (z - t) := by
        unfold partM2
        rw [if_pos (by exact hz), if_pos ⟨by omega, by omega, by omega⟩]
        rfl
      rw [hp, bnd_some, show Int.toNat (t : Int) = t from rfl, show (toF d).Data = d.bytes from rfl, rdb_eq h.rng (by omega) (by omega) hK.asc hK.len, bnd_some, hpd]
      cases hbt : batchF ((prt d.bytes base z).drop t) with
      | none => rfl
      | some p =>
        obtain ⟨l, n⟩ := p
        have hn := batchF_len hrd hbt
        simp only [List.length_drop, prt_len hz] at hn
        simp only [rdbOut]
        by_cases hgt : (allK K l).length > 32
        · rw [if_pos hgt, if_pos hgt]; rfl
        · rw [if_neg hgt, if_neg hgt]
          simp only [Bool.not_true, cond_false]
          rw [wrapI (by omega)]
          rfl
    cases hbt : batchF ((prt d.bytes base z).drop t) with
    | none =>
      rw [hbt] at hstep
      exact loop_done hstep
    | some p =>
      obtain ⟨l, n⟩ := p
      have hn := batchF_len hrd hbt
      have hok := batchF_ok hrd hbt
      simp only [List.length_drop, prt_len hz] at hn
      rw [hbt] at hstep
      simp only at hstep ⊢
      split
      · rename_i hgt
        rw [if_pos hgt] at hstep
        exact loop_done hstep
      · rename_i hgt
        rw [if_neg hgt] at hstep
        match fu, hf with
        | 0, hf => omega
        | fu + 1, hf =>
          rw [List.drop_drop]
          exact loop_next hstep (rdo_loop h hz F A G fu (t + n) (allK K l) (by omega) (by omega) (hK.all hok.2.2 (by omega)))
theorem sect_prt (d : T_Device) (k : Nat) : sect d k = prt d.bytes (k * d.size.toNat) d.size.toNat := rfl
theorem refOpen_eq {d : T_Device} (h : OkD d) (hd : d.down = false) (hz : 1024 ≤ d.size) {f : Nat} (hf : f + 1 < d.wear.length) : m_ref06_Open (toF d) (f : Int) = some (toF d, some (refS f (openF d f)), 0) := by
  have hb := h.bound
  have hw := h.wear
  have hz2 := h.size
  obtain ⟨z, hzz⟩ : ∃ z : Nat, d.size = (z : Int) := ⟨d.size.toNat, by omega⟩
  have hzt : d.size.toNat = z := by omega
  have hse : ∀ k, k < d.wear.length → k * z + z ≤ d.bytes.length := fun k hk => by rw [← hzt]; exact sector_le h hk
  have hmul : ∀ k : Nat, (k : Int) * (z : Int) = ((k * z : Nat) : Int) := fun k => by simp
  have hadd : ∀ k : Nat, (k + 1) * z = k * z + z := fun k => by rw [Nat.add_mul, Nat.one_mul]
  have hpart : ∀ (i : Nat), f + i < d.wear.length → partM (toF d).Data.length (IntKind.wrap .i64 ((IntKind.wrap .i64 ((f : Int) + (i : Int))) * (toF d).Size)) (IntKind.wrap .i64 ((IntKind.wrap .i64 ((IntKind.wrap .i64 ((f : Int) + (i : Int))) + 1)) * (toF d).Size)) = some z ∧ IntKind.wrap .i64 ((IntKind.wrap .i64 ((f : Int) + (i : Int))) * (toF d).Size) = (((f + i) * z : Nat) : Int) := by
    intro i hi
    have h1 := hse (f + i) hi
    rw [show (toF d).Size = d.size from rfl, show (toF d).Data = d.bytes from rfl, hzz, wrapI (x := (f : Int) + (i : Int)) (by omega), wrapI (x := (f : Int) + (i : Int) + 1) (by omega), show (f : Int) + (i : Int) = ((f + i : Nat) : Int) by omega, show ((f + i : Nat) : Int) + 1 = ((f + i + 1 : Nat) : Int) by omega, hmul, hmul, hadd, wrapI (by omega), wrapI (by omega)]
    refine ⟨?_, rfl⟩
    unfold partM
    rw [if_pos ⟨by omega, by omega, by omega⟩]
    congr 1
    omega
  have hsub : ∀ (i : Nat), f + i < d.wear.length → Go.Proofs.YthdpagcklakahaaGreat.sub (toF d).Data (((f + i) * z : Nat) : Int) (((f + i) * z + z : Nat) : Int) = some (sect d (f + i)) := by
    intro i hi
    have h1 := hse (f + i) hi
    rw [sub_nat (by omega) (by exact h1)]
    congr 1
    unfold sect
    rw [hzt]
    show (d.bytes.drop ((f + i) * z)).take ((f + i) * z + z - (f + i) * z) = _
    rw [Nat.add_sub_cancel_left]
  have hgen : ∀ (i : Nat), f + i < d.wear.length → m_ref06_generation (sect d (f + i)) = some (genR (sect d (f + i))) := fun i hi =>
    generation_eq (sect_rng h _) (by rw [sect_len h hi]; omega)
  obtain ⟨p0, q0⟩ := hpart 0 (by omega)
  obtain ⟨p1, q1⟩ := hpart 1 (by omega)
  have e0 : ((0 : Nat) : Int) = 0 := rfl
  have e1 : ((1 : Nat) : Int) = 1 := rfl
  rw [e0] at p0 q0
  rw [e1] at p1 q1
  unfold m_ref06_Open
  rw [cnd_f (by simp <;> omega), bnd_some, show (toF d).Wear = d.wear from rfl, wrap_i64 (x := (d.wear.length : Int) - 1) (by omega) (by omega), cnd_f (by simp <;> omega), cnd_f (by show decide (d.size < 1024) = false; simp; omega), cnd_f (by exact hd)]
  rw [p0, bnd_some, q0]
  have t0 : Int.toNat (((f + 0) * z : Nat) : Int) = (f + 0) * z := rfl
  have t1 : Int.toNat (((f + 1) * z : Nat) : Int) = (f + 1) * z := rfl
  rw [t0, hsub 0 (by omega), bnd_some, hgen 0 (by omega), bnd_some]
  have ho2 : (bif decide (genR (sect d (f + 0)) > 0) then some (⟨true, (f : Int), 0, genR (sect d (f + 0)), [], 0, false⟩ : T_ref06_Store) else some (⟨true, (f : Int), (-1), 0, [], 0, false⟩ : T_ref06_Store)) = some (if genR (sect d (f + 0)) > 0 then (⟨true, (f : Int), 0, genR (sect d (f + 0)), [], 0, false⟩ : T_ref06_Store) else (⟨true, (f : Int), (-1), 0, [], 0, false⟩ : T_ref06_Store)) := by
    by_cases hg : genR (sect d (f + 0)) > 0
    · rw [cnd_t (by simpa using hg), if_pos hg]
    · rw [cnd_f (by simpa using hg), if_neg hg]
  rw [ho2, bnd_some, p1, bnd_some, q1, t1, hsub 1 hf, bnd_some, hgen 1 hf, bnd_some]
  -- the rest
  have hrest : ∀ (i : Nat) (g : Int) (K : List T_Setting) (t : Nat), i < 2 → secF (sect d (f + i)) = some (g, K, t) →
      bnd (partM (toF d).Data.length (IntKind.wrap .i64 ((IntKind.wrap .i64 ((f : Int) + (i : Int))) * (toF d).Size)) (IntKind.wrap .i64 ((IntKind.wrap .i64 ((IntKind.wrap .i64 ((f : Int) + (i : Int))) + 1)) * (toF d).Size))) (fun n3 => bnd (loopM (rdoStep d (Int.toNat (IntKind.wrap .i64 ((IntKind.wrap .i64 ((f : Int) + (i : Int))) * (toF d).Size))) n3) (⟨true, (f : Int), (i : Int), g, [], 5, false⟩ : T_ref06_Store)) fun o4 => retOr o4 fun o5 => none) = some (toF d, some (refS f (osOf (i : Int) (sect d (f + i)) g K t)), 0) := by
    intro i g K t hi hs
    obtain ⟨_, _, _, _, hk⟩ := secF_gen hs
    obtain ⟨pi, qi⟩ := hpart i (by omega)
    have h1 := hse (f + i) (by omega)
    rw [pi, bnd_some, qi, show Int.toNat (((f + i) * z : Nat) : Int) = (f + i) * z from rfl]
    have hl := rdo_loop h (base := (f + i) * z) (z := z) h1 (f : Int) (i : Int) g (z - 5) 5 [] (Nat.le_refl _) (by omega) OkK.nil
    have hsp : prt d.bytes ((f + i) * z) z = sect d (f + i) := by rw [sect_prt, hzt]
    rw [hsp, hk] at hl
    exact bnd_eq hl rfl
  have hsel := sel_cases (sect d (f + 0)) (sect d (f + 1))
  have ho : openF d f = selF (sect d (f + 0)) (sect d (f + 1)) := openF_sel d f
  rw [ho]
  rcases hsel with ⟨h0, h1, h2⟩ | ⟨g, K, t, h0, h1, h2⟩ | ⟨g, K, t, h1, h0, h2⟩
  · rw [h2]
    have g0 : genR (sect d (f + 0)) = 0 := by unfold genR; rw [h0]
    have g1 : genR (sect d (f + 1)) = 0 := by unfold genR; rw [h1]
    rw [g0, g1, if_neg (by omega)]
    rfl
  · rw [h2]
    have hg := secF_gen h0
    have g0 : genR (sect d (f + 0)) = g := by unfold genR; rw [h0]
    have g1 : genR (sect d (f + 1)) ≤ g := by
      unfold genR
      cases hs : secF (sect d (f + 1)) with
      | none => simp only; omega
      | some p => exact h1 p hs
    rw [g0, if_pos (by omega), cnd_f (by simp; omega), bnd_some, cnd_f (by simp)]
    exact hrest 0 g K t (by omega) h0
  · rw [h2]
    have hg := secF_gen h1
    have g1 : genR (sect d (f + 1)) = g := by unfold genR; rw [h1]
    have g0 : genR (sect d (f + 0)) < g := by
      unfold genR
      cases hs : secF (sect d (f + 0)) with
      | none => simp only; omega
      | some p => exact h0 p hs
    rw [g1]
    have hgt : (if genR (sect d (f + 0)) > 0 then (⟨true, (f : Int), 0, genR (sect d (f + 0)), [], 0, false⟩ : T_ref06_Store) else (⟨true, (f : Int), (-1), 0, [], 0, false⟩ : T_ref06_Store)).Gen < g := by split <;> simp only <;> omega
    rw [cnd_t (by simpa using hgt), bnd_some]
    have hst : ∀ c : Prop, [Decidable c] → (⟨(if c then (⟨true, (f : Int), 0, genR (sect d (f + 0)), [], 0, false⟩ : T_ref06_Store) else (⟨true, (f : Int), (-1), 0, [], 0, false⟩ : T_ref06_Store)).F_, (if c then (⟨true, (f : Int), 0, genR (sect d (f + 0)), [], 0, false⟩ : T_ref06_Store) else (⟨true, (f : Int), (-1), 0, [], 0, false⟩ : T_ref06_Store)).First, 1, g, (if c then (⟨true, (f : Int), 0, genR (sect d (f + 0)), [], 0, false⟩ : T_ref06_Store) else (⟨true, (f : Int), (-1), 0, [], 0, false⟩ : T_ref06_Store)).Keys, (if c then (⟨true, (f : Int), 0, genR (sect d (f + 0)), [], 0, false⟩ : T_ref06_Store) else (⟨true, (f : Int), (-1), 0, [], 0, false⟩ : T_ref06_Store)).Tail, (if c then (⟨true, (f : Int), 0, genR (sect d (f + 0)), [], 0, false⟩ : T_ref06_Store) else (⟨true, (f : Int), (-1), 0, [], 0, false⟩ : T_ref06_Store)).Ended⟩ : T_ref06_Store) = ⟨true, (f : Int), 1, g, [], 0, false⟩ := fun c _ => by split <;> rfl
    rw [hst, cnd_f (by simp)]
    exact hrest 1 g K t (by omega) h1
end Go.Proofs.YthdpagcklakahaaGreat
end
section
namespace Go.Proofs.YthdpagcklakahaaGreat
open Go
set_option linter.unusedSimpArgs false
set_option linter.unusedVariables false
def endR (r : T_ref06_Store) : T_ref06_Store := ⟨r.F_, r.First, r.Active, 0, [], r.Tail, true⟩
theorem refEnd_eq (r : T_ref06_Store) (g : T_Flash) : m_ref06_Store_end r g = some (endR r, 10) := rfl
noncomputable def chkStepR (s_p0 : T_ref06_Store) (l_p1 : List T_Setting) : Int → Option (Step Int ((T_ref06_Store × Int) ⊕ Unit)) :=
  (fun (s1 : Int) => bif decide (s1 < (l_p1.length : Int)) then (bnd ((bnd (elt l_p1 s1) fun x1 => bif decide ((x1.Value.length : Int) > 28) then (some true) else (bif x1.Delete then (some (decide ((x1.Value.length : Int) > 0))) else (some false)) : Option Bool)) fun o4 => bif o4 then (some (.done (.inl (s_p0, 1)))) else (bnd (loopM (τ := (T_ref06_Store × Int) ⊕ Unit) (fun (s2 : Int) => bif decide (s2 < s1) then (bnd (elt l_p1 s2) fun x2 => bnd (elt l_p1 s1) fun x3 => bif (x2.Key == x3.Key) then (some (.done (.inl (s_p0, 7)))) else (some (.next (IntKind.wrap .i64 (s2 + 1))))) else (some (.done (.inr ())))) 0) fun o5 => retOrW (fun r_ => (.done (.inl r_))) o5 fun o6 => some (.next (IntKind.wrap .i64 (s1 + 1))))) else (some (.done (.inr ()))))
def chkOutR (r : T_ref06_Store) (e : Int) : (T_ref06_Store × Int) ⊕ Unit := if e = 0 then .inr () else .inl (r, e)
theorem chk_loopR {r : T_ref06_Store} {l : List T_Setting} (hl : l.length ≤ 1000000) : ∀ (k i : Nat) (seen : List Int), i + k = l.length → (∀ q, q ∈ seen ↔ ∃ j, j < i ∧ (l[j]?.map (·.Key)) = some q) →
    loopM (chkStepR r l) (i : Int) = some (chkOutR r (chkG seen (l.drop i)))
  | 0, i, seen, h, _ => by
    refine loop_done ?_
    unfold chkStepR
    rw [cnd_f (by simp; omega), List.drop_eq_nil_of_le (by omega)]
    rfl
  | k + 1, i, seen, h, hm => by
    have hi : i < l.length := by omega
    have hd : l.drop i = l[i] :: l.drop (i + 1) := (List.getElem_cons_drop (h := hi)).symm
    rw [hd]
    have hst : chkStepR r l (i : Int) = some (if l[i].Value.length > 28 ∨ (l[i].Delete = true ∧ l[i].Value.length > 0) then .done (.inl (r, 1)) else if l[i].Key ∈ seen then .done (.inl (r, 7)) else .next ((i + 1 : Nat) : Int)) := by
      unfold chkStepR
      rw [cnd_t (by simp; omega), elt_lt hi, bnd_some]
      have hc : (bif decide ((l[i].Value.length : Int) > 28) then (some true) else (bif l[i].Delete then (some (decide ((l[i].Value.length : Int) > 0))) else (some false)) : Option Bool) = some (decide (l[i].Value.length > 28 ∨ (l[i].Delete = true ∧ l[i].Value.length > 0))) := by
        by_cases h1 : l[i].Value.length > 28
        · rw [cnd_t (by simp; omega), decide_eq_true (.inl h1)]
        · rw [cnd_f (by simp; omega)]
          cases hdl : l[i].Delete
          · rw [cond_false]
            congr 1
            symm
            simp [h1]
          · rw [cond_true]
            congr 1
            rw [decide_eq_decide]
            simp [h1]
      rw [hc, bnd_some]
      by_cases h1 : l[i].Value.length > 28 ∨ (l[i].Delete = true ∧ l[i].Value.length > 0)
      · rw [decide_eq_true h1, cond_true, if_pos h1]
      · rw [decide_eq_false h1, cond_false, if_neg h1]
        refine bnd_loop_any (fun k => (k : Int)) i (fun k => (l[k]?.map (·.Key)) == some l[i].Key) (.inl (r, 7)) (.inr ()) rfl (fun j hj => ?_) ?_ ?_
        · have hjl : j < l.length := by omega
          rw [cnd_t (by simp; omega), elt_lt hjl, bnd_some, bnd_some, List.getElem?_eq_getElem hjl]
          by_cases hk : l[j].Key = l[i].Key
          · rw [cnd_t (by simpa using hk), cnd_t (by simpa using hk)]
          · rw [cnd_f (by simpa using hk), wrap_succ hjl (by omega), cnd_f (by simpa using hk)]
        · rw [cnd_f (by simp)]
        · by_cases h2 : l[i].Key ∈ seen
          · rw [if_pos h2]
            have : (List.range i).any (fun k => (l[k]?.map (·.Key)) == some l[i].Key) = true := by
              obtain ⟨j, hj, e⟩ := (hm _).1 h2
              rw [List.any_eq_true]
              exact ⟨j, List.mem_range.2 hj, by rw [e]; simp⟩
            rw [this]
            rfl
          · rw [if_neg h2]
            have : (List.range i).any (fun k => (l[k]?.map (·.Key)) == some l[i].Key) = false := by
              rw [List.any_eq_false]
              intro j hj e
              exact h2 ((hm _).2 ⟨j, List.mem_range.1 hj, by simpa using e⟩)
            rw [this, wrap_succ hi (by omega)]
            rfl
    unfold chkG
    by_cases h1 : l[i].Value.length > 28 ∨ (l[i].Delete = true ∧ l[i].Value.length > 0)
    · rw [if_pos h1] at hst
      rw [if_pos h1]
      exact loop_done hst
    · rw [if_neg h1] at hst
      rw [if_neg h1]
      by_cases h2 : l[i].Key ∈ seen
      · rw [if_pos h2] at hst
        rw [if_pos h2]
        exact loop_done hst
      · rw [if_neg h2] at hst
        rw [if_neg h2]
        refine loop_next hst (chk_loopR hl k (i + 1) (l[i].Key :: seen) (by omega) fun q => ?_)
        rw [List.mem_cons, hm]
        constructor
        · rintro (rfl | ⟨j, hj, e⟩)
          · exact ⟨i, by omega, by rw [List.getElem?_eq_getElem hi]; rfl⟩
          · exact ⟨j, by omega, e⟩
        · rintro ⟨j, hj, e⟩
          by_cases hji : j = i
          · subst hji
            rw [List.getElem?_eq_getElem hi] at e
            injection e with e
            exact .inl e.symm
          · exact .inr ⟨j, by omega, e⟩
theorem refCheck_eq {f : Nat} {o : OS} {d : T_Device} {l : List T_Setting} (hK : OkK o.K) (hll : l.length ≤ 1000000) : m_ref06_Store_Check (refS f o) l (toF d) =
    some (if d.down then (endR (refS f o), 10) else if chkF l ≠ 0 then (refS f o, chkF l) else if (allK o.K l).length > 32 then (refS f o, 3) else (refS f o, 0)) := by
  unfold m_ref06_Store_Check
  rw [show (refS f o).Ended = false from rfl, cond_false, show chkB (refS f o).F_ = some true from rfl, bnd_some, bnd_some, show (toF d).Down = d.down from rfl]
  cases hd : d.down
  · rw [cond_false, if_neg (by simp)]
    unfold chkF
    by_cases h32 : l.length > 32
    · rw [cnd_t (by simp; omega), if_pos h32, if_pos (by decide)]
    · rw [cnd_f (by simp; omega), if_neg h32]
      have hlp := chk_loopR (r := refS f o) (l := l) hll l.length 0 [] (by omega) (fun q => by simp)
      unfold chkStepR at hlp
      refine bnd_eq hlp ?_
      rw [List.drop_zero]
      unfold chkOutR
      by_cases hc : chkG [] l = 0
      · rw [if_pos hc, retOr_inr, hc, if_neg (by decide), show (refS f o).Keys = o.K from rfl, applyAll_eq hK.asc (by have := hK.len; omega), bnd_some]
        by_cases hg : (allK o.K l).length > 32
        · rw [cnd_t (by simp; omega), if_pos hg]
        · rw [cnd_f (by simp; omega), if_neg hg]
      · rw [if_neg hc, retOr_inl, if_pos hc]
  · rw [cond_true, refEnd_eq, bnd_some, if_pos rfl]
theorem refBatch_eq {l : List T_Setting} (hl : l.length ≤ 1000) (hv : ∀ x ∈ l, x.Value.length ≤ 1000) : m_ref06_batch l = some (encF l) := by
  unfold m_ref06_batch
  have hb : ∀ i, i ≤ l.length → (IntKind.wrap .u8 (l.length : Int) :: (l.take i).flatMap encS).length ≤ 1 + i * 1002 := fun i hi => by
    have := flat_le (l := l.take i) fun x hx => hv x (List.mem_of_mem_take hx)
    simp only [List.length_take, List.length_cons] at *
    rw [Nat.min_eq_left hi] at this
    omega
  refine bnd_loop (fun i => (IntKind.wrap .u8 (l.length : Int) :: (l.take i).flatMap encS, (i : Int))) l.length (IntKind.wrap .u8 (l.length : Int) :: l.flatMap encS) rfl (fun i hi => ?_) ?_ ?_
  · have h1 := hb i (by omega)
    have h2 := hv l[i] (List.getElem_mem hi)
    have h3 : i * 1002 ≤ 1000 * 1002 := Nat.mul_le_mul_right _ (by omega)
    simp only
    rw [cnd_t (by simp; omega), elt_lt hi, bnd_some, take_succ_get hi, List.flatMap_append]
    simp only [List.flatMap_cons, List.flatMap_nil, List.append_nil]
    have hE : ∀ (z : List Int), (IntKind.wrap .u8 (l.length : Int) :: ((l.take i).flatMap encS ++ z)) = (IntKind.wrap .u8 (l.length : Int) :: (l.take i).flatMap encS) ++ z := fun z => rfl
    rw [hE]
    generalize hpre : IntKind.wrap .u8 (l.length : Int) :: (l.take i).flatMap encS = pre at h1 ⊢
    unfold encS
    cases hd : l[i].Delete
    · simp only [cond_false]
      rw [bnd_some, app_eq (by simp; omega) (by simp; omega), bnd_some, app_eq (by simp; omega) (by simp; omega), bnd_some, wrap_succ hi (by omega)]
      simp
    · simp only [cond_true]
      rw [app_eq (by simp; omega) (by simp; omega), bnd_some, wrap_succ hi (by omega)]
      simp
  · simp only
    rw [cnd_f (by simp), List.take_length]
  · have h1 := hb l.length (Nat.le_refl _)
    rw [List.take_length] at h1
    have h3 : l.length * 1002 ≤ 1000 * 1002 := Nat.mul_le_mul_right _ hl
    rw [app_eq (by simp only [List.length_cons, List.length_nil] at *; omega) (by simp only [List.length_cons, List.length_nil] at *; omega), bnd_some]
    rfl
theorem little_eq {g : Int} (h0 : 0 ≤ g) (h1 : g ≤ 4294967295) : m_ref01_Little g 4 = some (gen4 g) := by
  obtain ⟨n, rfl⟩ : ∃ n : Nat, g = (n : Int) := ⟨g.toNat, by omega⟩
  have e8 : (8 : Int) = ((8 : Nat) : Int) := rfl
  have e16 : (16 : Int) = ((16 : Nat) : Int) := rfl
  have e24 : (24 : Int) = ((24 : Nat) : Int) := rfl
  have p8 : 2 ^ 8 = 256 := rfl
  have p16 : 2 ^ 16 = 65536 := rfl
  have p24 : 2 ^ 24 = 16777216 := rfl
  have hb : IntKind.bits .i64 = 64 := rfl
  unfold gen4
  rw [e8, e16, e24, iShr_n (by omega), iShr_n (by omega), iShr_n (by omega), wrap_u8_modn, wrap_u8_modn, wrap_u8_modn, wrap_u8_modn, p8, p16, p24]
  have hm : ∀ k : Nat, (k : Int).tmod 256 = ((k % 256 : Nat) : Int) := fun k => rfl
  have hd : ∀ k : Nat, (k : Int).tdiv 256 = ((k / 256 : Nat) : Int) := fun k => rfl
  have st : ∀ (k : Nat) (L : List Int) (i : Nat), i < 4 → L.length ≤ 4 → k ≤ 4294967295 → (bif decide (((k : Int), L, (i : Int)).2.2 < 4) then (bnd (app 1 ((k : Int), L, (i : Int)).2.1 [IntKind.wrap .u8 (((k : Int), L, (i : Int)).1.tmod 256)]) fun l1 => some (Step.next (IntKind.wrap .u64 (((k : Int), L, (i : Int)).1.tdiv 256), l1, IntKind.wrap .i64 (((k : Int), L, (i : Int)).2.2 + 1)) : Step (Int × List Int × Int) (List Int))) else (some (.done ((k : Int), L, (i : Int)).2.1))) = some (.next (((k / 256 : Nat) : Int), L ++ [((k % 256 : Nat) : Int)], ((i + 1 : Nat) : Int))) := by
    intro k L i hi hL hk
    dsimp only
    rw [cnd_t (by simp; omega), hm, hd, wrap_u8n (by omega), wrap_u64n (by omega), app_eq (by simp; omega) (by simp; omega), bnd_some, wrapS (by omega)]
  unfold m_ref01_Little
  have q1 : n / 256 / 256 = n / 65536 := by omega
  have q2 : n / 65536 / 256 = n / 16777216 := by omega
  have s0 := st n [] 0 (by omega) (by simp) (by omega)
  have s1 := st (n / 256) [((n % 256 : Nat) : Int)] 1 (by omega) (by simp) (by omega)
  have s2 := st (n / 65536) [((n % 256 : Nat) : Int), ((n / 256 % 256 : Nat) : Int)] 2 (by omega) (by simp) (by omega)
  have s3 := st (n / 16777216) [((n % 256 : Nat) : Int), ((n / 256 % 256 : Nat) : Int), ((n / 65536 % 256 : Nat) : Int)] 3 (by omega) (by simp) (by omega)
  rw [q1] at s1
  rw [q2] at s2
  exact bnd_eq (loop_next s0 (loop_next s1 (loop_next s2 (loop_next s3 (loop_done rfl))))) rfl
theorem programF_in {d : T_Device} {at_ : Int} {b : List Int} (h : 0 ≤ at_ ∧ at_ + b.length ≤ d.bytes.length) : (programF d at_ b).2 = 0 ∨ (programF d at_ b).2 = 10 := by
  unfold programF
  split
  · exact .inr rfl
  · rw [if_pos ⟨by omega, by omega, by omega, by omega⟩]
    exact progL_err _ _ _
theorem eraseF_in {d : T_Device} {s : Int} (h : 0 ≤ s ∧ s < d.wear.length) : (eraseF d s).2 = 0 ∨ (eraseF d s).2 = 10 := by
  unfold eraseF
  split
  · exact .inr rfl
  · rw [if_neg (by omega)]
    cases (stepF (wrW d s.toNat)).2 <;> simp
structure OkR (o : OS) (d : T_Device) (f : Nat) : Prop where
  oo : OkO o
  clean : 0 ≤ o.act → o.clean = blankF ((sect d (f + o.act.toNat)).drop o.tail.toNat) ∧ o.tail ≤ d.size
  none : o.act < 0 → o.gen = 0
theorem okR_open {d : T_Device} (h : OkD d) (hz : 1024 ≤ d.size) {f : Nat} (hf : f + 1 < d.wear.length) : OkR (openF d f) d f := by
  have ho := openF_okO h hz hf
  refine ⟨ho, fun ha => ?_, fun ha => ?_⟩
  · rw [openF_sel] at *
    have hl0 := sect_len h (k := f) (by omega)
    have hl1 := sect_len h (k := f + 1) hf
    have hs := h.size
    rcases sel_cases (sect d f) (sect d (f + 1)) with ⟨h0, h1, h2⟩ | ⟨g, K, t, h0, h1, h2⟩ | ⟨g, K, t, h1, h0, h2⟩
    · rw [h2] at ha; exact absurd ha (by decide)
    · rw [h2]
      obtain ⟨_, _, _, _, hk⟩ := secF_gen h0
      have := (readK_le (sect_rng h f)).2
      rw [hk] at this
      simp only [List.length_drop] at this
      exact ⟨rfl, by show (t : Int) ≤ d.size; omega⟩
    · rw [h2]
      obtain ⟨_, _, _, _, hk⟩ := secF_gen h1
      have := (readK_le (sect_rng h (f + 1))).2
      rw [hk] at this
      simp only [List.length_drop] at this
      exact ⟨rfl, by show (t : Int) ≤ d.size; omega⟩
  · rw [openF_sel] at *
    rcases sel_cases (sect d f) (sect d (f + 1)) with ⟨h0, h1, h2⟩ | ⟨g, K, t, h0, h1, h2⟩ | ⟨g, K, t, h1, h0, h2⟩
    · rw [h2]; rfl
    · rw [h2] at ha; exact absurd ha (by show ¬ (0 : Int) < 0; omega)
    · rw [h2] at ha; exact absurd ha (by show ¬ (1 : Int) < 0; omega)
def RelR (r : T_ref06_Store) (f : Nat) (o : Option OS) : Prop := match o with
  | none => r.Ended = true ∧ r.Keys = [] ∧ r.Gen = 0
  | some o => r = refS f o
theorem refU_fin {f : Nat} {o o' : OS} {r : T_Device × Int} (h : r.2 = 0 ∨ r.2 = 10) : ∃ r', (if r.2 = 0 then some (refS f o', toF r.1, 0) else some (endR (refS f o), toF r.1, 10)) = some (r', toF (finU o o' r).2.1, (finU o o' r).2.2) ∧ RelR r' f (finU o o' r).1 := by
  unfold finU
  rcases h with h | h
  · rw [if_pos h, if_pos h]
    exact ⟨_, rfl, rfl⟩
  · rw [if_neg (by omega), if_neg (by omega), if_pos h]
    exact ⟨_, rfl, rfl, rfl, rfl⟩
theorem refUpdate_eq {f : Nat} {o : OS} {d : T_Device} {l : List T_Setting} (hR : OkR o d f) (h : OkD d) (hz : 1024 ≤ d.size) (hf : f + 1 < d.wear.length) (hll : l.length ≤ 1000000) (hl : ∀ x ∈ l, 0 ≤ x.Key ∧ x.Key ≤ 255 ∧ rng x.Value) :
    ∃ r', m_ref06_Store_Update (refS f o) l (toF d) = some (r', toF (updF o d f l).2.1, (updF o d f l).2.2) ∧ RelR r' f (updF o d f l).1 := by
  have ho := hR.oo
  have hw := h.wear
  have hsz := h.size
  have hb := h.bound
  have hot := ho.tail
  have hoa := ho.act
  have hog := ho.gen
  obtain ⟨z, hzz⟩ : ∃ z : Nat, d.size = (z : Int) := ⟨d.size.toNat, by omega⟩
  have hz1 : d.size.toNat = z := by rw [hzz]; rfl
  unfold m_ref06_Store_Update updF
  rw [refCheck_eq ho.K hll, bnd_some]
  cases hd : d.down
  case true => exact ⟨_, rfl, rfl, rfl, rfl⟩
  rw [if_neg (show ¬ (false = true) by decide), if_neg (show ¬ (false = true) by decide)]
  by_cases hc : chkF l ≠ 0
  · rw [if_pos hc, if_pos hc, cnd_t (by simpa using hc)]
    exact ⟨_, rfl, rfl⟩
  have hc0 : chkF l = 0 := by omega
  rw [if_neg hc, if_neg hc]
  by_cases hnil : l = []
  · subst hnil
    rw [if_neg (by show ¬ o.K.length > 32; have := ho.K.len; omega), if_pos rfl]
    exact ⟨_, rfl, rfl⟩
  rw [if_neg hnil]
  have hpos : 0 < l.length := List.length_pos_iff.2 hnil
  have hco := chkF_ok hc0
  have hlok : ∀ x ∈ l, OkC x := fun x hx => ⟨⟨(hl x hx).1, (hl x hx).2.1⟩, (hco.2 x hx).1, (hl x hx).2.2, (hco.2 x hx).2⟩
  by_cases h32 : (allK o.K l).length > 32
  · rw [if_pos h32, if_pos h32, cnd_t (by rfl)]
    exact ⟨_, rfl, rfl⟩
  rw [if_neg h32, if_neg h32, cnd_f (by rfl), cnd_f (by simp; omega)]
  have hKok : OkK (allK o.K l) := ho.K.all hlok (by omega)
  have hel := enc_len hco.1 hlok
  have her := enc_rng hco.1 hlok
  rw [copyL ⟨hll, fun x hx => by have := (hco.2 x hx).1; omega⟩, bnd_some, show (refS f o).Keys = o.K from rfl, applyAll_eq ho.K.asc (by have := ho.K.len; omega), bnd_some, refBatch_eq (by omega) (fun x hx => by have := (hco.2 x hx).1; omega), bnd_some]
  rw [show (refS f o).Active = o.act from rfl, show (refS f o).First = (f : Int) from rfl, show (refS f o).Tail = o.tail from rfl, show (refS f o).Gen = o.gen from rfl, show (refS f o).F_ = true from rfl, show (refS f o).Ended = false from rfl, show (toF d).Size = d.size from rfl, show (toF d).Data = d.bytes from rfl, show chkB true = some true from rfl]
  by_cases hap : 0 ≤ o.act ∧ o.clean = true ∧ ((encF l).length : Int) ≤ d.size - o.tail
  · -- one more batch
    rw [if_pos hap]
    obtain ⟨ha, hcl, hfit⟩ := hap
    obtain ⟨hcl2, htl⟩ := hR.clean ha
    have hfa : f + o.act.toNat < d.wear.length := by omega
    have hle := sector_le h hfa
    rw [hz1] at hle
    have e1 : IntKind.wrap .i64 ((f : Int) + o.act) = ((f + o.act.toNat : Nat) : Int) := by rw [wrap_i64 (by omega) (by omega)]; omega
    have e2 : IntKind.wrap .i64 (((f + o.act.toNat : Nat) : Int) * d.size) = (((f + o.act.toNat) * d.size.toNat : Nat) : Int) := by
      rw [hz1, hzz]
      have : (((f + o.act.toNat : Nat) : Int) * (z : Int)) = (((f + o.act.toNat) * z : Nat) : Int) := by simp
      rw [this, wrap_i64n (by omega)]
    obtain ⟨r, hr⟩ : ∃ r, programF d ((((f + o.act.toNat) * d.size.toNat : Nat) : Int) + o.tail) (encF l) = r := ⟨_, rfl⟩
    have hr2 : r.2 = 0 ∨ r.2 = 10 := by rw [← hr]; exact programF_in ⟨by omega, by rw [hz1]; omega⟩
    rw [hr]
    have hblk := refU_fin (f := f) (o := o) (o' := ⟨o.act, o.gen, allK o.K l, o.tail + ((encF l).length : Int), o.clean⟩) hr2
    obtain ⟨r', hr', hrel⟩ := hblk
    refine ⟨r', ?_, hrel⟩
    rw [← hr']
    refine bnd_eq (a := .inl (if r.2 = 0 then (refS f ⟨o.act, o.gen, allK o.K l, o.tail + ((encF l).length : Int), o.clean⟩, toF r.1, 0) else (endR (refS f o), toF r.1, 10))) ?_ ?_
    · rw [cnd_t (by simpa using ha), bnd_some, e1, e2, wrap_i64 (x := (((f + o.act.toNat) * d.size.toNat : Nat) : Int) + o.tail) (by omega) (by rw [hz1]; omega), wrap_i64 (x := (((f + o.act.toNat) * d.size.toNat : Nat) : Int) + d.size) (by omega) (by rw [hz1]; omega)]
      have hp : partM d.bytes.length ((((f + o.act.toNat) * d.size.toNat : Nat) : Int) + o.tail) ((((f + o.act.toNat) * d.size.toNat : Nat) : Int) + d.size) = some (z - o.tail.toNat) := by
        unfold partM
        rw [if_pos ⟨by omega, by omega, by rw [hz1]; omega⟩]
        congr 1
        rw [hz1]
        omega
      have hs : Go.Proofs.YthdpagcklakahaaGreat.sub d.bytes ((Int.toNat ((((f + o.act.toNat) * d.size.toNat : Nat) : Int) + o.tail) : Nat) : Int) (((Int.toNat ((((f + o.act.toNat) * d.size.toNat : Nat) : Int) + o.tail)) + (z - o.tail.toNat) : Nat) : Int) = some ((sect d (f + o.act.toNat)).drop o.tail.toNat) := by
        have e3 : Int.toNat ((((f + o.act.toNat) * d.size.toNat : Nat) : Int) + o.tail) = (f + o.act.toNat) * d.size.toNat + o.tail.toNat := by omega
        rw [e3, sub_nat (by omega) (by rw [hz1]; omega), Nat.add_sub_cancel_left]
        congr 1
        unfold sect
        rw [List.drop_take, List.drop_drop, hz1]
      have hlen : ((sect d (f + o.act.toNat)).drop o.tail.toNat).length ≤ 1000000 := by
        have := sect_len h hfa
        simp only [List.length_drop]
        omega
      rw [hp, bnd_some, cnd_t (by simp; omega), hs, bnd_some, refBlank_eq hlen, bnd_some, ← hcl2, hcl, bnd_some, cond_true, refProg_eq h her, hr, bnd_some]
      rcases hr2 with h0 | h0
      · rw [cnd_f (by simpa using h0), if_pos h0, wrap_i64 (by omega) (by omega)]
        rfl
      · rw [cnd_t (by simp [h0]), refEnd_eq, bnd_some, if_neg (by omega)]
    · rw [retOr_inl]
      split <;> rfl
  rw [if_neg hap]
  by_cases hg : o.gen = 2147483648
  · have ha : 0 ≤ o.act := by
      by_cases ha : 0 ≤ o.act
      · exact ha
      · have := hR.none (by omega); omega
    rw [if_pos hg]
    refine ⟨refS f o, ?_, rfl⟩
    obtain ⟨hcl2, htl⟩ := hR.clean ha
    have hfa : f + o.act.toNat < d.wear.length := by omega
    have hle := sector_le h hfa
    rw [hz1] at hle
    have e1 : IntKind.wrap .i64 ((f : Int) + o.act) = ((f + o.act.toNat : Nat) : Int) := by rw [wrap_i64 (by omega) (by omega)]; omega
    have e2 : IntKind.wrap .i64 (((f + o.act.toNat : Nat) : Int) * d.size) = (((f + o.act.toNat) * d.size.toNat : Nat) : Int) := by
      rw [hz1, hzz]
      have : (((f + o.act.toNat : Nat) : Int) * (z : Int)) = (((f + o.act.toNat) * z : Nat) : Int) := by simp
      rw [this, wrap_i64n (by omega)]
    refine bnd_eq (a := .inl (refS f o, toF d, 3)) ?_ rfl
    rw [cnd_t (by simpa using ha), bnd_some, e1, e2, wrap_i64 (x := (((f + o.act.toNat) * d.size.toNat : Nat) : Int) + o.tail) (by omega) (by rw [hz1]; omega), wrap_i64 (x := (((f + o.act.toNat) * d.size.toNat : Nat) : Int) + d.size) (by omega) (by rw [hz1]; omega)]
    have hp : partM d.bytes.length ((((f + o.act.toNat) * d.size.toNat : Nat) : Int) + o.tail) ((((f + o.act.toNat) * d.size.toNat : Nat) : Int) + d.size) = some (z - o.tail.toNat) := by
      unfold partM
      rw [if_pos ⟨by omega, by omega, by rw [hz1]; omega⟩]
      congr 1
      rw [hz1]
      omega
    have hs : Go.Proofs.YthdpagcklakahaaGreat.sub d.bytes ((Int.toNat ((((f + o.act.toNat) * d.size.toNat : Nat) : Int) + o.tail) : Nat) : Int) (((Int.toNat ((((f + o.act.toNat) * d.size.toNat : Nat) : Int) + o.tail)) + (z - o.tail.toNat) : Nat) : Int) = some ((sect d (f + o.act.toNat)).drop o.tail.toNat) := by
      have e3 : Int.toNat ((((f + o.act.toNat) * d.size.toNat : Nat) : Int) + o.tail) = (f + o.act.toNat) * d.size.toNat + o.tail.toNat := by omega
      rw [e3, sub_nat (by omega) (by rw [hz1]; omega), Nat.add_sub_cancel_left]
      congr 1
      unfold sect
      rw [List.drop_take, List.drop_drop, hz1]
    have hlen : ((sect d (f + o.act.toNat)).drop o.tail.toNat).length ≤ 1000000 := by
      have := sect_len h hfa
      simp only [List.length_drop]
      omega
    rw [hp, bnd_some, hs]
    have ho3 : (bif decide (((encF l).length : Int) ≤ ((z - o.tail.toNat : Nat) : Int)) then (bnd (some ((sect d (f + o.act.toNat)).drop o.tail.toNat)) fun l1 => bnd (m_ref05_Blank l1) fun r5 => some r5) else some false) = some false := by
      by_cases hfit : ((encF l).length : Int) ≤ ((z - o.tail.toNat : Nat) : Int)
      · rw [cnd_t (by simpa using hfit), bnd_some, refBlank_eq hlen, bnd_some, ← hcl2]
        congr 1
        cases hcl : o.clean
        · rfl
        · exact absurd ⟨ha, hcl, by omega⟩ hap
      · rw [cnd_f (by simpa using hfit)]
    rw [ho3, bnd_some, cond_false, cnd_t (by simpa using hg)]
  -- the other sector
  rw [if_neg hg]
  generalize hN : allK o.K l = N at hKok ⊢
  have hfirst : ∀ (blk : Option ((T_ref06_Store × T_Flash × Int) ⊕ Bool)), blk = some (.inr true) → blk = some (.inr true) := fun _ h => h
  have hk : f + othF o < d.wear.length := by unfold othF; split <;> omega
  have hle := sector_le h hk
  rw [hz1] at hle
  have hot1 : othF o ≤ 1 := by unfold othF; split <;> omega
  have hfo : IntKind.wrap .i64 ((f : Int) + ((othF o : Nat) : Int)) = ((f + othF o : Nat) : Int) := by rw [wrap_i64 (by omega) (by omega)]; omega
  have hoff : IntKind.wrap .i64 (((f + othF o : Nat) : Int) * d.size) = (((f + othF o) * d.size.toNat : Nat) : Int) := by
    rw [hz1, hzz]
    have : (((f + othF o : Nat) : Int) * (z : Int)) = (((f + othF o) * z : Nat) : Int) := by simp
    rw [this, wrap_i64n (by omega)]
  have hoth : ((bif (o.act == 0) then (some 1) else (some 0) : Option Int)) = some ((othF o : Nat) : Int) := by
    unfold othF
    by_cases ha : o.act = 0
    · rw [cnd_t (by simpa using ha), if_pos ha]; rfl
    · rw [cnd_f (by simpa using ha), if_neg ha]; rfl
  have hsl : (sect d (f + othF o)).length = d.size.toNat := sect_len h hk
  obtain ⟨r1, hr1⟩ : ∃ r1, (if blankF (sect d (f + othF o)) then (d, 0) else eraseF d ((f + othF o : Nat) : Int)) = r1 := ⟨_, rfl⟩
  have ok1 : OkD r1.1 ∧ r1.1.size = d.size ∧ r1.1.wear.length = d.wear.length ∧ r1.1.bytes.length = d.bytes.length ∧ r1.1.torn = d.torn := by
    rw [← hr1]
    split
    · exact ⟨h, rfl, rfl, rfl, rfl⟩
    · exact eraseF_ok h _
  have er1 : r1.2 = 0 ∨ r1.2 = 10 := by
    rw [← hr1]
    split
    · exact .inl rfl
    · exact eraseF_in ⟨by omega, by omega⟩
  obtain ⟨r2, hr2⟩ : ∃ r2, (andD r1 fun d1 => programF d1 (((f + othF o) * d.size.toNat : Nat) : Int) (gen4 (o.gen + 1))) = r2 := ⟨_, rfl⟩
  have ok2 : OkD r2.1 ∧ r2.1.size = d.size ∧ r2.1.wear.length = d.wear.length ∧ r2.1.bytes.length = d.bytes.length ∧ r2.1.torn = d.torn := by
    rw [← hr2]
    exact andD_ok ok1 fun e a b c g t => progOk' a b c g t (gen4_rng _) _
  have er2 : r2.2 = 0 ∨ r2.2 = 10 := by
    rw [← hr2]
    unfold andD
    split
    · exact programF_in ⟨by omega, by rw [ok1.2.2.2.1, hz1]; show _ + (4 : Int) ≤ _; omega⟩
    · exact er1
  obtain ⟨r3, hr3⟩ : ∃ r3, (andD r2 fun d2 => if N = [] then (d2, 0) else programF d2 ((((f + othF o) * d.size.toNat : Nat) : Int) + 5) (encF N)) = r3 := ⟨_, rfl⟩
  have hel2 := enc_len hKok.len hKok.ok
  have ok3 : OkD r3.1 ∧ r3.1.size = d.size ∧ r3.1.wear.length = d.wear.length ∧ r3.1.bytes.length = d.bytes.length ∧ r3.1.torn = d.torn := by
    rw [← hr3]
    refine andD_ok ok2 fun e a b c g t => ?_
    split
    · exact ⟨a, b, c, g, t⟩
    · exact progOk' a b c g t (enc_rng hKok.len hKok.ok) _
  have er3 : r3.2 = 0 ∨ r3.2 = 10 := by
    rw [← hr3]
    unfold andD
    split
    · split
      · exact .inl rfl
      · exact programF_in ⟨by omega, by rw [ok2.2.2.2.1, hz1]; omega⟩
    · exact er2
  obtain ⟨r4, hr4⟩ : ∃ r4, (andD r3 fun d3 => programF d3 ((((f + othF o) * d.size.toNat : Nat) : Int) + 4) [0]) = r4 := ⟨_, rfl⟩
  have er4 : r4.2 = 0 ∨ r4.2 = 10 := by
    rw [← hr4]
    unfold andD
    split
    · exact programF_in ⟨by omega, by rw [ok3.2.2.2.1, hz1]; show _ + (1 : Int) ≤ _; omega⟩
    · exact er3
  have hmo : moveD o d f N = r4 := by
    unfold moveD
    simp only
    rw [hr1, hr2, hr3, hr4]
  rw [hmo]
  obtain ⟨r', hr', hrel⟩ := refU_fin (f := f) (o := o) (o' := moveO o N) er4
  refine ⟨r', ?_, hrel⟩
  rw [← hr']
  refine bnd_eq (a := .inr true) ?_ ?_
  · by_cases ha : 0 ≤ o.act
    · obtain ⟨hcl2, htl⟩ := hR.clean ha
      have hfa : f + o.act.toNat < d.wear.length := by omega
      have hle := sector_le h hfa
      rw [hz1] at hle
      have e1 : IntKind.wrap .i64 ((f : Int) + o.act) = ((f + o.act.toNat : Nat) : Int) := by rw [wrap_i64 (by omega) (by omega)]; omega
      have e2 : IntKind.wrap .i64 (((f + o.act.toNat : Nat) : Int) * d.size) = (((f + o.act.toNat) * d.size.toNat : Nat) : Int) := by
        rw [hz1, hzz]
        have : (((f + o.act.toNat : Nat) : Int) * (z : Int)) = (((f + o.act.toNat) * z : Nat) : Int) := by simp
        rw [this, wrap_i64n (by omega)]
      rw [cnd_t (by simpa using ha), bnd_some, e1, e2, wrap_i64 (x := (((f + o.act.toNat) * d.size.toNat : Nat) : Int) + o.tail) (by omega) (by rw [hz1]; omega), wrap_i64 (x := (((f + o.act.toNat) * d.size.toNat : Nat) : Int) + d.size) (by omega) (by rw [hz1]; omega)]
      have hp : partM d.bytes.length ((((f + o.act.toNat) * d.size.toNat : Nat) : Int) + o.tail) ((((f + o.act.toNat) * d.size.toNat : Nat) : Int) + d.size) = some (z - o.tail.toNat) := by
        unfold partM
        rw [if_pos ⟨by omega, by omega, by rw [hz1]; omega⟩]
        congr 1
        rw [hz1]
        omega
      have hs : Go.Proofs.YthdpagcklakahaaGreat.sub d.bytes ((Int.toNat ((((f + o.act.toNat) * d.size.toNat : Nat) : Int) + o.tail) : Nat) : Int) (((Int.toNat ((((f + o.act.toNat) * d.size.toNat : Nat) : Int) + o.tail)) + (z - o.tail.toNat) : Nat) : Int) = some ((sect d (f + o.act.toNat)).drop o.tail.toNat) := by
        have e3 : Int.toNat ((((f + o.act.toNat) * d.size.toNat : Nat) : Int) + o.tail) = (f + o.act.toNat) * d.size.toNat + o.tail.toNat := by omega
        rw [e3, sub_nat (by omega) (by rw [hz1]; omega), Nat.add_sub_cancel_left]
        congr 1
        unfold sect
        rw [List.drop_take, List.drop_drop, hz1]
      have hlen : ((sect d (f + o.act.toNat)).drop o.tail.toNat).length ≤ 1000000 := by
        have := sect_len h hfa
        simp only [List.length_drop]
        omega
      rw [hp, bnd_some, hs]
      have ho3 : (bif decide (((encF l).length : Int) ≤ ((z - o.tail.toNat : Nat) : Int)) then (bnd (some ((sect d (f + o.act.toNat)).drop o.tail.toNat)) fun l1 => bnd (m_ref05_Blank l1) fun r5 => some r5) else some false) = some false := by
        by_cases hfit : ((encF l).length : Int) ≤ ((z - o.tail.toNat : Nat) : Int)
        · rw [cnd_t (by simpa using hfit), bnd_some, refBlank_eq hlen, bnd_some, ← hcl2]
          congr 1
          cases hcl : o.clean
          · rfl
          · exact absurd ⟨ha, hcl, by omega⟩ hap
        · rw [cnd_f (by simpa using hfit)]
      rw [ho3, bnd_some, cond_false, cnd_f (by simpa using hg)]
    · rw [cnd_f (by simpa using ha)]
  rw [retOr_inr, hoth, bnd_some, show chkB true = some true from rfl, bnd_some, hfo, hoff, wrap_i64 (x := (((f + othF o) * d.size.toNat : Nat) : Int) + d.size) (by omega) (by rw [hz1]; omega)]
  have hp : partM d.bytes.length (((f + othF o) * d.size.toNat : Nat) : Int) ((((f + othF o) * d.size.toNat : Nat) : Int) + d.size) = some z := by
    unfold partM
    rw [if_pos ⟨by omega, by omega, by rw [hz1]; omega⟩]
    congr 1
    rw [hz1]
    omega
  have hs : Go.Proofs.YthdpagcklakahaaGreat.sub d.bytes ((Int.toNat (((f + othF o) * d.size.toNat : Nat) : Int) : Nat) : Int) (((Int.toNat (((f + othF o) * d.size.toNat : Nat) : Int)) + z : Nat) : Int) = some (sect d (f + othF o)) := by
    have e3 : Int.toNat (((f + othF o) * d.size.toNat : Nat) : Int) = (f + othF o) * d.size.toNat := by omega
    rw [e3, sub_nat (by omega) (by rw [hz1]; omega), Nat.add_sub_cancel_left]
    unfold sect
    rw [hz1]
  have hgw : IntKind.wrap .i64 (o.gen + 1) = o.gen + 1 := wrap_i64 (by omega) (by omega)
  -- it may fail at each stage
  by_cases h1 : r1.2 = 0
  rotate_left
  · have e2 : r2 = r1 := by rw [← hr2]; unfold andD; rw [if_neg h1]
    have e3 : r3 = r1 := by rw [← hr3, e2]; unfold andD; rw [if_neg h1]
    have e4 : r4 = r1 := by rw [← hr4, e3]; unfold andD; rw [if_neg h1]
    rw [e4, if_neg h1]
    refine bnd_eq (a := .inl (endR (refS f o), toF r1.1, 10)) ?_ rfl
    rw [hp, bnd_some, hs, bnd_some, refBlank_eq (by rw [hsl]; omega), bnd_some]
    cases hbl : blankF (sect d (f + othF o))
    · rw [hbl, if_neg (by decide)] at hr1
      rw [Bool.not_false, cond_true, refErase_eq h _ (by omega), bnd_some, hr1, cnd_t (by simpa using h1), refEnd_eq, bnd_some]
    · rw [hbl, if_pos rfl] at hr1
      rw [← hr1] at h1
      exact absurd rfl h1
  refine bnd_eq (a := .inr (toF r1.1)) ?_ ?_
  · rw [hp, bnd_some, hs, bnd_some, refBlank_eq (by rw [hsl]; omega), bnd_some]
    cases hbl : blankF (sect d (f + othF o))
    · rw [hbl, if_neg (by decide)] at hr1
      rw [Bool.not_false, cond_true, refErase_eq h _ (by omega), bnd_some, hr1, cnd_f (by simpa using h1)]
    · rw [hbl, if_pos rfl] at hr1
      rw [← hr1]
      rfl
  have hr2' : programF r1.1 (((f + othF o) * d.size.toNat : Nat) : Int) (gen4 (o.gen + 1)) = r2 := by rw [← hr2]; unfold andD; rw [if_pos h1]
  rw [retOr_inr, hgw, wrap_u64 (x := o.gen + 1) (by omega) (by omega), little_eq (by omega) (by omega), bnd_some, refProg_eq ok1.1 (gen4_rng _), bnd_some, hr2']
  by_cases h2 : r2.2 = 0
  rotate_left
  · have e3 : r3 = r2 := by rw [← hr3]; unfold andD; rw [if_neg h2]
    have e4 : r4 = r2 := by rw [← hr4, e3]; unfold andD; rw [if_neg h2]
    rw [e4, if_neg h2, cnd_t (by simpa using h2), refEnd_eq, bnd_some]
  rw [cnd_f (by simpa using h2)]
  have hr3' : (if N = [] then (r2.1, 0) else programF r2.1 ((((f + othF o) * d.size.toNat : Nat) : Int) + 5) (encF N)) = r3 := by rw [← hr3]; unfold andD; rw [if_pos h2]
  by_cases h3 : r3.2 = 0
  rotate_left
  · have e4 : r4 = r3 := by rw [← hr4]; unfold andD; rw [if_neg h3]
    rw [e4, if_neg h3]
    have hne : N ≠ [] := fun e => by rw [if_pos e] at hr3'; rw [← hr3'] at h3; exact h3 rfl
    have hpos2 : 0 < N.length := List.length_pos_iff.2 hne
    rw [if_neg hne] at hr3'
    refine bnd_eq (a := .inl (endR (refS f o), toF r3.1, 10)) ?_ rfl
    rw [cnd_t (by simp; omega), refBatch_eq (by have := hKok.len; omega) (fun x hx => by have := (hKok.ok x hx).len; omega), bnd_some, wrap_i64 (x := (((f + othF o) * d.size.toNat : Nat) : Int) + 5) (by omega) (by rw [hz1]; omega), refProg_eq ok2.1 (enc_rng hKok.len hKok.ok), bnd_some, hr3', cnd_t (by simpa using h3), refEnd_eq, bnd_some]
  refine bnd_eq (a := .inr (5 + (if N = [] then 0 else ((encF N).length : Int)), toF r3.1)) ?_ ?_
  · by_cases hne : N = []
    · rw [if_pos hne] at hr3'
      rw [if_pos hne, cnd_f (by rw [hne]; rfl), ← hr3']
      rfl
    · have hpos2 : 0 < N.length := List.length_pos_iff.2 hne
      rw [if_neg hne] at hr3'
      rw [if_neg hne, cnd_t (by simp; omega), refBatch_eq (by have := hKok.len; omega) (fun x hx => by have := (hKok.ok x hx).len; omega), bnd_some, wrap_i64 (x := (((f + othF o) * d.size.toNat : Nat) : Int) + 5) (by omega) (by rw [hz1]; omega), refProg_eq ok2.1 (enc_rng hKok.len hKok.ok), bnd_some, hr3', cnd_f (by simpa using h3), wrap_i64 (by omega) (by omega)]
  have hr4' : programF r3.1 ((((f + othF o) * d.size.toNat : Nat) : Int) + 4) [0] = r4 := by rw [← hr4]; unfold andD; rw [if_pos h3]
  rw [retOr_inr, wrap_i64 (x := (((f + othF o) * d.size.toNat : Nat) : Int) + 4) (by omega) (by rw [hz1]; omega)]
  show bnd (m_ref05_Flash_Program (toF r3.1) _ [0]) _ = _
  rw [refProg_eq ok3.1 (rng.cons (by decide) rng.nil), bnd_some, hr4']
  by_cases h4 : r4.2 = 0
  · rw [cnd_f (by simpa using h4), if_pos h4]
    rfl
  · rw [cnd_t (by simpa using h4), if_neg h4, refEnd_eq, bnd_some]
theorem refUpdate_end {r : T_ref06_Store} {f : Nat} (h : RelR r f none) (l : List T_Setting) (d : T_Device) : ∃ r', m_ref06_Store_Update r l (toF d) = some (r', toF d, 10) ∧ RelR r' f none := by
  obtain ⟨h1, h2, h3⟩ := h
  refine ⟨endR r, ?_, rfl, rfl, rfl⟩
  unfold m_ref06_Store_Update m_ref06_Store_Check
  rw [h1, cond_true, bnd_some, cond_true, refEnd_eq]
  rfl
theorem refGet_eq {r : T_ref06_Store} {f : Nat} {o : OS} (h : RelR r f (some o)) (ho : OkK o.K) (k : Int) (g : T_Flash) : m_ref06_Store_Get r k g = some ((look o.K k).getD [], (look o.K k).isSome) := by
  have hr : r = refS f o := h
  subst hr
  have hlen := ho.len
  unfold m_ref06_Store_Get
  rw [show (refS f o).Keys = o.K from rfl]
  have : ∀ (n i : Nat), i + n = o.K.length → loopM (fun (s1 : Int) => bif decide (s1 < (o.K.length : Int)) then (bnd (elt o.K s1) fun x1 => bif (x1.Key == k) then (bnd (m_ref01_Copy x1.Value) fun r1 => some (.done (.inl (r1, true)))) else (some (.next (IntKind.wrap .i64 (s1 + 1))))) else (some (.done (.inr ())))) (i : Int) = some (match look (o.K.drop i) k with | some v => (.inl (v, true) : (List Int × Bool) ⊕ Unit) | none => .inr ()) := by
    intro n
    induction n with
    | zero =>
      intro i hi
      rw [List.drop_eq_nil_of_le (by omega)]
      exact loop_done (by rw [cnd_f (by simp; omega)]; rfl)
    | succ n ih =>
      intro i hi
      have hil : i < o.K.length := by omega
      rw [← List.getElem_cons_drop (h := hil), look_cons]
      by_cases hk : o.K[i].Key = k
      · rw [if_pos hk]
        refine loop_done ?_
        rw [cnd_t (by simp; omega), elt_lt hil, bnd_some, cnd_t (by simpa using hk), copyJ (by have := (ho.ok _ (List.getElem_mem hil)).len; omega), bnd_some]
      · rw [if_neg hk]
        refine loop_next (s' := ((i + 1 : Nat) : Int)) ?_ (ih (i + 1) (by omega))
        rw [cnd_t (by simp; omega), elt_lt hil, bnd_some, cnd_f (by simpa using hk), wrap_succ hil (by omega)]
  have h0 := this o.K.length 0 (by omega)
  rw [List.drop_zero] at h0
  refine bnd_eq h0 ?_
  cases look o.K k <;> rfl
theorem refGet_end {r : T_ref06_Store} {f : Nat} (h : RelR r f none) (k : Int) (g : T_Flash) : m_ref06_Store_Get r k g = some ([], false) := by
  obtain ⟨h1, h2, h3⟩ := h
  unfold m_ref06_Store_Get
  rw [h2]
  exact bnd_eq (loop_done (t := .inr ()) rfl) rfl
theorem refAll_eq {r : T_ref06_Store} {f : Nat} {o : OS} (h : RelR r f (some o)) (ho : OkK o.K) (g : T_Flash) : m_ref06_Store_All r g = some o.K := by
  have hr : r = refS f o := h
  subst hr
  unfold m_ref06_Store_All
  rw [show (refS f o).Keys = o.K from rfl, copyL ⟨by have := ho.len; omega, fun x hx => by have := (ho.ok x hx).len; omega⟩, bnd_some]
theorem refAll_end {r : T_ref06_Store} {f : Nat} (h : RelR r f none) (g : T_Flash) : m_ref06_Store_All r g = some [] := by
  obtain ⟨h1, h2, h3⟩ := h
  unfold m_ref06_Store_All
  rw [h2, copyL ⟨by simp, fun x hx => by cases hx⟩]
  rfl
end Go.Proofs.YthdpagcklakahaaGreat
end
section
namespace Go.Proofs.YthdpagcklakahaaGreat
open Go
set_option linter.unusedSimpArgs false
set_option linter.unusedVariables false
structure Pair (d : T_Device) (s : T_settings_Store) (r : T_ref06_Store) (f : Nat) : Prop where
  ok : OkD d
  size : 1024 ≤ d.size
  first : f + 1 < d.wear.length
  say : (d.down = false ∧ RelO s f (openF d f) ∧ RelR r f (some (openF d f))) ∨ (d.down = true ∧ s = endS ∧ RelR r f none)
theorem Pair.upd {d : T_Device} {s : T_settings_Store} {r : T_ref06_Store} {f : Nat} (h : Pair d s r f) {l : List T_Setting} (hl : okU l) :
    ∃ s' r' d' e, m_settings_Store_Update s l d = some (s', d', e) ∧ m_ref06_Store_Update r l (toF d) = some (r', toF d', e) ∧ Pair d' s' r' f ∧ (e = 10 → d'.down = true) := by
  rcases h.say with ⟨h1, h2, h3⟩ | ⟨h1, h2, h3⟩
  · have hO := openF_okO h.ok h.size h.first
    obtain ⟨s', a1, a2⟩ := update_eq h2 hO h.ok h.size h.first hl.1 hl.2
    have hr : r = refS f (openF d f) := h3
    obtain ⟨r', b1, b2⟩ := refUpdate_eq (okR_open h.ok h.size h.first) h.ok h.size h.first hl.1 hl.2
    have hU := upd_ok h.ok h1 h.size h.first rfl hl.2
    obtain ⟨u, hu⟩ : ∃ u, updF (openF d f) d f l = u := ⟨_, rfl⟩
    rw [hu] at a1 a2 b1 b2 hU
    rw [← hr] at b1
    refine ⟨s', r', u.2.1, u.2.2, a1, b1, ⟨hU.like.ok, by rw [hU.like.size]; exact h.size, by rw [hU.like.wear]; exact h.first, ?_⟩, fun he => ?_⟩
    · rcases hU.cases with ⟨c1, c2, c3, _⟩ | ⟨c1, c2, c3⟩ | ⟨c1, c2, c3, _⟩
      · rw [c3] at a2 b2
        exact .inl ⟨c2, a2, b2⟩
      · rw [c2] at a2 b2
        rw [c3]
        exact .inl ⟨h1, a2, b2⟩
      · rw [c3] at a2 b2
        exact .inr ⟨c2, a2, b2⟩
    · rcases hU.cases with ⟨c1, _⟩ | ⟨c1, _⟩ | ⟨c1, c2, _⟩
      · omega
      · omega
      · exact c2
  · obtain ⟨r', b1, b2⟩ := refUpdate_end h3 l d
    exact ⟨endS, r', d, 10, by rw [h2]; exact update_end l d, b1, ⟨h.ok, h.size, h.first, .inr ⟨h1, rfl, b2⟩⟩, fun _ => h1⟩
theorem refS_gen {r : T_ref06_Store} {f : Nat} {o : OS} (h : RelR r f (some o)) : r.Gen = o.gen := by
  have hr : r = refS f o := h
  rw [hr]
  rfl
theorem Pair.same {d : T_Device} {s : T_settings_Store} {r : T_ref06_Store} {f : Nat} (h : Pair d s r f) (k : Int) : m_law06_same s r k d (toF d) = some true := by
  unfold m_law06_same m_settings_Store_Generation
  rcases h.say with ⟨h1, h2, h3⟩ | ⟨h1, h2, h3⟩
  · have hO := openF_ok h.ok f
    have hv : ((look (openF d f).K k).getD []).length ≤ 1000000 := by
      cases hk : look (openF d f).K k with
      | none => simp
      | some v =>
        unfold look at hk
        obtain ⟨x, hx, hxv⟩ := Option.map_eq_some_iff.1 hk
        have := (hO.ok x (List.mem_of_find?_eq_some hx)).len
        rw [← hxv]
        simp only [Option.getD_some]
        omega
    rw [get_eq h2 hO, bnd_some, refGet_eq h3 hO, bnd_some, all_eq h2 hO, bnd_some, refAll_eq h3 hO, bnd_some, sameL ⟨by have := hO.len; omega, fun x hx => by have := (hO.ok x hx).len; omega⟩, bnd_some, decide_eq_true rfl, cond_true, cnd_t (by simp), sameI hv, bnd_some, decide_eq_true rfl, cond_true, bnd_some, h2.gen, refS_gen h3, bnd_some]
    simp
  · rw [h2, get_end, bnd_some, refGet_end h3, bnd_some, all_end, bnd_some, refAll_end h3, bnd_some, sameL ⟨by simp, fun x hx => by cases hx⟩, bnd_some, decide_eq_true rfl, cond_true, cnd_t (by simp), sameI (by simp), bnd_some, decide_eq_true rfl, cond_true, bnd_some, h3.2.2, bnd_some]
    rfl
theorem Pair.arm {d : T_Device} {s : T_settings_Store} {r : T_ref06_Store} {f : Nat} (h : Pair d s r f) {n t : Int} (hn : n ≤ 9223372036854775807) (ht : 0 ≤ t ∧ t ≤ 255) : Pair (armF d n t) s r f := by
  have hs : (armF d n t).size = d.size := by unfold armF; split <;> rfl
  have hw : (armF d n t).wear = d.wear := by unfold armF; split <;> rfl
  have hd : (armF d n t).down = d.down := by unfold armF; split <;> rfl
  refine ⟨armF_ok h.ok hn ht, by rw [hs]; exact h.size, by rw [hw]; exact h.first, ?_⟩
  rw [hd, openF_arm]
  exact h.say
theorem pair_open {d : T_Device} (h : OkD d) (hd : d.down = false) (hz : 1024 ≤ d.size) {f : Nat} (hf : f + 1 < d.wear.length) : ∃ s r, m_settings_Open d (f : Int) = some (d, some s, 0) ∧ m_ref06_Open (toF d) (f : Int) = some (toF d, some r, 0) ∧ Pair d s r f := by
  obtain ⟨s, h1, h2⟩ := open_eq h hd hz hf
  exact ⟨s, _, h1, refOpen_eq h hd hz hf, h, hz, hf, .inl ⟨hd, h2, rfl⟩⟩
theorem Pair.again {d : T_Device} {s : T_settings_Store} {r : T_ref06_Store} {f : Nat} (h : Pair d s r f) : ∃ s' r', m_settings_Open (restF d) (f : Int) = some (restF d, some s', 0) ∧ m_ref06_Open (toF (restF d)) (f : Int) = some (toF (restF d), some r', 0) ∧ Pair (restF d) s' r' f :=
  pair_open (restF_ok h.ok) rfl h.size h.first
end Go.Proofs.YthdpagcklakahaaGreat
end
section
namespace Go.Proofs.YthdpagcklakahaaGreat
open Go
set_option linter.unusedSimpArgs false
set_option linter.unusedVariables false
def readR (K : List T_Setting) (k : Int) : Int × Bool := match look K k with
  | some [x] => (x, true)
  | _ => (0, false)
def policyF (K : List T_Setting) : Int := if (readR K 40).2 = true ∧ 0 ≤ (readR K 40).1 ∧ (readR K 40).1 ≤ 2 then (readR K 40).1 else 0
def notedF (K : List T_Setting) : Bool := (readR K 41).2 && (readR K 41).1 == 1
theorem look_okC {K : List T_Setting} (h : OkK K) {k : Int} {v : List Int} (hv : look K k = some v) : rng v ∧ v.length ≤ 28 := by
  unfold look at hv
  obtain ⟨x, hx, hxv⟩ := Option.map_eq_some_iff.1 hv
  have := h.ok x (List.mem_of_find?_eq_some hx)
  rw [← hxv]
  exact ⟨this.rng, this.len⟩
theorem read_r {s : T_settings_Store} {f : Nat} {o : OS} (hs : RelO s f o) (ho : OkK o.K) (k : Int) (d : T_Device) : m_restore_read s k d = some (readR o.K k) := by
  unfold m_restore_read readR
  rw [get_eq hs ho, bnd_some]
  cases hk : look o.K k with
  | none => rfl
  | some v =>
    have hv := (look_okC ho hk).1
    match v with
    | [] => rfl
    | [x] =>
      have := hv x (by simp)
      simp only [Option.getD_some, Option.isSome_some, Bool.not_true, cond_false]
      rw [show ((([x] : List Int).length : Int) != 1) = false from rfl, bnd_some, cnd_f rfl, show elt [x] 0 = some x from rfl, bnd_some, wrap_i64 (by omega) (by omega)]
    | x :: y :: r =>
      simp only [Option.getD_some, Option.isSome_some, Bool.not_true, cond_false]
      rw [show (((x :: y :: r).length : Int) != 1) = true from by simp; omega, bnd_some, cnd_t rfl]
theorem known_eq (p : Int) : m_restore_known p = some (decide (0 ≤ p ∧ p ≤ 2)) := by
  unfold m_restore_known
  by_cases h : 0 ≤ p
  · rw [cnd_t (by simpa using h), bnd_some]; simp [h]
  · rw [cnd_f (by simpa using h), bnd_some]; simp [h]
theorem policy_eq {s : T_settings_Store} {f : Nat} {o : OS} (hs : RelO s f o) (ho : OkK o.K) (d : T_Device) : m_restore_Policy s d = some (policyF o.K) := by
  unfold m_restore_Policy policyF
  rw [read_r hs ho, bnd_some]
  cases h : (readR o.K 40).2
  · simp
  · rw [cnd_t rfl, known_eq, bnd_some, bnd_some]
    by_cases hk : 0 ≤ (readR o.K 40).1 ∧ (readR o.K 40).1 ≤ 2
    · rw [decide_eq_true hk, cond_true, if_pos ⟨rfl, hk⟩]
    · rw [decide_eq_false hk, cond_false, if_neg (fun h => hk h.2)]
theorem noted_eq {s : T_settings_Store} {f : Nat} {o : OS} (hs : RelO s f o) (ho : OkK o.K) (d : T_Device) : m_restore_Noted s d = some (notedF o.K) := by
  unfold m_restore_Noted notedF
  rw [read_r hs ho, bnd_some]
  cases h : (readR o.K 41).2 <;> simp
theorem wanted_eq {s : T_settings_Store} {f : Nat} {o : OS} (hs : RelO s f o) (ho : OkK o.K) (d : T_Device) : m_restore_Wanted s d = some (if policyF o.K = 1 then notedF o.K else decide (policyF o.K = 2)) := by
  unfold m_restore_Wanted
  rw [policy_eq hs ho, bnd_some]
  by_cases h1 : policyF o.K = 1
  · rw [cnd_t (by simpa using h1), noted_eq hs ho, if_pos h1]; rfl
  · rw [cnd_f (by simpa using h1), if_neg h1]
    by_cases h2 : policyF o.K = 2
    · rw [cnd_t (by simpa using h2)]; simp [h2]
    · rw [cnd_f (by simpa using h2)]; simp [h2]
def putS (k x : Int) : T_Setting := ⟨k, [x], false⟩
theorem putS_ok {k x : Int} (hk : 0 ≤ k ∧ k ≤ 255) (hx : 0 ≤ x ∧ x ≤ 255) : okP [putS k x] := ⟨fun y hy => by
  rw [List.mem_singleton] at hy; subst hy
  exact ⟨hk, rng.cons hx rng.nil, by simp [putS], fun h => by cases h⟩, List.pairwise_singleton _ _⟩
theorem read_put (K : List T_Setting) (k x q : Int) : readR (allK K [putS k x]) q = if q = k then (x, true) else readR K q := by
  unfold readR
  show (match look (appK K (putS k x)) q with | some [x] => (x, true) | _ => (0, false)) = _
  rw [look_appK]
  by_cases h : q = k
  · have h' : q = (putS k x).Key := h
    rw [if_pos h', if_pos h]; rfl
  · have h' : ¬ q = (putS k x).Key := h
    rw [if_neg h', if_neg h]
def b2i (b : Bool) : Int := if b then 1 else 0
theorem setPol_eq {p : Int} (hp : 0 ≤ p ∧ p ≤ 2) (s : T_settings_Store) (d : T_Device) : m_restore_SetPolicy s p d = m_settings_Store_Update s [putS 40 p] d := by
  unfold m_restore_SetPolicy
  rw [known_eq, bnd_some, decide_eq_true hp, cnd_f (by rfl), put_eq, wrap_u8 (by omega) (by omega)]
  show bnd (m_settings_Store_Update s [putS 40 p] d) _ = _
  cases m_settings_Store_Update s [putS 40 p] d <;> rfl
theorem note_eq {s : T_settings_Store} {f : Nat} {o : OS} (hs : RelO s f o) (ho : OkK o.K) (b : Bool) (d : T_Device) : m_restore_Note s b d = if readR o.K 41 = (b2i b, true) then some (s, d, 0) else m_settings_Store_Update s [putS 41 (b2i b)] d := by
  unfold m_restore_Note
  have h1 : (bif b then (some 1) else (some 0) : Option Int) = some (b2i b) := by cases b <;> rfl
  have h8 : IntKind.wrap .u8 (b2i b) = b2i b := by cases b <;> rfl
  rw [h1, bnd_some, read_r hs ho, bnd_some]
  have h2 : (bif (readR o.K 41).2 then (some ((readR o.K 41).1 == b2i b)) else (some false) : Option Bool) = some (decide (readR o.K 41 = (b2i b, true))) := by
    obtain ⟨x, y⟩ := readR o.K 41
    cases y
    · simp
    · simp only [cond_true, Prod.mk.injEq, and_true]
      by_cases h : x = b2i b <;> simp [h]
  rw [h2, bnd_some]
  by_cases h : readR o.K 41 = (b2i b, true)
  · rw [decide_eq_true h, cond_true, if_pos h]
  · rw [decide_eq_false h, cond_false, if_neg h, h8, put_eq]
    show bnd (m_settings_Store_Update s [putS 41 (b2i b)] d) _ = _
    cases m_settings_Store_Update s [putS 41 (b2i b)] d <;> rfl
theorem policy_of {K : List T_Setting} {p : Int} (h : readR K 40 = (p, true)) (hp : 0 ≤ p ∧ p ≤ 2) : policyF K = p := by
  unfold policyF
  rw [h]
  exact if_pos ⟨rfl, hp⟩
theorem noted_of {K : List T_Setting} {b : Bool} (h : readR K 41 = (b2i b, true)) : notedF K = b := by
  unfold notedF
  rw [h]
  cases b <;> rfl
theorem b2i_r (b : Bool) : 0 ≤ b2i b ∧ b2i b ≤ 255 := by cases b <;> simp [b2i]
structure Kept (d : T_Device) (s : T_settings_Store) (p : Int) (b : Bool) (g : Int) : Prop where
  sto : Sto d s 0
  pol : readR (openF d 0).K 40 = (p, true)
  note : readR (openF d 0).K 41 = (b2i b, true)
  len : (openF d 0).K.length ≤ 2
  gen : (openF d 0).gen ≤ g
theorem kept_new {p : Int} (hp : 0 ≤ p ∧ p ≤ 2) (b : Bool) {s : T_settings_Store} (h : Sto (newD 2 1024) s 0) : ∃ r, m_restore_SetPolicy s p (newD 2 1024) = some r ∧ r.2.2 = 0 ∧ ∃ r', m_restore_Note r.1 b r.2.1 = some r' ∧ r'.2.2 = 0 ∧ Kept r'.2.1 r'.1 p b 2 ∧ r'.2.1.left = 0 := by
  have ho : openF (newD 2 1024) 0 = os0 := newD_open (by omega) (by omega)
  have l1 := allK_len [putS 40 p] (openF (newD 2 1024) 0).K
  rw [ho] at l1
  simp only [os0, List.length_nil, List.length_singleton] at l1
  obtain ⟨r, h1, h2, h3, h4, h5, h6, h7⟩ := h.sure rfl (putS_ok (k := 40) (x := p) (by omega) (by omega)) (by simp) (by rw [ho]; simp only [os0]; omega) (by rw [ho]; simp only [os0]; omega)
  refine ⟨r, by rw [setPol_eq hp]; exact h1, h2, ?_⟩
  rw [ho] at h4 h5
  simp only [os0] at h4 h5
  have hr41 : readR (openF r.2.1 0).K 41 = (0, false) := by
    rw [h4, read_put, if_neg (by omega)]; rfl
  have l2 := allK_len [putS 41 (b2i b)] (openF r.2.1 0).K
  rw [h4] at l2
  simp only [List.length_singleton] at l2
  obtain ⟨r', g1, g2, g3, g4, g5, g6, g7⟩ := h3.sure h7 (putS_ok (k := 41) (x := b2i b) (by omega) (b2i_r b)) (by simp) (by rw [h4]; omega) (by omega)
  refine ⟨r', ?_, g2, ⟨g3, ?_, ?_, ?_, by omega⟩, g7⟩
  · rw [note_eq h3.rel h3.okK, hr41, if_neg (by simp)]
    exact g1
  · rw [g4, read_put, if_neg (by omega), h4, read_put, if_pos rfl]
  · rw [g4, read_put, if_pos rfl]
  · rw [g4, h4]; omega
end Go.Proofs.YthdpagcklakahaaGreat
end
section
namespace Go.Proofs.YthdpagcklakahaaGreat
open Go
set_option linter.unusedSimpArgs false
set_option linter.unusedVariables false
def Says (s : T_settings_Store) (d : T_Device) (K : List T_Setting) : Prop := ∀ k, m_settings_Store_Get s k d = some ((look K k).getD [], (look K k).isSome)
def SaysR (r : T_ref06_Store) (g : T_Flash) (K : List T_Setting) : Prop := ∀ k, m_ref06_Store_Get r k g = some ((look K k).getD [], (look K k).isSome)
theorem Pair.says {d : T_Device} {s : T_settings_Store} {r : T_ref06_Store} {f : Nat} (h : Pair d s r f) : ∃ K, OkK K ∧ Says s d K ∧ SaysR r (toF d) K ∧ m_settings_Store_All s d = some K ∧ m_ref06_Store_All r (toF d) = some K := by
  rcases h.say with ⟨h1, h2, h3⟩ | ⟨h1, h2, h3⟩
  · have hO := openF_ok h.ok f
    exact ⟨_, hO, fun k => get_eq h2 hO k d, fun k => refGet_eq h3 hO k _, all_eq h2 hO d, refAll_eq h3 hO _⟩
  · refine ⟨[], OkK.nil, fun k => ?_, fun k => ?_, ?_, refAll_end h3 _⟩
    · rw [h2, get_end]; rfl
    · rw [refGet_end h3]; rfl
    · rw [h2]; exact all_end d
theorem read_k {s : T_settings_Store} {d : T_Device} {K : List T_Setting} (hs : Says s d K) (ho : OkK K) (k : Int) : m_restore_read s k d = some (readR K k) := by
  unfold m_restore_read readR
  rw [hs, bnd_some]
  cases hk : look K k with
  | none => rfl
  | some v =>
    have hv := (look_okC ho hk).1
    match v with
    | [] => rfl
    | [x] =>
      have := hv x (by simp)
      simp only [Option.getD_some, Option.isSome_some, Bool.not_true, cond_false]
      rw [show ((([x] : List Int).length : Int) != 1) = false from rfl, bnd_some, cnd_f rfl, show elt [x] 0 = some x from rfl, bnd_some, wrap_i64 (by omega) (by omega)]
    | x :: y :: r =>
      simp only [Option.getD_some, Option.isSome_some, Bool.not_true, cond_false]
      rw [show (((x :: y :: r).length : Int) != 1) = true from by simp; omega, bnd_some, cnd_t rfl]
theorem policy_k {s : T_settings_Store} {d : T_Device} {K : List T_Setting} (hs : Says s d K) (ho : OkK K) : m_restore_Policy s d = some (policyF K) := by
  unfold m_restore_Policy policyF
  rw [read_k hs ho, bnd_some]
  cases h : (readR K 40).2
  · simp
  · rw [cnd_t rfl, known_eq, bnd_some, bnd_some]
    by_cases hk : 0 ≤ (readR K 40).1 ∧ (readR K 40).1 ≤ 2
    · rw [decide_eq_true hk, cond_true, if_pos ⟨rfl, hk⟩]
    · rw [decide_eq_false hk, cond_false, if_neg (fun h => hk h.2)]
theorem noted_k {s : T_settings_Store} {d : T_Device} {K : List T_Setting} (hs : Says s d K) (ho : OkK K) : m_restore_Noted s d = some (notedF K) := by
  unfold m_restore_Noted notedF
  rw [read_k hs ho, bnd_some]
  cases h : (readR K 41).2 <;> simp
def wantedF (K : List T_Setting) : Bool := if policyF K = 1 then notedF K else decide (policyF K = 2)
theorem wanted_k {s : T_settings_Store} {d : T_Device} {K : List T_Setting} (hs : Says s d K) (ho : OkK K) : m_restore_Wanted s d = some (wantedF K) := by
  unfold m_restore_Wanted wantedF
  rw [policy_k hs ho, bnd_some]
  by_cases h1 : policyF K = 1
  · rw [cnd_t (by simpa using h1), noted_k hs ho, if_pos h1]; rfl
  · rw [cnd_f (by simpa using h1), if_neg h1]
    by_cases h2 : policyF K = 2
    · rw [cnd_t (by simpa using h2)]; simp [h2]
    · rw [cnd_f (by simpa using h2)]; simp [h2]
theorem rpolicy_k {r : T_ref06_Store} {g : T_Flash} {K : List T_Setting} (hs : SaysR r g K) (ho : OkK K) : m_ref39_Policy r g = some (policyF K) := by
  unfold m_ref39_Policy policyF readR
  rw [hs, bnd_some]
  cases hk : look K 40 with
  | none => rfl
  | some v =>
    have hv := (look_okC ho hk).1
    match v with
    | [] => rfl
    | [x] =>
      have := hv x (by simp)
      simp only [Option.getD_some, Option.isSome_some, Bool.not_true, cond_false]
      rw [show ((([x] : List Int).length : Int) != 1) = false from rfl, cnd_f rfl, show elt [x] 0 = some x from rfl, bnd_some, bnd_some]
      by_cases h2 : x > 2
      · rw [cnd_t (by simpa using h2), if_neg (by omega)]
      · rw [cnd_f (by simpa using h2)]
        show some (IntKind.wrap .i64 x) = _
        rw [wrap_i64 (by omega) (by omega), if_pos (by simp; omega)]
    | x :: y :: r =>
      simp only [Option.getD_some, Option.isSome_some, Bool.not_true, cond_false]
      rw [show (((x :: y :: r).length : Int) != 1) = true from by simp; omega, cnd_t rfl, bnd_some, cnd_t rfl]
      rfl
theorem rnoted_k {r : T_ref06_Store} {g : T_Flash} {K : List T_Setting} (hs : SaysR r g K) : m_ref39_Noted r g = some (notedF K) := by
  unfold m_ref39_Noted notedF readR
  rw [hs, bnd_some]
  cases hk : look K 41 with
  | none => rfl
  | some v =>
    match v with
    | [] => rfl
    | [x] => rfl
    | x :: y :: r =>
      simp only [Option.getD_some, Option.isSome_some, cond_true]
      rw [show (((x :: y :: r).length : Int) == 1) = false from by simp; omega, cond_false, bnd_some]
      rfl
theorem rwanted_k {r : T_ref06_Store} {g : T_Flash} {K : List T_Setting} (hs : SaysR r g K) (ho : OkK K) : m_ref39_Wanted r g = some (wantedF K) := by
  unfold m_ref39_Wanted wantedF
  rw [rpolicy_k hs ho, bnd_some]
  by_cases h2 : policyF K = 2
  · rw [cnd_t (by simpa using h2), bnd_some, if_neg (by omega)]; simp [h2]
  · rw [cnd_f (by simpa using h2)]
    by_cases h1 : policyF K = 1
    · rw [cnd_t (by simpa using h1), rnoted_k hs, bnd_some, bnd_some, if_pos h1]
    · rw [cnd_f (by simpa using h1), bnd_some, if_neg h1, decide_eq_false h2]
theorem Pair.same39 {d : T_Device} {s : T_settings_Store} {r : T_ref06_Store} {f : Nat} (h : Pair d s r f) : m_law39_same s r d (toF d) = some true := by
  obtain ⟨K, ho, h1, h2, h3, h4⟩ := h.says
  unfold m_law39_same
  rw [policy_k h1 ho, bnd_some, rpolicy_k h2 ho, bnd_some, cnd_t (by simp), noted_k h1 ho, bnd_some, rnoted_k h2, bnd_some, cnd_t (by simp), wanted_k h1 ho, bnd_some, rwanted_k h2 ho, bnd_some, cnd_t (by simp), h3, bnd_some, h4, bnd_some, sameL ⟨by have := ho.len; omega, fun x hx => by have := (ho.ok x hx).len; omega⟩, bnd_some, bnd_some, decide_eq_true rfl]
def Both (f : Nat) (A : Option (T_settings_Store × T_Device × Int)) (B : Option (T_ref06_Store × T_Flash × Int)) : Prop := ∃ s' r' d' e, A = some (s', d', e) ∧ B = some (r', toF d', e) ∧ Pair d' s' r' f
theorem okU_put {k x : Int} (hk : 0 ≤ k ∧ k ≤ 255) {v : List Int} (hv : rng v) : okU [⟨k, v, false⟩] := ⟨by simp, fun y hy => by
  rw [List.mem_singleton] at hy
  subst hy
  exact ⟨hk.1, hk.2, hv⟩⟩
theorem Pair.put {d : T_Device} {s : T_settings_Store} {r : T_ref06_Store} {f : Nat} (h : Pair d s r f) {k : Int} (hk : 0 ≤ k ∧ k ≤ 255) {v : List Int} (hv : rng v) : Both f (m_settings_Store_Put s k v d) (m_ref06_Store_Update r [⟨k, v, false⟩] (toF d)) := by
  obtain ⟨s', r', d', e, a1, a2, a3, _⟩ := h.upd (okU_put (x := 0) hk hv)
  exact ⟨s', r', d', e, by rw [put_eq]; exact a1, a2, a3⟩
theorem Pair.setPol {d : T_Device} {s : T_settings_Store} {r : T_ref06_Store} {f : Nat} (h : Pair d s r f) (p : Int) : Both f (m_restore_SetPolicy s p d) (m_ref39_SetPolicy r p (toF d)) := by
  unfold m_restore_SetPolicy m_ref39_SetPolicy
  rw [known_eq, bnd_some]
  by_cases hp : 0 ≤ p ∧ p ≤ 2
  · obtain ⟨s', r', d', e, a1, a2, a3⟩ := h.put (k := 40) (by omega) (v := [IntKind.wrap .u8 p]) (rng.cons (by rw [wrap_u8_mod]; omega) rng.nil)
    rw [decide_eq_true hp, cnd_f (by rfl), a1, bnd_some, cnd_f (by simp; omega), bnd_some, cnd_f (by simp; omega), a2, bnd_some]
    exact ⟨s', r', d', e, rfl, rfl, a3⟩
  · rw [decide_eq_false hp, cnd_t (by rfl)]
    refine ⟨s, r, d, 2, rfl, ?_, h⟩
    by_cases h0 : p < 0
    · rw [cnd_t (by simpa using h0), bnd_some, cond_true]
    · rw [cnd_f (by simpa using h0), bnd_some, cnd_t (by simp; omega)]
theorem Pair.note {d : T_Device} {s : T_settings_Store} {r : T_ref06_Store} {f : Nat} (h : Pair d s r f) (b : Bool) : Both f (m_restore_Note s b d) (m_ref39_Note r b (toF d)) := by
  obtain ⟨K, ho, h1, h2, h3, h4⟩ := h.says
  unfold m_restore_Note m_ref39_Note
  have e1 : (bif b then (some 1) else (some 0) : Option Int) = some (b2i b) := by cases b <;> rfl
  have h8 : IntKind.wrap .u8 (b2i b) = b2i b := by cases b <;> rfl
  rw [e1, bnd_some, read_k h1 ho, bnd_some, bnd_some, h2, bnd_some]
  have e2 : (bif (readR K 41).2 then (some ((readR K 41).1 == b2i b)) else (some false) : Option Bool) = some (decide (readR K 41 = (b2i b, true))) := by
    obtain ⟨x, y⟩ := readR K 41
    cases y
    · simp
    · simp only [cond_true, Prod.mk.injEq, and_true]
      by_cases h : x = b2i b <;> simp [h]
  have e3 : (bif ((look K 41).getD [], (look K 41).isSome).2 then (bif ((((look K 41).getD [], (look K 41).isSome).1.length : Int) == 1) then (bnd (elt ((look K 41).getD [], (look K 41).isSome).1 0) fun x1 => some (x1 == b2i b)) else (some false)) else (some false) : Option Bool) = some (decide (readR K 41 = (b2i b, true))) := by
    unfold readR
    cases look K 41 with
    | none => simp
    | some v =>
      match v with
      | [] => simp
      | [x] =>
        show some (x == b2i b) = _
        by_cases h : x = b2i b <;> simp [h]
      | x :: y :: r =>
        simp only [Option.getD_some, Option.isSome_some, cond_true]
        rw [show (((x :: y :: r).length : Int) == 1) = false from by simp; omega, cond_false]
        simp
  rw [e2, bnd_some, e3, bnd_some]
  by_cases hh : readR K 41 = (b2i b, true)
  · rw [decide_eq_true hh, cond_true, cond_true]
    exact ⟨s, r, d, 0, rfl, rfl, h⟩
  · obtain ⟨s', r', d', e, a1, a2, a3⟩ := h.put (k := 41) (by omega) (v := [b2i b]) (rng.cons (b2i_r b) rng.nil)
    rw [decide_eq_false hh, cond_false, cond_false, h8, a1, bnd_some, a2, bnd_some]
    exact ⟨s', r', d', e, rfl, rfl, a3⟩
theorem openP39 : ∃ s r, m_law39_open = some (some (newD 2 1024, s, toF (newD 2 1024), r), true) ∧ Pair (newD 2 1024) s r 0 ∧ Sto (newD 2 1024) s 0 := by
  have hok := newD_ok (n := 2) (m := 1024) (by omega) (by omega)
  obtain ⟨s, h1, h2⟩ := open_sto (f := 0) hok rfl (by show (1024 : Int) ≤ 1024; omega) (by show 0 + 1 < (List.replicate 2 (0 : Int)).length; simp)
  have hp : Pair (newD 2 1024) s (refS 0 (openF (newD 2 1024) 0)) 0 := ⟨hok, by show (1024 : Int) ≤ 1024; omega, by show 0 + 1 < (List.replicate 2 (0 : Int)).length; simp, .inl ⟨rfl, h2.rel, rfl⟩⟩
  have hR : m_ref05_New 2 1024 = some (some (toF (newD 2 1024)), 0) := refNew_eq (n := 2) (m := 1024) (by omega) (by omega)
  have h3 : m_ref06_Open (toF (newD 2 1024)) 0 = some (toF (newD 2 1024), some (refS 0 (openF (newD 2 1024) 0)), 0) := refOpen_eq (f := 0) hok rfl (by show (1024 : Int) ≤ 1024; omega) (by show 0 + 1 < (List.replicate 2 (0 : Int)).length; simp)
  refine ⟨s, _, ?_, hp, h2⟩
  have h0 : m_flash_New 2 1024 = some (some (newD 2 1024), 0) := new_eq (n := 2) (m := 1024) (by omega) (by omega)
  have h1' : m_settings_Open (newD 2 1024) 0 = some (newD 2 1024, some s, 0) := h1
  generalize newD 2 1024 = D at h0 h1' hR h3 ⊢
  unfold m_law39_open
  rw [h0, bnd_some]
  show bnd (m_ref05_New 2 1024) _ = _
  rw [hR, bnd_some]
  show bnd (m_settings_Open D 0) _ = _
  rw [h1', bnd_some]
  show bnd (m_ref06_Open (toF D) 0) _ = _
  rw [h3, bnd_some]
  rfl
theorem awakeP39 : m_law39_awake = some true := by
  obtain ⟨s, st, h1, _, h2⟩ := openP39
  have ho : openF (newD 2 1024) 0 = os0 := newD_open (by omega) (by omega)
  unfold m_law39_awake
  rw [h1, bnd_some]
  obtain ⟨r, e1, e2, r', e3, e4, hK, _⟩ := kept_new (p := 1) (by omega) true h2
  have hp0 : m_restore_Policy s (newD 2 1024) = some 0 := by rw [policy_eq h2.rel h2.okK, ho]; rfl
  have hw0 : m_restore_Wanted s (newD 2 1024) = some false := by rw [wanted_eq h2.rel h2.okK, ho]; rfl
  show bnd (bnd (m_restore_Policy s (newD 2 1024)) fun r2 => bif (r2 != 0) then (some true) else (bnd (m_restore_Wanted s (newD 2 1024)) fun r3 => some r3)) _ = _
  rw [hp0, bnd_some, cnd_f (by rfl), hw0, bnd_some, bnd_some]
  show bnd (m_restore_SetPolicy s 1 (newD 2 1024)) _ = _
  rw [e1, bnd_some, e3, bnd_some, e2, e4]
  have hp := policy_of hK.pol (by omega)
  have hn := noted_of hK.note
  rw [cnd_t (by rfl), cnd_t (by rfl), wanted_eq hK.sto.rel hK.sto.okK, bnd_some, if_pos hp, hn, cond_true, noted_eq hK.sto.rel hK.sto.okK, bnd_some, hn, bnd_some]
noncomputable def acBlk (s1 : T_Device × T_Flash × T_settings_Store × T_ref06_Store × Int) (x1 : T_Act) : Option (Int × Int × T_ref06_Store × T_settings_Store × T_Flash × T_Device) :=
  ((bif ((x1.Kind.tmod 4) == 0) then (bnd (m_restore_SetPolicy s1.2.2.1 (IntKind.wrap .i64 (x1.N.tmod 4)) s1.1) fun r5 => bnd (m_ref39_SetPolicy s1.2.2.2.1 (IntKind.wrap .i64 (x1.N.tmod 4)) s1.2.1) fun r6 => some (r5.2.2, r6.2.2, r6.1, r5.1, r6.2.1, r5.2.1)) else (bif ((x1.Kind.tmod 4) == 1) then (bnd (m_restore_Note s1.2.2.1 ((x1.N.tmod 2) == 1) s1.1) fun r7 => bnd (m_ref39_Note s1.2.2.2.1 ((x1.N.tmod 2) == 1) s1.2.1) fun r8 => some (r7.2.2, r8.2.2, r8.1, r7.1, r8.2.1, r7.2.1)) else (bif ((x1.Kind.tmod 4) == 2) then (bnd (sub x1.V 0 (min (x1.V.length : Int) 3)) fun l1 => bnd (m_settings_Store_Put s1.2.2.1 (IntKind.wrap .u8 (40 + (x1.N.tmod 2))) l1 s1.1) fun r9 => bnd (m_ref06_Store_Update s1.2.2.2.1 ([(⟨IntKind.wrap .u8 (40 + (x1.N.tmod 2)), l1, false⟩ : T_Setting)]) s1.2.1) fun r10 => some (r9.2.2, r10.2.2, r10.1, r9.1, r10.2.1, r9.2.1)) else (bif ((x1.Kind.tmod 4) == 3) then (bnd (m_flash_Device_Arm s1.1 (IntKind.wrap .i64 ((IntKind.wrap .i64 (x1.N.tmod 40)) + 1)) (IntKind.wrap .u8 (x1.V.length : Int))) fun r11 => bnd (m_ref05_Flash_Arm s1.2.1 (IntKind.wrap .i64 ((IntKind.wrap .i64 (x1.N.tmod 40)) + 1)) (IntKind.wrap .u8 (x1.V.length : Int))) fun r12 => some (0, 0, s1.2.2.2.1, s1.2.2.1, r12, r11)) else (some (0, 0, s1.2.2.2.1, s1.2.2.1, s1.2.1, s1.1))))) : Option (Int × Int × T_ref06_Store × T_settings_Store × T_Flash × T_Device)))
noncomputable def acStep (l_p0 : List T_Act) : T_Device × T_Flash × T_settings_Store × T_ref06_Store × Int → Option (Step (T_Device × T_Flash × T_settings_Store × T_ref06_Store × Int) (Bool ⊕ (T_Device × T_Flash))) :=
  (fun (s1 : T_Device × T_Flash × T_settings_Store × T_ref06_Store × Int) => bif decide (s1.2.2.2.2 < (l_p0.length : Int)) then (bnd (elt l_p0 s1.2.2.2.2) fun x1 => bnd ((bif ((x1.Kind.tmod 4) == 0) then (bnd (m_restore_SetPolicy s1.2.2.1 (IntKind.wrap .i64 (x1.N.tmod 4)) s1.1) fun r5 => bnd (m_ref39_SetPolicy s1.2.2.2.1 (IntKind.wrap .i64 (x1.N.tmod 4)) s1.2.1) fun r6 => some (r5.2.2, r6.2.2, r6.1, r5.1, r6.2.1, r5.2.1)) else (bif ((x1.Kind.tmod 4) == 1) then (bnd (m_restore_Note s1.2.2.1 ((x1.N.tmod 2) == 1) s1.1) fun r7 => bnd (m_ref39_Note s1.2.2.2.1 ((x1.N.tmod 2) == 1) s1.2.1) fun r8 => some (r7.2.2, r8.2.2, r8.1, r7.1, r8.2.1, r7.2.1)) else (bif ((x1.Kind.tmod 4) == 2) then (bnd (sub x1.V 0 (min (x1.V.length : Int) 3)) fun l1 => bnd (m_settings_Store_Put s1.2.2.1 (IntKind.wrap .u8 (40 + (x1.N.tmod 2))) l1 s1.1) fun r9 => bnd (m_ref06_Store_Update s1.2.2.2.1 ([(⟨IntKind.wrap .u8 (40 + (x1.N.tmod 2)), l1, false⟩ : T_Setting)]) s1.2.1) fun r10 => some (r9.2.2, r10.2.2, r10.1, r9.1, r10.2.1, r9.2.1)) else (bif ((x1.Kind.tmod 4) == 3) then (bnd (m_flash_Device_Arm s1.1 (IntKind.wrap .i64 ((IntKind.wrap .i64 (x1.N.tmod 40)) + 1)) (IntKind.wrap .u8 (x1.V.length : Int))) fun r11 => bnd (m_ref05_Flash_Arm s1.2.1 (IntKind.wrap .i64 ((IntKind.wrap .i64 (x1.N.tmod 40)) + 1)) (IntKind.wrap .u8 (x1.V.length : Int))) fun r12 => some (0, 0, s1.2.2.2.1, s1.2.2.1, r12, r11)) else (some (0, 0, s1.2.2.2.1, s1.2.2.1, s1.2.1, s1.1))))) : Option (Int × Int × T_ref06_Store × T_settings_Store × T_Flash × T_Device))) fun o3 => bnd ((bif (o3.1 != o3.2.1) then (some true) else (bnd (m_law39_same o3.2.2.2.1 o3.2.2.1 o3.2.2.2.2.2 o3.2.2.2.2.1) fun r13 => some (!r13)) : Option Bool)) fun o4 => bif o4 then (some (.done (.inl false))) else (bif (o3.1 != 10) then (some (.next (o3.2.2.2.2.2, o3.2.2.2.2.1, o3.2.2.2.1, o3.2.2.1, IntKind.wrap .i64 (s1.2.2.2.2 + 1)))) else (bnd (m_flash_Device_Restore o3.2.2.2.2.2) fun r14 => bnd (m_ref05_Flash_Restore o3.2.2.2.2.1) fun r15 => bnd (m_settings_Open r14 0) fun r16 => optM r16.2.1 (bnd (m_ref06_Open r15 0) fun r17 => optM r17.2.1 (bnd ((bif (r16.2.2 != 0) then (some ()) else (bif (r17.2.2 != 0) then (some ()) else (none)) : Option Unit)) fun o5 => some (.done (.inl false))) (fun q3 => bnd ((bif (r16.2.2 != 0) then (some ()) else (bif (r17.2.2 != 0) then (some ()) else (none)) : Option Unit)) fun o6 => some (.done (.inl false)))) (fun q2 => bnd (m_ref06_Open r15 0) fun r18 => optM r18.2.1 (bnd ((bif (r16.2.2 != 0) then (some ()) else (bif (r18.2.2 != 0) then (some ()) else (none)) : Option Unit)) fun o7 => some (.done (.inl false))) (fun q4 => bnd ((bif (r16.2.2 != 0) then (some true) else (bif (r18.2.2 != 0) then (some true) else (bnd (m_law39_same q2 q4 r16.1 r18.1) fun r19 => some (!r19))) : Option Bool)) fun o8 => bif o8 then (some (.done (.inl false))) else (some (.next (r16.1, r18.1, q2, q4, IntKind.wrap .i64 (s1.2.2.2.2 + 1))))))))) else (some (.done (.inr (s1.1, s1.2.1)))))
theorem ac_blk {d : T_Device} {s : T_settings_Store} {r : T_ref06_Store} (h : Pair d s r 0) (i : Int) {x : T_Act} (hx : ok_T_Act x) :
    ∃ s' r' e d', acBlk (d, toF d, s, r, i) x = some (e, e, r', s', toF d', d') ∧ Pair d' s' r' 0 := by
  obtain ⟨hk, hn, hv⟩ := hx
  have hk' : 0 ≤ x.Kind ∧ x.Kind ≤ 255 := hk
  have hn' : 0 ≤ x.N ∧ x.N ≤ 255 := hn
  have hrv : rng x.V := fun y hy => hv.1 y hy
  unfold acBlk
  dsimp only
  by_cases h0 : x.Kind.tmod 4 = 0
  · obtain ⟨s', r', d', e, a1, a2, a3⟩ := h.setPol (IntKind.wrap .i64 (x.N.tmod 4))
    rw [cnd_t (by simpa using h0), a1, bnd_some, a2, bnd_some]
    exact ⟨s', r', e, d', rfl, a3⟩
  rw [cnd_f (by simpa using h0)]
  by_cases h1 : x.Kind.tmod 4 = 1
  · obtain ⟨s', r', d', e, a1, a2, a3⟩ := h.note ((x.N.tmod 2) == 1)
    rw [cnd_t (by simpa using h1), a1, bnd_some, a2, bnd_some]
    exact ⟨s', r', e, d', rfl, a3⟩
  rw [cnd_f (by simpa using h1)]
  by_cases h2 : x.Kind.tmod 4 = 2
  · have hs : Go.Proofs.YthdpagcklakahaaGreat.sub x.V 0 (min (x.V.length : Int) 3) = some (x.V.take 3) := by
      have := sub_nat (l := x.V) (a := 0) (b := min x.V.length 3) (by omega) (by omega)
      rw [show (min (x.V.length : Int) 3) = ((min x.V.length 3 : Nat) : Int) by omega, show (0 : Int) = ((0 : Nat) : Int) from rfl, this, List.drop_zero, Nat.sub_zero]
      congr 1
      rw [Nat.min_comm, ← List.take_take, List.take_length]
    obtain ⟨s', r', d', e, a1, a2, a3⟩ := h.put (k := IntKind.wrap .u8 (40 + (x.N.tmod 2))) (by rw [wrap_u8_mod]; omega) (v := x.V.take 3) (hrv.take 3)
    rw [cnd_t (by simpa using h2), hs, bnd_some, a1, bnd_some, a2, bnd_some]
    exact ⟨s', r', e, d', rfl, a3⟩
  rw [cnd_f (by simpa using h2)]
  by_cases h3 : x.Kind.tmod 4 = 3
  · have ht : 0 ≤ IntKind.wrap .u8 (x.V.length : Int) ∧ IntKind.wrap .u8 (x.V.length : Int) ≤ 255 := by rw [wrap_u8_mod]; omega
    have hm : x.N.tmod 40 = x.N % 40 := Int.tmod_eq_emod_of_nonneg hn'.1
    have hw : IntKind.wrap .i64 (IntKind.wrap .i64 (x.N.tmod 40) + 1) ≤ 9223372036854775807 := by
      rw [hm, wrap_i64 (x := x.N % 40) (by omega) (by omega), wrap_i64 (by omega) (by omega)]
      omega
    rw [cnd_t (by simpa using h3), arm_eq, bnd_some, refArm_eq, bnd_some]
    exact ⟨s, r, 0, _, rfl, h.arm hw ht⟩
  rw [cnd_f (by simpa using h3)]
  exact ⟨s, r, 0, d, rfl, h⟩
theorem ac_step {l : List T_Act} (hl : l.length ≤ 30) (hx : ∀ x ∈ l, ok_T_Act x) {d : T_Device} {s : T_settings_Store} {r : T_ref06_Store} (h : Pair d s r 0) {i : Nat} (hi : i < l.length) :
    ∃ s' r' d', acStep l (d, toF d, s, r, (i : Int)) = some (.next (d', toF d', s', r', ((i + 1 : Nat) : Int))) ∧ Pair d' s' r' 0 := by
  obtain ⟨s', r', e, d', a1, a2⟩ := ac_blk h (i : Int) (hx l[i] (List.getElem_mem hi))
  unfold acBlk at a1
  unfold acStep
  dsimp only at a1 ⊢
  rw [cnd_t (by simp; omega), elt_lt hi, bnd_some, a1, bnd_some]
  dsimp only
  rw [cnd_f (by simp), a2.same39, bnd_some, bnd_some, cnd_f (by rfl)]
  by_cases he : e = 10
  · rw [cnd_f (by simp [he]), rest_eq, bnd_some, refRest_eq, bnd_some]
    obtain ⟨s2, r2, b1, b2, b3⟩ := a2.again
    refine ⟨s2, r2, restF d', ?_, b3⟩
    rw [show m_settings_Open (restF d') 0 = _ from b1, bnd_some]
    show bnd (m_ref06_Open (toF (restF d')) 0) _ = _
    rw [show m_ref06_Open (toF (restF d')) 0 = _ from b2, bnd_some]
    show bnd (bif ((0 : Int) != 0) then (some true) else (bif ((0 : Int) != 0) then (some true) else (bnd (m_law39_same s2 r2 (restF d') (toF (restF d'))) fun r19 => some (!r19)))) _ = _
    rw [cnd_f (by rfl), cnd_f (by rfl), b3.same39, bnd_some, bnd_some, cnd_f (by rfl), wrap_succ hi (by omega)]
  · rw [cnd_t (by simpa using he), wrap_succ hi (by omega)]
    exact ⟨s', r', d', rfl, a2⟩
theorem ac_loop {l : List T_Act} (hl : l.length ≤ 30) (hx : ∀ x ∈ l, ok_T_Act x) : ∀ (n i : Nat), i + n = l.length → ∀ {d : T_Device} {s : T_settings_Store} {r : T_ref06_Store}, Pair d s r 0 →
    ∃ d', loopM (acStep l) (d, toF d, s, r, (i : Int)) = some (.inr (d', toF d'))
  | 0, i, h, d, s, r, hp => by
    refine ⟨d, loop_done ?_⟩
    unfold acStep
    dsimp only
    rw [cnd_f (by simp; omega)]
  | n + 1, i, h, d, s, r, hp => by
    obtain ⟨s', r', d', a1, a2⟩ := ac_step hl hx hp (i := i) (by omega)
    obtain ⟨d2, h2⟩ := ac_loop hl hx n (i + 1) (by omega) a2
    exact ⟨d2, loop_next a1 h2⟩
theorem answers39 (l : List T_Act) (policy : Int) (hl : okL ok_T_Act l) (_ : inK .i64 policy) : m_law39_RestoreAnswers l policy = some true := by
  obtain ⟨s, r, e1, hp, _⟩ := openP39
  unfold m_law39_RestoreAnswers
  rw [awakeP39, bnd_some, cnd_f (by rfl)]
  by_cases h30 : l.length > 30
  · rw [cnd_t (by simp; omega)]
  rw [cnd_f (by simp; omega), e1, bnd_some]
  obtain ⟨s', r', d', e, a1, a2, a3⟩ := hp.setPol policy
  obtain ⟨d2, h2⟩ := ac_loop (by omega) hl.1 l.length 0 (by omega) a3
  have h2' : loopM (acStep l) (d', toF d', s', r', 0) = some (.inr (d2, toF d2)) := h2
  generalize newD 2 1024 = D at a1 a2
  show bnd (m_restore_SetPolicy s policy D) _ = _
  rw [a1, bnd_some]
  show bnd (m_ref39_SetPolicy r policy (toF D)) _ = _
  rw [a2, bnd_some]
  dsimp only
  rw [cnd_f (by simp)]
  show bnd (loopM (acStep l) (d', toF d', s', r', 0)) _ = _
  rw [h2', bnd_some]
  rfl
end Go.Proofs.YthdpagcklakahaaGreat
end
