/-
  Texts of this seat, put together: rules, walks, plain laws.
  Conditions: none.
-/
import Derived.Test.YthdpagcklakahaaRCa4
section
namespace Go.Proofs.Ythdpagcklakahaa
open Go
set_option linter.unusedSimpArgs false
set_option linter.unusedVariables false
def okP (l : List T_Setting) : Prop := (∀ x ∈ l, (0 ≤ x.Key ∧ x.Key ≤ 255) ∧ rng x.Value ∧ x.Value.length ≤ 28 ∧ (x.Delete = true → x.Value = [])) ∧ l.Pairwise fun a b => a.Key ≠ b.Key
theorem chkG_zero : ∀ {l : List T_Setting} {seen : List Int}, okP l → (∀ x ∈ l, x.Key ∉ seen) → chkG seen l = 0
  | [], _, _, _ => rfl
  | x :: r, seen, h, hs => by
    have hx := h.1 x (by simp)
    have hp := List.pairwise_cons.1 h.2
    unfold chkG
    rw [if_neg (fun hb => by
      rcases hb with hb | ⟨hb, hb2⟩
      · omega
      · rw [hx.2.2.2 hb] at hb2; simp at hb2), if_neg (hs x (by simp))]
    refine chkG_zero ⟨fun y hy => h.1 y (by simp [hy]), hp.2⟩ fun y hy hm => ?_
    rcases List.mem_cons.1 hm with hm | hm
    · exact hp.1 y hy hm.symm
    · exact hs y (by simp [hy]) hm
theorem chkF_zero {l : List T_Setting} (h : okP l) (hl : l.length ≤ 32) : chkF l = 0 := by
  unfold chkF
  rw [if_neg (by omega)]
  exact chkG_zero h fun x _ h => by cases h
theorem okP.okU {l : List T_Setting} (h : okP l) (hl : l.length ≤ 1000000) : okU l := ⟨hl, fun x hx => ⟨(h.1 x hx).1.1, (h.1 x hx).1.2, (h.1 x hx).2.1⟩⟩
theorem Sto.arm {d : T_Device} {s : T_settings_Store} {f : Nat} (h : Sto d s f) {n t : Int} (hn : n ≤ 9223372036854775807) (ht : 0 ≤ t ∧ t ≤ 255) : Sto (armF d n t) s f := by
  have e : armF d n t = ⟨d.size, d.bytes, d.wear, d.steps, max n 0, t, d.down⟩ := by unfold armF; rw [if_neg (by simp [h.down])]
  refine ⟨armF_ok h.ok hn ht, ?_, ?_, ?_, ?_⟩
  · rw [e]; exact h.size
  · rw [e]; exact h.first
  · rw [e]; exact h.down
  · rw [openF_arm]; exact h.rel
structure Cut (d : T_Device) (f : Nat) (l : List T_Setting) (r : T_settings_Store × T_Device × Int) (t : T_settings_Store) : Prop where
  err : r.2.2 = 0 ∧ r.2.1.down = false ∧ Sto r.2.1 r.1 f ∨ r.2.2 = 10 ∧ r.2.1.down = true ∧ r.1 = endS
  open_ : m_settings_Open (restF r.2.1) (f : Int) = some (restF r.2.1, some t, 0)
  sto : Sto (restF r.2.1) t f
  list : (openF (restF r.2.1) f).K = allK (openF d f).K l ∨ r.2.2 = 10 ∧ (openF (restF r.2.1) f).K = (openF d f).K
  gen : (openF (restF r.2.1) f).gen ≤ (openF d f).gen + 1
  size : r.2.1.size = d.size
  wear : r.2.1.wear.length = d.wear.length
  val : r.2 = (updF (openF d f) d f l).2
theorem Sto.cut {d : T_Device} {s : T_settings_Store} {f : Nat} (h : Sto d s f) {l : List T_Setting} (hl : okP l) (h32 : l.length ≤ 32) (hK : (allK (openF d f).K l).length ≤ 32) (hg : (openF d f).gen < 2147483648) : ∃ r, m_settings_Store_Update s l d = some r ∧ ∃ t, Cut d f l r t := by
  obtain ⟨r, h1, h2⟩ := h.upd (hl.okU (by omega))
  refine ⟨r, h1, ?_⟩
  have ok := h2.like.ok
  obtain ⟨t, h3, h4⟩ := open_sto (restF_ok ok) rfl (by show 1024 ≤ r.2.1.size; rw [h2.like.size]; exact h.size) (f := f) (by show f + 1 < r.2.1.wear.length; rw [h2.like.wear]; exact h.first)
  have hd := h2.done (chkF_zero hl h32) hK hg
  refine ⟨t, ?_⟩
  rcases h2.cases with ⟨a1, a2, a3, a4, a5⟩ | ⟨a1, _⟩ | ⟨a1, a2, a3, a4, a5, a6⟩
  · exact ⟨.inl ⟨a1, a2.down, a2⟩, h3, h4, .inl (by rw [openF_rest]; exact a4), by rw [openF_rest]; exact a5, h2.like.size, h2.like.wear, h2.val⟩
  · omega
  · refine ⟨.inr ⟨a1, a2, a3⟩, h3, h4, ?_, by rw [openF_rest]; exact a6, h2.like.size, h2.like.wear, h2.val⟩
    rw [openF_rest]
    rcases a5 with a5 | a5
    · exact .inr ⟨a1, a5⟩
    · exact .inl a5
theorem Cut.calm {d : T_Device} {f : Nat} {l : List T_Setting} {r : T_settings_Store × T_Device × Int} {t : T_settings_Store} (h : Cut d f l r t) : (restF r.2.1).left = 0 := rfl
theorem Sto.sure {d : T_Device} {s : T_settings_Store} {f : Nat} (h : Sto d s f) (h0 : d.left = 0) {l : List T_Setting} (hl : okP l) (h32 : l.length ≤ 32) (hK : (allK (openF d f).K l).length ≤ 32) (hg : (openF d f).gen < 2147483648) : ∃ r, m_settings_Store_Update s l d = some r ∧ r.2.2 = 0 ∧ Sto r.2.1 r.1 f ∧ (openF r.2.1 f).K = allK (openF d f).K l ∧ (openF r.2.1 f).gen ≤ (openF d f).gen + 1 ∧ Like d r.2.1 ∧ r.2.1.left = 0 := by
  obtain ⟨r, h1, h2⟩ := h.upd (hl.okU (by omega))
  have hd := h2.done (chkF_zero hl h32) hK hg
  have hc := h2.calm h0
  rcases h2.cases with ⟨a1, a2, a3, a4, a5⟩ | ⟨a1, _⟩ | ⟨a1, _⟩
  · exact ⟨r, h1, a1, a2, a4, a5, h2.like, hc.2⟩
  · omega
  · exact absurd a1 hc.1
end Go.Proofs.Ythdpagcklakahaa
end
section
namespace Go.Proofs.Ythdpagcklakahaa
open Go
set_option linter.unusedSimpArgs false
set_option linter.unusedVariables false
theorem okU.nil : okU [] := ⟨by simp, fun x h => by cases h⟩
theorem Sto.none {d : T_Device} {s : T_settings_Store} {f : Nat} (h : Sto d s f) : ∃ s', m_settings_Store_Update s [] d = some (s', d, 0) ∧ Sto d s' f := by
  obtain ⟨s', h1, h2⟩ := update_eq (l := []) h.rel (openF_okO h.ok h.size h.first) h.ok h.size h.first okU.nil.1 okU.nil.2
  have e : updF (openF d f) d f [] = (some (openF d f), d, 0) := by
    unfold updF
    rw [if_neg (by simp [h.down]), if_neg (by decide), if_pos rfl]
  rw [e] at h1 h2
  exact ⟨s', h1, h.ok, h.size, h.first, h.down, h2⟩
end Go.Proofs.Ythdpagcklakahaa
end
section
namespace Go.Proofs.Ythdpagcklakahaa
open Go
set_option linter.unusedSimpArgs false
set_option linter.unusedVariables false
def refF : T_Flash := ⟨1024, List.replicate 2048 255, [0, 0], 0, 0, 0, false⟩
theorem refNew_eq : m_ref05_New 2 1024 = some (some refF, 0) := by
  unfold m_ref05_New
  rw [cnd_f (by decide), cnd_f (by decide), cnd_f (by decide), show decide ((1024 : Int) > 1024) = false from rfl, bnd_some, cnd_f rfl]
  rw [show mkS 8 (0 : Int) 2 2 = some [0, 0] from rfl, bnd_some, show IntKind.wrap .i64 (2 * 1024) = ((2048 : Nat) : Int) from rfl]
  refine bnd_loop (fun i => ((⟨1024, List.replicate i 255, [0, 0], 0, 0, 0, false⟩ : T_Flash), (i : Int))) 2048 refF rfl (fun i hi => ?_) ?_ rfl
  · simp only
    rw [cnd_t (by simp [-List.reduceReplicate]; omega), app_eq (by simp [-List.reduceReplicate]; omega) (by simp [-List.reduceReplicate]; omega), bnd_some, wrapS (by omega), List.replicate_succ']
  · simp only
    rw [cnd_f (by simp [-List.reduceReplicate])]
    rfl
theorem refGen_eq : m_ref06_generation (List.replicate 1024 255) = some 0 := by
  unfold m_ref06_generation
  have e1 : Go.Proofs.Ythdpagcklakahaa.sub (List.replicate 1024 (255 : Int)) 0 4 = some [255, 255, 255, 255] := by
    have := sub_nat (l := List.replicate 1024 (255 : Int)) (a := 0) (b := 4) (by omega) (by simp [-List.reduceReplicate])
    rw [show (0 : Int) = ((0 : Nat) : Int) from rfl, show (4 : Int) = ((4 : Nat) : Int) from rfl, this, List.drop_zero, List.take_replicate]
    rfl
  have e2 : m_ref01_Number [255, 255, 255, 255] = some 4294967295 := by
    unfold m_ref01_Number
    exact bnd_eq (loop_next (s' := (255, 2)) rfl (loop_next (s' := (65535, 1)) rfl (loop_next (s' := (16777215, 0)) rfl (loop_next (s' := (4294967295, -1)) rfl (loop_done (t := 4294967295) rfl))))) rfl
  have e3 : elt (List.replicate 1024 (255 : Int)) 4 = some 255 := by
    unfold elt
    rw [if_pos (by decide)]
    simp [-List.reduceReplicate]
  rw [e1, bnd_some, e2, bnd_some, e3, bnd_some]
  rfl
theorem refOpen_eq : ∃ st, m_ref06_Open refF 0 = some (refF, some st, 0) := by
  have e1 : Go.Proofs.Ythdpagcklakahaa.sub refF.Data ((0 : Nat) : Int) ((0 + 1024 : Nat) : Int) = some (List.replicate 1024 255) := by
    rw [sub_nat (by omega) (by simp [refF, -List.reduceReplicate])]
    simp [refF, -List.reduceReplicate]
  have e2 : Go.Proofs.Ythdpagcklakahaa.sub refF.Data ((1024 : Nat) : Int) ((1024 + 1024 : Nat) : Int) = some (List.replicate 1024 255) := by
    rw [sub_nat (by omega) (by simp [refF, -List.reduceReplicate])]
    simp [refF, -List.reduceReplicate]
  have hl : refF.Data.length = 2048 := by simp [refF, -List.reduceReplicate]
  unfold m_ref06_Open
  rw [show (bif decide ((0 : Int) < 0) then (some true) else (some (decide ((0 : Int) ≥ (IntKind.wrap .i64 ((refF.Wear.length : Int) - 1))))) : Option Bool) = some false from rfl, bnd_some, cnd_f rfl, show decide (refF.Size < 1024) = false from rfl, cnd_f rfl, show refF.Down = false from rfl, cnd_f rfl, hl]
  rw [show partM 2048 (IntKind.wrap .i64 ((IntKind.wrap .i64 (0 + 0)) * refF.Size)) (IntKind.wrap .i64 ((IntKind.wrap .i64 ((IntKind.wrap .i64 (0 + 0)) + 1)) * refF.Size)) = some 1024 from rfl, bnd_some]
  rw [show Int.toNat (IntKind.wrap .i64 ((IntKind.wrap .i64 (0 + 0)) * refF.Size)) = 0 from rfl, e1, bnd_some, refGen_eq, bnd_some, show decide ((0 : Int) > 0) = false from rfl, cond_false, bnd_some]
  rw [show partM 2048 (IntKind.wrap .i64 ((IntKind.wrap .i64 (0 + 1)) * refF.Size)) (IntKind.wrap .i64 ((IntKind.wrap .i64 ((IntKind.wrap .i64 (0 + 1)) + 1)) * refF.Size)) = some 1024 from rfl, bnd_some]
  rw [show Int.toNat (IntKind.wrap .i64 ((IntKind.wrap .i64 (0 + 1)) * refF.Size)) = 1024 from rfl, e2, bnd_some, refGen_eq, bnd_some]
  exact ⟨_, rfl⟩
def readR (K : List T_Setting) (k : Int) : Int × Bool := match look K k with
  | some [x] => (x, true)
  | _ => (0, false)
def policyF (K : List T_Setting) : Int := if (readR K 40).2 = true ∧ 0 ≤ (readR K 40).1 ∧ (readR K 40).1 ≤ 2 then (readR K 40).1 else 0
def notedF (K : List T_Setting) : Bool := (readR K 41).2 && (readR K 41).1 == 1
theorem look_okC {K : List T_Setting} (h : OkK K) {k : Int} {v : List Int} (hv : look K k = some v) : rng v ∧ v.length ≤ 28 := by
  unfold look at hv
  obtain ⟨x, hx, hxv⟩ := Option.map_eq_some_iff.1 hv
  have := h.ok x (List.mem_of_find?_eq_some hx)
  rw [← hxv]
  exact ⟨this.rng, this.len⟩
theorem read_r {s : T_settings_Store} {f : Nat} {o : OS} (hs : RelO s f o) (ho : OkK o.K) (k : Int) (d : T_Device) : m_restore_read s k d = some (readR o.K k) := by
  unfold m_restore_read readR
  rw [get_eq hs ho, bnd_some]
  cases hk : look o.K k with
  | none => rfl
  | some v =>
    have hv := (look_okC ho hk).1
    match v with
    | [] => rfl
    | [x] =>
      have := hv x (by simp)
      simp only [Option.getD_some, Option.isSome_some, Bool.not_true, cond_false]
      rw [show ((([x] : List Int).length : Int) != 1) = false from rfl, bnd_some, cnd_f rfl, show elt [x] 0 = some x from rfl, bnd_some, wrap_i64 (by omega) (by omega)]
    | x :: y :: r =>
      simp only [Option.getD_some, Option.isSome_some, Bool.not_true, cond_false]
      rw [show (((x :: y :: r).length : Int) != 1) = true from by simp; omega, bnd_some, cnd_t rfl]
theorem known_eq (p : Int) : m_restore_known p = some (decide (0 ≤ p ∧ p ≤ 2)) := by
  unfold m_restore_known
  by_cases h : 0 ≤ p
  · rw [cnd_t (by simpa using h), bnd_some]; simp [h]
  · rw [cnd_f (by simpa using h), bnd_some]; simp [h]
theorem policy_eq {s : T_settings_Store} {f : Nat} {o : OS} (hs : RelO s f o) (ho : OkK o.K) (d : T_Device) : m_restore_Policy s d = some (policyF o.K) := by
  unfold m_restore_Policy policyF
  rw [read_r hs ho, bnd_some]
  cases h : (readR o.K 40).2
  · simp
  · rw [cnd_t rfl, known_eq, bnd_some, bnd_some]
    by_cases hk : 0 ≤ (readR o.K 40).1 ∧ (readR o.K 40).1 ≤ 2
    · rw [decide_eq_true hk, cond_true, if_pos ⟨rfl, hk⟩]
    · rw [decide_eq_false hk, cond_false, if_neg (fun h => hk h.2)]
theorem noted_eq {s : T_settings_Store} {f : Nat} {o : OS} (hs : RelO s f o) (ho : OkK o.K) (d : T_Device) : m_restore_Noted s d = some (notedF o.K) := by
  unfold m_restore_Noted notedF
  rw [read_r hs ho, bnd_some]
  cases h : (readR o.K 41).2 <;> simp
theorem wanted_eq {s : T_settings_Store} {f : Nat} {o : OS} (hs : RelO s f o) (ho : OkK o.K) (d : T_Device) : m_restore_Wanted s d = some (if policyF o.K = 1 then notedF o.K else decide (policyF o.K = 2)) := by
  unfold m_restore_Wanted
  rw [policy_eq hs ho, bnd_some]
  by_cases h1 : policyF o.K = 1
  · rw [cnd_t (by simpa using h1), noted_eq hs ho, if_pos h1]; rfl
  · rw [cnd_f (by simpa using h1), if_neg h1]
    by_cases h2 : policyF o.K = 2
    · rw [cnd_t (by simpa using h2)]; simp [h2]
    · rw [cnd_f (by simpa using h2)]; simp [h2]
def putS (k x : Int) : T_Setting := ⟨k, [x], false⟩
theorem putS_ok {k x : Int} (hk : 0 ≤ k ∧ k ≤ 255) (hx : 0 ≤ x ∧ x ≤ 255) : okP [putS k x] := ⟨fun y hy => by
  rw [List.mem_singleton] at hy; subst hy
  exact ⟨hk, rng.cons hx rng.nil, by simp [putS], fun h => by cases h⟩, List.pairwise_singleton _ _⟩
theorem read_put (K : List T_Setting) (k x q : Int) : readR (allK K [putS k x]) q = if q = k then (x, true) else readR K q := by
  unfold readR
  show (match look (appK K (putS k x)) q with | some [x] => (x, true) | _ => (0, false)) = _
  rw [look_appK]
  by_cases h : q = k
  · have h' : q = (putS k x).Key := h
    rw [if_pos h', if_pos h]; rfl
  · have h' : ¬ q = (putS k x).Key := h
    rw [if_neg h', if_neg h]
def b2i (b : Bool) : Int := if b then 1 else 0
theorem setPol_eq {p : Int} (hp : 0 ≤ p ∧ p ≤ 2) (s : T_settings_Store) (d : T_Device) : m_restore_SetPolicy s p d = m_settings_Store_Update s [putS 40 p] d := by
  unfold m_restore_SetPolicy
  rw [known_eq, bnd_some, decide_eq_true hp, cnd_f (by rfl), put_eq, wrap_u8 (by omega) (by omega)]
  show bnd (m_settings_Store_Update s [putS 40 p] d) _ = _
  cases m_settings_Store_Update s [putS 40 p] d <;> rfl
theorem note_eq {s : T_settings_Store} {f : Nat} {o : OS} (hs : RelO s f o) (ho : OkK o.K) (b : Bool) (d : T_Device) : m_restore_Note s b d = if readR o.K 41 = (b2i b, true) then some (s, d, 0) else m_settings_Store_Update s [putS 41 (b2i b)] d := by
  unfold m_restore_Note
  have h1 : (bif b then (some 1) else (some 0) : Option Int) = some (b2i b) := by cases b <;> rfl
  have h8 : IntKind.wrap .u8 (b2i b) = b2i b := by cases b <;> rfl
  rw [h1, bnd_some, read_r hs ho, bnd_some]
  have h2 : (bif (readR o.K 41).2 then (some ((readR o.K 41).1 == b2i b)) else (some false) : Option Bool) = some (decide (readR o.K 41 = (b2i b, true))) := by
    obtain ⟨x, y⟩ := readR o.K 41
    cases y
    · simp
    · simp only [cond_true, Prod.mk.injEq, and_true]
      by_cases h : x = b2i b <;> simp [h]
  rw [h2, bnd_some]
  by_cases h : readR o.K 41 = (b2i b, true)
  · rw [decide_eq_true h, cond_true, if_pos h]
  · rw [decide_eq_false h, cond_false, if_neg h, h8, put_eq]
    show bnd (m_settings_Store_Update s [putS 41 (b2i b)] d) _ = _
    cases m_settings_Store_Update s [putS 41 (b2i b)] d <;> rfl
theorem policy_of {K : List T_Setting} {p : Int} (h : readR K 40 = (p, true)) (hp : 0 ≤ p ∧ p ≤ 2) : policyF K = p := by
  unfold policyF
  rw [h]
  exact if_pos ⟨rfl, hp⟩
theorem noted_of {K : List T_Setting} {b : Bool} (h : readR K 41 = (b2i b, true)) : notedF K = b := by
  unfold notedF
  rw [h]
  cases b <;> rfl
theorem b2i_inj {a b : Bool} (h : b2i a = b2i b) : a = b := by
  cases a <;> cases b <;> first | rfl | simp [b2i] at h
theorem b2i_r (b : Bool) : 0 ≤ b2i b ∧ b2i b ≤ 255 := by cases b <;> simp [b2i]
theorem open39 : ∃ s st, m_law39_open = some (some (newD 2 1024, s, refF, st), true) ∧ Sto (newD 2 1024) s 0 := by
  have hok := newD_ok (n := 2) (m := 1024) (by omega) (by omega)
  obtain ⟨s, h1, h2⟩ := open_sto (f := 0) hok rfl (by show (1024 : Int) ≤ 1024; omega) (by show 0 + 1 < (List.replicate 2 (0 : Int)).length; simp)
  obtain ⟨st, h3⟩ := refOpen_eq
  refine ⟨s, st, ?_, h2⟩
  have h0 : m_flash_New 2 1024 = some (some (newD 2 1024), 0) := new_eq (n := 2) (m := 1024) (by omega) (by omega)
  have h1' : m_settings_Open (newD 2 1024) 0 = some (newD 2 1024, some s, 0) := h1
  have hR := refNew_eq
  generalize newD 2 1024 = D at h0 h1' ⊢
  generalize refF = R at hR h3 ⊢
  unfold m_law39_open
  rw [h0, bnd_some]
  show bnd (m_ref05_New 2 1024) _ = _
  rw [hR, bnd_some]
  show bnd (m_settings_Open D 0) _ = _
  rw [h1', bnd_some]
  show bnd (m_ref06_Open R 0) _ = _
  rw [h3, bnd_some]
  rfl
structure Kept (d : T_Device) (s : T_settings_Store) (p : Int) (b : Bool) (g : Int) : Prop where
  sto : Sto d s 0
  pol : readR (openF d 0).K 40 = (p, true)
  note : readR (openF d 0).K 41 = (b2i b, true)
  len : (openF d 0).K.length ≤ 2
  gen : (openF d 0).gen ≤ g
theorem kept_new {p : Int} (hp : 0 ≤ p ∧ p ≤ 2) (b : Bool) {s : T_settings_Store} (h : Sto (newD 2 1024) s 0) : ∃ r, m_restore_SetPolicy s p (newD 2 1024) = some r ∧ r.2.2 = 0 ∧ ∃ r', m_restore_Note r.1 b r.2.1 = some r' ∧ r'.2.2 = 0 ∧ Kept r'.2.1 r'.1 p b 2 ∧ r'.2.1.left = 0 := by
  have ho : openF (newD 2 1024) 0 = os0 := newD_open (by omega) (by omega)
  have l1 := allK_len [putS 40 p] (openF (newD 2 1024) 0).K
  rw [ho] at l1
  simp only [os0, List.length_nil, List.length_singleton] at l1
  obtain ⟨r, h1, h2, h3, h4, h5, h6, h7⟩ := h.sure rfl (putS_ok (k := 40) (x := p) (by omega) (by omega)) (by simp) (by rw [ho]; simp only [os0]; omega) (by rw [ho]; simp only [os0]; omega)
  refine ⟨r, by rw [setPol_eq hp]; exact h1, h2, ?_⟩
  rw [ho] at h4 h5
  simp only [os0] at h4 h5
  have hr41 : readR (openF r.2.1 0).K 41 = (0, false) := by
    rw [h4, read_put, if_neg (by omega)]; rfl
  have l2 := allK_len [putS 41 (b2i b)] (openF r.2.1 0).K
  rw [h4] at l2
  simp only [List.length_singleton] at l2
  obtain ⟨r', g1, g2, g3, g4, g5, g6, g7⟩ := h3.sure h7 (putS_ok (k := 41) (x := b2i b) (by omega) (b2i_r b)) (by simp) (by rw [h4]; omega) (by omega)
  refine ⟨r', ?_, g2, ⟨g3, ?_, ?_, ?_, by omega⟩, g7⟩
  · rw [note_eq h3.rel h3.okK, hr41, if_neg (by simp)]
    exact g1
  · rw [g4, read_put, if_neg (by omega), h4, read_put, if_pos rfl]
  · rw [g4, read_put, if_pos rfl]
  · rw [g4, h4]; omega
theorem awake39 : m_law39_awake = some true := by
  obtain ⟨s, st, h1, h2⟩ := open39
  have ho : openF (newD 2 1024) 0 = os0 := newD_open (by omega) (by omega)
  unfold m_law39_awake
  rw [h1, bnd_some]
  obtain ⟨r, e1, e2, r', e3, e4, hK, _⟩ := kept_new (p := 1) (by omega) true h2
  have hp0 : m_restore_Policy s (newD 2 1024) = some 0 := by rw [policy_eq h2.rel h2.okK, ho]; rfl
  have hw0 : m_restore_Wanted s (newD 2 1024) = some false := by rw [wanted_eq h2.rel h2.okK, ho]; rfl
  show bnd (bnd (m_restore_Policy s (newD 2 1024)) fun r2 => bif (r2 != 0) then (some true) else (bnd (m_restore_Wanted s (newD 2 1024)) fun r3 => some r3)) _ = _
  rw [hp0, bnd_some, cnd_f (by rfl), hw0, bnd_some, bnd_some]
  show bnd (m_restore_SetPolicy s 1 (newD 2 1024)) _ = _
  rw [e1, bnd_some, e3, bnd_some, e2, e4]
  have hp := policy_of hK.pol (by omega)
  have hn := noted_of hK.note
  rw [cnd_t (by rfl), cnd_t (by rfl), wanted_eq hK.sto.rel hK.sto.okK, bnd_some, if_pos hp, hn, cond_true, noted_eq hK.sto.rel hK.sto.okK, bnd_some, hn, bnd_some]
theorem cut39 {d : T_Device} {s : T_settings_Store} {po : Int} {was : Bool} (hK : Kept d s po was 2) (hpo : 0 ≤ po ∧ po ≤ 2) {pp : Int} (hpp : 0 ≤ pp ∧ pp ≤ 2) (on : Bool) : ∃ r9, m_restore_SetPolicy s pp d = some r9 ∧ ∃ o3, (bif (r9.2.2 == 0) then (bnd (m_restore_Note r9.1 on r9.2.1) fun r10 => some (r10.2.2, r10.1, r10.2.1)) else (some (10, r9.1, r9.2.1)) : Option (Int × T_settings_Store × T_Device)) = some o3 ∧
    ∃ t p q, m_settings_Open (restF o3.2.2) 0 = some (restF o3.2.2, some t, 0) ∧ m_restore_Policy t (restF o3.2.2) = some p ∧ m_restore_Noted t (restF o3.2.2) = some q ∧ (r9.2.2 = 0 ∨ r9.2.2 = 10) ∧ (o3.1 = 0 ∨ o3.1 = 10) ∧ (r9.2.2 = 10 → o3.1 = 10) ∧ (r9.2.2 = 0 → p = pp) ∧ (o3.1 = 0 → q = on) ∧ (p = po ∨ p = pp) ∧ (q = was ∨ (q = on ∧ r9.2.2 = 0)) := by
  have l1 := allK_len [putS 40 pp] (openF d 0).K
  have hlen := hK.len
  have hgen := hK.gen
  simp only [List.length_singleton] at l1
  obtain ⟨r, h1, t, hc⟩ := hK.sto.cut (putS_ok (k := 40) (x := pp) (by omega) (by omega)) (by simp) (by omega) (by omega)
  refine ⟨r, by rw [setPol_eq hpp]; exact h1, ?_⟩
  have ho3 : m_settings_Open (restF r.2.1) 0 = some (restF r.2.1, some t, 0) := hc.open_
  rcases hc.err with ⟨a1, a2, a3⟩ | ⟨a1, a2, a3⟩
  · have hk3 : (openF r.2.1 0).K = allK (openF d 0).K [putS 40 pp] := by
      rcases hc.list with h | ⟨h, _⟩
      · rw [openF_rest] at h; exact h
      · omega
    have r40 : readR (openF r.2.1 0).K 40 = (pp, true) := by rw [hk3, read_put, if_pos rfl]
    have r41 : readR (openF r.2.1 0).K 41 = (b2i was, true) := by rw [hk3, read_put, if_neg (by omega)]; exact hK.note
    rw [cnd_t (by simp [a1]), note_eq a3.rel a3.okK]
    by_cases hb : was = on
    · subst hb
      rw [if_pos r41, bnd_some]
      refine ⟨_, rfl, t, pp, was, ho3, ?_, ?_, .inl a1, .inl rfl, fun h => by omega, fun _ => rfl, fun _ => rfl, .inr rfl, .inl rfl⟩
      · rw [policy_eq hc.sto.rel hc.sto.okK, openF_rest, policy_of r40 hpp]
      · rw [noted_eq hc.sto.rel hc.sto.okK, openF_rest, noted_of r41]
    · have hne : readR (openF r.2.1 0).K 41 ≠ (b2i on, true) := fun h => by
        rw [r41] at h
        injection h with h
        exact hb (b2i_inj h)
      rw [if_neg hne]
      have l2 := allK_len [putS 41 (b2i on)] (openF r.2.1 0).K
      rw [hk3] at l2
      simp only [List.length_singleton] at l2
      have g3 := hc.gen
      rw [openF_rest] at g3
      obtain ⟨r', g1, t', hc'⟩ := a3.cut (putS_ok (k := 41) (x := b2i on) (by omega) (b2i_r on)) (by simp) (by rw [hk3]; omega) (by omega)
      rw [g1, bnd_some]
      have ho4 : m_settings_Open (restF r'.2.1) 0 = some (restF r'.2.1, some t', 0) := hc'.open_
      have e1 : r'.2.2 = 0 ∨ r'.2.2 = 10 := by
        rcases hc'.err with h | h
        · exact .inl h.1
        · exact .inr h.1
      rcases hc'.list with hL | ⟨hL, hL2⟩
      · have s40 : readR (openF (restF r'.2.1) 0).K 40 = (pp, true) := by rw [hL, read_put, if_neg (by omega)]; exact r40
        have s41 : readR (openF (restF r'.2.1) 0).K 41 = (b2i on, true) := by rw [hL, read_put, if_pos rfl]
        refine ⟨_, rfl, t', pp, on, ho4, ?_, ?_, .inl a1, e1, fun h => by omega, fun _ => rfl, fun _ => rfl, .inr rfl, .inr ⟨rfl, a1⟩⟩
        · rw [policy_eq hc'.sto.rel hc'.sto.okK, policy_of s40 hpp]
        · rw [noted_eq hc'.sto.rel hc'.sto.okK, noted_of s41]
      · refine ⟨_, rfl, t', pp, was, ho4, ?_, ?_, .inl a1, e1, fun h => by omega, fun _ => rfl, fun h => by simp only at h; omega, .inr rfl, .inl rfl⟩
        · rw [policy_eq hc'.sto.rel hc'.sto.okK, hL2, policy_of r40 hpp]
        · rw [noted_eq hc'.sto.rel hc'.sto.okK, hL2, noted_of r41]
  · rw [cnd_f (by simp [a1])]
    rcases hc.list with hL | ⟨hL, hL2⟩
    · have s40 : readR (openF (restF r.2.1) 0).K 40 = (pp, true) := by rw [hL, read_put, if_pos rfl]
      have s41 : readR (openF (restF r.2.1) 0).K 41 = (b2i was, true) := by rw [hL, read_put, if_neg (by omega)]; exact hK.note
      refine ⟨_, rfl, t, pp, was, ho3, ?_, ?_, .inr a1, .inr rfl, fun _ => rfl, fun _ => rfl, fun h => by simp only at h; omega, .inr rfl, .inl rfl⟩
      · rw [policy_eq hc.sto.rel hc.sto.okK, policy_of s40 hpp]
      · rw [noted_eq hc.sto.rel hc.sto.okK, noted_of s41]
    · refine ⟨_, rfl, t, po, was, ho3, ?_, ?_, .inr a1, .inr rfl, fun _ => rfl, fun h => by omega, fun h => by simp only at h; omega, .inl rfl, .inl rfl⟩
      · rw [policy_eq hc.sto.rel hc.sto.okK, hL2, policy_of hK.pol hpo]
      · rw [noted_eq hc.sto.rel hc.sto.okK, hL2, noted_of hK.note]
theorem tm3 {x : Int} (h : inK .u8 x) : 0 ≤ IntKind.wrap .i64 (x.tmod 3) ∧ IntKind.wrap .i64 (x.tmod 3) ≤ 2 := by
  have h' : 0 ≤ x ∧ x ≤ 255 := h
  have h1 : x.tmod 3 = x % 3 := Int.tmod_eq_emod_of_nonneg h'.1
  rw [h1, wrap_i64 (by omega) (by omega)]
  omega
theorem cuts_true (old policy : Int) (was on : Bool) (steps torn : Int) (h1 : inK .u8 old) (h2 : inK .u8 policy) (_ : okB was) (_ : okB on) (h3 : inK .u8 steps) (h4 : inK .u8 torn) : m_law39_RestoreCuts old policy was on steps torn = some true := by
  have hst : 0 ≤ steps ∧ steps ≤ 255 := h3
  have htn : 0 ≤ torn ∧ torn ≤ 255 := h4
  obtain ⟨s, st, e1, hS⟩ := open39
  unfold m_law39_RestoreCuts
  rw [awake39, bnd_some, cnd_f (by rfl), e1, bnd_some]
  have hpo := tm3 h1
  have hpp := tm3 h2
  generalize IntKind.wrap .i64 (old.tmod 3) = po at hpo ⊢
  generalize IntKind.wrap .i64 (policy.tmod 3) = pp at hpp ⊢
  obtain ⟨r3, e3, z3, r4, e4, z4, hK, hl⟩ := kept_new hpo was hS
  show bnd (bnd (m_restore_SetPolicy s po (newD 2 1024)) _) _ = _
  rw [e3, bnd_some, z3, cnd_f (by rfl), e4, bnd_some, bnd_some, z4]
  rw [cnd_f (by rfl)]
  unfold m_flash_Device_Steps
  rw [bnd_some]
  show bnd (bnd (m_restore_Note r4.1 was r4.2.1) _) _ = _
  rw [note_eq hK.sto.rel hK.sto.okK, if_pos hK.note, bnd_some, cnd_f (by rfl), bnd_some, bnd_some]
  rw [cnd_f (by simp), arm_eq, bnd_some, wrap_i64 (x := steps) (by omega) (by omega), wrap_i64 (x := 1 + steps) (by omega) (by omega)]
  have hA : Kept (armF r4.2.1 (1 + steps) torn) r4.1 po was 2 := ⟨hK.sto.arm (by omega) htn, by rw [openF_arm]; exact hK.pol, by rw [openF_arm]; exact hK.note, by rw [openF_arm]; exact hK.len, by rw [openF_arm]; exact hK.gen⟩
  obtain ⟨r9, e9, o3, e10, t, p, q, e11, e12, e13, c1, c2, c3, c4, c5, c6, c7⟩ := cut39 hA hpo hpp on
  show bnd (m_restore_SetPolicy r4.1 pp (armF r4.2.1 (1 + steps) torn)) _ = _
  rw [e9, bnd_some, e10, bnd_some, rest_eq, bnd_some, e11, bnd_some]
  show bnd _ _ = _
  have hB1 : (bif ((0 : Int) != 0) then (some true) else (bif (r9.2.2 != 0) then (bif (r9.2.2 != 10) then (some true) else (bif (o3.1 != 0) then (some (o3.1 != 10)) else (some false))) else (bif (o3.1 != 0) then (some (o3.1 != 10)) else (some false))) : Option Bool) = some false := by
    rcases c1 with c1 | c1 <;> rcases c2 with c2 | c2 <;> simp [c1, c2]
  rw [hB1, bnd_some, cnd_f rfl]
  show bnd (m_restore_Policy t (restF o3.2.2)) _ = _
  rw [e12, bnd_some, e13, bnd_some]
  have hB2 : (bif (r9.2.2 == 0) then (bif (p != pp) then (some true) else (bif (o3.1 == 0) then (some (!(q == on))) else (some false))) else (bif (o3.1 == 0) then (some (!(q == on))) else (some false)) : Option Bool) = some false := by
    rcases c1 with c1 | c1
    · rw [cnd_t (by simp [c1]), c4 c1, cnd_f (by simp)]
      rcases c2 with c2 | c2
      · rw [cnd_t (by simp [c2]), c5 c2]; simp
      · rw [cnd_f (by simp [c2])]
    · rw [cnd_f (by simp [c1]), cnd_f (by simp [c3 c1])]
  rw [hB2, bnd_some, cnd_f rfl]
  have hin : (bif (q == was) then (some true) else (bif (q == on) then (some (r9.2.2 == 0)) else (some false)) : Option Bool) = some true := by
    rcases c7 with c7 | ⟨c7, c8⟩
    · rw [cnd_t (by simp [c7])]
    · by_cases hq : q = was
      · rw [cnd_t (by simp [hq])]
      · rw [cnd_f (by simpa using hq), cnd_t (by simp [c7])]; simp [c8]
  rw [hin]
  rcases c6 with c6 | c6
  · rw [cnd_t (by simp [c6])]; rfl
  · by_cases hp : p = po
    · rw [cnd_t (by simp [hp])]; rfl
    · rw [cnd_f (by simpa using hp), cnd_t (by simp [c6])]; rfl
end Go.Proofs.Ythdpagcklakahaa
end
