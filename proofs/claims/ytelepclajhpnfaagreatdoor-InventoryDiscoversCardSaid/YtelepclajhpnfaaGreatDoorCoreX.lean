/-
 The core: regions whose order is open and that also write: one walk, in an order of one's own, serves every order.
 Conditions: none.
-/
import Derived.Test.YtelepclajhpnfaaGreatDoorCore9
namespace Go.Proofs.YtelepclajhpnfaaGreatDoor
open Go
set_option linter.unusedSectionVars false
set_option linter.unusedVariables false
inductive Tg where
 | fl | fx | qc | ef
 deriving DecidableEq
structure Ent3 where
 t : Tg
 i : Nat
 o : Oper
def NoQ : Exit → Act → World → Prop := fun _ _ _ => False
section
variable {P : Program} {ops : Array Oper} {C : World → Prop} {Q : Act → World → Prop}
def stepX (P : Program) (ops : Array Oper) (C : World → Prop) (z : Ent3) (a : Act) (w : World) (K : Act → World → Prop) : Prop :=
 if Region.wanted z.o (yielded ops a.tmps) = true then
  match z.t with
  | .fl => ∃ v, (∀ w', C w' → (execOp a.eval z.o).run P w' = .ok (.value v) w') ∧ K (a.put z.o.dst v) w
  | .fx => ∃ v, (∀ w', Ext w w' → (execOp a.eval z.o).run P w' = .ok (.value v) w') ∧ K (a.put z.o.dst v) w
  | .qc => ∃ v f args, (∀ w', C w' → (execOp a.eval z.o).run P w' = .ok (.enter f args) w') ∧ (∀ w', C w' → Calls P f args w' fun e w'' => e = .returned v ∧ Ext w' w'') ∧ K (a.put z.o.dst v) w
  | .ef => ∀ w', Ext w w' → z.o.wp P a w' (fun a' w'' => C w'' ∧ K a' w'') NoQ
 else K (a.put z.o.dst undef) w
inductive Tr where
 | nil
 | st (z : Ent3) (t : Tr)
 | alt (t u : Tr)
def wpX (P : Program) (ops : Array Oper) (C : World → Prop) (Q : Act → World → Prop) : Tr → Act → World → Prop
 | .nil, a, w => ∀ w', Ext w w' → Q a w'
 | .st z t, a, w => stepX P ops C z a w (wpX P ops C Q t)
 | .alt t u, a, w => wpX P ops C Q t a w ∧ wpX P ops C Q u a w
theorem wpX_ext : ∀ {r : Tr} {a : Act} {w w' : World}, wpX P ops C Q r a w → Ext w w' → wpX P ops C Q r a w'
 | .nil, a, w, w', h, he => fun w'' h2 => h w'' (he.trans h2)
 | .alt t u, a, w, w', h, he => ⟨wpX_ext h.1 he, wpX_ext h.2 he⟩
 | .st z rest, a, w, w', h, he => by
  unfold wpX stepX at h ⊢
  split
  ·rename_i hw
   rw [if_pos hw] at h
   cases ht : z.t with
   | fl =>
    rw [ht] at h
    obtain ⟨v, h1, h2⟩ := h
    exact ⟨v, h1, wpX_ext h2 he⟩
   | fx =>
    rw [ht] at h
    obtain ⟨v, h1, h2⟩ := h
    exact ⟨v, fun w'' h3 => h1 w'' (he.trans h3), wpX_ext h2 he⟩
   | qc =>
    rw [ht] at h
    obtain ⟨v, f, args, h1, h2, h3⟩ := h
    exact ⟨v, f, args, h1, h2, wpX_ext h3 he⟩
   | ef =>
    rw [ht] at h
    exact fun w'' h3 => h w'' (he.trans h3)
  ·rename_i hw
   rw [if_neg hw] at h
   exact wpX_ext h he
theorem wp_imp {o : Oper} {a : Act} {w : World} {K K' : Act → World → Prop} {Q' : Exit → Act → World → Prop} (h : ∀ a w, K a w → K' a w) (hh : o.wp P a w K NoQ) : o.wp P a w K' Q' := by
 unfold Oper.wp at *
 generalize (execOp a.eval o).run P w = r at *
 cases r with
 | ok n w' =>
  cases n <;> simp only [Oper.upon] at hh ⊢
  case value v => exact h _ _ hh
  case skip => exact h _ _ hh
  case defer d => exact h _ _ hh
  case enter f args =>
   refine hh.mono fun e w'' he => ?_
   cases e with
   | returned v => exact h _ _ he
   | panicked ch => exact he.elim
   | outgrown => obtain ⟨_, _, hf⟩ := he; exact hf.elim
  case row r args => exact hh.mono fun v w'' hv => h _ _ hv
 | halt x w' =>
  cases x <;> simp only [Oper.upon] at hh ⊢
  exact hh.elim
theorem stepX_mono {z : Ent3} {a : Act} {w : World} {K K' : Act → World → Prop} (h : ∀ a w, K a w → K' a w) (hk : stepX P ops C z a w K) : stepX P ops C z a w K' := by
 unfold stepX at hk ⊢
 split
 ·rename_i hw
  rw [if_pos hw] at hk
  cases ht : z.t with
  | fl =>
   rw [ht] at hk
   obtain ⟨v, h1, h2⟩ := hk
   exact ⟨v, h1, h _ _ h2⟩
  | fx =>
   rw [ht] at hk
   obtain ⟨v, h1, h2⟩ := hk
   exact ⟨v, h1, h _ _ h2⟩
  | qc =>
   rw [ht] at hk
   obtain ⟨v, f, args, h1, h2, h3⟩ := hk
   exact ⟨v, f, args, h1, h2, h _ _ h3⟩
  | ef =>
   rw [ht] at hk
   exact fun w' hw' => wp_imp (fun a w hh => ⟨hh.1, h a w hh.2⟩) (hk w' hw')
 ·rename_i hw
  rw [if_neg hw] at hk
  exact h _ _ hk
def pre : List Ent3 → Tr → Tr
 | [], t => t
 | x :: xs, t => .st x (pre xs t)
theorem pre_append : ∀ (xs ys : List Ent3) (t : Tr), pre (xs ++ ys) t = pre xs (pre ys t)
 | [], _, _ => rfl
 | x :: xs, ys, t => by simp [pre, pre_append xs ys t]
theorem pre_mono {t t' : Tr} (h : ∀ a w, wpX P ops C Q t a w → wpX P ops C Q t' a w) : ∀ (xs : List Ent3) (a : Act) (w : World), wpX P ops C Q (pre xs t) a w → wpX P ops C Q (pre xs t') a w
 | [], a, w, hk => h a w hk
 | _ :: xs, _, _, hk => stepX_mono (fun a w => pre_mono h xs a w) hk
theorem wp_before {o : Oper} {a : Act} {d : Option Tmp} {v : Value} {w : World} {K K' : Act → World → Prop} (hs : ∀ cs b, o.op ≠ .select cs b) (hd : ∀ t, d = some t → t ∉ o.looksAt ops)
  (h : ∀ (b : Act) u w', b.tmps = a.tmps → K ((b.put d v).put o.dst u) w' → K' (b.put o.dst u) w') (hh : o.wp P (a.put d v) w K NoQ) : o.wp P a w K' NoQ := by
 unfold Oper.wp at *
 rw [execOp_put (ops := ops) o hs a d v hd] at hh
 generalize (execOp a.eval o).run P w = r at *
 cases r with
 | ok n w' =>
  cases n <;> simp only [Oper.upon] at hh ⊢
  case value u => exact h a u w' rfl hh
  case skip => exact h a undef w' rfl hh
  case defer df =>
   refine h { a with defers := df :: a.defers } undef w' rfl ?_
   rw [Act.put_defers] at hh
   exact hh
  case enter f args =>
   refine hh.mono fun e w'' he => ?_
   cases e with
   | returned u => exact h a u w'' rfl he
   | panicked ch => exact he.elim
   | outgrown => obtain ⟨_, _, hf⟩ := he; exact hf.elim
  case row r args => exact hh.mono fun u w'' hv => h a u w'' rfl hv
 | halt x w' =>
  cases x <;> simp only [Oper.upon] at hh ⊢
  exact hh.elim
theorem eval_tmps {a b : Act} (h : b.tmps = a.tmps) : b.eval = a.eval := by
 funext x
 cases x <;> simp [Act.eval, h]
structure Over (ops : Array Oper) (x z : Ent3) : Prop where
 apart : x.o.apart ops z.o = true
 noef : x.t ≠ .ef
 fl : z.t = .ef → x.t ≠ .fx
theorem after_z {x z : Ent3} {a b : Act} {w w' : World} {v u : Value} {K : Act → World → Prop} (hsx : ∀ cs b, x.o.op ≠ .select cs b) (ho : Over ops x z) (hb : b.tmps = a.tmps) (hw : Region.wanted x.o (yielded ops a.tmps) = true)
  (hrun : (x.t = .fl ∧ (∀ w', C w' → (execOp a.eval x.o).run P w' = .ok (.value v) w')) ∨ (x.t = .fx ∧ w' = w ∧ (∀ w', Ext w w' → (execOp a.eval x.o).run P w' = .ok (.value v) w')) ∨ (x.t = .qc ∧ ∃ f args, (∀ w', C w' → (execOp a.eval x.o).run P w' = .ok (.enter f args) w') ∧ (∀ w', C w' → Calls P f args w' fun e w'' => e = .returned v ∧ Ext w' w'')))
  (hk : K ((b.put x.o.dst v).put z.o.dst u) w') : stepX P ops C x (b.put z.o.dst u) w' K := by
 obtain ⟨h1, h2, h3⟩ := Oper.apart_spec ho.apart
 have he : execOp (b.put z.o.dst u).eval x.o = execOp a.eval x.o := by
  rw [execOp_put (ops := ops) x.o hsx b z.o.dst u h3, eval_tmps hb]
 have hwb : Region.wanted x.o (yielded ops (b.put z.o.dst u).tmps) = true := by
  rw [wanted_put (ops := ops) x.o b z.o.dst u h3, hb]
  exact hw
 have hput : (b.put x.o.dst v).put z.o.dst u = (b.put z.o.dst u).put x.o.dst v := Act.put_comm b v u h2
 rw [hput] at hk
 unfold stepX
 rw [if_pos hwb]
 rcases hrun with ⟨ht, hr⟩ | ⟨ht, rfl, hr⟩ | ⟨ht, f, args, hr, hc⟩
 ·rw [ht]
  exact ⟨v, fun w' hc => by rw [he]; exact hr w' hc, hk⟩
 ·rw [ht]
  exact ⟨v, fun w' hc => by rw [he]; exact hr w' hc, hk⟩
 ·rw [ht]
  exact ⟨v, f, args, fun w' hcw => by rw [he]; exact hr w' hcw, hc, hk⟩
theorem after_z_off {x z : Ent3} {a b : Act} {w' : World} {u : Value} {K : Act → World → Prop} (ho : Over ops x z) (hb : b.tmps = a.tmps) (hw : ¬ Region.wanted x.o (yielded ops a.tmps) = true)
  (hk : K ((b.put x.o.dst undef).put z.o.dst u) w') : stepX P ops C x (b.put z.o.dst u) w' K := by
 obtain ⟨h1, h2, h3⟩ := Oper.apart_spec ho.apart
 have hwb : ¬ Region.wanted x.o (yielded ops (b.put z.o.dst u).tmps) = true := by
  rw [wanted_put (ops := ops) x.o b z.o.dst u h3, hb]
  exact hw
 have hput : (b.put x.o.dst undef).put z.o.dst u = (b.put z.o.dst u).put x.o.dst undef := Act.put_comm b undef u h2
 rw [hput] at hk
 unfold stepX
 rw [if_neg hwb]
 exact hk
theorem pull {z : Ent3} {t : Tr} (hsz : ∀ cs b, z.o.op ≠ .select cs b) : ∀ (xs : List Ent3) (a : Act) (w : World), (∀ x ∈ xs, Over ops x z ∧ ∀ cs b, x.o.op ≠ .select cs b) → wpX P ops C Q (pre xs (.st z t)) a w →
  stepX P ops C z a w (wpX P ops C Q (pre xs t))
 | [], a, w, _, h => h
 | x :: xs, a, w, hx, h => by
  obtain ⟨ho, hsx⟩ := hx x (List.mem_cons_self ..)
  obtain ⟨h1, h2, h3⟩ := Oper.apart_spec ho.apart
  have hx' : ∀ y ∈ xs, Over ops y z ∧ ∀ cs b, y.o.op ≠ .select cs b := fun y hy => hx y (List.mem_cons_of_mem _ hy)
  have main : ∀ (v : Value), wpX P ops C Q (pre xs (.st z t)) (a.put x.o.dst v) w →
    (∀ (b : Act) (u : Value) (w' : World), b.tmps = a.tmps → (w' = w ∨ z.t = .ef) → wpX P ops C Q (pre xs t) ((b.put x.o.dst v).put z.o.dst u) w' → stepX P ops C x (b.put z.o.dst u) w' (wpX P ops C Q (pre xs t))) →
    stepX P ops C z a w (wpX P ops C Q (pre (x :: xs) t)) := by
   intro v hv hafter
   have ih := pull hsz xs (a.put x.o.dst v) w hx' hv
   unfold stepX at ih ⊢
   rw [wanted_put (ops := ops) z.o a x.o.dst v h1] at ih
   split
   ·rename_i hwz
    rw [if_pos hwz] at ih
    cases htz : z.t with
    | fl =>
     rw [htz] at ih
     obtain ⟨u, hu, hk⟩ := ih
     exact ⟨u, fun w' hc => by rw [← execOp_put (ops := ops) z.o hsz a x.o.dst v h1]; exact hu w' hc, hafter a u w rfl (.inl rfl) hk⟩
    | fx =>
     rw [htz] at ih
     obtain ⟨u, hu, hk⟩ := ih
     exact ⟨u, fun w' hc => by rw [← execOp_put (ops := ops) z.o hsz a x.o.dst v h1]; exact hu w' hc, hafter a u w rfl (.inl rfl) hk⟩
    | qc =>
     rw [htz] at ih
     obtain ⟨u, f, args, hu, hcalls, hk⟩ := ih
     exact ⟨u, f, args, fun w' hc => by rw [← execOp_put (ops := ops) z.o hsz a x.o.dst v h1]; exact hu w' hc, hcalls, hafter a u w rfl (.inl rfl) hk⟩
    | ef =>
     rw [htz] at ih
     exact fun w1 he1 => wp_before (ops := ops) hsz h1 (fun b u w' hb hk => ⟨hk.1, hafter b u w' hb (.inr htz) hk.2⟩) (ih w1 he1)
   ·rename_i hwz
    rw [if_neg hwz] at ih
    exact hafter a undef w rfl (.inl rfl) ih
  have h' : stepX P ops C x a w (wpX P ops C Q (pre xs (.st z t))) := h
  unfold stepX at h'
  by_cases hwx : Region.wanted x.o (yielded ops a.tmps) = true
  ·rw [if_pos hwx] at h'
   cases htx : x.t with
   | fl =>
    rw [htx] at h'
    obtain ⟨v, hv, hk⟩ := h'
    exact main v hk fun b u w' hb _ hw' => after_z (w := w) hsx ho hb hwx (.inl ⟨htx, hv⟩) hw'
   | fx =>
    rw [htx] at h'
    obtain ⟨v, hv, hk⟩ := h'
    refine main v hk fun b u w' hb hor hw' => after_z (w := w) hsx ho hb hwx (.inr (.inl ⟨htx, ?_, hv⟩)) hw'
    rcases hor with h | h
    ·exact h
    ·exact absurd htx (ho.fl h)
   | qc =>
    rw [htx] at h'
    obtain ⟨v, f, args, hv, hcalls, hk⟩ := h'
    exact main v hk fun b u w' hb _ hw' => after_z (w := w) hsx ho hb hwx (.inr (.inr ⟨htx, f, args, hv, hcalls⟩)) hw'
   | ef => exact absurd htx ho.noef
  ·rw [if_neg hwx] at h'
   exact main undef h' fun b u w' hb _ hw' => after_z_off ho hb hwx hw'
inductive Path (ops : Array Oper) : Nat → Nat → Prop
 | edge {i : Nat} {o : Oper} {e : Edge} (ho : ops[i]? = some o) (he : e ∈ o.after) (hb : Region.binds .any e = true) : Path ops i e.on
 | trans {i j k : Nat} (h : Path ops i j) (h2 : Path ops j k) : Path ops i k
def Closed (ops : Array Oper) (listed : Array Bool) : Prop := ∀ i, listed.getD i false = true → ∀ o, ops[i]? = some o → ∀ e ∈ o.after, Region.binds .any e = true → listed.getD e.on false = true
theorem Path.listed {listed : Array Bool} (hc : Closed ops listed) : ∀ {i j : Nat}, Path ops i j → listed.getD i false = true → listed.getD j false = true
 | _, _, .edge ho he hb, hi => hc _ hi _ ho _ he hb
 | _, _, .trans h h2, hi => Path.listed hc h2 (Path.listed hc h hi)
theorem Path.ready {listed : Array Bool} (hc : Closed ops listed) {z : Nat} {o : Oper} (ho : ops[z]? = some o) (hr : ∀ e ∈ o.after, Region.binds .any e = true → listed.getD e.on false = true) : ∀ {i j : Nat}, Path ops i j → i = z → listed.getD j false = true
 | _, _, .edge ho' he hb, hi => by
  subst hi
  rw [ho] at ho'
  injection ho' with ho'
  subst ho'
  exact hr _ he hb
 | _, _, .trans h h2, hi => Path.listed hc h2 (Path.ready hc ho hr h hi)
structure Front (ops : Array Oper) (p q : Ent3) : Prop where
 ne : p.i ≠ q.i
 noedge : ∀ e ∈ p.o.after, Region.binds .any e = true → e.on ≠ q.i
 rel : Path ops q.i p.i ∨ Over ops p q
structure EntOk (ops : Array Oper) (p : Ent3) : Prop where
 at_ : ops[p.i]? = some p.o
 nosel : ∀ cs b, p.o.op ≠ .select cs b
 noself : ∀ e ∈ p.o.after, Region.binds .any e = true → e.on ≠ p.i ∧ e.on < ops.size
def heads : Tr → List (Ent3 × Tr)
 | .nil => []
 | .st z t => [(z, t)]
 | .alt t u => heads t ++ heads u
def trEnts : Tr → List Ent3
 | .nil => []
 | .st z t => z :: trEnts t
 | .alt t u => trEnts t ++ trEnts u
def hids : Tr → List Nat
 | .nil => []
 | .st z _ => [z.i]
 | .alt t u => hids t ++ hids u
def cov : Tr → Nat → Prop
 | .nil, _ => False
 | .st z t, i => z.i = i ∨ cov t i
 | .alt t u, i => cov t i ∧ cov u i
def lenT : Tr → Nat → Prop
 | .nil, n => n = 0
 | .st _ _, 0 => False
 | .st _ t, n + 1 => lenT t n
 | .alt t u, n => lenT t n ∧ lenT u n
def allEf (t : Tr) : Prop := ∀ p ∈ heads t, p.1.t = .ef
def okT (ops : Array Oper) : List Nat → Tr → Prop
 | _, .nil => True
 | H, .st z t => (∀ q ∈ trEnts t, z.i ≠ q.i ∧ (∀ e ∈ z.o.after, Region.binds .any e = true → e.on ≠ q.i) ∧ (Path ops q.i z.i ∨ (z.t = .ef ∧ ∃ h ∈ H, h = q.i ∨ Path ops q.i h) ∨ Over ops z q)) ∧ okT ops (hids t) t
 | H, .alt t u => allEf (.alt t u) ∧ okT ops H t ∧ okT ops H u
theorem hids_heads : ∀ {t : Tr} {i : Nat}, i ∈ hids t ↔ ∃ p ∈ heads t, p.1.i = i
 | .nil, i => by simp [hids, heads]
 | .st z t, i => by simp [hids, heads, eq_comm]
 | .alt t u, i => by simp only [hids, heads, List.mem_append, hids_heads (t := t), hids_heads (t := u)]; exact ⟨fun h => h.elim (fun ⟨p, h1, h2⟩ => ⟨p, .inl h1, h2⟩) fun ⟨p, h1, h2⟩ => ⟨p, .inr h1, h2⟩, fun ⟨p, h1, h2⟩ => h1.elim (fun h => .inl ⟨p, h, h2⟩) fun h => .inr ⟨p, h, h2⟩⟩
theorem head_ents : ∀ {t : Tr} {z : Ent3} {t' : Tr}, (z, t') ∈ heads t → z ∈ trEnts t ∧ ∀ q ∈ trEnts t', q ∈ trEnts t
 | .nil, _, _, h => by cases h
 | .st z t, _, _, h => by
  simp only [heads, List.mem_singleton, Prod.mk.injEq] at h
  obtain ⟨rfl, rfl⟩ := h
  exact ⟨List.mem_cons_self .., fun q hq => List.mem_cons_of_mem _ hq⟩
 | .alt t u, z, t', h => by
  rcases List.mem_append.1 h with h | h
  ·exact ⟨List.mem_append_left _ (head_ents h).1, fun q hq => List.mem_append_left _ ((head_ents h).2 q hq)⟩
  ·exact ⟨List.mem_append_right _ (head_ents h).1, fun q hq => List.mem_append_right _ ((head_ents h).2 q hq)⟩
theorem head_wp : ∀ {t : Tr} {z : Ent3} {t' : Tr}, (z, t') ∈ heads t → ∀ {a : Act} {w : World}, wpX P ops C Q t a w → wpX P ops C Q (.st z t') a w
 | .nil, _, _, h, _, _ => by cases h
 | .st z t, _, _, h, _, _ => by
  simp only [heads, List.mem_singleton, Prod.mk.injEq] at h
  obtain ⟨rfl, rfl⟩ := h
  exact fun h => h
 | .alt t u, z, t', h, a, w => by
  intro hk
  rcases List.mem_append.1 h with h | h
  ·exact head_wp h hk.1
  ·exact head_wp h hk.2
theorem head_cov : ∀ {t : Tr} {z : Ent3} {t' : Tr} {i : Nat}, (z, t') ∈ heads t → cov t i → z.i = i ∨ cov t' i
 | .nil, _, _, _, h, _ => by cases h
 | .st z t, _, _, _, h, hc => by
  simp only [heads, List.mem_singleton, Prod.mk.injEq] at h
  obtain ⟨rfl, rfl⟩ := h
  exact hc
 | .alt t u, z, t', i, h, hc => by
  rcases List.mem_append.1 h with h | h
  ·exact head_cov h hc.1
  ·exact head_cov h hc.2
theorem head_len : ∀ {t : Tr} {z : Ent3} {t' : Tr} {n : Nat}, (z, t') ∈ heads t → lenT t n → ∃ m, n = m + 1 ∧ lenT t' m
 | .nil, _, _, _, h, _ => by cases h
 | .st z t, _, _, n, h, hc => by
  simp only [heads, List.mem_singleton, Prod.mk.injEq] at h
  obtain ⟨rfl, rfl⟩ := h
  cases n with
  | zero => exact hc.elim
  | succ n => exact ⟨n, rfl, hc⟩
 | .alt t u, z, t', n, h, hc => by
  rcases List.mem_append.1 h with h | h
  ·exact head_len h hc.1
  ·exact head_len h hc.2
theorem head_ok : ∀ {t : Tr} {z : Ent3} {t' : Tr} {H : List Nat}, (z, t') ∈ heads t → okT ops H t → (∀ q ∈ trEnts t', z.i ≠ q.i ∧ (∀ e ∈ z.o.after, Region.binds .any e = true → e.on ≠ q.i) ∧ (Path ops q.i z.i ∨ (z.t = .ef ∧ ∃ h ∈ H, h = q.i ∨ Path ops q.i h) ∨ Over ops z q)) ∧ okT ops (hids t') t'
 | .nil, _, _, _, h, _ => by cases h
 | .st z t, _, _, _, h, hc => by
  simp only [heads, List.mem_singleton, Prod.mk.injEq] at h
  obtain ⟨rfl, rfl⟩ := h
  exact hc
 | .alt t u, z, t', _, h, hc => by
  rcases List.mem_append.1 h with h | h
  ·exact head_ok h hc.2.1
  ·exact head_ok h hc.2.2
theorem cov_ents : ∀ {t : Tr} {i : Nat}, cov t i → ∃ q ∈ trEnts t, q.i = i
 | .nil, _, h => h.elim
 | .st z t, i, h => by
  rcases h with h | h
  ·exact ⟨z, List.mem_cons_self .., h⟩
  ·obtain ⟨q, h1, h2⟩ := cov_ents h
   exact ⟨q, List.mem_cons_of_mem _ h1, h2⟩
 | .alt t u, i, h => by
  obtain ⟨q, h1, h2⟩ := cov_ents h.1
  exact ⟨q, List.mem_append_left _ h1, h2⟩
theorem zero_cov : ∀ {t : Tr}, lenT t 0 → ∀ i, ¬ cov t i
 | .nil, _, _, h => h
 | .st z t, h, _, _ => h.elim
 | .alt t u, h, i, hc => zero_cov h.1 i hc.1
theorem zero_wp : ∀ {t : Tr}, lenT t 0 → ∀ {a : Act} {w w' : World}, wpX P ops C Q t a w → Ext w w' → Q a w'
 | .nil, _, _, _, _, h, he => h _ he
 | .st z t, h, _, _, _, _, _ => h.elim
 | .alt t u, h, _, _, _, hk, he => zero_wp h.1 hk.1 he
theorem len_succ : ∀ {t : Tr} {n : Nat}, lenT t (n + 1) → ∃ p, p ∈ heads t
 | .nil, n, h => by cases h
 | .st z t, n, _ => ⟨(z, t), by simp [heads]⟩
 | .alt t u, n, h => by
  obtain ⟨p, hp⟩ := len_succ h.1
  exact ⟨p, List.mem_append_left _ hp⟩
structure OnWay (ops : Array Oper) (xs : List Ent3) (t : Tr) (n : Nat) (listed : Array Bool) : Prop where
 len : ∃ m, lenT t m ∧ xs.length + m = n
 pw : xs.Pairwise (Front ops)
 fr : ∀ x ∈ xs, ∀ q ∈ trEnts t, Front ops x q
 ok : okT ops (hids t) t
 ent : ∀ p ∈ xs ++ trEnts t, EntOk ops p
 sz : listed.size = ops.size
 all : ∀ i, i < ops.size → listed.getD i false = true ∨ (∃ p ∈ xs, p.i = i) ∨ cov t i
 no : ∀ p ∈ xs ++ trEnts t, listed.getD p.i true = false
 cl : Closed ops listed
theorem listed_no {listed : Array Bool} {i : Nat} (hi : i < listed.size) (h1 : listed.getD i false = true) (h2 : listed.getD i true = false) : False := by
 simp only [Array.getD_eq_getD_getElem?] at h1 h2
 rw [Array.getElem?_eq_getElem hi] at h1 h2
 simp at h1 h2
 rw [h2] at h1
 cases h1
theorem next_listed {listed : Array Bool} {z : Nat} {o : Oper} (hcl : Closed ops listed) (ho : ops[z]? = some o) (hr : ∀ e ∈ o.after, Region.binds .any e = true → listed.getD e.on false = true) : Closed ops (listed.setIfInBounds z true) := fun j hj oj hoj e hem hb => by
 by_cases hjz : z = j
 ·subst hjz
  rw [ho] at hoj
  injection hoj with hoj
  subst hoj
  exact getD_set_true (hr e hem hb)
 ·rw [getD_set_ne _ hjz] at hj
  exact getD_set_true (hcl j hj oj hoj e hem hb)
theorem any_step {Q' : Exit → Act → World → Prop} (hCE : ∀ w w', C w → Ext w w' → C w') {z : Ent3} {o : Oper} {n : Nat} {listed : Array Bool} {a : Act} {w : World} {t : Tr} (ho : ops[z.i]? = some z.o) (hc : C w) (hstep : stepX P ops C z a w (wpX P ops C Q t))
  (next : ∀ a' w', C w' → wpX P ops C Q t a' w' → wpAny P .any ops Q' n (listed.setIfInBounds z.i true) a' w') : wpOp P ops Q' z.i (wpAny P .any ops Q' n (listed.setIfInBounds z.i true)) a w := by
 unfold wpOp
 rw [ho]
 unfold stepX at hstep
 simp only
 split
 ·rename_i hwz
  rw [if_pos hwz] at hstep
  left
  cases htz : z.t with
  | fl =>
   rw [htz] at hstep
   obtain ⟨v, hv, hk⟩ := hstep
   unfold Oper.wp
   rw [hv w hc]
   exact next _ _ hc hk
  | fx =>
   rw [htz] at hstep
   obtain ⟨v, hv, hk⟩ := hstep
   unfold Oper.wp
   rw [hv w (Ext.refl w)]
   exact next _ _ hc hk
  | qc =>
   rw [htz] at hstep
   obtain ⟨v, f, args, hv, hcalls, hk⟩ := hstep
   unfold Oper.wp
   rw [hv w hc]
   exact (hcalls w hc).mono fun e w'' he => by
    obtain ⟨rfl, hext⟩ := he
    exact next _ _ (hCE _ _ hc hext) (wpX_ext hk hext)
  | ef =>
   rw [htz] at hstep
   exact wp_imp (fun a' w' hk => next a' w' hk.1 hk.2) (hstep w (Ext.refl w))
 ·rename_i hwz
  rw [if_neg hwz] at hstep
  exact next _ _ hc hstep
theorem any_of_X {Q' : Exit → Act → World → Prop} (hCE : ∀ w w', C w → Ext w w' → C w') (hQ : ∀ a w, Q a w → Q' .normal a w) : ∀ (n : Nat) (t : Tr) (xs : List Ent3) (listed : Array Bool) (a : Act) (w : World), OnWay ops xs t n listed → C w → wpX P ops C Q (pre xs t) a w → wpAny P .any ops Q' n listed a w
 | 0, t, xs, listed, a, w, hw, hc, h => by
  obtain ⟨m, hm, hlen⟩ := hw.len
  have hx : xs = [] := List.eq_nil_of_length_eq_zero (by omega)
  have hm0 : m = 0 := by omega
  subst hx
  subst hm0
  have h1 := zero_cov hm
  refine ⟨?_, hQ _ _ (zero_wp hm h (Ext.refl w))⟩
  rw [List.eq_nil_iff_forall_not_mem]
  intro i hi
  obtain ⟨g1, o, ho, _⟩ := mem_ready.1 hi
  have hlt := (Array.getElem?_eq_some_iff.1 ho).1
  rcases hw.all i hlt with h3 | ⟨p, hp, _⟩ | h3
  ·exact listed_no (by rw [hw.sz]; exact hlt) h3 g1
  ·cases hp
  ·exact h1 i h3
 | n + 1, t, xs, listed, a, w, hw, hc, h => by
  by_cases hq : ∃ z t', t = .st z t' ∧ z.t ≠ .ef
  ·obtain ⟨z, t', rfl, hz⟩ := hq
   have hok := hw.ok
   have hfz : ∀ q ∈ trEnts t', Front ops z q := fun q hq => by
    obtain ⟨g1, g2, g3⟩ := hok.1 q hq
    refine ⟨g1, g2, ?_⟩
    rcases g3 with g3 | g3 | g3
    ·exact .inl g3
    ·exact absurd g3.1 hz
    ·exact .inr g3
   have hmem : ∀ p, p ∈ (xs ++ [z]) ++ trEnts t' → p ∈ xs ++ trEnts (.st z t') := fun p hp => by
    simp only [List.mem_append, List.mem_singleton] at hp
    simp only [trEnts, List.mem_append, List.mem_cons]
    rcases hp with (hp | hp) | hp
    ·exact .inl hp
    ·exact .inr (.inl hp)
    ·exact .inr (.inr hp)
   refine any_of_X hCE hQ (n + 1) t' (xs ++ [z]) listed a w ⟨?_, ?_, ?_, hok.2, fun p hp => hw.ent p (hmem p hp), hw.sz, fun i hi => ?_, fun p hp => hw.no p (hmem p hp), hw.cl⟩ hc (by rw [pre_append]; exact h)
   ·obtain ⟨m, hm, hl⟩ := hw.len
    cases m with
    | zero => exact hm.elim
    | succ m => exact ⟨m, hm, by simp; omega⟩
   ·refine List.pairwise_append.2 ⟨hw.pw, List.pairwise_singleton _ _, fun x hx y hy => ?_⟩
    simp only [List.mem_singleton] at hy
    subst hy
    exact hw.fr x hx _ (List.mem_cons_self ..)
   ·intro x hx q hq
    rcases List.mem_append.1 hx with hx | hx
    ·exact hw.fr x hx q (List.mem_cons_of_mem _ hq)
    ·simp only [List.mem_singleton] at hx
     subst hx
     exact hfz q hq
   ·rcases hw.all i hi with g | ⟨p, hp, g⟩ | g
    ·exact .inl g
    ·exact .inr (.inl ⟨p, List.mem_append_left _ hp, g⟩)
    ·rcases g with g | g
     ·exact .inr (.inl ⟨z, by simp, g⟩)
     ·exact .inr (.inr g)
  ·
   have hef : ∀ p ∈ heads t, p.1.t = .ef := by
    cases t with
    | nil => intro p hp; cases hp
    | st z t' =>
     intro p hp
     simp only [heads, List.mem_singleton] at hp
     subst hp
     by_cases hz : z.t = .ef
     ·exact hz
     ·exact absurd ⟨z, t', rfl, hz⟩ hq
    | alt t u => exact hw.ok.1
   have hinent : ∀ p ∈ xs, EntOk ops p := fun p hp => hw.ent p (List.mem_append_left _ hp)
   have hlt_of : ∀ p, EntOk ops p → p.i < ops.size := fun p hp => (Array.getElem?_eq_some_iff.1 hp.at_).1
   -- something is ready
   have first : ∃ i, i ∈ Region.ready .any ops listed := by
    have mk : ∀ z : Ent3, z ∈ xs ++ trEnts t → (∀ e ∈ z.o.after, Region.binds .any e = true → ∀ q, q ∈ xs → e.on ≠ q.i) → (∀ e ∈ z.o.after, Region.binds .any e = true → ¬ cov t e.on) → z.i ∈ Region.ready .any ops listed := fun z hz h1 h2 => by
     have hz0 := hw.ent z hz
     refine mem_ready.2 ⟨hw.no z hz, z.o, hz0.at_, fun e hem hb => ?_⟩
     obtain ⟨hn1, hn2⟩ := hz0.noself e hem hb
     rcases hw.all e.on hn2 with h3 | ⟨p, hp, hpi⟩ | h3
     ·exact h3
     ·exact absurd hpi.symm (h1 e hem hb p hp)
     ·exact absurd h3 (h2 e hem hb)
    cases xs with
    | cons x0 r0 =>
     refine ⟨x0.i, mk x0 (by simp) (fun e he hb q hq => ?_) (fun e he hb hcv => ?_)⟩
     ·rcases List.mem_cons.1 hq with rfl | hq
      ·exact ((hw.ent q (by simp)).noself e he hb).1
      ·exact ((List.pairwise_cons.1 hw.pw).1 q hq).noedge e he hb
     ·obtain ⟨q, hq1, hq2⟩ := cov_ents hcv
      exact (hw.fr x0 (by simp) q hq1).noedge e he hb hq2.symm
    | nil =>
     obtain ⟨m, hm, hl⟩ := hw.len
     simp at hl
     subst hl
     obtain ⟨⟨z, t'⟩, hzt⟩ := len_succ hm
     have hz := head_ents hzt
     refine ⟨z.i, mk z (by simpa using hz.1) (fun e he hb q hq => by cases hq) (fun e he hb hcv => ?_)⟩
     rcases head_cov hzt hcv with h4 | h4
     ·exact ((hw.ent z (by simpa using hz.1)).noself e he hb).1 h4.symm
     ·obtain ⟨q, hq1, hq2⟩ := cov_ents h4
      exact ((head_ok hzt hw.ok).1 q hq1).2.1 e he hb hq2.symm
   obtain ⟨i0, hi0⟩ := first
   refine ⟨(fun hn => by rw [hn] at hi0; cases hi0), fun i hi => ?_⟩
   obtain ⟨h1, o, ho, hr⟩ := mem_ready.1 hi
   have hlt := (Array.getElem?_eq_some_iff.1 ho).1
   have notPath : ∀ p ∈ xs ++ trEnts t, ¬ Path ops i p.i := fun p hp hpath => by
    have h5 := Path.ready hw.cl ho hr hpath rfl
    exact listed_no (by rw [hw.sz]; exact hlt_of p (hw.ent p hp)) h5 (hw.no p hp)
   rcases hw.all i hlt with h2 | ⟨z, hz, hzi⟩ | h2
   ·exact (listed_no (by rw [hw.sz]; exact hlt) h2 h1).elim
   ·
    subst hzi
    obtain ⟨l, r, hs⟩ := List.append_of_mem hz
    subst hs
    have hpw := List.pairwise_append.1 hw.pw
    have hzok := hinent z hz
    have hov : ∀ x ∈ l, Over ops x z ∧ ∀ cs b, x.o.op ≠ .select cs b := fun x hx => by
     refine ⟨?_, (hinent x (List.mem_append_left _ hx)).nosel⟩
     rcases (hpw.2.2 x hx z (List.mem_cons_self ..)).rel with hp | hp
     ·exact absurd hp (notPath x (by simp [hx]))
     ·exact hp
    have hpre : pre (l ++ z :: r) t = pre l (.st z (pre r t)) := pre_append l (z :: r) t
    rw [hpre] at h
    have hstep := pull hzok.nosel l a w hov h
    rw [← pre_append] at hstep
    have hsub : (l ++ r).Sublist (l ++ z :: r) := List.Sublist.append_left (List.sublist_cons_self _ _) _
    have hne : ∀ p ∈ (l ++ r) ++ trEnts t, p.i ≠ z.i := fun p hpm => by
     rcases List.mem_append.1 hpm with hpm | hpm
     ·rcases List.mem_append.1 hpm with h2 | h2
      ·exact (hpw.2.2 p h2 z (List.mem_cons_self ..)).ne
      ·exact fun e => ((List.pairwise_cons.1 hpw.2.1).1 p h2).ne e.symm
     ·exact fun e => (hw.fr z hz p hpm).ne e.symm
    have hin : ∀ p ∈ (l ++ r) ++ trEnts t, p ∈ (l ++ z :: r) ++ trEnts t := fun p hp => by
     rcases List.mem_append.1 hp with hp | hp
     ·exact List.mem_append_left _ (hsub.subset hp)
     ·exact List.mem_append_right _ hp
    refine any_step (o := z.o) hCE hzok.at_ hc hstep fun a' w' hc' hk => any_of_X hCE hQ n t (l ++ r) _ a' w' ⟨?_, hw.pw.sublist hsub, fun x hx => hw.fr x (hsub.subset hx), hw.ok, fun p hp => hw.ent p (hin p hp), by simpa using hw.sz, fun j hj => ?_, fun p hp => ?_, next_listed hw.cl hzok.at_ (by
     have hoo : o = z.o := by
      have := hzok.at_
      rw [ho] at this
      injection this
     subst hoo
     exact hr)⟩ hc' hk
    ·obtain ⟨m, hm, hl⟩ := hw.len
     exact ⟨m, hm, by simp at hl ⊢; omega⟩
    ·by_cases hjz : z.i = j
     ·left
      subst hjz
      simp [Array.getD_eq_getD_getElem?, hw.sz, hj]
     ·rcases hw.all j hj with g | ⟨p, hp, g⟩ | g
      ·left; rw [getD_set_ne _ hjz]; exact g
      ·right; left
       refine ⟨p, ?_, g⟩
       rcases List.mem_append.1 hp with h3 | h3
       ·exact List.mem_append_left _ h3
       ·rcases List.mem_cons.1 h3 with rfl | h3
        ·exact absurd g hjz
        ·exact List.mem_append_right _ h3
      ·exact .inr (.inr g)
    ·rw [getD_set_ne _ (fun e => hne p hp e.symm)]
     exact hw.no p (hin p hp)
   ·
    have hhead : ∃ p ∈ heads t, p.1.i = i := by
     obtain ⟨m, hm, hl⟩ := hw.len
     have hm1 : ∃ k, m = k + 1 := by
      cases m with
      | zero => exact absurd h2 (zero_cov hm i)
      | succ k => exact ⟨k, rfl⟩
     obtain ⟨k, rfl⟩ := hm1
     obtain ⟨⟨z1, t1⟩, hz1⟩ := len_succ hm
     rcases head_cov hz1 h2 with h3 | h3
     ·exact ⟨_, hz1, h3⟩
     ·obtain ⟨q, hq1, hq2⟩ := cov_ents h3
      obtain ⟨_, _, g3⟩ := (head_ok hz1 hw.ok).1 q hq1
      rcases g3 with g3 | g3 | g3
      ·rw [hq2] at g3
       exact absurd g3 (notPath z1 (List.mem_append_right _ (head_ents hz1).1))
      ·obtain ⟨h, hh, h4 | h4⟩ := g3.2
       ·rw [← hq2, ← h4]
        exact hids_heads.1 hh
       ·obtain ⟨⟨zz, tt⟩, hp, hpi⟩ := hids_heads.1 hh
        simp only at hpi
        rw [hq2, ← hpi] at h4
        exact absurd h4 (notPath zz (List.mem_append_right _ (head_ents hp).1))
      ·exact absurd (hef _ hz1) g3.noef
    obtain ⟨⟨z, t'⟩, hzt, hzi⟩ := hhead
    simp only at hzi
    subst hzi
    have hze := head_ents hzt
    have hzok := hw.ent z (List.mem_append_right _ hze.1)
    have hov : ∀ x ∈ xs, Over ops x z ∧ ∀ cs b, x.o.op ≠ .select cs b := fun x hx => by
     refine ⟨?_, (hinent x hx).nosel⟩
     rcases (hw.fr x hx z hze.1).rel with hp | hp
     ·exact absurd hp (notPath x (List.mem_append_left _ hx))
     ·exact hp
    have hstep := pull hzok.nosel xs a w hov (pre_mono (fun a w hk => head_wp hzt hk) xs a w h)
    have hzc := head_ok hzt hw.ok
    have hne : ∀ p ∈ xs ++ trEnts t', p.i ≠ z.i := fun p hp => by
     rcases List.mem_append.1 hp with hp | hp
     ·exact (hw.fr p hp z hze.1).ne
     ·exact fun e => (hzc.1 p hp).1 e.symm
    have hin : ∀ p ∈ xs ++ trEnts t', p ∈ xs ++ trEnts t := fun p hp => by
     rcases List.mem_append.1 hp with hp | hp
     ·exact List.mem_append_left _ hp
     ·exact List.mem_append_right _ (hze.2 p hp)
    refine any_step (o := z.o) hCE hzok.at_ hc hstep fun a' w' hc' hk => any_of_X hCE hQ n t' xs _ a' w' ⟨?_, hw.pw, fun x hx q hq => hw.fr x hx q (hze.2 q hq), hzc.2, fun p hp => hw.ent p (hin p hp), by simpa using hw.sz, fun j hj => ?_, fun p hp => ?_, next_listed hw.cl hzok.at_ (by
     have hoo : o = z.o := by
      have := hzok.at_
      rw [ho] at this
      injection this
     subst hoo
     exact hr)⟩ hc' hk
    ·obtain ⟨m, hm, hl⟩ := hw.len
     obtain ⟨k, rfl, hk⟩ := head_len hzt hm
     exact ⟨k, hk, by omega⟩
    ·by_cases hjz : z.i = j
     ·left
      subst hjz
      simp [Array.getD_eq_getD_getElem?, hw.sz, hj]
     ·rcases hw.all j hj with g | g | g
      ·left; rw [getD_set_ne _ hjz]; exact g
      ·exact .inr (.inl g)
      ·rcases head_cov hzt g with g | g
       ·exact absurd g hjz
       ·exact .inr (.inr g)
    ·rw [getD_set_ne _ (fun e => hne p hp e.symm)]
     exact hw.no p (hin p hp)
 termination_by n t => (n, SizeOf.sizeOf t)
end
end Go.Proofs.YtelepclajhpnfaaGreatDoor
