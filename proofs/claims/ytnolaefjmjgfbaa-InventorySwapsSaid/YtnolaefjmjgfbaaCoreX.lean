/-
  The core: regions whose order is open and that also write: one walk, in an order of one's own, serves every order.
  Conditions: none.
-/
import Derived.Test.YtnolaefjmjgfbaaCore9
namespace Go.Proofs.Ytnolaefjmjgfbaa
open Go
set_option linter.unusedSectionVars false
set_option linter.unusedVariables false

/-- How an operation stands to the others: it reads what no operation of the region turns (fl), it reads and comes before all that writes later (fx), it calls what writes nothing (qc), it writes (ef). -/
inductive Tg where
  | fl | fx | qc | ef
  deriving DecidableEq

structure Ent3 where
  t : Tg
  i : Nat
  o : Oper

def NoQ : Exit → Act → World → Prop := fun _ _ _ => False

section
variable {P : Program} {ops : Array Oper} {C : World → Prop} {Q : Act → World → Prop}

/-- One operation. -/
def stepX (P : Program) (ops : Array Oper) (C : World → Prop) (z : Ent3) (a : Act) (w : World) (K : Act → World → Prop) : Prop :=
  if Region.wanted z.o (yielded ops a.tmps) = true then
    match z.t with
    | .fl => ∃ v, (∀ w', C w' → (execOp a.eval z.o).run P w' = .ok (.value v) w') ∧ K (a.put z.o.dst v) w
    | .fx => ∃ v, (∀ w', Ext w w' → (execOp a.eval z.o).run P w' = .ok (.value v) w') ∧ K (a.put z.o.dst v) w
    | .qc => ∃ v f args, (∀ w', C w' → (execOp a.eval z.o).run P w' = .ok (.enter f args) w') ∧ (∀ w', C w' → Calls P f args w' fun e w'' => e = .returned v ∧ Ext w' w'') ∧ K (a.put z.o.dst v) w
    | .ef => ∀ w', Ext w w' → z.o.wp P a w' (fun a' w'' => C w'' ∧ K a' w'') NoQ
  else K (a.put z.o.dst undef) w

def wpX (P : Program) (ops : Array Oper) (C : World → Prop) (Q : Act → World → Prop) : List Ent3 → Act → World → Prop
  | [], a, w => ∀ w', Ext w w' → Q a w'
  | z :: rest, a, w => stepX P ops C z a w (wpX P ops C Q rest)

theorem wpX_ext : ∀ {r : List Ent3} {a : Act} {w w' : World}, wpX P ops C Q r a w → Ext w w' → wpX P ops C Q r a w'
  | [], a, w, w', h, he => fun w'' h2 => h w'' (he.trans h2)
  | z :: rest, a, w, w', h, he => by
    unfold wpX stepX at h ⊢
    split
    · rename_i hw
      rw [if_pos hw] at h
      cases ht : z.t with
      | fl =>
        rw [ht] at h
        obtain ⟨v, h1, h2⟩ := h
        exact ⟨v, h1, wpX_ext h2 he⟩
      | fx =>
        rw [ht] at h
        obtain ⟨v, h1, h2⟩ := h
        exact ⟨v, fun w'' h3 => h1 w'' (he.trans h3), wpX_ext h2 he⟩
      | qc =>
        rw [ht] at h
        obtain ⟨v, f, args, h1, h2, h3⟩ := h
        exact ⟨v, f, args, h1, h2, wpX_ext h3 he⟩
      | ef =>
        rw [ht] at h
        exact fun w'' h3 => h w'' (he.trans h3)
    · rename_i hw
      rw [if_neg hw] at h
      exact wpX_ext h he

theorem wp_imp {o : Oper} {a : Act} {w : World} {K K' : Act → World → Prop} {Q' : Exit → Act → World → Prop} (h : ∀ a w, K a w → K' a w) (hh : o.wp P a w K NoQ) : o.wp P a w K' Q' := by
  unfold Oper.wp at *
  generalize (execOp a.eval o).run P w = r at *
  cases r with
  | ok n w' =>
    cases n <;> simp only [Oper.upon] at hh ⊢
    case value v => exact h _ _ hh
    case skip => exact h _ _ hh
    case defer d => exact h _ _ hh
    case enter f args =>
      refine hh.mono fun e w'' he => ?_
      cases e with
      | returned v => exact h _ _ he
      | panicked ch => exact he.elim
      | outgrown => obtain ⟨_, _, hf⟩ := he; exact hf.elim
    case row r args => exact hh.mono fun v w'' hv => h _ _ hv
  | halt x w' =>
    cases x <;> simp only [Oper.upon] at hh ⊢
    exact hh.elim

/-- The same operation where another one has not been run yet. -/
theorem wp_before {o : Oper} {a : Act} {d : Option Tmp} {v : Value} {w : World} {K K' : Act → World → Prop} (hs : ∀ cs b, o.op ≠ .select cs b) (hd : ∀ t, d = some t → t ∉ o.looksAt ops)
    (h : ∀ (b : Act) u w', b.tmps = a.tmps → K ((b.put d v).put o.dst u) w' → K' (b.put o.dst u) w') (hh : o.wp P (a.put d v) w K NoQ) : o.wp P a w K' NoQ := by
  unfold Oper.wp at *
  rw [execOp_put (ops := ops) o hs a d v hd] at hh
  generalize (execOp a.eval o).run P w = r at *
  cases r with
  | ok n w' =>
    cases n <;> simp only [Oper.upon] at hh ⊢
    case value u => exact h a u w' rfl hh
    case skip => exact h a undef w' rfl hh
    case defer df =>
      refine h { a with defers := df :: a.defers } undef w' rfl ?_
      rw [Act.put_defers] at hh
      exact hh
    case enter f args =>
      refine hh.mono fun e w'' he => ?_
      cases e with
      | returned u => exact h a u w'' rfl he
      | panicked ch => exact he.elim
      | outgrown => obtain ⟨_, _, hf⟩ := he; exact hf.elim
    case row r args => exact hh.mono fun u w'' hv => h a u w'' rfl hv
  | halt x w' =>
    cases x <;> simp only [Oper.upon] at hh ⊢
    exact hh.elim

theorem eval_tmps {a b : Act} (h : b.tmps = a.tmps) : b.eval = a.eval := by
  funext x
  cases x <;> simp [Act.eval, h]

/-- What is asked of an operation that stands in front of another one that may come up before it. -/
structure Over (ops : Array Oper) (x z : Ent3) : Prop where
  apart : x.o.apart ops z.o = true
  noef : x.t ≠ .ef
  fl : z.t = .ef → x.t ≠ .fx

/-- The quiet operation x behind z. -/
theorem after_z {x z : Ent3} {a b : Act} {w w' : World} {v u : Value} {K : Act → World → Prop} (hsx : ∀ cs b, x.o.op ≠ .select cs b) (ho : Over ops x z) (hb : b.tmps = a.tmps) (hw : Region.wanted x.o (yielded ops a.tmps) = true)
    (hrun : (x.t = .fl ∧ (∀ w', C w' → (execOp a.eval x.o).run P w' = .ok (.value v) w')) ∨ (x.t = .fx ∧ w' = w ∧ (∀ w', Ext w w' → (execOp a.eval x.o).run P w' = .ok (.value v) w')) ∨ (x.t = .qc ∧ ∃ f args, (∀ w', C w' → (execOp a.eval x.o).run P w' = .ok (.enter f args) w') ∧ (∀ w', C w' → Calls P f args w' fun e w'' => e = .returned v ∧ Ext w' w'')))
    (hk : K ((b.put x.o.dst v).put z.o.dst u) w') : stepX P ops C x (b.put z.o.dst u) w' K := by
  obtain ⟨h1, h2, h3⟩ := Oper.apart_spec ho.apart
  have he : execOp (b.put z.o.dst u).eval x.o = execOp a.eval x.o := by
    rw [execOp_put (ops := ops) x.o hsx b z.o.dst u h3, eval_tmps hb]
  have hwb : Region.wanted x.o (yielded ops (b.put z.o.dst u).tmps) = true := by
    rw [wanted_put (ops := ops) x.o b z.o.dst u h3, hb]
    exact hw
  have hput : (b.put x.o.dst v).put z.o.dst u = (b.put z.o.dst u).put x.o.dst v := Act.put_comm b v u h2
  rw [hput] at hk
  unfold stepX
  rw [if_pos hwb]
  rcases hrun with ⟨ht, hr⟩ | ⟨ht, rfl, hr⟩ | ⟨ht, f, args, hr, hc⟩
  · rw [ht]
    exact ⟨v, fun w' hc => by rw [he]; exact hr w' hc, hk⟩
  · rw [ht]
    exact ⟨v, fun w' hc => by rw [he]; exact hr w' hc, hk⟩
  · rw [ht]
    exact ⟨v, f, args, fun w' hcw => by rw [he]; exact hr w' hcw, hc, hk⟩

theorem after_z_off {x z : Ent3} {a b : Act} {w' : World} {u : Value} {K : Act → World → Prop} (ho : Over ops x z) (hb : b.tmps = a.tmps) (hw : ¬ Region.wanted x.o (yielded ops a.tmps) = true)
    (hk : K ((b.put x.o.dst undef).put z.o.dst u) w') : stepX P ops C x (b.put z.o.dst u) w' K := by
  obtain ⟨h1, h2, h3⟩ := Oper.apart_spec ho.apart
  have hwb : ¬ Region.wanted x.o (yielded ops (b.put z.o.dst u).tmps) = true := by
    rw [wanted_put (ops := ops) x.o b z.o.dst u h3, hb]
    exact hw
  have hput : (b.put x.o.dst undef).put z.o.dst u = (b.put z.o.dst u).put x.o.dst undef := Act.put_comm b undef u h2
  rw [hput] at hk
  unfold stepX
  rw [if_neg hwb]
  exact hk

/-- Where an operation may come up before those in front of it. -/
theorem pull {z : Ent3} {ys : List Ent3} (hsz : ∀ cs b, z.o.op ≠ .select cs b) : ∀ (xs : List Ent3) (a : Act) (w : World), (∀ x ∈ xs, Over ops x z ∧ ∀ cs b, x.o.op ≠ .select cs b) → wpX P ops C Q (xs ++ z :: ys) a w →
    stepX P ops C z a w (wpX P ops C Q (xs ++ ys))
  | [], a, w, _, h => h
  | x :: xs, a, w, hx, h => by
    obtain ⟨ho, hsx⟩ := hx x (List.mem_cons_self ..)
    obtain ⟨h1, h2, h3⟩ := Oper.apart_spec ho.apart
    have hx' : ∀ y ∈ xs, Over ops y z ∧ ∀ cs b, y.o.op ≠ .select cs b := fun y hy => hx y (List.mem_cons_of_mem _ hy)
    have main : ∀ (v : Value), wpX P ops C Q (xs ++ z :: ys) (a.put x.o.dst v) w →
        (∀ (b : Act) (u : Value) (w' : World), b.tmps = a.tmps → (w' = w ∨ z.t = .ef) → wpX P ops C Q (xs ++ ys) ((b.put x.o.dst v).put z.o.dst u) w' → stepX P ops C x (b.put z.o.dst u) w' (wpX P ops C Q (xs ++ ys))) →
        stepX P ops C z a w (wpX P ops C Q (x :: xs ++ ys)) := by
      intro v hv hafter
      have ih := pull hsz xs (a.put x.o.dst v) w hx' hv
      unfold stepX at ih ⊢
      rw [wanted_put (ops := ops) z.o a x.o.dst v h1] at ih
      split
      · rename_i hwz
        rw [if_pos hwz] at ih
        cases htz : z.t with
        | fl =>
          rw [htz] at ih
          obtain ⟨u, hu, hk⟩ := ih
          exact ⟨u, fun w' hc => by rw [← execOp_put (ops := ops) z.o hsz a x.o.dst v h1]; exact hu w' hc, hafter a u w rfl (.inl rfl) hk⟩
        | fx =>
          rw [htz] at ih
          obtain ⟨u, hu, hk⟩ := ih
          exact ⟨u, fun w' hc => by rw [← execOp_put (ops := ops) z.o hsz a x.o.dst v h1]; exact hu w' hc, hafter a u w rfl (.inl rfl) hk⟩
        | qc =>
          rw [htz] at ih
          obtain ⟨u, f, args, hu, hcalls, hk⟩ := ih
          exact ⟨u, f, args, fun w' hc => by rw [← execOp_put (ops := ops) z.o hsz a x.o.dst v h1]; exact hu w' hc, hcalls, hafter a u w rfl (.inl rfl) hk⟩
        | ef =>
          rw [htz] at ih
          exact fun w1 he1 => wp_before (ops := ops) hsz h1 (fun b u w' hb hk => ⟨hk.1, hafter b u w' hb (.inr htz) hk.2⟩) (ih w1 he1)
      · rename_i hwz
        rw [if_neg hwz] at ih
        exact hafter a undef w rfl (.inl rfl) ih
    have h' : stepX P ops C x a w (wpX P ops C Q (xs ++ z :: ys)) := h
    unfold stepX at h'
    by_cases hwx : Region.wanted x.o (yielded ops a.tmps) = true
    · rw [if_pos hwx] at h'
      cases htx : x.t with
      | fl =>
        rw [htx] at h'
        obtain ⟨v, hv, hk⟩ := h'
        exact main v hk fun b u w' hb _ hw' => after_z (w := w) hsx ho hb hwx (.inl ⟨htx, hv⟩) hw'
      | fx =>
        rw [htx] at h'
        obtain ⟨v, hv, hk⟩ := h'
        refine main v hk fun b u w' hb hor hw' => after_z (w := w) hsx ho hb hwx (.inr (.inl ⟨htx, ?_, hv⟩)) hw'
        rcases hor with h | h
        · exact h
        · exact absurd htx (ho.fl h)
      | qc =>
        rw [htx] at h'
        obtain ⟨v, f, args, hv, hcalls, hk⟩ := h'
        exact main v hk fun b u w' hb _ hw' => after_z (w := w) hsx ho hb hwx (.inr (.inr ⟨htx, f, args, hv, hcalls⟩)) hw'
      | ef => exact absurd htx ho.noef
    · rw [if_neg hwx] at h'
      exact main undef h' fun b u w' hb _ hw' => after_z_off ho hb hwx hw'

/-! ## Which orders there are -/

inductive Path (ops : Array Oper) : Nat → Nat → Prop
  | edge {i : Nat} {o : Oper} {e : Edge} (ho : ops[i]? = some o) (he : e ∈ o.after) (hb : Region.binds .any e = true) : Path ops i e.on
  | trans {i j k : Nat} (h : Path ops i j) (h2 : Path ops j k) : Path ops i k

def Closed (ops : Array Oper) (listed : Array Bool) : Prop := ∀ i, listed.getD i false = true → ∀ o, ops[i]? = some o → ∀ e ∈ o.after, Region.binds .any e = true → listed.getD e.on false = true

theorem Path.listed {listed : Array Bool} (hc : Closed ops listed) : ∀ {i j : Nat}, Path ops i j → listed.getD i false = true → listed.getD j false = true
  | _, _, .edge ho he hb, hi => hc _ hi _ ho _ he hb
  | _, _, .trans h h2, hi => Path.listed hc h2 (Path.listed hc h hi)
theorem Path.ready {listed : Array Bool} (hc : Closed ops listed) {z : Nat} {o : Oper} (ho : ops[z]? = some o) (hr : ∀ e ∈ o.after, Region.binds .any e = true → listed.getD e.on false = true) : ∀ {i j : Nat}, Path ops i j → i = z → listed.getD j false = true
  | _, _, .edge ho' he hb, hi => by
    subst hi
    rw [ho] at ho'
    injection ho' with ho'
    subst ho'
    exact hr _ he hb
  | _, _, .trans h h2, hi => Path.listed hc h2 (Path.ready hc ho hr h hi)

/-- p stands in front of q. -/
structure Front (ops : Array Oper) (p q : Ent3) : Prop where
  ne : p.i ≠ q.i
  noedge : ∀ e ∈ p.o.after, Region.binds .any e = true → e.on ≠ q.i
  rel : Path ops q.i p.i ∨ Over ops p q

structure EntOk (ops : Array Oper) (p : Ent3) : Prop where
  at_ : ops[p.i]? = some p.o
  nosel : ∀ cs b, p.o.op ≠ .select cs b
  noself : ∀ e ∈ p.o.after, Region.binds .any e = true → e.on ≠ p.i ∧ e.on < ops.size

theorem any_of_X {Q' : Exit → Act → World → Prop} (hCE : ∀ w w', C w → Ext w w' → C w') (hQ : ∀ a w, Q a w → Q' .normal a w) : ∀ (r : List Ent3) (listed : Array Bool) (a : Act) (w : World), r.Pairwise (Front ops) → (∀ p ∈ r, EntOk ops p) → listed.size = ops.size →
    (∀ i, i < ops.size → (listed.getD i false = true ∨ ∃ p ∈ r, p.i = i)) → (∀ p ∈ r, listed.getD p.i true = false) → Closed ops listed → C w → wpX P ops C Q r a w → wpAny P .any ops Q' r.length listed a w
  | [], listed, a, w, hp, he, hsz, hall, hno, hcl, hc, h => by
    refine ⟨?_, hQ _ _ (h w (Ext.refl w))⟩
    rw [List.eq_nil_iff_forall_not_mem]
    intro i hi
    obtain ⟨h1, o, ho, _⟩ := mem_ready.1 hi
    have hlt := (Array.getElem?_eq_some_iff.1 ho).1
    rcases hall i hlt with h2 | ⟨p, hp, _⟩
    · simp only [Array.getD_eq_getD_getElem?] at h1 h2
      rw [Array.getElem?_eq_getElem (by omega)] at h1 h2
      simp at h1 h2
      rw [h1] at h2
      cases h2
    · cases hp
  | z0 :: r0, listed, a, w, hp, he, hsz, hall, hno, hcl, hc, h => by
    have hz0 := he z0 (List.mem_cons_self ..)
    have first : z0.i ∈ Region.ready .any ops listed := by
      refine mem_ready.2 ⟨hno z0 (List.mem_cons_self ..), z0.o, hz0.at_, fun e hem hb => ?_⟩
      obtain ⟨hn1, hn2⟩ := hz0.noself e hem hb
      rcases hall e.on hn2 with h2 | ⟨p, hpm, hpi⟩
      · exact h2
      · rcases List.mem_cons.1 hpm with rfl | hpm
        · exact absurd hpi.symm hn1
        · have := (List.pairwise_cons.1 hp).1 p hpm
          exact absurd hpi.symm (this.noedge e hem hb)
    refine ⟨(fun hn => by rw [hn] at first; cases first), fun i hi => ?_⟩
    obtain ⟨h1, o, ho, hr⟩ := mem_ready.1 hi
    have hlt := (Array.getElem?_eq_some_iff.1 ho).1
    have hin : ∃ p ∈ z0 :: r0, p.i = i := by
      rcases hall i hlt with h2 | h2
      · simp only [Array.getD_eq_getD_getElem?] at h1 h2
        rw [Array.getElem?_eq_getElem (by omega)] at h1 h2
        simp at h1 h2
        rw [h1] at h2
        cases h2
      · exact h2
    obtain ⟨z, hz, rfl⟩ := hin
    have hzok := he z hz
    have hoo : o = z.o := by
      have := hzok.at_
      rw [ho] at this
      injection this
    subst hoo
    obtain ⟨xs, ys, hs⟩ := List.append_of_mem hz
    rw [hs] at hp he hall hno h
    have hpw := List.pairwise_append.1 hp
    have hov : ∀ x ∈ xs, Over ops x z ∧ ∀ cs b, x.o.op ≠ .select cs b := fun x hx => by
      refine ⟨?_, (he x (List.mem_append_left _ hx)).nosel⟩
      have hf := hpw.2.2 x hx z (List.mem_cons_self ..)
      rcases hf.rel with hpath | hover
      · have h5 := Path.ready hcl hzok.at_ hr hpath rfl
        have h6 := hno x (List.mem_append_left _ hx)
        have hxl := (Array.getElem?_eq_some_iff.1 (he x (List.mem_append_left _ hx)).at_).1
        simp only [Array.getD_eq_getD_getElem?] at h5 h6
        rw [Array.getElem?_eq_getElem (by omega)] at h5 h6
        simp at h5 h6
        rw [h6] at h5
        cases h5
      · exact hover
    have hstep := pull hzok.nosel xs a w hov h
    have hsub : (xs ++ ys).Sublist (xs ++ z :: ys) := List.Sublist.append_left (List.sublist_cons_self _ _) _
    have hlen : (z0 :: r0).length = (xs ++ ys).length + 1 := by rw [hs]; simp; omega
    have hne : ∀ p ∈ xs ++ ys, p.i ≠ z.i := fun p hpm => by
      rcases List.mem_append.1 hpm with h2 | h2
      · exact (hpw.2.2 p h2 z (List.mem_cons_self ..)).ne
      · exact fun e => ((List.pairwise_cons.1 hpw.2.1).1 p h2).ne e.symm
    have next : ∀ a' w', C w' → wpX P ops C Q (xs ++ ys) a' w' → wpAny P .any ops Q' (xs ++ ys).length (listed.setIfInBounds z.i true) a' w' := fun a' w' hc' hk =>
      any_of_X hCE hQ (xs ++ ys) _ a' w' (hp.sublist hsub) (fun p hpm => he p (hsub.subset hpm)) (by simpa using hsz) (fun j hj => by
        by_cases hjz : z.i = j
        · left
          subst hjz
          simp [Array.getD_eq_getD_getElem?, hsz, hj]
        · rcases hall j hj with h2 | ⟨p, hpm, hpi⟩
          · left; rw [getD_set_ne _ hjz]; exact h2
          · right
            refine ⟨p, ?_, hpi⟩
            rcases List.mem_append.1 hpm with h3 | h3
            · exact List.mem_append_left _ h3
            · rcases List.mem_cons.1 h3 with rfl | h3
              · exact absurd hpi hjz
              · exact List.mem_append_right _ h3) (fun p hpm => by
        rw [getD_set_ne _ (fun e => hne p hpm e.symm)]
        exact hno p (hsub.subset hpm)) (fun j hj oj hoj e hem hb => by
        by_cases hjz : z.i = j
        · subst hjz
          rw [ho] at hoj
          injection hoj with hoj
          subst hoj
          exact getD_set_true (hr e hem hb)
        · rw [getD_set_ne _ hjz] at hj
          exact getD_set_true (hcl j hj oj hoj e hem hb)) hc' hk
    rw [show r0.length = (xs ++ ys).length by simp only [List.length_cons] at hlen; omega]
    unfold wpOp
    rw [ho]
    unfold stepX at hstep
    simp only
    split
    · rename_i hwz
      rw [if_pos hwz] at hstep
      left
      cases htz : z.t with
      | fl =>
        rw [htz] at hstep
        obtain ⟨v, hv, hk⟩ := hstep
        unfold Oper.wp
        rw [hv w hc]
        exact next _ _ hc hk
      | fx =>
        rw [htz] at hstep
        obtain ⟨v, hv, hk⟩ := hstep
        unfold Oper.wp
        rw [hv w (Ext.refl w)]
        exact next _ _ hc hk
      | qc =>
        rw [htz] at hstep
        obtain ⟨v, f, args, hv, hcalls, hk⟩ := hstep
        unfold Oper.wp
        rw [hv w hc]
        exact (hcalls w hc).mono fun e w'' he => by
          obtain ⟨rfl, hext⟩ := he
          exact next _ _ (hCE _ _ hc hext) (wpX_ext hk hext)
      | ef =>
        rw [htz] at hstep
        exact wp_imp (fun a' w' hk => next a' w' hk.1 hk.2) (hstep w (Ext.refl w))
    · rename_i hwz
      rw [if_neg hwz] at hstep
      exact next _ _ hc hstep
  termination_by r => r.length
  decreasing_by all_goals (rw [hs]; simp)

end
end Go.Proofs.Ytnolaefjmjgfbaa
