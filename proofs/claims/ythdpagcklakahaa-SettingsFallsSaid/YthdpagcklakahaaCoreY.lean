/-
  The core: the quick look at a region whose order is open and that writes; the rules of its walk.
  Conditions: none.
-/
import Derived.Test.YthdpagcklakahaaCoreX
namespace Go.Proofs.Ythdpagcklakahaa
open Go
set_option linter.unusedSectionVars false
set_option linter.unusedVariables false

def lookM : List (Nat × Nat) → Nat → Nat
  | [], _ => 0
  | x :: r, i => bif Nat.beq x.1 i then x.2 else lookM r i

def maskOf (tbl : List (Nat × Nat)) : List Nat → Nat
  | [] => 0
  | e :: r => (2 ^ e ||| lookM tbl e) ||| maskOf tbl r

def tagsOk : Tg → Tg → Bool
  | .ef, _ => false
  | .fx, .ef => false
  | _, _ => true

def isEf : Tg → Bool
  | .ef => true
  | _ => false

def anyH (m i : Nat) : List Nat → Bool
  | [] => false
  | h :: r => bif Nat.beq h i then true else bif m.testBit h then true else anyH m i r
theorem anyH_spec {m i : Nat} : ∀ {l : List Nat}, anyH m i l = true → ∃ h ∈ l, h = i ∨ m.testBit h = true
  | [], h => by simp [anyH] at h
  | x :: r, h => by
    simp only [anyH] at h
    cases h1 : Nat.beq x i
    · simp only [h1, cond_false] at h
      cases h2 : m.testBit x
      · simp only [h2, cond_false] at h
        obtain ⟨y, hy, h3⟩ := anyH_spec h
        exact ⟨y, List.mem_cons_of_mem _ hy, h3⟩
      · exact ⟨x, List.mem_cons_self .., .inr h2⟩
    · exact ⟨x, List.mem_cons_self .., .inl (Nat.eq_of_beq_eq_true h1)⟩

def pairOk (ops : Array Oper) (m : Nat) (p : Ent3 × List Nat) (z : Ent3) : Bool := bif m.testBit p.1.i then true else bif isEf p.1.t then anyH m z.i p.2 else bif p.1.o.apart ops z.o then tagsOk p.1.t z.t else false

def allB {α : Type} (f : α → Bool) : List α → Bool
  | [] => true
  | x :: r => bif f x then allB f r else false
theorem allB_spec {α : Type} {f : α → Bool} : ∀ {l : List α}, allB f l = true → ∀ x ∈ l, f x = true
  | [], _, _, h => by cases h
  | y :: r, h, x, hx => by
    simp only [allB] at h
    cases hb : f y
    · simp [hb] at h
    · simp only [hb, cond_true] at h
      cases hx with
      | head => exact hb
      | tail _ hx => exact allB_spec h x hx

def efHeads : Tr → Bool
  | .nil => true
  | .st z _ => isEf z.t
  | .alt t u => bif efHeads t then efHeads u else false

theorem efHeads_spec : ∀ {t : Tr}, efHeads t = true → allEf t
  | .nil, _ => fun p hp => by cases hp
  | .st z t, h => fun p hp => by
    simp only [heads, List.mem_singleton] at hp
    subst hp
    simp only [efHeads] at h
    cases hz : z.t <;> simp_all [isEf]
  | .alt t u, h => fun p hp => by
    simp only [efHeads] at h
    cases ht : efHeads t <;> simp only [ht, cond_true, cond_false] at h <;> try cases h
    rcases List.mem_append.1 hp with hp | hp
    · exact efHeads_spec ht p hp
    · exact efHeads_spec h p hp

def xchk (ops : Array Oper) : Tr → List Nat → List (Ent3 × List Nat) → List (Nat × Nat) → Nat → Nat → Bool
  | .nil, _, _, _, done, k => bif Nat.beq k ops.size then allB (fun i => done.testBit i) (List.range ops.size) else false
  | .st z r, H, prev, tbl, done, k =>
    bif allB (fun e => done.testBit e) (edgesOf z.o) then bif done.testBit z.i then false else bif notSel z.o.op then
      bif allB (fun p => pairOk ops (maskOf tbl (edgesOf z.o)) p z) prev then xchk ops r (hids r) ((z, H) :: prev) ((z.i, maskOf tbl (edgesOf z.o)) :: tbl) (done ||| 2 ^ z.i) (k + 1) else false else false else false
  | .alt t u, H, prev, tbl, done, k => bif efHeads (.alt t u) then bif xchk ops t H prev tbl done k then xchk ops u H prev tbl done k else false else false

theorem lookM_path {ops : Array Oper} : ∀ {tbl : List (Nat × Nat)}, (∀ x ∈ tbl, ∀ j, x.2.testBit j = true → Path ops x.1 j) → ∀ i j, (lookM tbl i).testBit j = true → Path ops i j
  | [], _, i, j, h => by simp [lookM] at h
  | x :: r, ht, i, j, h => by
    simp only [lookM] at h
    cases hb : Nat.beq x.1 i
    · simp only [hb, cond_false] at h
      exact lookM_path (fun y hy => ht y (List.mem_cons_of_mem _ hy)) i j h
    · simp only [hb, cond_true] at h
      have := Nat.eq_of_beq_eq_true hb
      rw [← this]
      exact ht x (List.mem_cons_self ..) j h

theorem maskOf_path {ops : Array Oper} {tbl : List (Nat × Nat)} (ht : ∀ x ∈ tbl, ∀ j, x.2.testBit j = true → Path ops x.1 j) {i : Nat} : ∀ (es : List Nat), (∀ e ∈ es, Path ops i e) → ∀ j, (maskOf tbl es).testBit j = true → Path ops i j
  | [], _, j, h => by simp [maskOf] at h
  | e :: r, he, j, h => by
    simp only [maskOf, Nat.testBit_or, Bool.or_eq_true] at h
    rcases h with (h | h) | h
    · rw [Nat.testBit_two_pow] at h
      simp only [decide_eq_true_eq] at h
      subst h
      exact he _ (List.mem_cons_self ..)
    · exact (he e (List.mem_cons_self ..)).trans (lookM_path ht e j h)
    · exact maskOf_path ht r (fun x hx => he x (List.mem_cons_of_mem _ hx)) j h

theorem tagsOk_spec {p z : Tg} (h : tagsOk p z = true) : p ≠ .ef ∧ (z = .ef → p ≠ .fx) := by
  cases p <;> cases z <;> simp_all [tagsOk]

theorem xchk_ok {ops : Array Oper} : ∀ (r : Tr) (H : List Nat) (prev : List (Ent3 × List Nat)) (tbl : List (Nat × Nat)) (done k : Nat), (∀ z ∈ trEnts r, ops[z.i]? = some z.o) → (∀ z ∈ prev, ops[z.1.i]? = some z.1.o) → (∀ x ∈ tbl, ∀ j, x.2.testBit j = true → Path ops x.1 j) → (∀ j, done.testBit j = true ↔ ∃ p ∈ prev, p.1.i = j) →
    xchk ops r H prev tbl done k = true → okT ops H r ∧ (∀ p ∈ prev, ∀ q ∈ trEnts r, p.1.i ≠ q.i ∧ (Path ops q.i p.1.i ∨ (p.1.t = .ef ∧ ∃ h ∈ p.2, h = q.i ∨ Path ops q.i h) ∨ Over ops p.1 q)) ∧ (∀ p ∈ trEnts r, EntOk ops p) ∧ (∀ i, i < ops.size → (∃ p ∈ prev, p.1.i = i) ∨ cov r i) ∧ ∃ m, lenT r m ∧ k + m = ops.size
  | .nil, H, prev, tbl, done, k, hr, hp, ht, hd, h => by
    simp only [xchk] at h
    cases h0 : Nat.beq k ops.size <;> simp only [h0, cond_true, cond_false] at h <;> try cases h
    refine ⟨trivial, (fun _ _ _ h => by cases h), (fun _ h => by cases h), fun i hi => ?_, 0, rfl, Nat.eq_of_beq_eq_true h0⟩
    exact .inl ((hd i).1 (allB_spec h i (List.mem_range.2 hi)))
  | .alt t u, H, prev, tbl, done, k, hr, hp, ht, hd, h => by
    simp only [xchk] at h
    cases h1 : efHeads (.alt t u) <;> simp only [h1, cond_true, cond_false] at h <;> try cases h
    cases h2 : xchk ops t H prev tbl done k <;> simp only [h2, cond_true, cond_false] at h <;> try cases h
    obtain ⟨a1, a2, a3, a4, m1, a5, a6⟩ := xchk_ok t H prev tbl done k (fun z hz => hr z (List.mem_append_left _ hz)) hp ht hd h2
    obtain ⟨b1, b2, b3, b4, m2, b5, b6⟩ := xchk_ok u H prev tbl done k (fun z hz => hr z (List.mem_append_right _ hz)) hp ht hd h
    have hm : m1 = m2 := by omega
    subst hm
    refine ⟨⟨efHeads_spec h1, a1, b1⟩, fun p hpm q hq => ?_, fun p hpm => ?_, fun i hi => ?_, m1, ⟨a5, b5⟩, a6⟩
    · rcases List.mem_append.1 hq with hq | hq
      · exact a2 p hpm q hq
      · exact b2 p hpm q hq
    · rcases List.mem_append.1 hpm with hpm | hpm
      · exact a3 p hpm
      · exact b3 p hpm
    · rcases a4 i hi with h3 | h3
      · exact .inl h3
      · rcases b4 i hi with h4 | h4
        · exact .inl h4
        · exact .inr ⟨h3, h4⟩
  | .st z r, H, prev, tbl, done, k, hr, hp, ht, hd, h => by
    simp only [xchk] at h
    cases h1 : allB (fun e => done.testBit e) (edgesOf z.o) <;> simp only [h1, cond_true, cond_false] at h <;> try cases h
    cases h2 : done.testBit z.i <;> simp only [h2, cond_true, cond_false] at h <;> try cases h
    cases h3 : notSel z.o.op <;> simp only [h3, cond_true, cond_false] at h <;> try cases h
    cases h4 : allB (fun p => pairOk ops (maskOf tbl (edgesOf z.o)) p z) prev <;> simp only [h4, cond_true, cond_false] at h <;> try cases h
    have hzo := hr z (List.mem_cons_self ..)
    have hmask : ∀ j, (maskOf tbl (edgesOf z.o)).testBit j = true → Path ops z.i j := maskOf_path ht _ fun e he => by
      obtain ⟨e', he', hb, rfl⟩ := mem_edgesOf.1 he
      exact .edge hzo he' hb
    have hedge : ∀ e ∈ z.o.after, Region.binds .any e = true → ∃ p ∈ prev, p.1.i = e.on := fun e he hb => (hd _).1 (allB_spec h1 _ (mem_edgesOf.2 ⟨e, he, hb, rfl⟩))
    have hzn : ¬ ∃ p ∈ prev, p.1.i = z.i := fun hc => by
      have := (hd _).2 hc
      rw [h2] at this
      cases this
    obtain ⟨g1, g2, g3, g4, m, g5, g6⟩ := xchk_ok r (hids r) ((z, H) :: prev) _ _ _ (fun y hy => hr y (List.mem_cons_of_mem _ hy)) (fun y hy => by
        rcases List.mem_cons.1 hy with rfl | hy
        · exact hzo
        · exact hp y hy) (fun x hx j hj => by
        rcases List.mem_cons.1 hx with rfl | hx
        · exact hmask j hj
        · exact ht x hx j hj) (fun j => by
        simp only [Nat.testBit_or, Bool.or_eq_true, hd, Nat.testBit_two_pow, decide_eq_true_eq, List.mem_cons, exists_eq_or_imp]
        exact ⟨fun hh => hh.elim (fun h => .inr h) fun h => .inl h, fun hh => hh.elim (fun h => .inr h) fun h => .inl h⟩) h
    have hpz : ∀ p ∈ prev, p.1.i ≠ z.i ∧ (Path ops z.i p.1.i ∨ (p.1.t = .ef ∧ ∃ h ∈ p.2, h = z.i ∨ Path ops z.i h) ∨ Over ops p.1 z) := fun p hpm => by
      refine ⟨fun e => hzn ⟨p, hpm, e⟩, ?_⟩
      have h5 := allB_spec h4 p hpm
      unfold pairOk at h5
      cases hm : (maskOf tbl (edgesOf z.o)).testBit p.1.i
      · simp only [hm, cond_false] at h5
        cases he : isEf p.1.t
        · simp only [he, cond_false] at h5
          cases ha : p.1.o.apart ops z.o
          · simp [ha] at h5
          · simp only [ha, cond_true] at h5
            have := tagsOk_spec h5
            exact .inr (.inr ⟨ha, this.1, this.2⟩)
        · simp only [he, cond_true] at h5
          have hex : ∃ h ∈ p.2, h = z.i ∨ Path ops z.i h := by
            obtain ⟨h, hh, h6⟩ := anyH_spec h5
            exact ⟨h, hh, h6.elim .inl fun h6 => .inr (hmask _ h6)⟩
          refine .inr (.inl ⟨?_, hex⟩)
          cases ht : p.1.t <;> simp_all [isEf]
      · exact .inl (hmask _ hm)
    refine ⟨⟨fun q hq => ?_, g1⟩, fun p hpm q hq => ?_, fun p hpm => ?_, fun i hi => ?_, m + 1, g5, by omega⟩
    · have h5 := g2 (z, H) (List.mem_cons_self ..) q hq
      refine ⟨h5.1, fun e he hb hc => ?_, h5.2⟩
      obtain ⟨p, hpm, hpi⟩ := hedge e he hb
      exact (g2 p (List.mem_cons_of_mem _ hpm) q hq).1 (hpi.trans hc)
    · rcases List.mem_cons.1 hq with rfl | hq
      · exact hpz p hpm
      · exact g2 p (List.mem_cons_of_mem _ hpm) q hq
    · rcases List.mem_cons.1 hpm with rfl | hpm
      · refine ⟨hzo, (fun cs b hop => by rw [hop] at h3; cases h3), fun e he hb => ?_⟩
        obtain ⟨q, hqm, hqi⟩ := hedge e he hb
        refine ⟨fun hc => hzn ⟨q, hqm, hqi.trans hc⟩, ?_⟩
        rw [← hqi]
        exact (Array.getElem?_eq_some_iff.1 (hp q hqm)).1
      · exact g3 p hpm
    · rcases g4 i hi with ⟨p, hpm, hpi⟩ | h5
      · rcases List.mem_cons.1 hpm with rfl | hpm
        · exact .inr (.inl hpi)
        · exact .inl ⟨p, hpm, hpi⟩
      · exact .inr (.inr h5)

inductive ITr where
  | nil
  | st (t : Tg) (i : Nat) (r : ITr)
  | alt (t u : ITr)

def iL : List (Tg × Nat) → ITr → ITr
  | [], t => t
  | x :: r, t => .st x.1 x.2 (iL r t)

def pickE (l : List Oper) : ITr → Tr
  | .nil => .nil
  | .st g i r => match l[i]? with
    | some o => .st ⟨g, i, o⟩ (pickE l r)
    | none => pickE l r
  | .alt t u => .alt (pickE l t) (pickE l u)
theorem pickE_at (l : List Oper) : ∀ (tg : ITr), ∀ z ∈ trEnts (pickE l tg), l.toArray[z.i]? = some z.o
  | .nil, z, h => by cases h
  | .st g i r, z, h => by
    simp only [pickE] at h
    split at h
    · rename_i o ho
      rcases List.mem_cons.1 h with rfl | h
      · simpa using ho
      · exact pickE_at l r z h
    · exact pickE_at l r z h
  | .alt t u, z, h => by
    rcases List.mem_append.1 h with h | h
    · exact pickE_at l t z h
    · exact pickE_at l u z h

theorem wp_region_X {P : Program} {Q : Exit → Act → World → Prop} {C : World → Prop} {id : Nat} {l : List Oper} {a : Act} {w : World} (tg : ITr) (hm : P.follows .mixedOrders = true) (hB : xchk l.toArray (pickE l tg) (hids (pickE l tg)) [] [] 0 0 = true) (hCE : ∀ w w', C w → Ext w w' → C w') (hC : C { w with drawn := w.drawn + 1 })
    (h : wpX P l.toArray C (Q .normal) (pickE l tg) a { w with drawn := w.drawn + 1 }) : (Code.region id l.toArray true).wp P Q a w := by
  obtain ⟨g1, _, g3, g4, m, g5, g6⟩ := xchk_ok (pickE l tg) _ [] [] 0 0 (pickE_at l tg) (fun _ h => by cases h) (fun _ h => by cases h) (fun j => by simp) hB
  refine wp_region_any hm ?_
  refine any_of_X (P := P) (C := C) (Q := Q .normal) (Q' := Q) hCE (fun _ _ h => h) l.toArray.size (pickE l tg) [] (Array.replicate l.toArray.size false) a { w with drawn := w.drawn + 1 } ⟨⟨m, g5, by simpa using g6⟩, List.Pairwise.nil, (fun _ h => by cases h), g1, (fun p hp => g3 p (by simpa using hp)), (by simp), (fun i hi => .inr ?_), (fun p hp => ?_), (fun i hi => ?_)⟩ hC h
  · rcases g4 i hi with ⟨p, hp, _⟩ | h1
    · cases hp
    · exact .inr h1
  · have := (Array.getElem?_eq_some_iff.1 (pickE_at l tg p (by simpa using hp))).1
    simp only [List.size_toArray] at this
    simp [Array.getD_eq_getD_getElem?, this]
  · simp only [Array.getD_eq_getD_getElem?] at hi
    by_cases h : i < l.length
    · simp [h] at hi
    · simp [h] at hi

section
variable {P : Program} [T : HasTT P] {w0 : World} {nt : Nat} {Γ Γ' : Env} {F F' F₀ F₁ G R : List As} {Q : Exit → Act → World → Prop} {ops : Array Oper} {rest : Tr} {Qn : Act → World → Prop} {C : World → Prop}
variable {d i : Nat} {op : Op} {ty : Nat} {pos : String} {af : Array Edge}

theorem St.regionX {id : Nat} {l : List Oper} (tg : ITr) (F₀ : List As) (hm : P.follows .mixedOrders = true) (hB : xchk l.toArray (pickE l tg) (hids (pickE l tg)) [] [] 0 0 = true) (hF : ∀ w, Sat F w → Sat F₀ w)
    (h : St w0 nt Γ F (wpX P l.toArray (Sat F₀) (Q .normal) (pickE l tg))) : St w0 nt Γ F ((Code.region id l.toArray true).wp P Q) :=
  fun a w hs hd ha hf hw => wp_region_X tg hm hB (fun _ _ h he => h.ext he) ((hF w hf).ext (Ext.drew w)) (h a w.drew hs hd ha (hf.ext (Ext.drew w)) (hw.trans (Ext.drew w).toSame))

/-- What an operation reads. -/
def Rd (P : Program) (F : List As) (Γ : Env) (op : Op) (v : Value) : Prop := ∀ (a : Act) (w : World) (d : Option Nat) (ty : Nat) (pos : String) (af : Array Edge) (g : Option (Nat × Bool)), At a Γ → Sat F w → (execOp a.eval ⟨d, op, ty, pos, af, g⟩).run P w = .ok (.value v) w

theorem St.xfl {v : Value} (hc : ∀ w, C w → Sat F₁ w) (hr : Rd P F₁ Γ op v) (hd : Nat.blt d nt = true) (k : St w0 nt ((d, v) :: Γ) F (wpX P ops C Qn rest)) : St w0 nt Γ F (wpX P ops C Qn (.st ⟨.fl, i, ⟨some d, op, ty, pos, af, none⟩⟩ rest)) :=
  fun a w hs hdf ha hf hw => by
    show stepX P ops C _ a _ _
    unfold stepX
    rw [if_pos (wanted_none rfl _)]
    exact ⟨v, fun w' hcw => hr a w' _ _ _ _ _ ha (hc w' hcw), k _ w (by simp [Act.put, hs]) hdf (ha.put (hs ▸ Nat.le_of_ble_eq_true hd)) hf hw⟩

theorem St.xfx {v : Value} (hr : Rd P F Γ op v) (hd : Nat.blt d nt = true) (k : St w0 nt ((d, v) :: Γ) F (wpX P ops C Qn rest)) : St w0 nt Γ F (wpX P ops C Qn (.st ⟨.fx, i, ⟨some d, op, ty, pos, af, none⟩⟩ rest)) :=
  fun a w hs hdf ha hf hw => by
    show stepX P ops C _ a _ _
    unfold stepX
    rw [if_pos (wanted_none rfl _)]
    exact ⟨v, fun w' he => hr a w' _ _ _ _ _ ha (hf.ext he), k _ w (by simp [Act.put, hs]) hdf (ha.put (hs ▸ Nat.le_of_ble_eq_true hd)) hf hw⟩

theorem wpX_ef {o : Oper} {a : Act} {w0' w : World} (hg : o.guard = none) (h1 : wpList P ops (fun e a w => e = .normal ∧ C w ∧ wpX P ops C Qn rest a w) [o] a w) : o.wp P a w (fun a' w'' => C w'' ∧ wpX P ops C Qn rest a' w'') NoQ := by
  unfold wpList at h1
  rw [if_pos (wanted_none hg _)] at h1
  rcases h1 with h1 | ⟨_, a', w', h2, _⟩
  · unfold Oper.wp at *
    generalize (execOp a.eval o).run P w = r at *
    cases r with
    | ok n w' =>
      cases n <;> simp only [Oper.upon, wpList] at h1 ⊢
      case value v => exact h1.2
      case skip => exact h1.2
      case defer d => exact h1.2
      case enter f args =>
        refine h1.mono fun e w'' he => ?_
        cases e with
        | returned v => exact he.2
        | panicked ch => exact (by cases he.1)
        | outgrown => obtain ⟨_, _, hf, _⟩ := he; cases hf
      case row r args => exact h1.mono fun v w'' hv => hv.2
    | halt x w' =>
      cases x <;> simp only [Oper.upon] at h1 ⊢
      cases h1.1
  · cases h2

theorem St.xef {dst : Option Nat} (h : St w0 nt Γ F (wpList P ops (fun e a w => e = .normal ∧ C w ∧ wpX P ops C Qn rest a w) [⟨dst, op, ty, pos, af, none⟩])) : St w0 nt Γ F (wpX P ops C Qn (.st ⟨.ef, i, ⟨dst, op, ty, pos, af, none⟩⟩ rest)) :=
  fun a w0' hs hdf ha hf hw => by
    show stepX P ops C _ a _ _
    unfold stepX
    rw [if_pos (wanted_none rfl _)]
    intro w hew
    exact wpX_ef (w0' := w0') rfl (h a w hs hdf ha (hf.ext hew) (hw.trans hew.toSame))

theorem St.xk (hC : ∀ w, Sat F w → C w) (k : St w0 nt Γ F (wpX P ops C Qn rest)) : St w0 nt Γ F (wpList P ops (fun e a w => e = .normal ∧ C w ∧ wpX P ops C Qn rest a w) []) :=
  St.done fun a w hs hdf ha hf hw => ⟨rfl, hC w hf, k a w hs hdf ha hf hw⟩

theorem St.xdone (k : St w0 nt Γ F Qn) : St w0 nt Γ F (wpX P ops C Qn .nil) := fun a w hs hdf ha hf hw w' he => k a w' hs hdf ha (hf.ext he) (hw.trans he.toSame)

/-! ### What is read -/

theorem Rd.p {v : Value} (hv : pev T.tt Γ op = some v) : Rd P F Γ op v := fun a w d ty pos af g ha _ => pev_run T.ok ha (o := ⟨d, op, ty, pos, af, g⟩) hv w

theorem Rd.loadB {t : Nat} {x : Operand} {g t' : Nat} (off : Nat) {p : Nat} {cs : List Value} {v : Value} (hx : ev Γ x = some (.pointer (some ⟨g, p, none⟩))) (hm : As.res (Box g t' cs) ∈ F) (hp : p = off) (hv : ppart T.tt t cs off = some v) : Rd P F Γ (.load t x) v :=
  fun a w d ty pos af gg ha hf => by
    exact run_load_op (P := P) (a := a) (x := x) (b := g) (o := 0) (off := off) T.ok (by rw [ha.eval hx, hp, Nat.zero_add]) hv (w := w) (fun i u hu => by
      rw [Nat.zero_add]
      exact Box.cell (hf.res hm) hu) _ _

theorem Rd.load {t : Nat} {x : Operand} {b p : Nat} (o : Nat) (off : Nat) {cs : List Value} {v : Value} (hx : ev Γ x = some (.pointer (some ⟨b, p, none⟩))) (hm : As.ro (Cells b o cs) ∈ F) (hp : p = o + off) (hv : ppart T.tt t cs off = some v) : Rd P F Γ (.load t x) v :=
  fun a w d ty pos af gg ha hf => run_load_op (P := P) (a := a) (x := x) T.ok (by rw [ha.eval hx, hp]) hv (w := w) (fun i u hu => by
    have := hf.ro_hp hm i u hu
    rw [cellm_hp] at this
    exact this) _ _

theorem St.openA {X : Act → World → Prop} {α : Type} {E : Enc α} {A : Option Addr} {c : Nat} {xs : List α} {q : Int} {y : α} (hm : As.ro (SlL E A c xs) ∈ F) (hy : elt xs q = some y) (k : ∀ b o, (∃ oA, A = some ⟨b, oA, none⟩ ∧ o = oA + q.toNat * E.sz) → St w0 nt Γ F X) : St w0 nt Γ F X :=
  fun a w hs hdf ha hf hw => by
    obtain ⟨h0, h1, h2⟩ := elt_some hy
    have hsl := hf.ro_hp hm
    cases A with
    | none =>
      have := hsl.2.2.1 rfl
      subst this
      simp at h2
    | some ad =>
      obtain ⟨hspot, _⟩ := hsl.2.2.2 ad rfl _ _ h2
      obtain ⟨b, o, s⟩ := ad
      simp only at hspot
      subst hspot
      exact k b _ ⟨o, rfl, rfl⟩ a w hs hdf ha hf hw

theorem Sat.addC {α : Type} {E : Enc α} {A : Option Addr} {c : Nat} {xs : List α} {q : Int} {y : α} {b o : Nat} {w : World} (hA : ∃ oA, A = some ⟨b, oA, none⟩ ∧ o = oA + q.toNat * E.sz) (hm : As.ro (SlL E A c xs) ∈ F) (hy : elt xs q = some y) (hf : Sat F w) : Sat (.ro (Cells b o (E.enc y)) :: F) w := by
  obtain ⟨oA, rfl, rfl⟩ := hA
  obtain ⟨h0, h1, h2⟩ := elt_some hy
  refine hf.add_ro _ ?_
  obtain ⟨_, cs, hrel, hc⟩ := (hf.ro hm).2.2.2 _ rfl _ _ h2
  have : cs = E.enc y := hrel
  subst this
  exact hc

theorem Rd.ixL {α : Type} {E : Enc α} {t e : Nat} {i j : TI} {x ix : Operand} {A : Option Addr} {n c : Nat} {kk : IntKind} {q : Int} {xs : List α} {y : α} {b o : Nat} (hA : ∃ oA, A = some ⟨b, oA, none⟩ ∧ o = oA + q.toNat * E.sz) (hy : elt xs q = some y) (hx : ev Γ x = some (.slice A n c)) (hq : ev Γ ix = some (.int kk q))
    (hlen : n = xs.length) (hi : tget T.tt t = some i) (hdesc : i.desc = .slice e) (hj : tget T.tt e = some j) (hn : j.size = E.sz) : Rd P F Γ (.indexAddr t x ix) (.pointer (some ⟨b, o, none⟩)) :=
  fun a w d ty pos af gg ha hf => by
    obtain ⟨oA, rfl, rfl⟩ := hA
    obtain ⟨h0, h1, h2⟩ := elt_some hy
    subst hlen
    obtain ⟨dd, hu, hdd⟩ := T.ok.desc hi
    have hadd : (⟨b, oA, none⟩ : Addr).add (q.toNat * E.sz) = ⟨b, oA + q.toNat * E.sz, none⟩ := by
      unfold Addr.add
      split
      · rename_i hz; rw [hz]; rfl
      · rfl
    simp [execOp, Instr.indexAt, ha.eval hx, ha.eval hq, asIntOf, run_underlying hu, TD.of_slice (hdd.trans hdesc), run_sizeOf_tt T.ok hj, hn, h0, h1, hadd]

theorem Rd.ixO {α : Type} {E : Enc α} {t e : Nat} {i j : TI} {x ix : Operand} {n c g : Nat} {kk : IntKind} {q : Int} {xs : List α} {y : α} (hy : elt xs q = some y) (hx : ev Γ x = some (.slice (some ⟨g, 0, none⟩) n c)) (hq : ev Γ ix = some (.int kk q))
    (hlen : n = xs.length) (hi : tget T.tt t = some i) (hdesc : i.desc = .slice e) (hj : tget T.tt e = some j) (hn : j.size = E.sz) : Rd P F Γ (.indexAddr t x ix) (.pointer (some ⟨g, q.toNat * E.sz, none⟩)) :=
  fun a w d ty pos af gg ha hf => by
    obtain ⟨h0, h1, h2⟩ := elt_some hy
    subst hlen
    obtain ⟨dd, hu, hdd⟩ := T.ok.desc hi
    have hadd : (⟨g, 0, none⟩ : Addr).add (q.toNat * E.sz) = ⟨g, q.toNat * E.sz, none⟩ := add_zero_off g _
    simp [execOp, Instr.indexAt, ha.eval hx, ha.eval hq, asIntOf, run_underlying hu, TD.of_slice (hdd.trans hdesc), run_sizeOf_tt T.ok hj, hn, h0, h1, hadd]

theorem Rd.ldO {α : Type} {E : Enc α} {t e c g p : Nat} {x : Operand} {q : Int} {y : α} (off : Nat) {xs : List α} {v : Value} (hy : elt xs q = some y) (hx : ev Γ x = some (.pointer (some ⟨g, p, none⟩))) (hm : As.res (OwnL E e (some ⟨g, 0, none⟩) c xs) ∈ F)
    (hpp : p = q.toNat * E.sz + off) (hv : ppart T.tt t (E.enc y) off = some v) : Rd P F Γ (.load t x) v :=
  fun a w d ty pos af gg ha hf => run_load_op (P := P) (a := a) (x := x) (b := g) (o := q.toNat * E.sz) (off := off) T.ok (by rw [ha.eval hx, hpp]) hv (w := w) (fun i u hu => own_row_cells (hf.res hm) (rows_get hy) i u hu) _ _

/-- Where the block of one's own slice lies. -/
theorem St.openO {X : Act → World → Prop} {α : Type} {E : Enc α} {A : Option Addr} {c e : Nat} {xs : List α} {q : Int} {y : α} (hm : As.res (OwnL E e A c xs) ∈ F) (hy : elt xs q = some y) (k : ∀ g, A = some ⟨g, 0, none⟩ → St w0 nt Γ F X) : St w0 nt Γ F X :=
  fun a w hs hdf ha hf hw => by
    obtain ⟨h0, h1, h2⟩ := elt_some hy
    have hown : OwnP E.sz e A xs.length c (xs.map E.enc) (hp w) := hf.res hm
    rcases hown.2.2 with ⟨h, _⟩ | ⟨g, cur, fr, _, hA, _⟩
    · omega
    · exact k g hA a w hs hdf ha hf hw

theorem Rd.lookup {α β : Type} {K : KeyC α} {vv : β → Value} {t kt e : Nat} {i j l : TI} {g : Nat} {m : List (α × β)} {x y : Operand} {comma : Bool} {u : Value} (z : β) (k : α) (hx : ev Γ x = some (.map (some g))) (hy : ev Γ y = some (K.v k)) (hm : As.res (MapB K vv g m) ∈ F)
    (hi : tget T.tt t = some i) (hdesc : i.desc = .map kt e) (hj : tget T.tt kt = some j) (hjd : j.desc = K.td) (hl : tget T.tt e = some l) (hz : l.zero = vv z) (hu : mapV vv z (mget K.eq m k) comma = u) : Rd P F Γ (.lookup t x y comma) u :=
  fun a w d ty pos af gg ha hf => by
    subst hu
    have := run_lookup_own (P := P) z comma hi hdesc hj hjd hl hz k (hf.res hm)
    simp [execOp, ha.eval hx, ha.eval hy, this]

end
end Go.Proofs.Ythdpagcklakahaa
