/-
  The core of the proofs of this seat: states of a call as a list of slots and a list of assertions about memory, and the rules that step through the code.
  Conditions: none.
-/
import Derived.WalkKit
import Derived.Deep.Quiet
namespace Go.Proofs.Ythdpagcklakahaa
open Go

/-! ## Slots -/

abbrev Env := List (Nat × Value)

def get : Env → Nat → Option Value
  | [], _ => none
  | (k, v) :: r, i => bif Nat.beq k i then some v else get r i

def At (a : Act) (Γ : Env) : Prop := ∀ i v, get Γ i = some v → a.tmps[i]? = some v

theorem get_cons (k : Nat) (v : Value) (r : Env) (i : Nat) : get ((k, v) :: r) i = if k = i then some v else get r i := by
  simp only [get]
  by_cases h : k = i
  · subst h; simp
  · have : Nat.beq k i = false := by
      cases hb : Nat.beq k i
      · rfl
      · exact absurd (Nat.eq_of_beq_eq_true hb) h
    simp [this, h]

theorem At.nil (a : Act) : At a [] := fun _ _ h => by simp [get] at h

theorem At.cons {a : Act} {Γ : Env} {d : Nat} {v : Value} (hd : a.tmps[d]? = some v) (h : At a Γ) : At a ((d, v) :: Γ) := by
  intro i u hu
  rw [get_cons] at hu
  split at hu
  · rename_i e; subst e; injection hu with hu; subst hu; exact hd
  · exact h i u hu

theorem At.put {a : Act} {Γ : Env} {d : Nat} {v : Value} (h : At a Γ) (hd : d < a.tmps.size) : At (a.put (some d) v) ((d, v) :: Γ) := by
  intro i u hu
  rw [get_cons] at hu
  split at hu
  · rename_i e; subst e; injection hu with hu; subst hu
    simp [Act.put, hd]
  · rename_i e
    have := h i u hu
    simp only [Act.put]
    rw [Array.getElem?_setIfInBounds_ne e]
    exact this

theorem At.put_none {a : Act} {Γ : Env} {v : Value} (h : At a Γ) : At (a.put none v) Γ := h

def SubL : Env → Env → Prop
  | [], _ => True
  | (k, v) :: r, Γ => get Γ k = some v ∧ SubL r Γ

theorem SubL.get {Γ : Env} : ∀ {Γ' : Env}, SubL Γ' Γ → ∀ i v, get Γ' i = some v → get Γ i = some v
  | [], _, i, v, h => by simp [Go.Proofs.Ythdpagcklakahaa.get] at h
  | (k, u) :: r, hs, i, v, h => by
    rw [get_cons] at h
    split at h
    · rename_i e; subst e; injection h with h; subst h; exact hs.1
    · exact hs.2.get i v h

theorem At.sub {a : Act} {Γ Γ' : Env} (h : At a Γ) (hs : SubL Γ' Γ) : At a Γ' := fun i v hv => h i v (hs.get i v hv)

def ev (Γ : Env) : Operand → Option Value
  | .tmp t => get Γ t
  | .const v => some v
  | .func f => some (.func (.func f) #[] #[])
  | .global g => some (.pointer (some ⟨g, 0, none⟩))

theorem At.eval {a : Act} {Γ : Env} (h : At a Γ) {x : Operand} {v : Value} (hx : ev Γ x = some v) : a.eval x = v := by
  cases x with
  | tmp t =>
    have := h t v hx
    simp [Act.eval, this]
  | const u => simpa [ev, Act.eval] using hx
  | func f => simpa [ev, Act.eval] using hx
  | global g => simpa [ev, Act.eval] using hx

def evs (Γ : Env) : List Operand → Option (List Value)
  | [] => some []
  | x :: r => match ev Γ x, evs Γ r with
    | some v, some vs => some (v :: vs)
    | _, _ => none

theorem At.evals {a : Act} {Γ : Env} (h : At a Γ) : ∀ {xs : List Operand} {vs : List Value}, evs Γ xs = some vs → xs.map a.eval = vs
  | [], vs, hx => by simpa [evs] using hx
  | x :: r, vs, hx => by
    simp only [evs] at hx
    split at hx
    · rename_i v us h1 h2
      injection hx with hx
      subst hx
      simp [h.eval h1, h.evals h2]
    · cases hx

/-! ## Memory -/

abbrev Hp := Nat → Option Obj

def hp (w : World) : Hp := fun k => w.heap[k]?

def Hp.le (m m' : Hp) : Prop := ∀ k o, m k = some o → m' k = some o

theorem Hp.le.refl (m : Hp) : Hp.le m m := fun _ _ h => h
theorem Hp.le.trans {a b c : Hp} (h : Hp.le a b) (k : Hp.le b c) : Hp.le a c := fun i o ho => k i o (h i o ho)

/-- What stays true while blocks are added and the blocks that it speaks of stay. -/
structure Ro where
  p : Hp → Prop
  mono : ∀ m m', Hp.le m m' → p m → p m'

/-- What is said of some blocks and of no others. -/
structure Res where
  gs : List Nat
  p : Hp → Prop
  loc : ∀ m m', (∀ k, k ∈ gs → m k = m' k) → p m → p m'
  /-- what is said of them and of memory that stays -/
  q : Hp → Hp → Prop := fun _ _ => True
  qloc : ∀ m m' z z', (∀ k, k ∈ gs → m k = m' k) → Hp.le z z' → q m z → q m' z' := by intros; exact True.intro

inductive As where
  | ro (r : Ro)
  | res (r : Res)

def As.gs : As → List Nat
  | .ro _ => []
  | .res r => r.gs

def blocks : List As → List Nat
  | [] => []
  | x :: r => x.gs ++ blocks r

def frz (U : List Nat) (w : World) : Hp := fun k => if k ∈ U then none else w.heap[k]?

def As.holds (U : List Nat) (w : World) : As → Prop
  | .ro r => r.p (frz U w)
  | .res r => (∀ k, k ∈ r.gs → k < w.heap.size) ∧ r.p (hp w) ∧ r.q (hp w) (frz U w)

structure Sat (F : List As) (w : World) : Prop where
  nodup : (blocks F).Nodup
  all : ∀ x ∈ F, x.holds (blocks F) w

theorem mem_blocks {F : List As} {k : Nat} : k ∈ blocks F ↔ ∃ x ∈ F, k ∈ x.gs := by
  induction F with
  | nil => simp [blocks]
  | cons y r ih => simp [blocks, ih]

theorem blocks_append (F G : List As) : blocks (F ++ G) = blocks F ++ blocks G := by
  induction F with
  | nil => rfl
  | cons x r ih => simp [blocks, ih]

theorem Sat.lt {F : List As} {w : World} (h : Sat F w) {k : Nat} (hk : k ∈ blocks F) : k < w.heap.size := by
  obtain ⟨x, hx, hkx⟩ := mem_blocks.1 hk
  have := h.all x hx
  cases x with
  | ro r => cases hkx
  | res r => exact this.1 k hkx

theorem frz_anti {U U' : List Nat} (w : World) (h : ∀ k, k ∈ U' → k ∈ U) : Hp.le (frz U w) (frz U' w) := by
  intro k o hk
  unfold frz at *
  split at hk
  · cases hk
  · rename_i hn
    rw [if_neg (fun hh => hn (h k hh))]
    exact hk

theorem frz_hp (U : List Nat) (w : World) : Hp.le (frz U w) (hp w) := by
  intro k o hk
  unfold frz at hk
  split at hk
  · cases hk
  · exact hk

theorem As.holds_mono {U U' : List Nat} {w : World} (hU : ∀ k, k ∈ U' → k ∈ U) {x : As} (h : x.holds U w) : x.holds U' w := by
  cases x with
  | ro r => exact r.mono _ _ (frz_anti w hU) h
  | res r => exact ⟨h.1, h.2.1, r.qloc _ _ _ _ (fun _ _ => rfl) (frz_anti w hU) h.2.2⟩

theorem Sat.of_mem {F F' : List As} {w : World} (hn : (blocks F').Nodup) (hm : ∀ x ∈ F', x ∈ F) (h : Sat F w) : Sat F' w := by
  refine ⟨hn, fun x hx => As.holds_mono (fun k hk => ?_) (h.all x (hm x hx))⟩
  obtain ⟨y, hy, hky⟩ := mem_blocks.1 hk
  exact mem_blocks.2 ⟨y, hm y hy, hky⟩

theorem Sat.nil (w : World) : Sat [] w := ⟨by simp [blocks], by simp⟩

theorem Sat.tail {x : As} {F : List As} {w : World} (h : Sat (x :: F) w) : Sat F w :=
  h.of_mem (List.nodup_append.1 h.nodup).2.1 fun _ hy => List.mem_cons_of_mem _ hy

/-- One more thing that follows from what is known of memory that stays. -/
theorem Sat.add_ro {F : List As} {w : World} (h : Sat F w) (r : Ro) (hr : r.p (frz (blocks F) w)) : Sat (.ro r :: F) w := by
  refine ⟨by simpa [blocks, As.gs] using h.nodup, fun x hx => ?_⟩
  have e : blocks (.ro r :: F) = blocks F := by simp [blocks, As.gs]
  rw [e]
  cases hx with
  | head => exact hr
  | tail _ hx => exact h.all x hx

theorem Sat.ro {F : List As} {w : World} (h : Sat F w) {r : Ro} (hr : As.ro r ∈ F) : r.p (frz (blocks F) w) := h.all _ hr
theorem Sat.ro_hp {F : List As} {w : World} (h : Sat F w) {r : Ro} (hr : As.ro r ∈ F) : r.p (hp w) := r.mono _ _ (frz_hp _ _) (h.ro hr)
theorem Sat.res {F : List As} {w : World} (h : Sat F w) {r : Res} (hr : As.res r ∈ F) : r.p (hp w) := (h.all _ hr).2.1
theorem Sat.resq {F : List As} {w : World} (h : Sat F w) {r : Res} (hr : As.res r ∈ F) : r.q (hp w) (frz (blocks F) w) := (h.all _ hr).2.2

/-- The streams are as they were, no block has gone. -/
structure Same (w w' : World) : Prop where
  os : w'.os = w.os
  tape : w'.tape = w.tape
  output : w'.output = w.output
  size : w.heap.size ≤ w'.heap.size

theorem Same.refl (w : World) : Same w w := ⟨rfl, rfl, rfl, Nat.le_refl _⟩
theorem Same.trans {a b c : World} (h : Same a b) (k : Same b c) : Same a c :=
  ⟨k.os.trans h.os, k.tape.trans h.tape, k.output.trans h.output, Nat.le_trans h.size k.size⟩

/-- Blocks were added, all others are as they were. -/
structure Ext (w w' : World) : Prop extends Same w w' where
  block : ∀ k, k < w.heap.size → w'.heap[k]? = w.heap[k]?

theorem Ext.refl (w : World) : Ext w w := ⟨Same.refl w, fun _ _ => rfl⟩
theorem Ext.trans {a b c : World} (h : Ext a b) (k : Ext b c) : Ext a c :=
  ⟨h.toSame.trans k.toSame, fun i hi => (k.block i (Nat.lt_of_lt_of_le hi h.size)).trans (h.block i hi)⟩
theorem Ext.drew (w : World) : Ext w w.drew := ⟨⟨rfl, rfl, rfl, Nat.le_refl _⟩, fun _ _ => rfl⟩
theorem Ext.alloc (w : World) (o : Obj) : Ext w (w.alloc o) := ⟨⟨rfl, rfl, rfl, by simp⟩, fun _ hk => heap_alloc_old w o hk⟩

theorem Ext.cell {w w' : World} (h : Ext w w') {p : Addr} {v : Value} (hc : w.cell? p = some v) : w'.cell? p = some v :=
  (World.cell?_of_block (w := w) (h.block p.block (World.block_lt_of_cell? w p hc))).trans hc

theorem frz_ext {U : List Nat} {w w' : World} (h : Ext w w') : Hp.le (frz U w) (frz U w') := by
  intro k o hk
  unfold frz at *
  split at hk
  · cases hk
  · rename_i hn
    rw [if_neg hn, h.block k (Array.getElem?_eq_some_iff.1 hk).1]
    exact hk

theorem Sat.ext {F : List As} {w w' : World} (h : Sat F w) (he : Ext w w') : Sat F w' := by
  refine ⟨h.nodup, fun x hx => ?_⟩
  have hh := h.all x hx
  cases x with
  | ro r => exact r.mono _ _ (frz_ext he) hh
  | res r =>
    have hb : ∀ k, k ∈ r.gs → hp w k = hp w' k := fun k hk => (he.block k (hh.1 k hk)).symm
    exact ⟨fun k hk => Nat.lt_of_lt_of_le (hh.1 k hk) he.size, r.loc _ _ hb hh.2.1, r.qloc _ _ _ _ hb (frz_ext he) hh.2.2⟩

/-- A new block of one's own. -/
theorem Sat.add_res {F : List As} {w w' : World} (h : Sat F w) (he : Ext w w') (r : Res) (hn : r.gs.Nodup) (hg : ∀ k, k ∈ r.gs → w.heap.size ≤ k ∧ k < w'.heap.size) (hr : r.p (hp w')) (hq : r.q (hp w') (frz (r.gs ++ blocks F) w') := by exact True.intro) : Sat (.res r :: F) w' := by
  have h' := h.ext he
  have hle : Hp.le (frz (blocks F) w) (frz (r.gs ++ blocks F) w') := by
    intro k o hk
    unfold frz at *
    split at hk
    · cases hk
    · rename_i hn
      have hlt := (Array.getElem?_eq_some_iff.1 hk).1
      rw [if_neg, he.block k hlt]
      · exact hk
      · intro hm
        simp only [List.mem_append] at hm
        rcases hm with hm | hm
        · have := (hg k hm).1; omega
        · exact hn hm
  refine ⟨?_, fun x hx => ?_⟩
  · simp only [blocks, As.gs]
    refine List.nodup_append.2 ⟨hn, h.nodup, fun a ha b hb e => ?_⟩
    have := h.lt hb
    have := (hg a ha).1
    omega
  · cases hx with
    | head => exact ⟨fun k hk => (hg k hk).2, hr, hq⟩
    | tail _ hx =>
      have hh := h.all x hx
      cases x with
      | res r' =>
        have h2 := h'.all _ hx
        exact ⟨h2.1, h2.2.1, r'.qloc _ _ _ _ (fun k hk => (he.block k (hh.1 k hk)).symm) hle hh.2.2⟩
      | ro r' => exact r'.mono _ _ hle hh

/-- One's own blocks 'gs' have been written; all others are as they were (or new). -/
structure Wrote (gs : List Nat) (w w' : World) : Prop extends Same w w' where
  block : ∀ k, k < w.heap.size → k ∉ gs → w'.heap[k]? = w.heap[k]?

theorem Wrote.of_ext {gs : List Nat} {w w' : World} (h : Ext w w') : Wrote gs w w' := ⟨h.toSame, fun k hk _ => h.block k hk⟩
theorem Wrote.trans {gs : List Nat} {a b c : World} (h : Wrote gs a b) (k : Wrote gs b c) : Wrote gs a c :=
  ⟨h.toSame.trans k.toSame, fun i hi hn => (k.block i (Nat.lt_of_lt_of_le hi h.size) hn).trans (h.block i hi hn)⟩
theorem Wrote.setCell (w : World) (p : Addr) (v : Value) : Wrote [p.block] w (w.setCell p v) :=
  ⟨⟨rfl, rfl, rfl, by simp⟩, fun k _ hn => heap_setCell_other w p k v (by simpa using hn)⟩

/-- The head resource is exchanged for another one, whose blocks are its own or new. -/
theorem Sat.exchange {F : List As} {w w' : World} {r r' : Res} (h : Sat (.res r :: F) w) (hw : Wrote r.gs w w') (hn : r'.gs.Nodup) (hg : ∀ k, k ∈ r'.gs → k < w'.heap.size ∧ (k ∈ r.gs ∨ w.heap.size ≤ k))
    (hr : r'.p (hp w')) (hq : r'.q (hp w') (frz (r'.gs ++ blocks F) w') := by exact True.intro) : Sat (.res r' :: F) w' := by
  have hnd := List.nodup_append.1 h.nodup
  have hle : Hp.le (frz (blocks (.res r :: F)) w) (frz (r'.gs ++ blocks F) w') := by
    intro k o hk
    unfold frz at *
    split at hk
    · cases hk
    · rename_i hnn
      have hlt := (Array.getElem?_eq_some_iff.1 hk).1
      simp only [blocks, As.gs, List.mem_append, not_or] at hnn
      rw [if_neg, hw.block k hlt hnn.1]
      · exact hk
      · simp only [List.mem_append, not_or]
        refine ⟨fun hm => ?_, hnn.2⟩
        rcases (hg k hm).2 with h1 | h1
        · exact hnn.1 h1
        · omega
  have hdis : ∀ k, k ∈ r'.gs → k ∉ blocks F := by
    intro k hk hb
    rcases (hg k hk).2 with h1 | h1
    · exact hnd.2.2 k h1 k hb rfl
    · have := h.lt (k := k) (by simp only [blocks, As.gs, List.mem_append]; exact .inr hb)
      omega
  refine ⟨?_, fun x hx => ?_⟩
  · simp only [blocks, As.gs]
    exact List.nodup_append.2 ⟨hn, hnd.2.1, fun a ha b hb e => hdis a ha (e ▸ hb)⟩
  · cases hx with
    | head => exact ⟨fun k hk => (hg k hk).1, hr, hq⟩
    | tail _ hx =>
      have hh := h.all x (List.mem_cons_of_mem _ hx)
      cases x with
      | res r'' =>
        have hb : ∀ k, k ∈ r''.gs → hp w k = hp w' k := fun k hk => (hw.block k (hh.1 k hk) (fun hm => hnd.2.2 k hm k (mem_blocks.2 ⟨_, hx, hk⟩) rfl)).symm
        exact ⟨fun k hk => Nat.lt_of_lt_of_le (hh.1 k hk) hw.size, r''.loc _ _ hb hh.2.1, r''.qloc _ _ _ _ hb hle hh.2.2⟩
      | ro r'' => exact r''.mono _ _ hle hh

/-- A place in the list of assertions. -/
inductive Upd : List As → As → List As → As → Prop
  | z {x x' : As} {F : List As} : Upd (x :: F) x (x' :: F) x'
  | s {x x' y : As} {F F' : List As} (h : Upd F x F' x') : Upd (y :: F) x (y :: F') x'

inductive Del : List As → As → List As → Prop
  | z {x : As} {F : List As} : Del (x :: F) x F
  | s {x y : As} {F F' : List As} (h : Del F x F') : Del (y :: F) x (y :: F')

theorem Upd.del {F F' : List As} {x x' : As} (h : Upd F x F' x') : ∃ G, Del F x G ∧ Del F' x' G := by
  induction h with
  | z => exact ⟨_, .z, .z⟩
  | s _ ih => obtain ⟨G, h1, h2⟩ := ih; exact ⟨_, .s h1, .s h2⟩

theorem Del.perm {F G : List As} {x : As} (h : Del F x G) : F.Perm (x :: G) := by
  induction h with
  | z => exact List.Perm.refl _
  | s _ ih => exact (ih.cons _).trans (List.Perm.swap ..)

theorem Del.mem {F G : List As} {x : As} (h : Del F x G) : x ∈ F := h.perm.mem_iff.2 (List.mem_cons_self ..)
theorem Upd.mem {F F' : List As} {x x' : As} (h : Upd F x F' x') : x ∈ F := by
  obtain ⟨G, h1, _⟩ := h.del
  exact h1.mem

theorem blocks_perm {F G : List As} (h : F.Perm G) : (blocks F).Perm (blocks G) := by
  induction h with
  | nil => exact List.Perm.refl _
  | cons x _ ih => exact ih.append_left _
  | swap x y l =>
    simp only [blocks, ← List.append_assoc]
    exact (List.perm_append_comm).append_right _
  | trans _ _ ih1 ih2 => exact ih1.trans ih2

theorem Sat.perm {F G : List As} {w : World} (h : Sat F w) (p : F.Perm G) : Sat G w :=
  h.of_mem ((blocks_perm p).nodup_iff.1 h.nodup) fun _ hx => p.mem_iff.2 hx

theorem Sat.front {F G : List As} {x : As} {w : World} (h : Sat F w) (d : Del F x G) : Sat (x :: G) w := h.perm d.perm
theorem Sat.back {F G : List As} {x : As} {w : World} (h : Sat (x :: G) w) (d : Del F x G) : Sat F w := h.perm d.perm.symm

/-! ## States -/

def St (w0 : World) (nt : Nat) (Γ : Env) (F : List As) (X : Act → World → Prop) : Prop :=
  ∀ a w, a.tmps.size = nt → a.defers = [] → At a Γ → Sat F w → Same w0 w → X a w

section
variable {P : Program} {w0 : World} {nt : Nat} {Γ Γ' : Env} {F F' : List As} {X : Act → World → Prop} {Q : Exit → Act → World → Prop}

theorem St.weak (hΓ : SubL Γ' Γ) (hF : ∀ w, Sat F w → Sat F' w) (h : St w0 nt Γ' F' X) : St w0 nt Γ F X :=
  fun a w hs hd ha hf hw => h a w hs hd (ha.sub hΓ) (hF w hf) hw

theorem St.slots (hΓ : SubL Γ' Γ) (h : St w0 nt Γ' F X) : St w0 nt Γ F X := St.weak hΓ (fun _ h => h) h
theorem St.asrt (hF : ∀ w, Sat F w → Sat F' w) (h : St w0 nt Γ F' X) : St w0 nt Γ F X :=
  fun a w hs hd ha hf hw => h a w hs hd ha (hF w hf) hw

theorem St.seq {x y : Code} (h : St w0 nt Γ F (x.wp P (Exit.then (y.wp P Q) Q))) : St w0 nt Γ F ((Code.seq x y).wp P Q) :=
  fun a w hs hd ha hf hw => wp_seq (h a w hs hd ha hf hw)
theorem St.block {id : Nat} {c : Code} (h : St w0 nt Γ F (c.wp P (Exit.inBlock id Q))) : St w0 nt Γ F ((Code.block id c).wp P Q) :=
  fun a w hs hd ha hf hw => wp_block (h a w hs hd ha hf hw)
theorem St.skip (h : St w0 nt Γ F (Q .normal)) : St w0 nt Γ F (Code.skip.wp P Q) := fun a w hs hd ha hf hw => wp_skip (h a w hs hd ha hf hw)
theorem St.ret (h : St w0 nt Γ F (Q .ret)) : St w0 nt Γ F (Code.ret.wp P Q) := fun a w hs hd ha hf hw => wp_ret (h a w hs hd ha hf hw)
theorem St.exit {id : Nat} (h : St w0 nt Γ F (Q (.exit id))) : St w0 nt Γ F ((Code.exit id).wp P Q) := fun a w hs hd ha hf hw => wp_exit (h a w hs hd ha hf hw)

theorem St.cond {c : Operand} {x y : Code} (b : Bool) (hc : ev Γ c = some (.bool b)) (ht : b = true → St w0 nt Γ F (x.wp P Q)) (hf : b = false → St w0 nt Γ F (y.wp P Q)) :
    St w0 nt Γ F ((Code.cond c x y).wp P Q) :=
  fun a w hs hd ha hff hw => wp_cond_split (ha.eval hc) (fun e => ht e a w hs hd ha hff hw) (fun e => hf e a w hs hd ha hff hw)
theorem St.condT {c : Operand} {x y : Code} (hc : ev Γ c = some (.bool true)) (ht : St w0 nt Γ F (x.wp P Q)) : St w0 nt Γ F ((Code.cond c x y).wp P Q) :=
  St.cond true hc (fun _ => ht) (fun e => by cases e)
theorem St.condF {c : Operand} {x y : Code} (hc : ev Γ c = some (.bool false)) (ht : St w0 nt Γ F (y.wp P Q)) : St w0 nt Γ F ((Code.cond c x y).wp P Q) :=
  St.cond false hc (fun e => by cases e) (fun _ => ht)

theorem St.thenN {n : Act → World → Prop} (h : St w0 nt Γ F n) : St w0 nt Γ F (Exit.then n Q .normal) := h
theorem St.thenR {n : Act → World → Prop} (h : St w0 nt Γ F (Q .ret)) : St w0 nt Γ F (Exit.then n Q .ret) := h
theorem St.thenX {n : Act → World → Prop} {i : Nat} (h : St w0 nt Γ F (Q (.exit i))) : St w0 nt Γ F (Exit.then n Q (.exit i)) := h
theorem St.blkN {id : Nat} (h : St w0 nt Γ F (Q .normal)) : St w0 nt Γ F (Exit.inBlock id Q .normal) := h
theorem St.blkR {id : Nat} (h : St w0 nt Γ F (Q .ret)) : St w0 nt Γ F (Exit.inBlock id Q .ret) := h
theorem St.blkHit {id : Nat} (h : St w0 nt Γ F (Q .normal)) : St w0 nt Γ F (Exit.inBlock id Q (.exit id)) :=
  fun a w hs hd ha hf hw => by simpa [Exit.inBlock] using h a w hs hd ha hf hw
theorem St.blkMiss {id i : Nat} (hi : Nat.beq i id = false) (h : St w0 nt Γ F (Q (.exit i))) : St w0 nt Γ F (Exit.inBlock id Q (.exit i)) :=
  fun a w hs hd ha hf hw => by
    have : i ≠ id := fun e => by subst e; simp at hi
    simpa [Exit.inBlock, this] using h a w hs hd ha hf hw

/-- A piece of code by what it leaves: the rest is shown once. -/
theorem St.cut {c : Code} {n : Act → World → Prop} (Γ' : Env) (F' : List As) (h1 : St w0 nt Γ F (c.wp P (Exit.then (fun a w => a.tmps.size = nt ∧ a.defers = [] ∧ At a Γ' ∧ Sat F' w ∧ Same w0 w) Q)))
    (h2 : St w0 nt Γ' F' n) : St w0 nt Γ F (c.wp P (Exit.then n Q)) :=
  fun a w hs hd ha hf hw => wp_mono (h1 a w hs hd ha hf hw) fun e a' w' hq => by
    cases e with
    | normal => exact h2 a' w' hq.1 hq.2.1 hq.2.2.1 hq.2.2.2.1 hq.2.2.2.2
    | _ => exact hq

theorem St.here (hΓ : SubL Γ' Γ) (hF : ∀ w, Sat F w → Sat F' w) : St w0 nt Γ F (fun a w => a.tmps.size = nt ∧ a.defers = [] ∧ At a Γ' ∧ Sat F' w ∧ Same w0 w) :=
  fun _ w hs hd ha hf hw => ⟨hs, hd, ha.sub hΓ, hF w hf, hw⟩

/-! ## Walks through the operations of a region -/

/-- A walk that steps over an operation that yields a value and leaves all old blocks alone: in the order of the text, or one that serves every order. -/
class Walk (P : outParam Program) (ops : outParam (Array Oper)) (X : List Oper → Act → World → Prop) : Prop where
  val : ∀ (o : Oper) (rest : List Oper) (a : Act) (w : World) (v : Value), Region.wanted o (yielded ops a.tmps) = true →
    (∀ w', Ext w w' → (execOp a.eval o).run P w' = .ok (.value v) w') → X rest (a.put o.dst v) w → X (o :: rest) a w
  pass : ∀ (o : Oper) (rest : List Oper) (a : Act) (w : World), Region.wanted o (yielded ops a.tmps) = false → X rest (a.put o.dst undef) w → X (o :: rest) a w
  bare : ∀ (o o' : Oper) (rest : List Oper) (a : Act) (w : World), Region.wanted o (yielded ops a.tmps) = true → Region.wanted o' (yielded ops a.tmps) = true → o'.dst = o.dst → o'.op = o.op → o'.type = o.type → X (o' :: rest) a w → X (o :: rest) a w
  call : ∀ (o : Oper) (rest : List Oper) (a : Act) (w : World) (f : FuncId) (args : Array Value) (v : Value), Region.wanted o (yielded ops a.tmps) = true →
    (∀ w', Ext w w' → (execOp a.eval o).run P w' = .ok (.enter f args) w') → (∀ w', Ext w w' → Calls P f args w' fun e w'' => e = .returned v ∧ Ext w' w'') →
    (∀ w', Ext w w' → X rest (a.put o.dst v) w') → X (o :: rest) a w

instance (P : Program) (ops : Array Oper) (Q : Exit → Act → World → Prop) : Walk P ops (wpList P ops Q) where
  val o rest a w v hw hr hx := by
    refine wpList_step fun K hK => ?_
    rw [if_pos hw]
    unfold Oper.wp
    rw [hr w (Ext.refl w)]
    exact hK _ _ hx
  pass o rest a w hw hx := by
    refine wpList_step fun K hK => ?_
    rw [if_neg (by simp [hw])]
    exact hK _ _ hx
  bare o o' rest a w hw hw' h1 h2 h3 hx := by
    obtain ⟨d, op, t, p, af, g⟩ := o
    obtain ⟨d', op', t', p', af', g'⟩ := o'
    simp only at h1 h2 h3
    subst h1; subst h2; subst h3
    unfold wpList at hx ⊢
    rw [if_pos hw'] at hx
    rw [if_pos hw]
    exact hx
  call o rest a w f args v hw hr hc hx := by
    refine wpList_step fun K hK => ?_
    rw [if_pos hw]
    unfold Oper.wp
    rw [hr w (Ext.refl w)]
    show Calls P f args w _
    exact (hc w (Ext.refl w)).mono fun e w' ⟨he, h2⟩ => by subst he; exact hK _ _ (hx w' h2)

/-- The walk that serves every order: the operations leave all old blocks alone and yield one value in every world that has these blocks. -/
def wpQ (P : Program) (ops : Array Oper) (Q : Exit → Act → World → Prop) (rest : List Oper) (a : Act) (w : World) : Prop :=
  wpQuiet P ops (Ext w) (fun a' => ∀ w', Ext w w' → Q .normal a' w') rest a

instance (P : Program) (ops : Array Oper) (Q : Exit → Act → World → Prop) : Walk P ops (wpQ P ops Q) where
  val o rest a w v hw hr hx := by
    refine wpQuiet_step fun K hK => ?_
    rw [if_pos hw]
    refine ⟨v, fun w' he => ?_, hK _ hx⟩
    unfold Oper.quietAt
    rw [hr w' he]
    exact ⟨rfl, rfl⟩
  pass o rest a w hw hx := by
    refine wpQuiet_step fun K hK => ?_
    rw [if_neg (by simp [hw])]
    exact hK _ hx
  bare o o' rest a w hw hw' h1 h2 h3 hx := by
    obtain ⟨d, op, t, p, af, g⟩ := o
    obtain ⟨d', op', t', p', af', g'⟩ := o'
    simp only at h1 h2 h3
    subst h1; subst h2; subst h3
    unfold wpQ wpQuiet at hx ⊢
    rw [if_pos hw'] at hx
    rw [if_pos hw]
    exact hx
  call o rest a w f args v hw hr hc hx := by
    refine wpQuiet_step fun K hK => ?_
    rw [if_pos hw]
    refine ⟨v, fun w' he => ?_, hK _ (hx _ (Ext.refl _))⟩
    unfold Oper.quietAt
    rw [hr w' he]
    exact ⟨rfl, (hc w' he).mono fun e w'' ⟨h1, h2⟩ => ⟨h1, he.trans h2⟩⟩

theorem St.region {id : Nat} {l : List Oper} (h : St w0 nt Γ F (wpList P l.toArray Q l)) : St w0 nt Γ F ((Code.region id l.toArray false).wp P Q) :=
  fun a w hs hd ha hf hw => wp_region_lit (h a w hs hd ha hf hw)
theorem St.done {ops : Array Oper} (h : St w0 nt Γ F (Q .normal)) : St w0 nt Γ F (wpList P ops Q []) := fun a w hs hd ha hf hw => wpList_nil (h a w hs hd ha hf hw)
theorem St.doneQ {ops : Array Oper} (h : St w0 nt Γ F (Q .normal)) : St w0 nt Γ F (wpQ P ops Q []) :=
  fun a _ hs hd ha hf hw => wpQuiet_nil fun w' he => h a w' hs hd ha (hf.ext he) (hw.trans he.toSame)

end
end Go.Proofs.Ythdpagcklakahaa
