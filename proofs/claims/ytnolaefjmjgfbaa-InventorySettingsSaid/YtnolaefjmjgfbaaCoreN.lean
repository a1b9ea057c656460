/-
  The core: slices inside structs inside slices; arrays by an index.
  Conditions: none.
-/
import Derived.Test.YtnolaefjmjgfbaaCoreY
namespace Go.Proofs.Ytnolaefjmjgfbaa
open Go
set_option linter.unusedSectionVars false
set_option linter.unusedVariables false

def okS (s : ByteArray) : Prop := s.size ≤ maxLen
def okL {α : Type} (φ : α → Prop) (xs : List α) : Prop := (∀ x ∈ xs, φ x) ∧ xs.length ≤ maxLen
def okB (_ : Bool) : Prop := True

/-- A leaf of a struct: a value of its own, or a slice. -/
inductive LC (α : Type) : Type 1 where
  | v (f : α → Value) (one : ∀ x, (f x).oneCell' = true)
  | s {β : Type} (E : Cod β) (f : α → List β)

def LC.rel {α : Type} (m : Hp) (x : α) : LC α → Value → Prop
  | .v f _, u => u = f x
  | .s E f, u => ∃ A c, u = .slice A (f x).length c ∧ SlP E A c (f x) m

def relL {α : Type} (m : Hp) (x : α) : List (LC α) → List Value → Prop
  | [], [] => True
  | l :: ls, u :: us => l.rel m x u ∧ relL m x ls us
  | _, _ => False

theorem relL_len {α : Type} {m : Hp} {x : α} : ∀ {ls : List (LC α)} {us : List Value}, relL m x ls us → us.length = ls.length
  | [], [], _ => rfl
  | _ :: _, _ :: _, h => by simp [relL_len h.2]
  | [], _ :: _, h => h.elim
  | _ :: _, [], h => h.elim
theorem relL_one {α : Type} {m : Hp} {x : α} : ∀ {ls : List (LC α)} {us : List Value}, relL m x ls us → ∀ u ∈ us, u.oneCell' = true
  | [], [], _, u, hu => by cases hu
  | l :: ls, v :: us, h, u, hu => by
    rcases List.mem_cons.1 hu with rfl | hu
    · cases l with
      | v f one => rw [show u = f x from h.1]; exact one x
      | s E f => obtain ⟨A, c, rfl, _⟩ := h.1; rfl
    · exact relL_one h.2 u hu
  | [], _ :: _, h, _, _ => h.elim
  | _ :: _, [], h, _, _ => h.elim
theorem LC.rel_mono {α : Type} {m m' : Hp} {x : α} (hm : Hp.le m m') {l : LC α} {u : Value} (h : l.rel m x u) : l.rel m' x u := by
  cases l with
  | v f one => exact h
  | s E f => obtain ⟨A, c, h1, h2⟩ := h; exact ⟨A, c, h1, (Sl E A c (f x)).mono _ _ hm h2⟩
theorem relL_mono {α : Type} {m m' : Hp} {x : α} (hm : Hp.le m m') : ∀ {ls : List (LC α)} {us : List Value}, relL m x ls us → relL m' x ls us
  | [], [], _ => trivial
  | _ :: _, _ :: _, h => ⟨LC.rel_mono hm h.1, relL_mono hm h.2⟩
  | [], _ :: _, h => h.elim
  | _ :: _, [], h => h.elim

/-- The values of a struct with slices inside. -/
def codL {α : Type} (ls : List (LC α)) : Cod α where
  n := ls.length
  rel m x cs := relL m x ls cs
  len _ _ _ h := relL_len h
  one _ _ _ h := relL_one h
  mono _ _ _ _ hm h := relL_mono hm h

/-- Where the slices lie. -/
def ExL {α : Type} : List (LC α) → Type
  | [] => Unit
  | .v _ _ :: r => ExL r
  | .s _ _ :: r => (Option Addr × Nat) × ExL r

def valsL {α : Type} (x : α) : (ls : List (LC α)) → ExL ls → List Value
  | [], _ => []
  | .v f _ :: r, e => f x :: valsL x r e
  | .s _ f :: r, e => .slice e.1.1 (f x).length e.1.2 :: valsL x r e.2

def factsL {α : Type} (x : α) : (ls : List (LC α)) → ExL ls → List As
  | [], _ => []
  | .v _ _ :: r, e => factsL x r e
  | .s E f :: r, e => .ro (Sl E e.1.1 e.1.2 (f x)) :: factsL x r e.2

theorem factsL_ro {α : Type} {x : α} : ∀ (ls : List (LC α)) (e : ExL ls), allRo (factsL x ls e) = true
  | [], _ => rfl
  | .v _ _ :: r, e => factsL_ro r e
  | .s _ _ :: r, e => factsL_ro r e.2

theorem openL {α : Type} {m : Hp} {x : α} : ∀ {ls : List (LC α)} {us : List Value}, relL m x ls us → ∃ e : ExL ls, us = valsL x ls e ∧ ∀ r, As.ro r ∈ factsL x ls e → r.p m
  | [], [], _ => ⟨(), rfl, fun _ h => by cases h⟩
  | .v f one :: ls, u :: us, h => by
    obtain ⟨e, h1, h2⟩ := openL h.2
    exact ⟨e, by rw [h1, show u = f x from h.1]; rfl, h2⟩
  | .s E f :: ls, u :: us, h => by
    obtain ⟨A, c, rfl, hsl⟩ := h.1
    obtain ⟨e, h1, h2⟩ := openL h.2
    refine ⟨((A, c), e), by rw [h1]; rfl, fun r hr => ?_⟩
    rcases List.mem_cons.1 hr with hr | hr
    · injection hr with hr; subst hr; exact hsl
    · exact h2 r hr
  | [], _ :: _, h => h.elim
  | .v _ _ :: _, [], h => h.elim
  | .s _ _ :: _, [], h => h.elim

theorem shutL {α : Type} {m : Hp} {x : α} : ∀ {ls : List (LC α)} (e : ExL ls), (∀ r, As.ro r ∈ factsL x ls e → r.p m) → relL m x ls (valsL x ls e)
  | [], _, _ => trivial
  | .v f one :: ls, e, h => ⟨rfl, shutL (ls := ls) e h⟩
  | .s E f :: ls, e, h => ⟨⟨e.1.1, e.1.2, rfl, h _ (List.mem_cons_self ..)⟩, shutL (ls := ls) e.2 fun r hr => h r (List.mem_cons_of_mem _ hr)⟩

theorem valsL_len {α : Type} (x : α) : ∀ (ls : List (LC α)) (e : ExL ls), (valsL x ls e).length = ls.length
  | [], _ => rfl
  | .v _ _ :: r, e => by simp [valsL, valsL_len x r e]
  | .s _ _ :: r, e => by simp [valsL, valsL_len x r e.2]
theorem valsL_one {α : Type} (x : α) : ∀ (ls : List (LC α)) (e : ExL ls), ∀ u ∈ valsL x ls e, u.oneCell' = true
  | [], _, _, hu => by cases hu
  | .v f one :: r, e, u, hu => by
    rcases List.mem_cons.1 hu with rfl | hu
    · exact one x
    · exact valsL_one x r e u hu
  | .s _ f :: r, e, u, hu => by
    rcases List.mem_cons.1 hu with rfl | hu
    · rfl
    · exact valsL_one x r e.2 u hu

/-- Several values, and where their slices lie. -/
def packs {α : Type} (ls : List (LC α)) (ye : List (α × ExL ls)) : List (List Value) := ye.map fun p => valsL p.1 ls p.2
def pfacts {α : Type} (ls : List (LC α)) : List (α × ExL ls) → List As
  | [] => []
  | p :: r => factsL p.1 ls p.2 ++ pfacts ls r

theorem packs_ok {α : Type} (ls : List (LC α)) (ye : List (α × ExL ls)) : ∀ r ∈ packs ls ye, r.length = ls.length ∧ ∀ u ∈ r, u.oneCell' = true := fun r hr => by
  obtain ⟨p, _, rfl⟩ := List.mem_map.1 hr
  exact ⟨valsL_len _ _ _, valsL_one _ _ _⟩

theorem allRo_append : ∀ {F G : List As}, allRo F = true → allRo G = true → allRo (F ++ G) = true
  | [], _, _, h => h
  | .ro _ :: F, _, h, k => allRo_append (F := F) h k
  | .res _ :: _, _, h, _ => by simp [allRo] at h
theorem pfacts_ro {α : Type} (ls : List (LC α)) : ∀ (ye : List (α × ExL ls)), allRo (pfacts ls ye) = true
  | [] => rfl
  | p :: r => allRo_append (factsL_ro ls p.2) (pfacts_ro ls r)
theorem pfacts_mem {α : Type} {ls : List (LC α)} : ∀ {ye : List (α × ExL ls)} {p : α × ExL ls}, p ∈ ye → ∀ x ∈ factsL p.1 ls p.2, x ∈ pfacts ls ye
  | q :: r, p, h, x, hx => by
    rcases List.mem_cons.1 h with rfl | h
    · exact List.mem_append_left _ hx
    · exact List.mem_append_right _ (pfacts_mem h x hx)

theorem packs_rels {α : Type} {ls : List (LC α)} {ye : List (α × ExL ls)} {m : Hp} (h : ∀ r, As.ro r ∈ pfacts ls ye → r.p m) : RelsP (codL ls) (ye.map (·.1)) (packs ls ye) m := by
  refine ⟨by simp [packs], fun j x r hx hr => ?_⟩
  simp only [packs, List.getElem?_map, Option.map_eq_some_iff] at hx hr
  obtain ⟨p, hp, rfl⟩ := hx
  obtain ⟨p', hp', rfl⟩ := hr
  rw [hp] at hp'
  injection hp' with hp'
  subst hp'
  exact shutL p.2 fun r hr => h r (pfacts_mem (List.mem_of_getElem? hp) _ hr)

theorem rels_packs {α : Type} {ls : List (LC α)} {m : Hp} : ∀ {xs : List α} {rows : List (List Value)}, RelsP (codL ls) xs rows m → ∃ ye : List (α × ExL ls), ye.map (·.1) = xs ∧ packs ls ye = rows ∧ ∀ r, As.ro r ∈ pfacts ls ye → r.p m
  | [], [], _ => ⟨[], rfl, rfl, fun r h => by cases h⟩
  | [], _ :: _, h => by simp [RelsP] at h
  | _ :: _, [], h => by simp [RelsP] at h
  | x :: xs, r :: rows, h => by
    obtain ⟨e, h1, h2⟩ := openL (h.2 0 x r rfl rfl)
    obtain ⟨ye, h3, h4, h5⟩ := rels_packs (xs := xs) (rows := rows) ⟨by simpa using h.1, fun j y s hy hs => h.2 (j + 1) y s (by simpa using hy) (by simpa using hs)⟩
    refine ⟨(x, e) :: ye, by simp [h3], by simp [packs, h1]; exact h4, fun q hq => ?_⟩
    rcases List.mem_append.1 hq with hq | hq
    · exact h2 q hq
    · exact h5 q hq

/-- A slice of one's own whose elements have slices that stay. -/
def OwnC {α : Type} (E : Cod α) (e : Nat) (A : Option Addr) (c : Nat) (xs : List α) : Res where
  gs := blkOf A c
  p _ := True
  loc _ _ _ h := h
  q m z := ∃ rows, OwnP E.n e A xs.length c rows m ∧ RelsP E xs rows z
  qloc m m' z z' hm hz h := by
    obtain ⟨rows, h1, h2⟩ := h
    exact ⟨rows, (Own E.n e A xs.length c rows).loc m m' hm h1, (Rels E xs rows).mono _ _ hz h2⟩

section
variable {P : Program} [T : HasTT P] {w0 : World} {nt : Nat} {Γ Γ' : Env} {F F' G R : List As} {Q : Exit → Act → World → Prop} {ops : Array Oper} {rest : List Oper}
variable {d : Nat} {op : Op} {ty : Nat} {pos : String} {af : Array Edge} {X : List Oper → Act → World → Prop}

theorem blocks_addro : ∀ {G F : List As}, allRo G = true → blocks (G ++ F) = blocks F := fun {G F} h => by
  rw [blocks_append, blocks_ro fun x hx => by obtain ⟨r, rfl⟩ := allRo_gs h x hx; rfl]
  rfl

theorem Sat.add_ros {w : World} : ∀ (G : List As), allRo G = true → (∀ r, As.ro r ∈ G → r.p (frz (blocks F) w)) → Sat F w → Sat (G ++ F) w
  | [], _, _, h => h
  | .ro r :: G, hro, hG, h => by
    have h2 := Sat.add_ros G hro (fun r hr => hG r (List.mem_cons_of_mem _ hr)) h
    refine h2.add_ro r ?_
    rw [blocks_addro (show allRo G = true from hro)]
    exact hG r (List.mem_cons_self ..)
  | .res _ :: _, hro, _, _ => by simp [allRo] at hro

theorem AllIn.ros {G F : List As} (h : AllIn G F) {w : World} (hf : Sat F w) : ∀ r, As.ro r ∈ G → r.p (frz (blocks F) w) := fun r hr => hf.ro (h.mem _ hr)

theorem Sat.openC {α : Type} {E : Cod α} {e c : Nat} {A : Option Addr} {xs : List α} {w : World} (h : Sat (.res (OwnC E e A c xs) :: F) w) : ∃ rows, RelsP E xs rows (frz (blocks (.res (OwnC E e A c xs) :: F)) w) ∧ Sat (.res (Own E.n e A xs.length c rows) :: F) w := by
  obtain ⟨rows, h1, h2⟩ := h.resq (r := OwnC E e A c xs) (List.mem_cons_self ..)
  refine ⟨rows, h2, h.nodup, fun x hx => ?_⟩
  cases hx with
  | head => exact ⟨(h.all _ (List.mem_cons_self ..)).1, h1, trivial⟩
  | tail _ hx => exact h.all _ (List.mem_cons_of_mem _ hx)

theorem Sat.shutC {α : Type} {E : Cod α} {e c n : Nat} {A : Option Addr} {xs : List α} {rows : List (List Value)} {w : World} (h : Sat (.res (Own E.n e A n c rows) :: F) w) (hn : n = xs.length) (hr : RelsP E xs rows (frz (blocks (.res (Own E.n e A n c rows) :: F)) w)) :
    Sat (.res (OwnC E e A c xs) :: F) w := by
  subst hn
  refine ⟨h.nodup, fun x hx => ?_⟩
  cases hx with
  | head => exact ⟨(h.all _ (List.mem_cons_self ..)).1, trivial, rows, (h.all _ (List.mem_cons_self ..)).2.1, hr⟩
  | tail _ hx => exact h.all _ (List.mem_cons_of_mem _ hx)

theorem Sat.nilC {α : Type} {w : World} (h : Sat F w) (E : Cod α) (e : Nat) : Sat (.res (OwnC E e none 0 []) :: F) w :=
  h.add_res (Ext.refl w) (OwnC E e none 0 []) (show (blkOf none 0).Nodup from blkOf_nodup _ _) (fun k hk => absurd ((mem_blkOf (A := none) (c := 0)).1 hk).1 (by omega)) trivial ⟨[], OwnP.nil _ _ _, rfl, fun j x r hx => by simp at hx⟩

theorem Sat.meltC {α : Type} {E : Cod α} {e c : Nat} {A : Option Addr} {xs : List α} {w : World} (h : Sat (.res (OwnC E e A c xs) :: F) w) : Sat (.ro (Sl E A c xs) :: F) w := by
  obtain ⟨rows, h1, h2⟩ := h.openC
  have h3 : Sat (.res (Own E.n e A xs.length c rows) :: .ro (Rels E xs rows) :: F) w := (h2.add_ro (Rels E xs rows) h1).perm (List.Perm.swap ..)
  have h4 := Sat.own_sl (E := E) (xs := xs) h3 rfl fun m hm => hm _ (List.mem_cons_self ..) _ rfl
  exact (Keep.k (Keep.d Keep.z)).sat h4

theorem Sat.litC {α : Type} {ls : List (LC α)} {g e : Nat} {cs : List Value} {ys : List α} {w : World} (ye : List (α × ExL ls)) (hcs : (packs ls ye).flatten = cs) (hys : ye.map (·.1) = ys) (hm : Nat.ble ye.length 16777216 = true) (hin : AllIn (pfacts ls ye) F) (h : Sat (.res (Box g e cs) :: F) w) :
    Sat (.res (OwnC (codL ls) e (some ⟨g, 0, none⟩) ys.length ys) :: F) w := by
  subst hys
  have h2 : Sat (.res (Own ls.length e (some ⟨g, 0, none⟩) ye.length ye.length (packs ls ye)) :: F) w :=
    Sat.box_own hcs (by simp [packs]) (packs_ok ls ye) (by have := Nat.le_of_ble_eq_true hm; simp only [maxLen]; omega) h
  have e1 : (ye.map (·.1)).length = ye.length := by simp
  rw [e1]
  exact h2.shutC e1.symm (packs_rels fun r hr => h2.ro (List.mem_cons_of_mem _ (hin.mem _ hr)))

/-- The address of an element that has slices inside, of a slice that stays. -/
theorem St.ixN [W : Walk P ops X] {α : Type} {ls : List (LC α)} {t e : Nat} {i j : TI} {x ix : Operand} {A : Option Addr} {n c : Nat} {kk : IntKind} {q : Int} {xs : List α} {y : α} (hy : elt xs q = some y) (hd : Nat.blt d nt = true) (hx : ev Γ x = some (.slice A n c)) (hq : ev Γ ix = some (.int kk q))
    (hm : As.ro (Sl (codL ls) A c xs) ∈ F) (hlen : n = xs.length) (hi : tget T.tt t = some i) (hdesc : i.desc = .slice e) (hj : tget T.tt e = some j) (hn : j.size = ls.length)
    (k : ∀ b o (ex : ExL ls), St w0 nt ((d, .pointer (some ⟨b, o, none⟩)) :: Γ) (.ro (Cells b o (valsL y ls ex)) :: (factsL y ls ex ++ F)) (X rest)) : St w0 nt Γ F (X (⟨some d, .indexAddr t x ix, ty, pos, af, none⟩ :: rest)) :=
  St.idx (codL ls) hd hx hq hm hlen hy hi hdesc hj hn fun b o cs a w hs hdf ha hf hw => by
    have hrel : relL (frz (blocks F) w) y ls cs := hf.ro (r := Rel (codL ls) y cs) (by simp)
    obtain ⟨ex, rfl, hex⟩ := openL hrel
    have h0 : Sat F w := hf.tail.tail
    have hc := hf.ro (r := Cells b o (valsL y ls ex)) (by simp)
    refine k b o ex a w hs hdf ha (Sat.add_ro (Sat.add_ros _ (factsL_ro ls ex) hex h0) _ ?_) hw
    rw [blocks_addro (factsL_ro ls ex)]
    exact hc

/-- .. of a slice of one's own. -/
theorem St.ixC [W : Walk P ops X] {α : Type} {E : Cod α} {t e e' : Nat} {i j : TI} {x ix : Operand} {A : Option Addr} {n c : Nat} {kk : IntKind} {q : Int} {xs : List α} {y : α} (hy : elt xs q = some y) (hd : Nat.blt d nt = true) (hx : ev Γ x = some (.slice A n c)) (hq : ev Γ ix = some (.int kk q))
    (hm : As.res (OwnC E e' A c xs) ∈ F) (hlen : n = xs.length) (hi : tget T.tt t = some i) (hdesc : i.desc = .slice e) (hj : tget T.tt e = some j) (hn : j.size = E.n)
    (k : ∀ g, A = some ⟨g, 0, none⟩ → St w0 nt ((d, .pointer (some ⟨g, q.toNat * E.n, none⟩)) :: Γ) F (X rest)) : St w0 nt Γ F (X (⟨some d, .indexAddr t x ix, ty, pos, af, none⟩ :: rest)) :=
  fun a w hs hdf ha hf hw => by
    obtain ⟨h0, h1, _⟩ := elt_some hy
    obtain ⟨rows, hown, _⟩ := hf.resq hm
    subst hlen
    rcases hown.2.2 with ⟨h, _⟩ | ⟨g, cur, fr, _, hA, _⟩
    · omega
    · subst hA
      obtain ⟨dd, hu, hdd⟩ := T.ok.desc hi
      have hadd : (⟨g, 0, none⟩ : Addr).add (q.toNat * E.n) = ⟨g, q.toNat * E.n, none⟩ := add_zero_off g _
      refine W.val _ _ _ _ _ (wanted_none rfl _) (fun w' he => ?_) (k g rfl _ w (by simp [Act.put, hs]) hdf (ha.put (hs ▸ Nat.le_of_ble_eq_true hd)) hf hw)
      simp [execOp, Instr.indexAt, ha.eval hx, ha.eval hq, asIntOf, run_underlying hu, TD.of_slice (hdd.trans hdesc), run_sizeOf_tt T.ok hj, hn, h0, h1, hadd]

/-- Where an element lies, and what its slices are. -/
theorem St.openN {X : Act → World → Prop} {α : Type} {ls : List (LC α)} {A : Option Addr} {c : Nat} {xs : List α} {q : Int} {y : α} (hm : As.ro (Sl (codL ls) A c xs) ∈ F) (hy : elt xs q = some y) (k : ∀ b o (ex : ExL ls), (∃ oA, A = some ⟨b, oA, none⟩ ∧ o = oA + q.toNat * ls.length) → St w0 nt Γ (.ro (Cells b o (valsL y ls ex)) :: (factsL y ls ex ++ F)) X) : St w0 nt Γ F X :=
  fun a w hs hdf ha hf hw => by
    obtain ⟨h0, h1, h2⟩ := elt_some hy
    have hsl := hf.ro hm
    cases A with
    | none =>
      have := hsl.2.2.1 rfl
      subst this
      simp at h2
    | some ad =>
      obtain ⟨hspot, cs, hrel, hc⟩ := hsl.2.2.2 ad rfl _ _ h2
      obtain ⟨ex, rfl, hex⟩ := openL hrel
      obtain ⟨b, o, s⟩ := ad
      simp only at hspot
      subst hspot
      refine k b _ ex ⟨o, rfl, rfl⟩ a w hs hdf ha (Sat.add_ro (Sat.add_ros _ (factsL_ro ls ex) hex hf) _ ?_) hw
      rw [blocks_addro (factsL_ro ls ex)]
      exact hc

theorem St.openOC {X : Act → World → Prop} {α : Type} {E : Cod α} {A : Option Addr} {c e : Nat} {xs : List α} {q : Int} {y : α} (hm : As.res (OwnC E e A c xs) ∈ F) (hy : elt xs q = some y) (k : ∀ g, A = some ⟨g, 0, none⟩ → St w0 nt Γ F X) : St w0 nt Γ F X :=
  fun a w hs hdf ha hf hw => by
    obtain ⟨h0, h1, _⟩ := elt_some hy
    obtain ⟨rows, hown, _⟩ := hf.resq hm
    rcases hown.2.2 with ⟨h, _⟩ | ⟨g, cur, fr, _, hA, _⟩
    · omega
    · exact k g hA a w hs hdf ha hf hw

theorem Rd.ixOC {α : Type} {t e n' : Nat} {i j : TI} {x ix : Operand} {n c g : Nat} {kk : IntKind} {q : Int} {xs : List α} {y : α} (hy : elt xs q = some y) (hx : ev Γ x = some (.slice (some ⟨g, 0, none⟩) n c)) (hq : ev Γ ix = some (.int kk q))
    (hlen : n = xs.length) (hi : tget T.tt t = some i) (hdesc : i.desc = .slice e) (hj : tget T.tt e = some j) (hn : j.size = n') : Rd P F Γ (.indexAddr t x ix) (.pointer (some ⟨g, q.toNat * n', none⟩)) :=
  fun a w d ty pos af gg ha hf => by
    obtain ⟨h0, h1, h2⟩ := elt_some hy
    subst hlen
    obtain ⟨dd, hu, hdd⟩ := T.ok.desc hi
    have hadd : (⟨g, 0, none⟩ : Addr).add (q.toNat * n') = ⟨g, q.toNat * n', none⟩ := add_zero_off g _
    simp [execOp, Instr.indexAt, ha.eval hx, ha.eval hq, asIntOf, run_underlying hu, TD.of_slice (hdd.trans hdesc), run_sizeOf_tt T.ok hj, hn, h0, h1, hadd]

theorem Rd.ixN {α : Type} {t e n' : Nat} {i j : TI} {x ix : Operand} {A : Option Addr} {n c : Nat} {kk : IntKind} {q : Int} {xs : List α} {y : α} {b o : Nat} (hA : ∃ oA, A = some ⟨b, oA, none⟩ ∧ o = oA + q.toNat * n') (hy : elt xs q = some y) (hx : ev Γ x = some (.slice A n c)) (hq : ev Γ ix = some (.int kk q))
    (hlen : n = xs.length) (hi : tget T.tt t = some i) (hdesc : i.desc = .slice e) (hj : tget T.tt e = some j) (hn : j.size = n') : Rd P F Γ (.indexAddr t x ix) (.pointer (some ⟨b, o, none⟩)) :=
  fun a w d ty pos af gg ha hf => by
    obtain ⟨oA, rfl, rfl⟩ := hA
    obtain ⟨h0, h1, h2⟩ := elt_some hy
    subst hlen
    obtain ⟨dd, hu, hdd⟩ := T.ok.desc hi
    have hadd : (⟨b, oA, none⟩ : Addr).add (q.toNat * n') = ⟨b, oA + q.toNat * n', none⟩ := by
      unfold Addr.add
      split
      · rename_i hz; rw [hz]; rfl
      · rfl
    simp [execOp, Instr.indexAt, ha.eval hx, ha.eval hq, asIntOf, run_underlying hu, TD.of_slice (hdd.trans hdesc), run_sizeOf_tt T.ok hj, hn, h0, h1, hadd]

theorem rels_row {α : Type} {E : Cod α} {xs : List α} {rows : List (List Value)} {m : Hp} {q : Int} {y : α} (h : RelsP E xs rows m) (hy : elt xs q = some y) : ∃ row, rows[q.toNat]? = some row ∧ E.rel m y row := by
  obtain ⟨h0, h1, h2⟩ := elt_some hy
  have hl : q.toNat < rows.length := by rw [h.1]; omega
  exact ⟨rows[q.toNat], List.getElem?_eq_getElem hl, h.2 _ _ _ h2 (List.getElem?_eq_getElem hl)⟩

/-- A load of (a part of) such an element. -/
theorem St.ldC [W : Walk P ops X] {α : Type} {ls : List (LC α)} {t e c g p : Nat} {x : Operand} {q : Int} {y : α} (off : Nat) {xs : List α} (v : ExL ls → Value) (hy : elt xs q = some y) (hd : Nat.blt d nt = true) (hx : ev Γ x = some (.pointer (some ⟨g, p, none⟩)))
    (hm : As.res (OwnC (codL ls) e (some ⟨g, 0, none⟩) c xs) ∈ F) (hpp : p = q.toNat * ls.length + off) (hv : ∀ ex, ppart T.tt t (valsL y ls ex) off = some (v ex))
    (k : ∀ ex, St w0 nt ((d, v ex) :: Γ) (factsL y ls ex ++ F) (X rest)) : St w0 nt Γ F (X (⟨some d, .load t x, ty, pos, af, none⟩ :: rest)) :=
  fun a w hs hdf ha hf hw => by
    obtain ⟨rows, hown, hrel⟩ := hf.resq hm
    obtain ⟨row, hr, hrow⟩ := rels_row hrel hy
    obtain ⟨ex, rfl, hex⟩ := openL hrow
    have hlt := (hf.all _ hm).1
    refine W.val _ _ _ _ (v ex) (wanted_none rfl _) (fun w' he => run_load_op T.ok (by rw [ha.eval hx, hpp]) (hv ex) (own_row_cells ((Own ls.length e (some ⟨g, 0, none⟩) xs.length c rows).loc (hp w) (hp w') (fun k hk => (he.block k (hlt k hk)).symm) hown) hr) _ _) ?_
    exact k ex _ w (by simp [Act.put, hs]) hdf (ha.put (hs ▸ Nat.le_of_ble_eq_true hd)) (Sat.add_ros _ (factsL_ro ls ex) hex hf) hw

/-- A store into (a part of) such an element. -/
theorem St.stC {α : Type} {ls : List (LC α)} {t e c g p : Nat} {x y : Operand} {q : Int} {u u' : α} (off : Nat) {i : TI} {xs zs : List α} {v : Value} (ex' : ExL ls → ExL ls) (hu : elt xs q = some u) (hz : setE xs q u' = some zs) (hx : ev Γ x = some (.pointer (some ⟨g, p, none⟩))) (hy : ev Γ y = some v)
    (hD : Del F (.res (OwnC (codL ls) e (some ⟨g, 0, none⟩) c xs)) G) (hpp : p = q.toNat * ls.length + off) (hi : tget T.tt t = some i) (hsz : Nat.beq (zc v).length i.size = true) (h1 : ((zc v).all fun u => u.oneCell') = true)
    (hs : ∀ ex, spliceK (valsL u ls ex) off (zc v) some = some (valsL u' ls (ex' ex))) (hin : ∀ ex, AllIn (factsL u' ls (ex' ex)) (factsL u ls ex ++ G))
    (k : St w0 nt Γ (.res (OwnC (codL ls) e (some ⟨g, 0, none⟩) c zs) :: G) (wpList P ops Q rest)) : St w0 nt Γ F (wpList P ops Q (⟨none, .store t x y, ty, pos, af, none⟩ :: rest)) :=
  fun a w hs' hdf ha hf hw => by
    obtain ⟨rows, hrel, hf2⟩ := (hf.front hD).openC
    obtain ⟨row, hr, hrow⟩ := rels_row hrel hu
    obtain ⟨ex, rfl, hex⟩ := openL hrow
    have hf3 : Sat (factsL u ls ex ++ (.res (Own (codL ls).n e (some ⟨g, 0, none⟩) xs.length c rows) :: G)) w := Sat.add_ros _ (factsL_ro ls ex) hex hf2
    have hf4 : Sat (.ro (Rels (codL ls) xs rows) :: .res (Own (codL ls).n e (some ⟨g, 0, none⟩) xs.length c rows) :: (factsL u ls ex ++ G)) w := by
      refine Sat.add_ro (hf3.perm (List.perm_middle)) (Rels (codL ls) xs rows) ?_
      have hb : blocks (.res (Own (codL ls).n e (some ⟨g, 0, none⟩) xs.length c rows) :: (factsL u ls ex ++ G)) = blocks (.res (OwnC (codL ls) e (some ⟨g, 0, none⟩) c xs) :: G) := by
        simp only [blocks, blocks_addro (factsL_ro ls ex)]
        rfl
      rw [hb]
      exact hrel
    refine St.storeO (F := .ro (Rels (codL ls) xs rows) :: .res (Own ls.length e (some ⟨g, 0, none⟩) xs.length c rows) :: (factsL u ls ex ++ G)) (G := .ro (Rels (codL ls) xs rows) :: (factsL u ls ex ++ G)) off hx hy (.s .z) hr hpp hi hsz h1 (hs ex) ?_ a w hs' hdf ha hf4 hw
    intro a2 w2 hs2 hdf2 ha2 hf5 hw2
    refine k a2 w2 hs2 hdf2 ha2 ?_ hw2
    have hR : RelsP (codL ls) xs rows (frz (blocks (.res (Own ls.length e (some ⟨g, 0, none⟩) xs.length c (rows.set q.toNat (valsL u' ls (ex' ex)))) :: .ro (Rels (codL ls) xs rows) :: (factsL u ls ex ++ G))) w2) :=
      hf5.ro (r := Rels (codL ls) xs rows) (by simp)
    unfold setE at hz
    split at hz
    · injection hz with hz
      subst hz
      rename_i hq
      have h6 : Sat (.res (OwnC (codL ls) e (some ⟨g, 0, none⟩) c (xs.set q.toNat u')) :: .ro (Rels (codL ls) xs rows) :: (factsL u ls ex ++ G)) w2 := by
        refine Sat.shutC (E := codL ls) hf5 (by simp) ⟨by simp [hR.1], fun j x r hx hr2 => ?_⟩
        rw [List.getElem?_set] at hx hr2
        by_cases hj : q.toNat = j
        · subst hj
          rw [if_pos rfl] at hx hr2
          split at hx
          · split at hr2
            · injection hx with hx
              injection hr2 with hr2
              subst hx
              subst hr2
              refine shutL (ex' ex) fun r hrm => hf5.ro (r := r) ?_
              exact List.mem_cons_of_mem _ (List.mem_cons_of_mem _ ((hin ex).mem _ hrm))
            · cases hr2
          · cases hx
        · rw [if_neg hj] at hx hr2
          exact hR.2 j x r hx hr2
      refine h6.of_mem ?_ fun y hy => ?_
      · have := h6.nodup
        simpa [blocks, blocks_addro (factsL_ro ls ex), As.gs] using this
      · rcases List.mem_cons.1 hy with rfl | hy
        · exact List.mem_cons_self ..
        · exact List.mem_cons_of_mem _ (List.mem_cons_of_mem _ (List.mem_append_right _ hy))
    · cases hz

/-- append onto a slice of one's own whose elements have slices. -/
theorem St.appC {α : Type} {E : Cod α} {t t2 e m c n : Nat} {i i2 j : TI} {s x : Operand} {A : Option Addr} {xv : Value} {b : Nat} {xs ys zs : List α} (hz : Go.Proofs.Ytnolaefjmjgfbaa.app b xs ys = some zs) (hd : Nat.blt d nt = true) (hs : ev Γ s = some (.slice A n c)) (hx : ev Γ x = some xv)
    (hD : Del F (.res (OwnC E e A c xs)) G) (hlen : n = xs.length) (hi : tget T.tt t = some i) (hdesc : i.desc = .slice e) (hj : tget T.tt e = some j) (hsz : j.size = E.n) (hby : j.bytes = b) (hzs : Nat.beq (zc j.zero).length E.n = true)
    (hm : m = ys.length) (hsrc : ∀ w, Sat F w → ∃ rows, RelsP E ys rows (frz (blocks F) w) ∧ (∀ r ∈ rows, r.length = E.n ∧ ∀ u ∈ r, u.oneCell' = true) ∧ SrcP P E.n xv m rows.flatten w) (hi2 : tget T.tt t2 = some i2) (hd2 : notInt i2.desc = true)
    (k : ∀ A' c', St w0 nt ((d, .slice A' zs.length c') :: Γ) (.res (OwnC E e A' c' zs) :: G) (wpList P ops Q rest)) :
    St w0 nt Γ F (wpList P ops Q (⟨some d, .call { callee := .builtin .append, args := #[s, x], argTypes := #[t, t2] }, ty, pos, af, none⟩ :: rest)) :=
  fun a w hs' hdf ha hf hw => by
    obtain ⟨rfl, h2, h3⟩ := app_some hz
    subst hlen; subst hm; subst hby
    obtain ⟨news, hn1, hn2, hn3⟩ := hsrc w hf
    have hff := hf.front hD
    obtain ⟨rows, hrel, hf2⟩ := hff.openC
    have hb : blocks F = blocks F := rfl
    have hn1' : RelsP E ys news (frz (blocks (.res (Own E.n e A xs.length c rows) :: G)) w) := (Rels E ys news).mono _ _ (frz_anti w fun kk hk => (blocks_perm hD.perm).mem_iff.2 hk) hn1
    have hf3 : Sat (.ro (Rels E ys news) :: .ro (Rels E xs rows) :: .res (Own E.n e A xs.length c rows) :: G) w := (hf2.add_ro (Rels E xs rows) hrel).add_ro (Rels E ys news) hn1'
    refine append_at (F := .ro (Rels E ys news) :: .ro (Rels E xs rows) :: .res (Own E.n e A xs.length c rows) :: G) news hs' hdf ha hf3 hw hd hs hx (.s (.s .z)) hi hdesc hj hsz hzs hn3 rfl hn1.1 hn2 (by simpa [maxLen] using h3) h2 hi2 hd2 fun A' c' => ?_
    intro a2 w2 hs2 hdf2 ha2 hf5 hw2
    have e1 : (xs ++ ys).length = xs.length + ys.length := by simp
    refine (e1 ▸ k A' c') a2 w2 hs2 hdf2 ha2 ?_ hw2
    have hR1 := hf5.ro (r := Rels E xs rows) (by simp)
    have hR2 := hf5.ro (r := Rels E ys news) (by simp)
    have h6 : Sat (.res (OwnC E e A' c' (xs ++ ys)) :: .ro (Rels E ys news) :: .ro (Rels E xs rows) :: G) w2 := by
      refine Sat.shutC (E := E) hf5 e1.symm ⟨by simp [hR1.1, hR2.1], fun j x r hx hr => ?_⟩
      by_cases hj : j < xs.length
      · rw [List.getElem?_append_left hj] at hx
        rw [List.getElem?_append_left (by rw [hR1.1]; exact hj)] at hr
        exact hR1.2 j x r hx hr
      · rw [List.getElem?_append_right (by omega)] at hx
        rw [List.getElem?_append_right (by rw [hR1.1]; omega), hR1.1] at hr
        exact hR2.2 _ x r hx hr
    exact (Keep.k (Keep.d (Keep.d Keep.z))).sat h6

theorem srcSC {α : Type} {E : Cod α} {A : Option Addr} {c : Nat} {ys : List α} (hm : As.ro (Sl E A c ys) ∈ F) : ∀ w, Sat F w → ∃ rows, RelsP E ys rows (frz (blocks F) w) ∧ (∀ r ∈ rows, r.length = E.n ∧ ∀ u ∈ r, u.oneCell' = true) ∧ SrcP P E.n (.slice A ys.length c) ys.length rows.flatten w := fun w hf => by
  have h := hf.ro hm
  obtain ⟨rows, h1, h2, h3⟩ := SlP.rows (E := E) h
  refine ⟨rows, h1, h2, SlP.src (E := E) h2 h1.1 h.2.2.1 fun ad ha hne => ?_⟩
  obtain ⟨h4, h5⟩ := h3 ad ha hne
  exact ⟨h4, fun i u hu => cellm_mono (frz_hp _ _) (h5 i u hu)⟩

theorem srcBC {α : Type} {ls : List (LC α)} {g e m c : Nat} {cs : List Value} {ys : List α} (ye : List (α × ExL ls)) (hm : As.res (Box g e cs) ∈ F) (hcs : (packs ls ye).flatten = cs) (hys : ye.map (·.1) = ys) (hl : m = ys.length) (hin : AllIn (pfacts ls ye) F) :
    ∀ w, Sat F w → ∃ rows, RelsP (codL ls) ys rows (frz (blocks F) w) ∧ (∀ r ∈ rows, r.length = (codL ls).n ∧ ∀ u ∈ r, u.oneCell' = true) ∧ SrcP P (codL ls).n (.slice (some ⟨g, 0, none⟩) m c) m rows.flatten w := fun w hf => by
  subst hys
  subst hcs
  subst hl
  have hok := packs_ok ls ye
  refine ⟨packs ls ye, packs_rels (hin.ros hf), hok, src_box hm (by rw [length_flatten_rows hok]; simp [packs, codL]) ?_ w hf⟩
  rw [List.all_eq_true]
  intro u hu
  obtain ⟨r, hr, hur⟩ := List.mem_flatten.1 hu
  exact (hok r hr).2 u hur

/-! ### arrays by an index -/

def rowVal : Bool → List Value → Value
  | true, l => .agg l.toArray
  | false, [v] => v
  | false, _ => undef

theorem pack_at {α : Type} {ls : List (LC α)} {ye : List (α × ExL ls)} {ys : List α} {q : Int} {y : α} (hys : ye.map (·.1) = ys) (hy : elt ys q = some y) : 0 ≤ q ∧ q < (ye.length : Int) ∧ ∃ ex, ye[q.toNat]? = some (y, ex) := by
  subst hys
  obtain ⟨h0, h1, h2⟩ := elt_some hy
  simp only [List.length_map, List.getElem?_map, Option.map_eq_some_iff] at h1 h2
  obtain ⟨⟨y', ex⟩, h3, h4⟩ := h2
  subst h4
  exact ⟨h0, h1, ex, h3⟩

theorem packs_row {α : Type} {ls : List (LC α)} {ye : List (α × ExL ls)} {n : Nat} {y : α} {ex : ExL ls} (h : ye[n]? = some (y, ex)) : ∃ pre post, (packs ls ye).flatten = pre ++ (valsL y ls ex ++ post) ∧ pre.length = n * ls.length := by
  induction ye generalizing n with
  | nil => simp at h
  | cons p r ih =>
    cases n with
    | zero =>
      simp at h
      subst h
      exact ⟨[], (packs ls r).flatten, by simp [packs], by simp⟩
    | succ n =>
      obtain ⟨pre, post, h1, h2⟩ := ih (by simpa using h)
      refine ⟨valsL p.1 ls p.2 ++ pre, post, ?_, ?_⟩
      · show valsL p.1 ls p.2 ++ (packs ls r).flatten = _
        rw [h1]
        simp
      · rw [List.length_append, valsL_len, h2, Nat.add_mul]
        omega

theorem ppart_row {t n : Nat} {j : TI} {cs pre row post : List Value} (hj : tget T.tt t = some j) (hn : j.size = row.length) (h1 : isAggD j.desc = false → row.length = 1) (hcs : cs = pre ++ (row ++ post)) (hp : pre.length = n) : ppart T.tt t cs n = some (rowVal (isAggD j.desc) row) := by
  subst hcs
  subst hp
  unfold ppart
  rw [hj]
  simp only
  cases hb : isAggD j.desc with
  | true =>
    simp only [rowVal]
    have : ∀ (l r : List Value) (k : List Value → Option Value), takeK (l ++ r) l.length k = k l := by
      intro l
      induction l with
      | nil => intro r k; simp [takeK]
      | cons x l ih => intro r k; simp only [List.cons_append, List.length_cons, takeK]; exact ih r _
    rw [List.drop_left, hn, this]
  | false =>
    obtain ⟨v, rfl⟩ := List.length_eq_one_iff.1 (h1 hb)
    simp [rowVal, nth_eq]

/-- An array's element at an index. -/
theorem St.ixV [W : Walk P ops X] {α : Type} {ls : List (LC α)} {t e len : Nat} {i j : TI} {x ix : Operand} {cs : List Value} {kk : IntKind} {q : Int} (b : Bool) (ye : List (α × ExL ls)) {ys : List α} {y : α} (hy : elt ys q = some y) (hd : Nat.blt d nt = true) (hx : ev Γ x = some (.agg cs.toArray)) (hq : ev Γ ix = some (.int kk q))
    (hys : ye.map (·.1) = ys) (hcs : (packs ls ye).flatten = cs) (hin : AllIn (pfacts ls ye) F) (hi : tget T.tt t = some i) (hdesc : i.desc = .array len e) (hlen : len = ye.length) (hj : tget T.tt e = some j) (hn : j.size = ls.length) (hb : isAggD j.desc = b) (h1 : b = false → ls.length = 1)
    (k : ∀ ex, St w0 nt ((d, rowVal b (valsL y ls ex)) :: Γ) (factsL y ls ex ++ F) (X rest)) : St w0 nt Γ F (X (⟨some d, .index t x ix, ty, pos, af, none⟩ :: rest)) :=
  fun a w hs hdf ha hf hw => by
    obtain ⟨h0, hlt, ex, hex⟩ := pack_at hys hy
    obtain ⟨pre, post, hp1, hp2⟩ := packs_row hex
    have hfacts : ∀ r, As.ro r ∈ factsL y ls ex → r.p (frz (blocks F) w) := fun r hr => hf.ro (hin.mem _ (pfacts_mem (List.mem_of_getElem? hex) _ hr))
    subst hb
    refine W.val _ _ _ _ (rowVal (isAggD j.desc) (valsL y ls ex)) (wanted_none rfl _) (fun w' _ => ?_) (k ex _ w (by simp [Act.put, hs]) hdf (ha.put (hs ▸ Nat.le_of_ble_eq_true hd)) (Sat.add_ros _ (factsL_ro ls ex) hfacts hf) hw)
    obtain ⟨dd, hu, hdd⟩ := T.ok.desc hi
    have hpp : ppart T.tt e cs (q.toNat * j.size) = some (rowVal (isAggD j.desc) (valsL y ls ex)) :=
      ppart_row hj (by rw [hn, valsL_len]) (fun hh => by rw [valsL_len]; exact h1 hh) (hcs ▸ hp1) (by rw [hp2, hn])
    have hlt' : q < (len : Int) := by rw [hlen]; exact hlt
    simp [execOp, ha.eval hx, ha.eval hq, Instr.index, asIntOf, run_underlying hu, TD.of_array (hdd.trans hdesc), h0, hlt', run_sizeOf_tt T.ok hj, part_run T.ok hpp]

/-- The address of an array's element at an index: the array lies in a block of one's own. -/
theorem St.ixP [W : Walk P ops X] {α : Type} {t e len g o sz : Nat} {i j : TI} {x ix : Operand} {kk : IntKind} {q : Int} {ys : List α} {y : α} (hy : elt ys q = some y) (hd : Nat.blt d nt = true) (hx : ev Γ x = some (.pointer (some ⟨g, o, none⟩))) (hq : ev Γ ix = some (.int kk q))
    (hi : tget T.tt t = some i) (hdesc : i.desc = .array len e) (hlen : len = ys.length) (hj : tget T.tt e = some j) (hn : j.size = sz)
    (k : St w0 nt ((d, .pointer (some ⟨g, o + q.toNat * sz, none⟩)) :: Γ) F (X rest)) : St w0 nt Γ F (X (⟨some d, .indexAddr t x ix, ty, pos, af, none⟩ :: rest)) := by
  obtain ⟨h0, h1, _⟩ := elt_some hy
  refine St.val hd (fun a w ha _ => ?_) k
  obtain ⟨dd, hu, hdd⟩ := T.ok.desc hi
  have hadd : (⟨g, o, none⟩ : Addr).add (q.toNat * sz) = ⟨g, o + q.toNat * sz, none⟩ := by
    unfold Addr.add
    split
    · rename_i h; rw [h]; rfl
    · rfl
  simp [execOp, ha.eval hx, ha.eval hq, Instr.indexAt, asIntOf, run_underlying hu, TD.of_array (hdd.trans hdesc), h0, hlen, h1, Instr.sureAddr, run_sizeOf_tt T.ok hj, hn, hadd]

/-- A load through it. -/
theorem St.ldP [W : Walk P ops X] {α : Type} {ls : List (LC α)} {t g t' p o : Nat} {x : Operand} {q : Int} {cs : List Value} (off : Nat) (pre post : List Value) (ye : List (α × ExL ls)) {ys : List α} {y : α} (v : ExL ls → Value) (hy : elt ys q = some y) (hd : Nat.blt d nt = true) (hx : ev Γ x = some (.pointer (some ⟨g, p, none⟩)))
    (hm : As.res (Box g t' cs) ∈ F) (hcs : pre ++ ((packs ls ye).flatten ++ post) = cs) (ho : pre.length = o) (hys : ye.map (·.1) = ys) (hin : AllIn (pfacts ls ye) F) (hpp : p = o + q.toNat * ls.length + off) (hv : ∀ ex, ppart T.tt t (valsL y ls ex) off = some (v ex))
    (k : ∀ ex, St w0 nt ((d, v ex) :: Γ) (factsL y ls ex ++ F) (X rest)) : St w0 nt Γ F (X (⟨some d, .load t x, ty, pos, af, none⟩ :: rest)) :=
  fun a w hs hdf ha hf hw => by
    obtain ⟨h0, hlt, ex, hex⟩ := pack_at hys hy
    obtain ⟨pre2, post2, hp1, hp2⟩ := packs_row hex
    have hfacts : ∀ r, As.ro r ∈ factsL y ls ex → r.p (frz (blocks F) w) := fun r hr => hf.ro (hin.mem _ (pfacts_mem (List.mem_of_getElem? hex) _ hr))
    refine W.val _ _ _ _ (v ex) (wanted_none rfl _) (fun w' he => run_load_op (o := o + q.toNat * ls.length) T.ok (by rw [ha.eval hx, hpp]) (hv ex) (fun i u hu => ?_) _ _) (k ex _ w (by simp [Act.put, hs]) hdf (ha.put (hs ▸ Nat.le_of_ble_eq_true hd)) (Sat.add_ros _ (factsL_ro ls ex) hfacts hf) hw)
    refine Box.cell ((hf.ext he).res hm) ?_
    have hi := (List.getElem?_eq_some_iff.1 hu).1
    rw [← hcs, List.getElem?_append_right (by omega), hp1, List.append_assoc, List.getElem?_append_right (by omega), List.append_assoc, List.getElem?_append_left (by omega), ← hu]
    congr 1
    omega

/-- A store through it. -/
theorem St.stP {α : Type} {ls : List (LC α)} {t g t' p o : Nat} {x y : Operand} {q : Int} {u u' : α} {cs : List Value} (off : Nat) {i : TI} (pre post : List Value) (ye : List (α × ExL ls)) {ys zs : List α} {v : Value} (ex' : ExL ls → ExL ls) (hu : elt ys q = some u) (hz : setE ys q u' = some zs) (hx : ev Γ x = some (.pointer (some ⟨g, p, none⟩))) (hy : ev Γ y = some v)
    (hD : Del F (.res (Box g t' cs)) G) (hcs : pre ++ ((packs ls ye).flatten ++ post) = cs) (ho : pre.length = o) (hys : ye.map (·.1) = ys) (hin : AllIn (pfacts ls ye) G) (hpp : p = o + q.toNat * ls.length + off) (hi : tget T.tt t = some i) (hsz : Nat.beq (zc v).length i.size = true) (h1 : ((zc v).all fun u => u.oneCell') = true)
    (hs : ∀ ex, spliceK (valsL u ls ex) off (zc v) some = some (valsL u' ls (ex' ex))) (hin' : ∀ ex, AllIn (factsL u' ls (ex' ex)) (factsL u ls ex ++ G))
    (k : ∀ ye' : List (α × ExL ls), ye'.map (·.1) = zs → St w0 nt Γ (.res (Box g t' (pre ++ ((packs ls ye').flatten ++ post))) :: (pfacts ls ye' ++ G)) (wpList P ops Q rest)) : St w0 nt Γ F (wpList P ops Q (⟨none, .store t x y, ty, pos, af, none⟩ :: rest)) :=
  fun a w hs' hdf ha hf hw => by
    obtain ⟨h0, hlt, ex, hex⟩ := pack_at hys hu
    have hf' := hf.front hD
    have hfacts : ∀ r, As.ro r ∈ factsL u ls ex → r.p (frz (blocks (.res (Box g t' cs) :: G)) w) := fun r hr => hf'.ro (List.mem_cons_of_mem _ (hin.mem _ (pfacts_mem (List.mem_of_getElem? hex) _ hr)))
    obtain ⟨pre2, post2, hp1, hp2⟩ := packs_row hex
    have hqn : q.toNat < ye.length := (List.getElem?_eq_some_iff.1 hex).1
    -- the new rows
    have hf3 : Sat (.res (Box g t' cs) :: (factsL u ls ex ++ G)) w := (Sat.add_ros _ (factsL_ro ls ex) hfacts hf').perm List.perm_middle
    have hlen1 : (valsL u ls ex).length = ls.length := valsL_len _ _ _
    have hse := spliceK_eq _ _ _ _ _ (hs ex)
    have hse2 := hse.2
    injection hse2 with hse2
    have hsplice : ∀ (l : List Value) (n : Nat) (vs r : List Value), n + vs.length ≤ l.length → r = l.take n ++ vs ++ l.drop (n + vs.length) → spliceK l n vs some = some r := by
      have gen : ∀ (l : List Value) (n : Nat) (vs : List Value) (k : List Value → Option (List Value)), n + vs.length ≤ l.length → spliceK l n vs k = k (l.take n ++ vs ++ l.drop (n + vs.length)) := by
        intro l
        induction l with
        | nil => intro n vs k h; simp at h; obtain ⟨rfl, rfl⟩ := h; simp [spliceK]
        | cons c l ih =>
          intro n vs k h
          cases n with
          | zero =>
            cases vs with
            | nil => simp [spliceK]
            | cons v vs => simp only [spliceK]; rw [ih 0 vs _ (by simp at h ⊢; omega)]; simp
          | succ n =>
            simp only [spliceK]
            rw [ih n vs _ (by simp at h ⊢; omega)]
            have : n + 1 + vs.length = (n + vs.length) + 1 := by omega
            simp [this]
      intro l n vs r h hr
      rw [gen l n vs _ h, hr]
    have hye : (ye.set q.toNat (u', ex' ex)).map (·.1) = zs := by
      unfold setE at hz
      split at hz
      · injection hz with hz
        rw [← hz, ← hys, List.map_set]
      · cases hz
    have hset : (packs ls (ye.set q.toNat (u', ex' ex))).flatten = pre2 ++ (valsL u' ls (ex' ex) ++ post2) := by
      have e1 : packs ls (ye.set q.toNat (u', ex' ex)) = (packs ls ye).set q.toNat (valsL u' ls (ex' ex)) := by simp [packs, List.map_set]
      have hrow : (packs ls ye)[q.toNat]? = some (valsL u ls ex) := by simp [packs, hex]
      rw [e1, flatten_set (sz := ls.length) (packs ls ye) q.toNat _ _ (fun r hr => (packs_ok ls ye r hr).1) hrow (valsL_len _ _ _), hp1, ← hp2]
      rw [List.take_left, List.append_assoc]
      congr 1
      congr 1
      rw [← List.append_assoc, List.drop_append, List.drop_of_length_le (by simp [hlen1])]
      simp [hlen1]
    have hcs' : spliceK cs p (zc v) some = some (pre ++ ((packs ls (ye.set q.toNat (u', ex' ex))).flatten ++ post)) := by
      refine hsplice _ _ _ _ ?_ ?_
      · rw [← hcs, hp1]
        simp only [List.length_append, hlen1]
        have := hse.1
        rw [hlen1] at this
        omega
      · have hl1 := hse.1
        rw [hlen1] at hl1
        have hpp2 : p = pre.length + (pre2.length + off) := by omega
        rw [hset, ← hse2, ← hcs, hp1, hpp2]
        have e3 : (pre ++ (pre2 ++ (valsL u ls ex ++ post2) ++ post)).take (pre.length + (pre2.length + off)) = pre ++ (pre2 ++ (valsL u ls ex).take off) := by
          rw [List.take_length_add_append, List.append_assoc, List.take_length_add_append, List.append_assoc, List.take_append_of_le_length (by omega)]
        have e4 : (pre ++ (pre2 ++ (valsL u ls ex ++ post2) ++ post)).drop (pre.length + (pre2.length + off) + (zc v).length) = (valsL u ls ex).drop (off + (zc v).length) ++ (post2 ++ post) := by
          rw [Nat.add_assoc, List.drop_length_add_append, List.append_assoc, Nat.add_assoc, List.drop_length_add_append, List.append_assoc, List.drop_append_of_le_length (by omega)]
        rw [e3, e4]
        simp only [List.append_assoc]
    refine St.store (F := .res (Box g t' cs) :: (factsL u ls ex ++ G)) p hx hy rfl hi hsz h1 .z hcs' ?_ a w hs' hdf ha hf3 hw
    intro a2 w2 hs2 hdf2 ha2 hf5 hw2
    refine k _ hye a2 w2 hs2 hdf2 ha2 ?_ hw2
    have hin2 : ∀ x ∈ pfacts ls (ye.set q.toNat (u', ex' ex)), x ∈ factsL u ls ex ++ G := by
      intro x hx
      have : ∀ (l : List (α × ExL ls)), (∀ p ∈ l, ∀ x ∈ factsL p.1 ls p.2, x ∈ factsL u ls ex ++ G) → x ∈ pfacts ls l → x ∈ factsL u ls ex ++ G := by
        intro l
        induction l with
        | nil => intro _ h; cases h
        | cons p l ih =>
          intro hl h
          rcases List.mem_append.1 h with h | h
          · exact hl p (List.mem_cons_self ..) x h
          · exact ih (fun p' hp' => hl p' (List.mem_cons_of_mem _ hp')) h
      refine this _ (fun p hp x hx => ?_) hx
      rcases List.mem_or_eq_of_mem_set hp with hp | hp
      · exact List.mem_append_right _ (hin.mem _ (pfacts_mem hp x hx))
      · subst hp
        exact (hin' ex).mem _ hx
    have hro : ∀ x ∈ pfacts ls (ye.set q.toNat (u', ex' ex)), ∃ r, x = .ro r := allRo_gs (pfacts_ro ls _)
    refine hf5.of_mem ?_ fun x hx => ?_
    · have := hf5.nodup
      simpa [blocks, blocks_addro (factsL_ro ls ex), blocks_addro (pfacts_ro ls _), As.gs] using this
    · rcases List.mem_cons.1 hx with rfl | hx
      · exact List.mem_cons_self ..
      · rcases List.mem_append.1 hx with hx | hx
        · exact List.mem_cons_of_mem _ (hin2 x hx)
        · exact List.mem_cons_of_mem _ (List.mem_append_right _ hx)

/-! ### reads in whatever order -/

theorem Rd.catS {t yt : Nat} {x y z : ByteArray} {ox oy : Operand} (h : Go.Proofs.Ytnolaefjmjgfbaa.catS x y = some z) (hx : ev Γ ox = some (.string x)) (hy : ev Γ oy = some (.string y)) : Rd P F Γ (.binOp .add t ox oy yt) (.string z) := fun a w d ty pos af g ha _ => by
  unfold Go.Proofs.Ytnolaefjmjgfbaa.catS at h
  split at h
  · rename_i hl
    injection h with h; subst h
    have h1 : ¬ (((x.size + y.size : Nat) : Int) > IntKind.i64.max) := by simp only [IntKind.max, IntKind.signed, IntKind.bits]; simp; omega
    have hg : (eqGuard .add t ox oy (.string x) (.string y)).run P w = .ok () w := rfl
    simp only [execOp, ha.eval hx, ha.eval hy, Sem.run_bind, hg, Result.andThen_ok, binOp, Op.stringOp, if_neg h1, Sem.run_pure]
  · cases h

theorem Rd.eltS {t : Nat} {i : TI} {s : ByteArray} {kk : IntKind} {q z : Int} {ox oy : Operand} (h : Go.Proofs.Ytnolaefjmjgfbaa.eltS s q = some z) (hx : ev Γ ox = some (.string s)) (hy : ev Γ oy = some (.int kk q)) (hi : tget T.tt t = some i) (hdesc : i.desc = .string) : Rd P F Γ (.index t ox oy) (.int .u8 z) := fun a w d ty pos af g ha _ => by
  unfold Go.Proofs.Ytnolaefjmjgfbaa.eltS at h
  split at h
  · rename_i h0
    simp only [Option.map_eq_some_iff] at h
    obtain ⟨b, hb, rfl⟩ := h
    obtain ⟨dd, hu, hdd⟩ := T.ok.desc hi
    simp [execOp, ha.eval hx, ha.eval hy, Instr.index, asIntOf, run_underlying hu, TD.of_string (hdd.trans hdesc), h0, hb]
  · cases h

theorem Rd.subS {t : Nat} {i : TI} {s z : ByteArray} {lo hi : Option Operand} {l h : Int} {ox : Operand} (hz : Go.Proofs.Ytnolaefjmjgfbaa.subS s l h = some z) (hx : ev Γ ox = some (.string s)) (hl : boundOf Γ 0 lo = some l) (hh : boundOf Γ s.size hi = some h) (hi' : tget T.tt t = some i) (hdesc : i.desc = .string) : Rd P F Γ (.slice t ox lo hi none) (.string z) := fun a w d ty pos af g ha _ => by
  unfold Go.Proofs.Ytnolaefjmjgfbaa.subS at hz
  split at hz
  · rename_i hc
    injection hz with hz; subst hz
    obtain ⟨dd, hu, hdd⟩ := T.ok.desc hi'
    have hb := run_bounds (P := P) false ha hl hh hc.1 hc.2.1 hc.2.2 (Nat.le_refl s.size) w
    simp [execOp, Instr.sliceAt, Instr.slice, ha.eval hx, run_underlying hu, TD.of_string (hdd.trans hdesc), hb]
  · cases hz

theorem Rd.b2s {s t e : Nat} {i j l : TI} {A : Option Addr} {n c : Nat} {xs : List Int} {ox : Operand} (hm : As.ro (SlL eu8 A c xs) ∈ F) (hx : ev Γ ox = some (.slice A n c)) (hlen : n = xs.length) (hi : tget T.tt s = some i) (hdesc : i.desc = .slice e) (hj : tget T.tt e = some j) (hjd : j.desc = .int .u8) (hl : tget T.tt t = some l) (hld : l.desc = .string) :
    Rd P F Γ (.convert s t ox) (.string (strOf xs)) := fun a w d ty pos af g ha hf => by
  obtain ⟨d1, hu1, hd1⟩ := T.ok.desc hi
  obtain ⟨d2, hu2, hd2⟩ := T.ok.desc hj
  obtain ⟨d3, hu3, hd3⟩ := T.ok.desc hl
  subst hlen
  have := run_convert_bytes_string (P := P) w s t e A xs.length c (TD.of_slice (hd1.trans hdesc) ▸ hu1) (TD.of_int (hd2.trans hjd) ▸ hu2) (TD.of_string (hd3.trans hld) ▸ hu3)
  simp only [execOp, ha.eval hx, Sem.run_bind, this, run_b2s (srcL (E := eu8) hm w hf), Result.andThen_ok, Sem.run_pure]

theorem Rd.quo {t yt : Nat} {k : IntKind} {x y z : Int} {ox oy : Operand} (h : divM k x y = some z) (hx : ev Γ ox = some (.int k x)) (hy : ev Γ oy = some (.int k y)) : Rd P F Γ (.binOp .quo t ox oy yt) (.int k z) :=
  Rd.p (by
    unfold divM at h
    split at h
    · cases h
    · rename_i h0; injection h with h; subst h; simp [pev, hx, hy, pbin, pint, h0])
theorem Rd.rem {t yt : Nat} {k : IntKind} {x y z : Int} {ox oy : Operand} (h : remM x y = some z) (hx : ev Γ ox = some (.int k x)) (hy : ev Γ oy = some (.int k y)) : Rd P F Γ (.binOp .rem t ox oy yt) (.int k z) :=
  Rd.p (by
    unfold remM at h
    split at h
    · cases h
    · rename_i h0; injection h with h; subst h; simp [pev, hx, hy, pbin, pint, h0])
theorem Rd.shl {t yt : Nat} {k k' : IntKind} {x y z : Int} {ox oy : Operand} (h : shlM k x y = some z) (hx : ev Γ ox = some (.int k x)) (hy : ev Γ oy = some (.int k' y)) : Rd P F Γ (.binOp .shl t ox oy yt) (.int k z) :=
  Rd.p (by
    unfold shlM at h
    split at h
    · cases h
    · rename_i h0; injection h with h; subst h; simp [pev, hx, hy, pbin, pshift, h0])
theorem Rd.shr {t yt : Nat} {k k' : IntKind} {x y z : Int} {ox oy : Operand} (h : shrM k x y = some z) (hx : ev Γ ox = some (.int k x)) (hy : ev Γ oy = some (.int k' y)) : Rd P F Γ (.binOp .shr t ox oy yt) (.int k z) :=
  Rd.p (by
    unfold shrM at h
    split at h
    · cases h
    · rename_i h0; injection h with h; subst h; simp [pev, hx, hy, pbin, pshift, h0])

/-- A part of a slice that stays: a name for it. -/
theorem St.openS {X : Act → World → Prop} {α : Type} {E : Cod α} {A : Option Addr} {c : Nat} {xs ys : List α} {l h : Int} (hm : As.ro (Sl E A c xs) ∈ F) (hz : Go.Proofs.Ytnolaefjmjgfbaa.sub xs l h = some ys)
    (k : ∀ A' c', (A' = (if c = l.toNat then A else A.map (·.add (l.toNat * E.n))) ∧ c' = c - l.toNat) → St w0 nt Γ (.ro (Sl E A' c' ys) :: F) X) : St w0 nt Γ F X :=
  fun a w hs hdf ha hf hw => k _ _ ⟨rfl, rfl⟩ a w hs hdf ha (hf.add_ro (Sl E _ _ ys) (SlP.sub (hf.ro hm) hz)) hw

theorem Sat.addS {α : Type} {E : Cod α} {A A' : Option Addr} {c c' : Nat} {xs ys : List α} {l h : Int} {w : World} (hA : A' = (if c = l.toNat then A else A.map (·.add (l.toNat * E.n))) ∧ c' = c - l.toNat) (hm : As.ro (Sl E A c xs) ∈ F) (hz : Go.Proofs.Ytnolaefjmjgfbaa.sub xs l h = some ys) (hf : Sat F w) : Sat (.ro (Sl E A' c' ys) :: F) w := by
  obtain ⟨rfl, rfl⟩ := hA
  exact hf.add_ro (Sl E _ _ ys) (SlP.sub (hf.ro hm) hz)

theorem Rd.sub {α : Type} {E : Cod α} {t e : Nat} {i j : TI} {A A' : Option Addr} {n c c' : Nat} {xs ys : List α} {lo hi : Option Operand} {l h : Int} {ox : Operand} (hA : A' = (if c = l.toNat then A else A.map (·.add (l.toNat * E.n))) ∧ c' = c - l.toNat) (hz : Go.Proofs.Ytnolaefjmjgfbaa.sub xs l h = some ys) (hm : As.ro (Sl E A c xs) ∈ F) (hx : ev Γ ox = some (.slice A n c)) (hlen : n = xs.length)
    (hl : boundOf Γ 0 lo = some l) (hh : boundOf Γ (n : Int) hi = some h) (hi' : tget T.tt t = some i) (hdesc : i.desc = .slice e) (hj : tget T.tt e = some j) (hn : j.size = E.n) : Rd P F Γ (.slice t ox lo hi none) (.slice A' ys.length c') := fun a w d ty pos af g ha hf => by
  obtain ⟨rfl, rfl⟩ := hA
  obtain ⟨h0, h1, h2, _⟩ := sub_some hz
  have hyl := sub_len hz
  have hsl : SlP E A c xs (frz (blocks F) w) := hf.ro hm
  have hcap := hsl.1
  subst hlen
  have hyl2 : ys.length = h.toNat - l.toNat := by omega
  obtain ⟨dd, hu, hdd⟩ := T.ok.desc hi'
  have hb := run_bounds (P := P) true ha hl hh h0 h1 h2 hcap w
  simp [execOp, Instr.sliceAt, Instr.slice, ha.eval hx, run_underlying hu, TD.of_slice (hdd.trans hdesc), hb, run_sizeOf_tt T.ok hj, hn, hyl2]

/-! ### which comes first is open; guards -/

section
variable {C : World → Prop} {Qn : Act → World → Prop} {iz : Nat} {tz : Tg} {rst t1 t2 : Tr}

theorem St.xalt (h1 : St w0 nt Γ F (wpX P ops C Qn t1)) (h2 : St w0 nt Γ F (wpX P ops C Qn t2)) : St w0 nt Γ F (wpX P ops C Qn (.alt t1 t2)) :=
  fun a w hs hd ha hf hw => ⟨h1 a w hs hd ha hf hw, h2 a w hs hd ha hf hw⟩

/-- What is shown once. -/
theorem St.share {ε : Type} {X Y : Act → World → Prop} (Γs : ε → Env) (Fs : ε → List As) (h1 : (∀ Γ₁ F₁ e, SubL (Γs e) Γ₁ → (∀ w, Sat F₁ w → Sat (Fs e) w) → St w0 nt Γ₁ F₁ Y) → St w0 nt Γ F X) (h2 : ∀ e, St w0 nt (Γs e) (Fs e) Y) : St w0 nt Γ F X :=
  h1 fun _ _ e hΓ hF => St.weak hΓ hF (h2 e)

theorem St.use {ε : Type} {Y : Act → World → Prop} {Γs : ε → Env} {Fs : ε → List As} (h : ∀ Γ₁ F₁ e, SubL (Γs e) Γ₁ → (∀ w, Sat F₁ w → Sat (Fs e) w) → St w0 nt Γ₁ F₁ Y) (e : ε) (hΓ : SubL (Γs e) Γ) (hF : ∀ w, Sat F w → Sat (Fs e) w) : St w0 nt Γ F Y := h _ _ e hΓ hF

theorem St.splitB {X : Act → World → Prop} {dj : Nat} (c : Bool) (hg : get Γ dj = some (.bool c)) (ht : c = true → St w0 nt ((dj, .bool true) :: Γ) F X) (hff : c = false → St w0 nt ((dj, .bool false) :: Γ) F X) : St w0 nt Γ F X :=
  fun a w hs hdf ha hf hw => by
    cases c
    · exact hff rfl a w hs hdf (At.cons (ha dj _ hg) ha) hf hw
    · exact ht rfl a w hs hdf (At.cons (ha dj _ hg) ha) hf hw

theorem St.xgOn {dst : Option Nat} {j dj : Nat} {b : Bool} (hj : gdst ops j = some dj) (hg : get Γ dj = some (.bool b)) (k : St w0 nt Γ F (wpX P ops C Qn (.st ⟨tz, iz, ⟨dst, op, ty, pos, af, none⟩⟩ rst))) :
    St w0 nt Γ F (wpX P ops C Qn (.st ⟨tz, iz, ⟨dst, op, ty, pos, af, some (j, b)⟩⟩ rst)) :=
  fun a w hs hdf ha hf hw => by
    have h := k a w hs hdf ha hf hw
    have e1 : Region.wanted ⟨dst, op, ty, pos, af, some (j, b)⟩ (yielded ops a.tmps) = true := by simp [Region.wanted, yielded_of ha hj hg]
    have e2 : Region.wanted ⟨dst, op, ty, pos, af, none⟩ (yielded ops a.tmps) = true := wanted_none rfl _
    unfold wpX stepX at h ⊢
    rw [if_pos e2] at h
    rw [if_pos e1]
    exact h

theorem St.xgOff {d' j dj : Nat} {b : Bool} {v : Value} (hd : Nat.blt d' nt = true) (hj : gdst ops j = some dj) (hg : get Γ dj = some v) (hn : saysNo v b = true) (k : St w0 nt ((d', undef) :: Γ) F (wpX P ops C Qn rst)) :
    St w0 nt Γ F (wpX P ops C Qn (.st ⟨tz, iz, ⟨some d', op, ty, pos, af, some (j, b)⟩⟩ rst)) :=
  fun a w hs hdf ha hf hw => by
    have e1 : ¬ Region.wanted ⟨some d', op, ty, pos, af, some (j, b)⟩ (yielded ops a.tmps) = true := by
      simp only [Region.wanted, yielded_of ha hj hg]
      cases v <;> simp_all [saysNo]
    unfold wpX stepX
    rw [if_neg e1]
    exact k _ w (by simp [Act.put, hs]) hdf (ha.put (hs ▸ Nat.le_of_ble_eq_true hd)) hf hw

theorem St.xgOffN {j dj : Nat} {b : Bool} {v : Value} (hj : gdst ops j = some dj) (hg : get Γ dj = some v) (hn : saysNo v b = true) (k : St w0 nt Γ F (wpX P ops C Qn rst)) :
    St w0 nt Γ F (wpX P ops C Qn (.st ⟨tz, iz, ⟨none, op, ty, pos, af, some (j, b)⟩⟩ rst)) :=
  fun a w hs hdf ha hf hw => by
    have e1 : ¬ Region.wanted ⟨none, op, ty, pos, af, some (j, b)⟩ (yielded ops a.tmps) = true := by
      simp only [Region.wanted, yielded_of ha hj hg]
      cases v <;> simp_all [saysNo]
    unfold wpX stepX
    rw [if_neg e1]
    exact k _ w hs hdf ha.put_none hf hw
end

/-- A piece of code whatever comes behind it. -/
theorem St.selfThen {c : Code} (h : St w0 nt Γ F (c.wp P (Exit.then (Q .normal) Q))) : St w0 nt Γ F (c.wp P Q) :=
  fun a w hs hd ha hf hw => wp_mono (h a w hs hd ha hf hw) fun e a' w' hq => by
    cases e <;> exact hq

/-- s[:0:0]: nothing, with no room. -/
theorem St.sub0 {α : Type} {E : Enc α} {t e : Nat} {i j : TI} {A : Option Addr} {n c : Nat} {hi mx : Operand} {k1 k2 : IntKind} {lo : Option Operand} {ox : Operand} (hd : Nat.blt d nt = true) (hx : ev Γ ox = some (.slice A n c)) (hl : boundOf Γ 0 lo = some 0) (hh : ev Γ hi = some (.int k1 0)) (hm : ev Γ mx = some (.int k2 0))
    (hi' : tget T.tt t = some i) (hdesc : i.desc = .slice e) (hj : tget T.tt e = some j)
    (k : St w0 nt ((d, .slice A 0 0) :: Γ) (.res (OwnL E e A 0 []) :: F) (wpList P ops Q rest)) : St w0 nt Γ F (wpList P ops Q (⟨some d, .slice t ox lo (some hi) (some mx), ty, pos, af, none⟩ :: rest)) :=
  St.val (W := inferInstance) hd (v := .slice A 0 0) (fun a w ha hf => by
    obtain ⟨dd, hu, hdd⟩ := T.ok.desc hi'
    have hlo : (Instr.sliceBounds true n c (lo.map a.eval) (some (.int k1 0)) (some (.int k2 0))).run P w = .ok (0, 0, 0) w := by
      cases lo with
      | none => simp [Instr.sliceBounds, Instr.sliceBound, asIntOf]
      | some x =>
        simp only [boundOf] at hl
        split at hl
        · rename_i kk m hx
          injection hl with hl
          subst hl
          simp [Instr.sliceBounds, Instr.sliceBound, asIntOf, ha.eval hx]
        · cases hl
    simp [execOp, Instr.sliceAt, Instr.slice, ha.eval hx, ha.eval hh, ha.eval hm, run_underlying hu, TD.of_slice (hdd.trans hdesc), hlo, run_sizeOf_tt T.ok hj])
    (fun a w hs hdf ha hf hw => k a w hs hdf ha (hf.add_res (Ext.refl w) (OwnL E e A 0 []) (show (blkOf A 0).Nodup from blkOf_nodup _ _) (fun k hk => absurd ((mem_blkOf (A := A) (c := 0)).1 hk).1 (by omega)) ⟨rfl, by simp, .inl ⟨rfl, rfl⟩⟩) hw)

theorem St.sub0C {α : Type} {E : Cod α} {t e : Nat} {i j : TI} {A : Option Addr} {n c : Nat} {hi mx : Operand} {k1 k2 : IntKind} {lo : Option Operand} {ox : Operand} (hd : Nat.blt d nt = true) (hx : ev Γ ox = some (.slice A n c)) (hl : boundOf Γ 0 lo = some 0) (hh : ev Γ hi = some (.int k1 0)) (hm : ev Γ mx = some (.int k2 0))
    (hi' : tget T.tt t = some i) (hdesc : i.desc = .slice e) (hj : tget T.tt e = some j)
    (k : St w0 nt ((d, .slice A 0 0) :: Γ) (.res (OwnC E e A 0 []) :: F) (wpList P ops Q rest)) : St w0 nt Γ F (wpList P ops Q (⟨some d, .slice t ox lo (some hi) (some mx), ty, pos, af, none⟩ :: rest)) :=
  St.sub0 (E := ei64) hd hx hl hh hm hi' hdesc hj fun a w hs hdf ha hf hw => k a w hs hdf ha (Sat.add_res hf.tail (Ext.refl w) (OwnC E e A 0 []) (show (blkOf A 0).Nodup from blkOf_nodup _ _) (fun k hk => absurd ((mem_blkOf (A := A) (c := 0)).1 hk).1 (by omega)) trivial ⟨[], ⟨rfl, by simp, .inl ⟨rfl, rfl⟩⟩, rfl, fun j x r hx => by simp at hx⟩) hw

theorem list1 {α β : Type} {l : List (α × β)} {a : α} (h : l.map (·.1) = [a]) : ∃ x, l = [(a, x)] := by
  match l, h with
  | [(_, x)], h => simp at h; subst h; exact ⟨x, rfl⟩
theorem list2 {α β : Type} {l : List (α × β)} {a b : α} (h : l.map (·.1) = [a, b]) : ∃ x y, l = [(a, x), (b, y)] := by
  match l, h with
  | [(_, x), (_, y)], h => simp at h; obtain ⟨rfl, rfl⟩ := h; exact ⟨x, y, rfl⟩

/-- A block of one's own of which nothing is marked. -/
def Blk0 (g T : Nat) (cs : List Value) : Res where
  gs := [g]
  p m := m g = some (.cells cs.toArray T)
  loc _ _ h hp := (h g (by simp)).symm.trans hp

/-- A literal of a slice: a new block of which nothing is marked. -/
theorem St.buildSlice0 {t e n : Nat} {i j : TI} {ps : Array (Nat × Operand)} {cs : List Value} (hd : Nat.blt d nt = true) (hi : tget T.tt t = some i) (hdesc : i.desc = .slice e) (hj : tget T.tt e = some j) (hz : Nat.beq (zc j.zero).length j.size = true) (hpos : Nat.blt 0 j.size = true)
    (hps : pfill Γ (fun i => some (i * j.size, j.size)) (repl n (zc j.zero)) ps.toList = some cs) (hsmall : Nat.ble (n * j.size) 16777216 = true) (k : ∀ g, St w0 nt ((d, .slice (some ⟨g, 0, none⟩) n n) :: Γ) (.res (Blk0 g e cs) :: F) (wpList P ops Q rest)) :
    St w0 nt Γ F (wpList P ops Q (⟨some d, .buildSlice t n ps, ty, pos, af, none⟩ :: rest)) :=
  fun a w hs hdf ha hf hw => wpList_plain rfl fun K hK => by
    obtain ⟨dd, hu, hdd⟩ := T.ok.desc hi
    have hzs := zsize hz
    have hp0 : 0 < j.size := Nat.le_of_ble_eq_true hpos
    have hf2 := pfill_run ha _ _ _ hps
    have hz2 : ((Array.range (n * j.size)).map fun i => (if n * j.size = 0 then #[] else j.zero.cells : Array Value)[i % (if n * j.size = 0 then #[] else j.zero.cells : Array Value).size]!) = (repl n (zc j.zero)).toArray := by
      by_cases h0 : n * j.size = 0
      · have hn0 : n = 0 := by
          rcases Nat.mul_eq_zero.1 h0 with h | h
          · exact h
          · omega
        subst hn0
        simp [repl]
      · simp only [h0, if_false]
        have := zeros_eq j.zero.cells n (by omega)
        rw [hzs] at this ⊢
        rw [this, ← zc_eq]
    have hps2 : (ps.map fun x => (x.1, a.eval x.2)).toList = ps.toList.map fun x => (x.1, a.eval x.2) := by simp
    unfold Oper.wp
    have hr : (execOp a.eval ⟨some d, .buildSlice t n ps, ty, pos, af, none⟩).run P w = .ok (.value (.slice (some ⟨w.heap.size, 0, none⟩) n n)) (w.alloc (.cells cs.toArray e)) := by
      have hsm : ¬ (n * j.size > 2 ^ 24) := by have := Nat.le_of_ble_eq_true hsmall; omega
      simp only [execOp, Instr.buildSlice, Sem.run_bind, run_underlying hu, TD.of_slice (hdd.trans hdesc), Result.andThen_ok, run_sizeOf_tt T.ok hj, if_neg hsm, Sem.run_pure]
      by_cases h0 : n * j.size = 0
      · simp only [h0, if_true] at hz2
        simp only [h0, if_true, Sem.run_bind, Sem.run_pure, Result.andThen_ok]
        rw [hz2, hps2, hf2]
        rfl
      · simp only [h0, if_false] at hz2
        simp only [h0, if_false, Sem.run_bind, run_zeroValue_tt T.ok hj, Sem.run_pure, Result.andThen_ok]
        rw [hz2, hps2, hf2]
        rfl
    rw [hr]
    exact hK _ _ (k _ _ _ (by simp [Act.put, hs]) hdf (ha.put (hs ▸ Nat.le_of_ble_eq_true hd)) (hf.add_res (Ext.alloc w _) (Blk0 w.heap.size e cs) (by simp [Blk0]) (fun k hk => by simp [Blk0] at hk; subst hk; simp) (hp_alloc w _)) (hw.trans (Ext.alloc w _).toSame))

/-- A literal of a slice of bytes that is marked as a string's. -/
theorem St.markB {s e : Nat} {i j : TI} {g n : Nat} {cs : List Value} {ox : Operand} (hd : Nat.blt d nt = true) (hx : ev Γ ox = some (.slice (some ⟨g, 0, none⟩) n n)) (hi : tget T.tt s = some i) (hdesc : i.desc = .slice e) (hj : tget T.tt e = some j) (hjd : j.desc = .int .u8)
    (k : St w0 nt ((d, .slice (some ⟨g, 0, none⟩) n n) :: Γ) (.res (Box g e cs) :: F) (wpList P ops Q rest)) : St w0 nt Γ (.res (Blk0 g e cs) :: F) (wpList P ops Q (⟨some d, .convert s s ox, ty, pos, af, none⟩ :: rest)) :=
  fun a w hs hdf ha hf hw => wpList_plain rfl fun K hK => by
    obtain ⟨d1, hu1, hd1⟩ := T.ok.desc hi
    obtain ⟨d2, hu2, hd2⟩ := T.ok.desc hj
    have hb : w.heap[g]? = some (.cells cs.toArray e) := (hf.all _ (List.mem_cons_self ..)).2.1
    have hsh : w.shape? g = some (e, cs.length) := by simp [World.shape?, hb]
    have hm : (markStringish ⟨g, 0, none⟩).run P w = .ok () (w.freeze ⟨g, cs.length, none⟩ 1) := by
      unfold markStringish
      simp [hsh]
    unfold Oper.wp
    have hr : (execOp a.eval ⟨some d, .convert s s ox, ty, pos, af, none⟩).run P w = .ok (.value (.slice (some ⟨g, 0, none⟩) n n)) (w.freeze ⟨g, cs.length, none⟩ 1) := by
      simp [execOp, ha.eval hx, convert, run_underlying hu1, TD.of_slice (hd1.trans hdesc), run_underlying hu2, TD.of_int (hd2.trans hjd), hm]
    rw [hr]
    have hwr : Wrote [g] w (w.freeze ⟨g, cs.length, none⟩ 1) := by
      refine ⟨⟨rfl, rfl, rfl, by simp [World.freeze]⟩, fun k hk hn => ?_⟩
      simp only [World.freeze, Nat.one_ne_zero, if_false, Array.getElem?_modify]
      rw [if_neg (fun h => hn (by simp [h]))]
    refine hK _ _ (k _ _ (by simp [Act.put, hs]) hdf (ha.put (hs ▸ Nat.le_of_ble_eq_true hd)) (hf.exchange hwr (by simp [Box]) (fun q hq => ?_) ?_) (hw.trans hwr.toSame))
    · simp only [Box, List.mem_singleton] at hq
      subst hq
      exact ⟨Nat.lt_of_lt_of_le (hf.lt (by simp [blocks, As.gs, Blk0])) hwr.size, .inl (by simp [Blk0])⟩
    · refine ⟨.cells cs.toArray e (cs.length, cs.length + 1), ?_, (cs.length, cs.length + 1), rfl, fun q hq h => by simp only at h; omega⟩
      show (w.freeze ⟨g, cs.length, none⟩ 1).heap[g]? = _
      simp [World.freeze, Array.getElem?_modify, hb]

end
end Go.Proofs.Ytnolaefjmjgfbaa
