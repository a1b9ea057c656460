/-
  The core: slices inside structs inside slices; arrays by an index.
  Conditions: none.
-/
import Derived.Test.YthdpagcklakahaaCoreY
namespace Go.Proofs.Ythdpagcklakahaa
open Go
set_option linter.unusedSectionVars false
set_option linter.unusedVariables false

def okS (s : ByteArray) : Prop := s.size ≤ maxLen
def okL {α : Type} (φ : α → Prop) (xs : List α) : Prop := (∀ x ∈ xs, φ x) ∧ xs.length ≤ maxLen
def okB (_ : Bool) : Prop := True

/-- A leaf of a struct: a value of its own, or a slice. -/
inductive LC (α : Type) : Type 1 where
  | v (f : α → Value) (one : ∀ x, (f x).oneCell' = true)
  | s {β : Type} (E : Cod β) (f : α → List β)

def LC.rel {α : Type} (m : Hp) (x : α) : LC α → Value → Prop
  | .v f _, u => u = f x
  | .s E f, u => ∃ A c, u = .slice A (f x).length c ∧ SlP E A c (f x) m

def relL {α : Type} (m : Hp) (x : α) : List (LC α) → List Value → Prop
  | [], [] => True
  | l :: ls, u :: us => l.rel m x u ∧ relL m x ls us
  | _, _ => False

theorem relL_len {α : Type} {m : Hp} {x : α} : ∀ {ls : List (LC α)} {us : List Value}, relL m x ls us → us.length = ls.length
  | [], [], _ => rfl
  | _ :: _, _ :: _, h => by simp [relL_len h.2]
  | [], _ :: _, h => h.elim
  | _ :: _, [], h => h.elim
theorem relL_one {α : Type} {m : Hp} {x : α} : ∀ {ls : List (LC α)} {us : List Value}, relL m x ls us → ∀ u ∈ us, u.oneCell' = true
  | [], [], _, u, hu => by cases hu
  | l :: ls, v :: us, h, u, hu => by
    rcases List.mem_cons.1 hu with rfl | hu
    · cases l with
      | v f one => rw [show u = f x from h.1]; exact one x
      | s E f => obtain ⟨A, c, rfl, _⟩ := h.1; rfl
    · exact relL_one h.2 u hu
  | [], _ :: _, h, _, _ => h.elim
  | _ :: _, [], h, _, _ => h.elim
theorem LC.rel_mono {α : Type} {m m' : Hp} {x : α} (hm : Hp.le m m') {l : LC α} {u : Value} (h : l.rel m x u) : l.rel m' x u := by
  cases l with
  | v f one => exact h
  | s E f => obtain ⟨A, c, h1, h2⟩ := h; exact ⟨A, c, h1, (Sl E A c (f x)).mono _ _ hm h2⟩
theorem relL_mono {α : Type} {m m' : Hp} {x : α} (hm : Hp.le m m') : ∀ {ls : List (LC α)} {us : List Value}, relL m x ls us → relL m' x ls us
  | [], [], _ => trivial
  | _ :: _, _ :: _, h => ⟨LC.rel_mono hm h.1, relL_mono hm h.2⟩
  | [], _ :: _, h => h.elim
  | _ :: _, [], h => h.elim

/-- The values of a struct with slices inside. -/
def codL {α : Type} (ls : List (LC α)) : Cod α where
  n := ls.length
  rel m x cs := relL m x ls cs
  len _ _ _ h := relL_len h
  one _ _ _ h := relL_one h
  mono _ _ _ _ hm h := relL_mono hm h

/-- Where the slices lie. -/
def ExL {α : Type} : List (LC α) → Type
  | [] => Unit
  | .v _ _ :: r => ExL r
  | .s _ _ :: r => (Option Addr × Nat) × ExL r

def valsL {α : Type} (x : α) : (ls : List (LC α)) → ExL ls → List Value
  | [], _ => []
  | .v f _ :: r, e => f x :: valsL x r e
  | .s _ f :: r, e => .slice e.1.1 (f x).length e.1.2 :: valsL x r e.2

def factsL {α : Type} (x : α) : (ls : List (LC α)) → ExL ls → List As
  | [], _ => []
  | .v _ _ :: r, e => factsL x r e
  | .s E f :: r, e => .ro (Sl E e.1.1 e.1.2 (f x)) :: factsL x r e.2

theorem factsL_ro {α : Type} {x : α} : ∀ (ls : List (LC α)) (e : ExL ls), allRo (factsL x ls e) = true
  | [], _ => rfl
  | .v _ _ :: r, e => factsL_ro r e
  | .s _ _ :: r, e => factsL_ro r e.2

theorem openL {α : Type} {m : Hp} {x : α} : ∀ {ls : List (LC α)} {us : List Value}, relL m x ls us → ∃ e : ExL ls, us = valsL x ls e ∧ ∀ r, As.ro r ∈ factsL x ls e → r.p m
  | [], [], _ => ⟨(), rfl, fun _ h => by cases h⟩
  | .v f one :: ls, u :: us, h => by
    obtain ⟨e, h1, h2⟩ := openL h.2
    exact ⟨e, by rw [h1, show u = f x from h.1]; rfl, h2⟩
  | .s E f :: ls, u :: us, h => by
    obtain ⟨A, c, rfl, hsl⟩ := h.1
    obtain ⟨e, h1, h2⟩ := openL h.2
    refine ⟨((A, c), e), by rw [h1]; rfl, fun r hr => ?_⟩
    rcases List.mem_cons.1 hr with hr | hr
    · injection hr with hr; subst hr; exact hsl
    · exact h2 r hr
  | [], _ :: _, h => h.elim
  | .v _ _ :: _, [], h => h.elim
  | .s _ _ :: _, [], h => h.elim

theorem shutL {α : Type} {m : Hp} {x : α} : ∀ {ls : List (LC α)} (e : ExL ls), (∀ r, As.ro r ∈ factsL x ls e → r.p m) → relL m x ls (valsL x ls e)
  | [], _, _ => trivial
  | .v f one :: ls, e, h => ⟨rfl, shutL (ls := ls) e h⟩
  | .s E f :: ls, e, h => ⟨⟨e.1.1, e.1.2, rfl, h _ (List.mem_cons_self ..)⟩, shutL (ls := ls) e.2 fun r hr => h r (List.mem_cons_of_mem _ hr)⟩

theorem valsL_len {α : Type} (x : α) : ∀ (ls : List (LC α)) (e : ExL ls), (valsL x ls e).length = ls.length
  | [], _ => rfl
  | .v _ _ :: r, e => by simp [valsL, valsL_len x r e]
  | .s _ _ :: r, e => by simp [valsL, valsL_len x r e.2]
theorem valsL_one {α : Type} (x : α) : ∀ (ls : List (LC α)) (e : ExL ls), ∀ u ∈ valsL x ls e, u.oneCell' = true
  | [], _, _, hu => by cases hu
  | .v f one :: r, e, u, hu => by
    rcases List.mem_cons.1 hu with rfl | hu
    · exact one x
    · exact valsL_one x r e u hu
  | .s _ f :: r, e, u, hu => by
    rcases List.mem_cons.1 hu with rfl | hu
    · rfl
    · exact valsL_one x r e.2 u hu

/-- Several values, and where their slices lie. -/
def packs {α : Type} (ls : List (LC α)) (ye : List (α × ExL ls)) : List (List Value) := ye.map fun p => valsL p.1 ls p.2
def pfacts {α : Type} (ls : List (LC α)) : List (α × ExL ls) → List As
  | [] => []
  | p :: r => factsL p.1 ls p.2 ++ pfacts ls r

theorem packs_ok {α : Type} (ls : List (LC α)) (ye : List (α × ExL ls)) : ∀ r ∈ packs ls ye, r.length = ls.length ∧ ∀ u ∈ r, u.oneCell' = true := fun r hr => by
  obtain ⟨p, _, rfl⟩ := List.mem_map.1 hr
  exact ⟨valsL_len _ _ _, valsL_one _ _ _⟩

theorem pfacts_mem {α : Type} {ls : List (LC α)} : ∀ {ye : List (α × ExL ls)} {p : α × ExL ls}, p ∈ ye → ∀ x ∈ factsL p.1 ls p.2, x ∈ pfacts ls ye
  | q :: r, p, h, x, hx => by
    rcases List.mem_cons.1 h with rfl | h
    · exact List.mem_append_left _ hx
    · exact List.mem_append_right _ (pfacts_mem h x hx)

theorem packs_rels {α : Type} {ls : List (LC α)} {ye : List (α × ExL ls)} {m : Hp} (h : ∀ r, As.ro r ∈ pfacts ls ye → r.p m) : RelsP (codL ls) (ye.map (·.1)) (packs ls ye) m := by
  refine ⟨by simp [packs], fun j x r hx hr => ?_⟩
  simp only [packs, List.getElem?_map, Option.map_eq_some_iff] at hx hr
  obtain ⟨p, hp, rfl⟩ := hx
  obtain ⟨p', hp', rfl⟩ := hr
  rw [hp] at hp'
  injection hp' with hp'
  subst hp'
  exact shutL p.2 fun r hr => h r (pfacts_mem (List.mem_of_getElem? hp) _ hr)

/-- A slice of one's own whose elements have slices that stay. -/
def OwnC {α : Type} (E : Cod α) (e : Nat) (A : Option Addr) (c : Nat) (xs : List α) : Res where
  gs := blkOf A c
  p _ := True
  loc _ _ _ h := h
  q m z := ∃ rows, OwnP E.n e A xs.length c rows m ∧ RelsP E xs rows z
  qloc m m' z z' hm hz h := by
    obtain ⟨rows, h1, h2⟩ := h
    exact ⟨rows, (Own E.n e A xs.length c rows).loc m m' hm h1, (Rels E xs rows).mono _ _ hz h2⟩

section
variable {P : Program} [T : HasTT P] {w0 : World} {nt : Nat} {Γ Γ' : Env} {F F' G R : List As} {Q : Exit → Act → World → Prop} {ops : Array Oper} {rest : List Oper}
variable {d : Nat} {op : Op} {ty : Nat} {pos : String} {af : Array Edge} {X : List Oper → Act → World → Prop}

theorem blocks_addro : ∀ {G F : List As}, allRo G = true → blocks (G ++ F) = blocks F := fun {G F} h => by
  rw [blocks_append, blocks_ro fun x hx => by obtain ⟨r, rfl⟩ := allRo_gs h x hx; rfl]
  rfl

theorem Sat.add_ros {w : World} : ∀ (G : List As), allRo G = true → (∀ r, As.ro r ∈ G → r.p (frz (blocks F) w)) → Sat F w → Sat (G ++ F) w
  | [], _, _, h => h
  | .ro r :: G, hro, hG, h => by
    have h2 := Sat.add_ros G hro (fun r hr => hG r (List.mem_cons_of_mem _ hr)) h
    refine h2.add_ro r ?_
    rw [blocks_addro (show allRo G = true from hro)]
    exact hG r (List.mem_cons_self ..)
  | .res _ :: _, hro, _, _ => by simp [allRo] at hro

theorem AllIn.ros {G F : List As} (h : AllIn G F) {w : World} (hf : Sat F w) : ∀ r, As.ro r ∈ G → r.p (frz (blocks F) w) := fun r hr => hf.ro (h.mem _ hr)

theorem Sat.openC {α : Type} {E : Cod α} {e c : Nat} {A : Option Addr} {xs : List α} {w : World} (h : Sat (.res (OwnC E e A c xs) :: F) w) : ∃ rows, RelsP E xs rows (frz (blocks (.res (OwnC E e A c xs) :: F)) w) ∧ Sat (.res (Own E.n e A xs.length c rows) :: F) w := by
  obtain ⟨rows, h1, h2⟩ := h.resq (r := OwnC E e A c xs) (List.mem_cons_self ..)
  refine ⟨rows, h2, h.nodup, fun x hx => ?_⟩
  cases hx with
  | head => exact ⟨(h.all _ (List.mem_cons_self ..)).1, h1, trivial⟩
  | tail _ hx => exact h.all _ (List.mem_cons_of_mem _ hx)

theorem Sat.shutC {α : Type} {E : Cod α} {e c n : Nat} {A : Option Addr} {xs : List α} {rows : List (List Value)} {w : World} (h : Sat (.res (Own E.n e A n c rows) :: F) w) (hn : n = xs.length) (hr : RelsP E xs rows (frz (blocks (.res (Own E.n e A n c rows) :: F)) w)) :
    Sat (.res (OwnC E e A c xs) :: F) w := by
  subst hn
  refine ⟨h.nodup, fun x hx => ?_⟩
  cases hx with
  | head => exact ⟨(h.all _ (List.mem_cons_self ..)).1, trivial, rows, (h.all _ (List.mem_cons_self ..)).2.1, hr⟩
  | tail _ hx => exact h.all _ (List.mem_cons_of_mem _ hx)

theorem Sat.nilC {α : Type} {w : World} (h : Sat F w) (E : Cod α) (e : Nat) : Sat (.res (OwnC E e none 0 []) :: F) w :=
  h.add_res (Ext.refl w) (OwnC E e none 0 []) (show (blkOf none 0).Nodup from blkOf_nodup _ _) (fun k hk => absurd ((mem_blkOf (A := none) (c := 0)).1 hk).1 (by omega)) trivial ⟨[], OwnP.nil _ _ _, rfl, fun j x r hx => by simp at hx⟩

theorem Sat.meltC {α : Type} {E : Cod α} {e c : Nat} {A : Option Addr} {xs : List α} {w : World} (h : Sat (.res (OwnC E e A c xs) :: F) w) : Sat (.ro (Sl E A c xs) :: F) w := by
  obtain ⟨rows, h1, h2⟩ := h.openC
  have h3 : Sat (.res (Own E.n e A xs.length c rows) :: .ro (Rels E xs rows) :: F) w := (h2.add_ro (Rels E xs rows) h1).perm (List.Perm.swap ..)
  have h4 := Sat.own_sl (E := E) (xs := xs) h3 rfl fun m hm => hm _ (List.mem_cons_self ..) _ rfl
  exact (Keep.k (Keep.d Keep.z)).sat h4

theorem Sat.litC {α : Type} {ls : List (LC α)} {g e : Nat} {cs : List Value} {ys : List α} {w : World} (ye : List (α × ExL ls)) (hcs : (packs ls ye).flatten = cs) (hys : ye.map (·.1) = ys) (hm : Nat.ble ye.length 16777216 = true) (hin : AllIn (pfacts ls ye) F) (h : Sat (.res (Box g e cs) :: F) w) :
    Sat (.res (OwnC (codL ls) e (some ⟨g, 0, none⟩) ys.length ys) :: F) w := by
  subst hys
  have h2 : Sat (.res (Own ls.length e (some ⟨g, 0, none⟩) ye.length ye.length (packs ls ye)) :: F) w :=
    Sat.box_own hcs (by simp [packs]) (packs_ok ls ye) (by have := Nat.le_of_ble_eq_true hm; simp only [maxLen]; omega) h
  have e1 : (ye.map (·.1)).length = ye.length := by simp
  rw [e1]
  exact h2.shutC e1.symm (packs_rels fun r hr => h2.ro (List.mem_cons_of_mem _ (hin.mem _ hr)))

/-- The address of an element that has slices inside, of a slice that stays. -/
theorem St.ixN [W : Walk P ops X] {α : Type} {ls : List (LC α)} {t e : Nat} {i j : TI} {x ix : Operand} {A : Option Addr} {n c : Nat} {kk : IntKind} {q : Int} {xs : List α} {y : α} (hy : elt xs q = some y) (hd : Nat.blt d nt = true) (hx : ev Γ x = some (.slice A n c)) (hq : ev Γ ix = some (.int kk q))
    (hm : As.ro (Sl (codL ls) A c xs) ∈ F) (hlen : n = xs.length) (hi : tget T.tt t = some i) (hdesc : i.desc = .slice e) (hj : tget T.tt e = some j) (hn : j.size = ls.length)
    (k : ∀ b o (ex : ExL ls), St w0 nt ((d, .pointer (some ⟨b, o, none⟩)) :: Γ) (.ro (Cells b o (valsL y ls ex)) :: (factsL y ls ex ++ F)) (X rest)) : St w0 nt Γ F (X (⟨some d, .indexAddr t x ix, ty, pos, af, none⟩ :: rest)) :=
  St.idx (codL ls) hd hx hq hm hlen hy hi hdesc hj hn fun b o cs a w hs hdf ha hf hw => by
    have hrel : relL (frz (blocks F) w) y ls cs := hf.ro (r := Rel (codL ls) y cs) (by simp)
    obtain ⟨ex, rfl, hex⟩ := openL hrel
    have h0 : Sat F w := hf.tail.tail
    have hc := hf.ro (r := Cells b o (valsL y ls ex)) (by simp)
    refine k b o ex a w hs hdf ha (Sat.add_ro (Sat.add_ros _ (factsL_ro ls ex) hex h0) _ ?_) hw
    rw [blocks_addro (factsL_ro ls ex)]
    exact hc

/-- Where an element lies, and what its slices are. -/
theorem St.openN {X : Act → World → Prop} {α : Type} {ls : List (LC α)} {A : Option Addr} {c : Nat} {xs : List α} {q : Int} {y : α} (hm : As.ro (Sl (codL ls) A c xs) ∈ F) (hy : elt xs q = some y) (k : ∀ b o (ex : ExL ls), (∃ oA, A = some ⟨b, oA, none⟩ ∧ o = oA + q.toNat * ls.length) → St w0 nt Γ (.ro (Cells b o (valsL y ls ex)) :: (factsL y ls ex ++ F)) X) : St w0 nt Γ F X :=
  fun a w hs hdf ha hf hw => by
    obtain ⟨h0, h1, h2⟩ := elt_some hy
    have hsl := hf.ro hm
    cases A with
    | none =>
      have := hsl.2.2.1 rfl
      subst this
      simp at h2
    | some ad =>
      obtain ⟨hspot, cs, hrel, hc⟩ := hsl.2.2.2 ad rfl _ _ h2
      obtain ⟨ex, rfl, hex⟩ := openL hrel
      obtain ⟨b, o, s⟩ := ad
      simp only at hspot
      subst hspot
      refine k b _ ex ⟨o, rfl, rfl⟩ a w hs hdf ha (Sat.add_ro (Sat.add_ros _ (factsL_ro ls ex) hex hf) _ ?_) hw
      rw [blocks_addro (factsL_ro ls ex)]
      exact hc

theorem Rd.ixN {α : Type} {t e n' : Nat} {i j : TI} {x ix : Operand} {A : Option Addr} {n c : Nat} {kk : IntKind} {q : Int} {xs : List α} {y : α} {b o : Nat} (hA : ∃ oA, A = some ⟨b, oA, none⟩ ∧ o = oA + q.toNat * n') (hy : elt xs q = some y) (hx : ev Γ x = some (.slice A n c)) (hq : ev Γ ix = some (.int kk q))
    (hlen : n = xs.length) (hi : tget T.tt t = some i) (hdesc : i.desc = .slice e) (hj : tget T.tt e = some j) (hn : j.size = n') : Rd P F Γ (.indexAddr t x ix) (.pointer (some ⟨b, o, none⟩)) :=
  fun a w d ty pos af gg ha hf => by
    obtain ⟨oA, rfl, rfl⟩ := hA
    obtain ⟨h0, h1, h2⟩ := elt_some hy
    subst hlen
    obtain ⟨dd, hu, hdd⟩ := T.ok.desc hi
    have hadd : (⟨b, oA, none⟩ : Addr).add (q.toNat * n') = ⟨b, oA + q.toNat * n', none⟩ := by
      unfold Addr.add
      split
      · rename_i hz; rw [hz]; rfl
      · rfl
    simp [execOp, Instr.indexAt, ha.eval hx, ha.eval hq, asIntOf, run_underlying hu, TD.of_slice (hdd.trans hdesc), run_sizeOf_tt T.ok hj, hn, h0, h1, hadd]

/-- append onto a slice of one's own whose elements have slices. -/
theorem St.appC {α : Type} {E : Cod α} {t t2 e m c n : Nat} {i i2 j : TI} {s x : Operand} {A : Option Addr} {xv : Value} {b : Nat} {xs ys zs : List α} (hz : Go.Proofs.Ythdpagcklakahaa.app b xs ys = some zs) (hd : Nat.blt d nt = true) (hs : ev Γ s = some (.slice A n c)) (hx : ev Γ x = some xv)
    (hD : Del F (.res (OwnC E e A c xs)) G) (hlen : n = xs.length) (hi : tget T.tt t = some i) (hdesc : i.desc = .slice e) (hj : tget T.tt e = some j) (hsz : j.size = E.n) (hby : j.bytes = b) (hzs : Nat.beq (zc j.zero).length E.n = true)
    (hm : m = ys.length) (hsrc : ∀ w, Sat F w → ∃ rows, RelsP E ys rows (frz (blocks F) w) ∧ (∀ r ∈ rows, r.length = E.n ∧ ∀ u ∈ r, u.oneCell' = true) ∧ SrcP P E.n xv m rows.flatten w) (hi2 : tget T.tt t2 = some i2) (hd2 : notInt i2.desc = true)
    (k : ∀ A' c', St w0 nt ((d, .slice A' zs.length c') :: Γ) (.res (OwnC E e A' c' zs) :: G) (wpList P ops Q rest)) :
    St w0 nt Γ F (wpList P ops Q (⟨some d, .call { callee := .builtin .append, args := #[s, x], argTypes := #[t, t2] }, ty, pos, af, none⟩ :: rest)) :=
  fun a w hs' hdf ha hf hw => by
    obtain ⟨rfl, h2, h3⟩ := app_some hz
    subst hlen; subst hm; subst hby
    obtain ⟨news, hn1, hn2, hn3⟩ := hsrc w hf
    have hff := hf.front hD
    obtain ⟨rows, hrel, hf2⟩ := hff.openC
    have hb : blocks F = blocks F := rfl
    have hn1' : RelsP E ys news (frz (blocks (.res (Own E.n e A xs.length c rows) :: G)) w) := (Rels E ys news).mono _ _ (frz_anti w fun kk hk => (blocks_perm hD.perm).mem_iff.2 hk) hn1
    have hf3 : Sat (.ro (Rels E ys news) :: .ro (Rels E xs rows) :: .res (Own E.n e A xs.length c rows) :: G) w := (hf2.add_ro (Rels E xs rows) hrel).add_ro (Rels E ys news) hn1'
    refine append_at (F := .ro (Rels E ys news) :: .ro (Rels E xs rows) :: .res (Own E.n e A xs.length c rows) :: G) news hs' hdf ha hf3 hw hd hs hx (.s (.s .z)) hi hdesc hj hsz hzs hn3 rfl hn1.1 hn2 (by simpa [maxLen] using h3) h2 hi2 hd2 fun A' c' => ?_
    intro a2 w2 hs2 hdf2 ha2 hf5 hw2
    have e1 : (xs ++ ys).length = xs.length + ys.length := by simp
    refine (e1 ▸ k A' c') a2 w2 hs2 hdf2 ha2 ?_ hw2
    have hR1 := hf5.ro (r := Rels E xs rows) (by simp)
    have hR2 := hf5.ro (r := Rels E ys news) (by simp)
    have h6 : Sat (.res (OwnC E e A' c' (xs ++ ys)) :: .ro (Rels E ys news) :: .ro (Rels E xs rows) :: G) w2 := by
      refine Sat.shutC (E := E) hf5 e1.symm ⟨by simp [hR1.1, hR2.1], fun j x r hx hr => ?_⟩
      by_cases hj : j < xs.length
      · rw [List.getElem?_append_left hj] at hx
        rw [List.getElem?_append_left (by rw [hR1.1]; exact hj)] at hr
        exact hR1.2 j x r hx hr
      · rw [List.getElem?_append_right (by omega)] at hx
        rw [List.getElem?_append_right (by rw [hR1.1]; omega), hR1.1] at hr
        exact hR2.2 _ x r hx hr
    exact (Keep.k (Keep.d (Keep.d Keep.z))).sat h6

theorem srcBC {α : Type} {ls : List (LC α)} {g e m c : Nat} {cs : List Value} {ys : List α} (ye : List (α × ExL ls)) (hm : As.res (Box g e cs) ∈ F) (hcs : (packs ls ye).flatten = cs) (hys : ye.map (·.1) = ys) (hl : m = ys.length) (hin : AllIn (pfacts ls ye) F) :
    ∀ w, Sat F w → ∃ rows, RelsP (codL ls) ys rows (frz (blocks F) w) ∧ (∀ r ∈ rows, r.length = (codL ls).n ∧ ∀ u ∈ r, u.oneCell' = true) ∧ SrcP P (codL ls).n (.slice (some ⟨g, 0, none⟩) m c) m rows.flatten w := fun w hf => by
  subst hys
  subst hcs
  subst hl
  have hok := packs_ok ls ye
  refine ⟨packs ls ye, packs_rels (hin.ros hf), hok, src_box hm (by rw [length_flatten_rows hok]; simp [packs, codL]) ?_ w hf⟩
  rw [List.all_eq_true]
  intro u hu
  obtain ⟨r, hr, hur⟩ := List.mem_flatten.1 hu
  exact (hok r hr).2 u hur

/-! ### arrays by an index -/

def rowVal : Bool → List Value → Value
  | true, l => .agg l.toArray
  | false, [v] => v
  | false, _ => undef

/-! ### reads in whatever order -/

theorem Rd.catS {t yt : Nat} {x y z : ByteArray} {ox oy : Operand} (h : Go.Proofs.Ythdpagcklakahaa.catS x y = some z) (hx : ev Γ ox = some (.string x)) (hy : ev Γ oy = some (.string y)) : Rd P F Γ (.binOp .add t ox oy yt) (.string z) := fun a w d ty pos af g ha _ => by
  unfold Go.Proofs.Ythdpagcklakahaa.catS at h
  split at h
  · rename_i hl
    injection h with h; subst h
    have h1 : ¬ (((x.size + y.size : Nat) : Int) > IntKind.i64.max) := by simp only [IntKind.max, IntKind.signed, IntKind.bits]; simp; omega
    have hg : (eqGuard .add t ox oy (.string x) (.string y)).run P w = .ok () w := rfl
    simp only [execOp, ha.eval hx, ha.eval hy, Sem.run_bind, hg, Result.andThen_ok, binOp, Op.stringOp, if_neg h1, Sem.run_pure]
  · cases h

theorem Rd.eltS {t : Nat} {i : TI} {s : ByteArray} {kk : IntKind} {q z : Int} {ox oy : Operand} (h : Go.Proofs.Ythdpagcklakahaa.eltS s q = some z) (hx : ev Γ ox = some (.string s)) (hy : ev Γ oy = some (.int kk q)) (hi : tget T.tt t = some i) (hdesc : i.desc = .string) : Rd P F Γ (.index t ox oy) (.int .u8 z) := fun a w d ty pos af g ha _ => by
  unfold Go.Proofs.Ythdpagcklakahaa.eltS at h
  split at h
  · rename_i h0
    simp only [Option.map_eq_some_iff] at h
    obtain ⟨b, hb, rfl⟩ := h
    obtain ⟨dd, hu, hdd⟩ := T.ok.desc hi
    simp [execOp, ha.eval hx, ha.eval hy, Instr.index, asIntOf, run_underlying hu, TD.of_string (hdd.trans hdesc), h0, hb]
  · cases h

theorem Rd.subS {t : Nat} {i : TI} {s z : ByteArray} {lo hi : Option Operand} {l h : Int} {ox : Operand} (hz : Go.Proofs.Ythdpagcklakahaa.subS s l h = some z) (hx : ev Γ ox = some (.string s)) (hl : boundOf Γ 0 lo = some l) (hh : boundOf Γ s.size hi = some h) (hi' : tget T.tt t = some i) (hdesc : i.desc = .string) : Rd P F Γ (.slice t ox lo hi none) (.string z) := fun a w d ty pos af g ha _ => by
  unfold Go.Proofs.Ythdpagcklakahaa.subS at hz
  split at hz
  · rename_i hc
    injection hz with hz; subst hz
    obtain ⟨dd, hu, hdd⟩ := T.ok.desc hi'
    have hb := run_bounds (P := P) false ha hl hh hc.1 hc.2.1 hc.2.2 (Nat.le_refl s.size) w
    simp [execOp, Instr.sliceAt, Instr.slice, ha.eval hx, run_underlying hu, TD.of_string (hdd.trans hdesc), hb]
  · cases hz

theorem Rd.b2s {s t e : Nat} {i j l : TI} {A : Option Addr} {n c : Nat} {xs : List Int} {ox : Operand} (hm : As.ro (SlL eu8 A c xs) ∈ F) (hx : ev Γ ox = some (.slice A n c)) (hlen : n = xs.length) (hi : tget T.tt s = some i) (hdesc : i.desc = .slice e) (hj : tget T.tt e = some j) (hjd : j.desc = .int .u8) (hl : tget T.tt t = some l) (hld : l.desc = .string) :
    Rd P F Γ (.convert s t ox) (.string (strOf xs)) := fun a w d ty pos af g ha hf => by
  obtain ⟨d1, hu1, hd1⟩ := T.ok.desc hi
  obtain ⟨d2, hu2, hd2⟩ := T.ok.desc hj
  obtain ⟨d3, hu3, hd3⟩ := T.ok.desc hl
  subst hlen
  have := run_convert_bytes_string (P := P) w s t e A xs.length c (TD.of_slice (hd1.trans hdesc) ▸ hu1) (TD.of_int (hd2.trans hjd) ▸ hu2) (TD.of_string (hd3.trans hld) ▸ hu3)
  simp only [execOp, ha.eval hx, Sem.run_bind, this, run_b2s (srcL (E := eu8) hm w hf), Result.andThen_ok, Sem.run_pure]

theorem Rd.quo {t yt : Nat} {k : IntKind} {x y z : Int} {ox oy : Operand} (h : divM k x y = some z) (hx : ev Γ ox = some (.int k x)) (hy : ev Γ oy = some (.int k y)) : Rd P F Γ (.binOp .quo t ox oy yt) (.int k z) :=
  Rd.p (by
    unfold divM at h
    split at h
    · cases h
    · rename_i h0; injection h with h; subst h; simp [pev, hx, hy, pbin, pint, h0])
theorem Rd.rem {t yt : Nat} {k : IntKind} {x y z : Int} {ox oy : Operand} (h : remM x y = some z) (hx : ev Γ ox = some (.int k x)) (hy : ev Γ oy = some (.int k y)) : Rd P F Γ (.binOp .rem t ox oy yt) (.int k z) :=
  Rd.p (by
    unfold remM at h
    split at h
    · cases h
    · rename_i h0; injection h with h; subst h; simp [pev, hx, hy, pbin, pint, h0])
theorem Rd.shl {t yt : Nat} {k k' : IntKind} {x y z : Int} {ox oy : Operand} (h : shlM k x y = some z) (hx : ev Γ ox = some (.int k x)) (hy : ev Γ oy = some (.int k' y)) : Rd P F Γ (.binOp .shl t ox oy yt) (.int k z) :=
  Rd.p (by
    unfold shlM at h
    split at h
    · cases h
    · rename_i h0; injection h with h; subst h; simp [pev, hx, hy, pbin, pshift, h0])
theorem Rd.shr {t yt : Nat} {k k' : IntKind} {x y z : Int} {ox oy : Operand} (h : shrM k x y = some z) (hx : ev Γ ox = some (.int k x)) (hy : ev Γ oy = some (.int k' y)) : Rd P F Γ (.binOp .shr t ox oy yt) (.int k z) :=
  Rd.p (by
    unfold shrM at h
    split at h
    · cases h
    · rename_i h0; injection h with h; subst h; simp [pev, hx, hy, pbin, pshift, h0])

/-- A part of a slice that stays: a name for it. -/
theorem St.openS {X : Act → World → Prop} {α : Type} {E : Cod α} {A : Option Addr} {c : Nat} {xs ys : List α} {l h : Int} (hm : As.ro (Sl E A c xs) ∈ F) (hz : Go.Proofs.Ythdpagcklakahaa.sub xs l h = some ys)
    (k : ∀ A' c', (A' = (if c = l.toNat then A else A.map (·.add (l.toNat * E.n))) ∧ c' = c - l.toNat) → St w0 nt Γ (.ro (Sl E A' c' ys) :: F) X) : St w0 nt Γ F X :=
  fun a w hs hdf ha hf hw => k _ _ ⟨rfl, rfl⟩ a w hs hdf ha (hf.add_ro (Sl E _ _ ys) (SlP.sub (hf.ro hm) hz)) hw

theorem Sat.addS {α : Type} {E : Cod α} {A A' : Option Addr} {c c' : Nat} {xs ys : List α} {l h : Int} {w : World} (hA : A' = (if c = l.toNat then A else A.map (·.add (l.toNat * E.n))) ∧ c' = c - l.toNat) (hm : As.ro (Sl E A c xs) ∈ F) (hz : Go.Proofs.Ythdpagcklakahaa.sub xs l h = some ys) (hf : Sat F w) : Sat (.ro (Sl E A' c' ys) :: F) w := by
  obtain ⟨rfl, rfl⟩ := hA
  exact hf.add_ro (Sl E _ _ ys) (SlP.sub (hf.ro hm) hz)

theorem Rd.sub {α : Type} {E : Cod α} {t e : Nat} {i j : TI} {A A' : Option Addr} {n c c' : Nat} {xs ys : List α} {lo hi : Option Operand} {l h : Int} {ox : Operand} (hA : A' = (if c = l.toNat then A else A.map (·.add (l.toNat * E.n))) ∧ c' = c - l.toNat) (hz : Go.Proofs.Ythdpagcklakahaa.sub xs l h = some ys) (hm : As.ro (Sl E A c xs) ∈ F) (hx : ev Γ ox = some (.slice A n c)) (hlen : n = xs.length)
    (hl : boundOf Γ 0 lo = some l) (hh : boundOf Γ (n : Int) hi = some h) (hi' : tget T.tt t = some i) (hdesc : i.desc = .slice e) (hj : tget T.tt e = some j) (hn : j.size = E.n) : Rd P F Γ (.slice t ox lo hi none) (.slice A' ys.length c') := fun a w d ty pos af g ha hf => by
  obtain ⟨rfl, rfl⟩ := hA
  obtain ⟨h0, h1, h2, _⟩ := sub_some hz
  have hyl := sub_len hz
  have hsl : SlP E A c xs (frz (blocks F) w) := hf.ro hm
  have hcap := hsl.1
  subst hlen
  have hyl2 : ys.length = h.toNat - l.toNat := by omega
  obtain ⟨dd, hu, hdd⟩ := T.ok.desc hi'
  have hb := run_bounds (P := P) true ha hl hh h0 h1 h2 hcap w
  simp [execOp, Instr.sliceAt, Instr.slice, ha.eval hx, run_underlying hu, TD.of_slice (hdd.trans hdesc), hb, run_sizeOf_tt T.ok hj, hn, hyl2]

/-! ### which comes first is open; guards -/

section
variable {C : World → Prop} {Qn : Act → World → Prop} {iz : Nat} {tz : Tg} {rst t1 t2 : Tr}

theorem St.xalt (h1 : St w0 nt Γ F (wpX P ops C Qn t1)) (h2 : St w0 nt Γ F (wpX P ops C Qn t2)) : St w0 nt Γ F (wpX P ops C Qn (.alt t1 t2)) :=
  fun a w hs hd ha hf hw => ⟨h1 a w hs hd ha hf hw, h2 a w hs hd ha hf hw⟩

/-- What is shown once. -/
theorem St.share {ε : Type} {X Y : Act → World → Prop} (Γs : ε → Env) (Fs : ε → List As) (h1 : (∀ Γ₁ F₁ e, SubL (Γs e) Γ₁ → (∀ w, Sat F₁ w → Sat (Fs e) w) → St w0 nt Γ₁ F₁ Y) → St w0 nt Γ F X) (h2 : ∀ e, St w0 nt (Γs e) (Fs e) Y) : St w0 nt Γ F X :=
  h1 fun _ _ e hΓ hF => St.weak hΓ hF (h2 e)

theorem St.use {ε : Type} {Y : Act → World → Prop} {Γs : ε → Env} {Fs : ε → List As} (h : ∀ Γ₁ F₁ e, SubL (Γs e) Γ₁ → (∀ w, Sat F₁ w → Sat (Fs e) w) → St w0 nt Γ₁ F₁ Y) (e : ε) (hΓ : SubL (Γs e) Γ) (hF : ∀ w, Sat F w → Sat (Fs e) w) : St w0 nt Γ F Y := h _ _ e hΓ hF

theorem St.splitB {X : Act → World → Prop} {dj : Nat} (c : Bool) (hg : get Γ dj = some (.bool c)) (ht : c = true → St w0 nt ((dj, .bool true) :: Γ) F X) (hff : c = false → St w0 nt ((dj, .bool false) :: Γ) F X) : St w0 nt Γ F X :=
  fun a w hs hdf ha hf hw => by
    cases c
    · exact hff rfl a w hs hdf (At.cons (ha dj _ hg) ha) hf hw
    · exact ht rfl a w hs hdf (At.cons (ha dj _ hg) ha) hf hw

theorem St.xgOn {dst : Option Nat} {j dj : Nat} {b : Bool} (hj : gdst ops j = some dj) (hg : get Γ dj = some (.bool b)) (k : St w0 nt Γ F (wpX P ops C Qn (.st ⟨tz, iz, ⟨dst, op, ty, pos, af, none⟩⟩ rst))) :
    St w0 nt Γ F (wpX P ops C Qn (.st ⟨tz, iz, ⟨dst, op, ty, pos, af, some (j, b)⟩⟩ rst)) :=
  fun a w hs hdf ha hf hw => by
    have h := k a w hs hdf ha hf hw
    have e1 : Region.wanted ⟨dst, op, ty, pos, af, some (j, b)⟩ (yielded ops a.tmps) = true := by simp [Region.wanted, yielded_of ha hj hg]
    have e2 : Region.wanted ⟨dst, op, ty, pos, af, none⟩ (yielded ops a.tmps) = true := wanted_none rfl _
    unfold wpX stepX at h ⊢
    rw [if_pos e2] at h
    rw [if_pos e1]
    exact h

theorem St.xgOff {d' j dj : Nat} {b : Bool} {v : Value} (hd : Nat.blt d' nt = true) (hj : gdst ops j = some dj) (hg : get Γ dj = some v) (hn : saysNo v b = true) (k : St w0 nt ((d', undef) :: Γ) F (wpX P ops C Qn rst)) :
    St w0 nt Γ F (wpX P ops C Qn (.st ⟨tz, iz, ⟨some d', op, ty, pos, af, some (j, b)⟩⟩ rst)) :=
  fun a w hs hdf ha hf hw => by
    have e1 : ¬ Region.wanted ⟨some d', op, ty, pos, af, some (j, b)⟩ (yielded ops a.tmps) = true := by
      simp only [Region.wanted, yielded_of ha hj hg]
      cases v <;> simp_all [saysNo]
    unfold wpX stepX
    rw [if_neg e1]
    exact k _ w (by simp [Act.put, hs]) hdf (ha.put (hs ▸ Nat.le_of_ble_eq_true hd)) hf hw

end

/-- A piece of code whatever comes behind it. -/
theorem St.selfThen {c : Code} (h : St w0 nt Γ F (c.wp P (Exit.then (Q .normal) Q))) : St w0 nt Γ F (c.wp P Q) :=
  fun a w hs hd ha hf hw => wp_mono (h a w hs hd ha hf hw) fun e a' w' hq => by
    cases e <;> exact hq

/-- A block of one's own of which nothing is marked. -/
def Blk0 (g T : Nat) (cs : List Value) : Res where
  gs := [g]
  p m := m g = some (.cells cs.toArray T)
  loc _ _ h hp := (h g (by simp)).symm.trans hp

end
end Go.Proofs.Ythdpagcklakahaa
