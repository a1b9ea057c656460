/-
  Texts of this seat, put together: rules, walks, plain laws.
  Conditions: none.
-/
import Derived.Test.YthdpagcklakahaaKPa1
section
namespace Go.Proofs.Ythdpagcklakahaa
open Go
set_option linter.unusedSectionVars false
set_option linter.unusedVariables false
def okL {α : Type} (φ : α → Prop) (xs : List α) : Prop := (∀ x ∈ xs, φ x) ∧ xs.length ≤ maxLen
inductive LC (α : Type) : Type 1 where
  | v (f : α → Value) (one : ∀ x, (f x).oneCell' = true)
  | s {β : Type} (E : Cod β) (f : α → List β)
def LC.rel {α : Type} (m : Hp) (x : α) : LC α → Value → Prop
  | .v f _, u => u = f x
  | .s E f, u => ∃ A c, u = .slice A (f x).length c ∧ SlP E A c (f x) m
def relL {α : Type} (m : Hp) (x : α) : List (LC α) → List Value → Prop
  | [], [] => True
  | l :: ls, u :: us => l.rel m x u ∧ relL m x ls us
  | _, _ => False
theorem relL_len {α : Type} {m : Hp} {x : α} : ∀ {ls : List (LC α)} {us : List Value}, relL m x ls us → us.length = ls.length
  | [], [], _ => rfl
  | _ :: _, _ :: _, h => by simp [relL_len h.2]
  | [], _ :: _, h => h.elim
  | _ :: _, [], h => h.elim
theorem relL_one {α : Type} {m : Hp} {x : α} : ∀ {ls : List (LC α)} {us : List Value}, relL m x ls us → ∀ u ∈ us, u.oneCell' = true
  | [], [], _, u, hu => by cases hu
  | l :: ls, v :: us, h, u, hu => by
    rcases List.mem_cons.1 hu with rfl | hu
    · cases l with
      | v f one => rw [show u = f x from h.1]; exact one x
      | s E f => obtain ⟨A, c, rfl, _⟩ := h.1; rfl
    · exact relL_one h.2 u hu
  | [], _ :: _, h, _, _ => h.elim
  | _ :: _, [], h, _, _ => h.elim
theorem LC.rel_mono {α : Type} {m m' : Hp} {x : α} (hm : Hp.le m m') {l : LC α} {u : Value} (h : l.rel m x u) : l.rel m' x u := by
  cases l with
  | v f one => exact h
  | s E f => obtain ⟨A, c, h1, h2⟩ := h; exact ⟨A, c, h1, (Sl E A c (f x)).mono _ _ hm h2⟩
theorem relL_mono {α : Type} {m m' : Hp} {x : α} (hm : Hp.le m m') : ∀ {ls : List (LC α)} {us : List Value}, relL m x ls us → relL m' x ls us
  | [], [], _ => trivial
  | _ :: _, _ :: _, h => ⟨LC.rel_mono hm h.1, relL_mono hm h.2⟩
  | [], _ :: _, h => h.elim
  | _ :: _, [], h => h.elim
def codL {α : Type} (ls : List (LC α)) : Cod α where
  n := ls.length
  rel m x cs := relL m x ls cs
  len _ _ _ h := relL_len h
  one _ _ _ h := relL_one h
  mono _ _ _ _ hm h := relL_mono hm h
def ExL {α : Type} : List (LC α) → Type
  | [] => Unit
  | .v _ _ :: r => ExL r
  | .s _ _ :: r => (Option Addr × Nat) × ExL r
def valsL {α : Type} (x : α) : (ls : List (LC α)) → ExL ls → List Value
  | [], _ => []
  | .v f _ :: r, e => f x :: valsL x r e
  | .s _ f :: r, e => .slice e.1.1 (f x).length e.1.2 :: valsL x r e.2
def factsL {α : Type} (x : α) : (ls : List (LC α)) → ExL ls → List As
  | [], _ => []
  | .v _ _ :: r, e => factsL x r e
  | .s E f :: r, e => .ro (Sl E e.1.1 e.1.2 (f x)) :: factsL x r e.2
theorem factsL_ro {α : Type} {x : α} : ∀ (ls : List (LC α)) (e : ExL ls), allRo (factsL x ls e) = true
  | [], _ => rfl
  | .v _ _ :: r, e => factsL_ro r e
  | .s _ _ :: r, e => factsL_ro r e.2
theorem openL {α : Type} {m : Hp} {x : α} : ∀ {ls : List (LC α)} {us : List Value}, relL m x ls us → ∃ e : ExL ls, us = valsL x ls e ∧ ∀ r, As.ro r ∈ factsL x ls e → r.p m
  | [], [], _ => ⟨(), rfl, fun _ h => by cases h⟩
  | .v f one :: ls, u :: us, h => by
    obtain ⟨e, h1, h2⟩ := openL h.2
    exact ⟨e, by rw [h1, show u = f x from h.1]; rfl, h2⟩
  | .s E f :: ls, u :: us, h => by
    obtain ⟨A, c, rfl, hsl⟩ := h.1
    obtain ⟨e, h1, h2⟩ := openL h.2
    refine ⟨((A, c), e), by rw [h1]; rfl, fun r hr => ?_⟩
    rcases List.mem_cons.1 hr with hr | hr
    · injection hr with hr; subst hr; exact hsl
    · exact h2 r hr
  | [], _ :: _, h => h.elim
  | .v _ _ :: _, [], h => h.elim
  | .s _ _ :: _, [], h => h.elim
theorem shutL {α : Type} {m : Hp} {x : α} : ∀ {ls : List (LC α)} (e : ExL ls), (∀ r, As.ro r ∈ factsL x ls e → r.p m) → relL m x ls (valsL x ls e)
  | [], _, _ => trivial
  | .v f one :: ls, e, h => ⟨rfl, shutL (ls := ls) e h⟩
  | .s E f :: ls, e, h => ⟨⟨e.1.1, e.1.2, rfl, h _ (List.mem_cons_self ..)⟩, shutL (ls := ls) e.2 fun r hr => h r (List.mem_cons_of_mem _ hr)⟩
theorem valsL_len {α : Type} (x : α) : ∀ (ls : List (LC α)) (e : ExL ls), (valsL x ls e).length = ls.length
  | [], _ => rfl
  | .v _ _ :: r, e => by simp [valsL, valsL_len x r e]
  | .s _ _ :: r, e => by simp [valsL, valsL_len x r e.2]
theorem valsL_one {α : Type} (x : α) : ∀ (ls : List (LC α)) (e : ExL ls), ∀ u ∈ valsL x ls e, u.oneCell' = true
  | [], _, _, hu => by cases hu
  | .v f one :: r, e, u, hu => by
    rcases List.mem_cons.1 hu with rfl | hu
    · exact one x
    · exact valsL_one x r e u hu
  | .s _ f :: r, e, u, hu => by
    rcases List.mem_cons.1 hu with rfl | hu
    · rfl
    · exact valsL_one x r e.2 u hu
def packs {α : Type} (ls : List (LC α)) (ye : List (α × ExL ls)) : List (List Value) := ye.map fun p => valsL p.1 ls p.2
def pfacts {α : Type} (ls : List (LC α)) : List (α × ExL ls) → List As
  | [] => []
  | p :: r => factsL p.1 ls p.2 ++ pfacts ls r
theorem packs_ok {α : Type} (ls : List (LC α)) (ye : List (α × ExL ls)) : ∀ r ∈ packs ls ye, r.length = ls.length ∧ ∀ u ∈ r, u.oneCell' = true := fun r hr => by
  obtain ⟨p, _, rfl⟩ := List.mem_map.1 hr
  exact ⟨valsL_len _ _ _, valsL_one _ _ _⟩
theorem pfacts_mem {α : Type} {ls : List (LC α)} : ∀ {ye : List (α × ExL ls)} {p : α × ExL ls}, p ∈ ye → ∀ x ∈ factsL p.1 ls p.2, x ∈ pfacts ls ye
  | q :: r, p, h, x, hx => by
    rcases List.mem_cons.1 h with rfl | h
    · exact List.mem_append_left _ hx
    · exact List.mem_append_right _ (pfacts_mem h x hx)
theorem packs_rels {α : Type} {ls : List (LC α)} {ye : List (α × ExL ls)} {m : Hp} (h : ∀ r, As.ro r ∈ pfacts ls ye → r.p m) : RelsP (codL ls) (ye.map (·.1)) (packs ls ye) m := by
  refine ⟨by simp [packs], fun j x r hx hr => ?_⟩
  simp only [packs, List.getElem?_map, Option.map_eq_some_iff] at hx hr
  obtain ⟨p, hp, rfl⟩ := hx
  obtain ⟨p', hp', rfl⟩ := hr
  rw [hp] at hp'
  injection hp' with hp'
  subst hp'
  exact shutL p.2 fun r hr => h r (pfacts_mem (List.mem_of_getElem? hp) _ hr)
def OwnC {α : Type} (E : Cod α) (e : Nat) (A : Option Addr) (c : Nat) (xs : List α) : Res where
  gs := blkOf A c
  p _ := True
  loc _ _ _ h := h
  q m z := ∃ rows, OwnP E.n e A xs.length c rows m ∧ RelsP E xs rows z
  qloc m m' z z' hm hz h := by
    obtain ⟨rows, h1, h2⟩ := h
    exact ⟨rows, (Own E.n e A xs.length c rows).loc m m' hm h1, (Rels E xs rows).mono _ _ hz h2⟩
section
variable {P : Program} [T : HasTT P] {w0 : World} {nt : Nat} {Γ Γ' : Env} {F F' G R : List As} {Q : Exit → Act → World → Prop} {ops : Array Oper} {rest : List Oper}
variable {d : Nat} {op : Op} {ty : Nat} {pos : String} {af : Array Edge} {X : List Oper → Act → World → Prop}
theorem blocks_addro : ∀ {G F : List As}, allRo G = true → blocks (G ++ F) = blocks F := fun {G F} h => by
  rw [blocks_append, blocks_ro fun x hx => by obtain ⟨r, rfl⟩ := allRo_gs h x hx; rfl]
  rfl
theorem Sat.add_ros {w : World} : ∀ (G : List As), allRo G = true → (∀ r, As.ro r ∈ G → r.p (frz (blocks F) w)) → Sat F w → Sat (G ++ F) w
  | [], _, _, h => h
  | .ro r :: G, hro, hG, h => by
    have h2 := Sat.add_ros G hro (fun r hr => hG r (List.mem_cons_of_mem _ hr)) h
    refine h2.add_ro r ?_
    rw [blocks_addro (show allRo G = true from hro)]
    exact hG r (List.mem_cons_self ..)
  | .res _ :: _, hro, _, _ => by simp [allRo] at hro
theorem AllIn.ros {G F : List As} (h : AllIn G F) {w : World} (hf : Sat F w) : ∀ r, As.ro r ∈ G → r.p (frz (blocks F) w) := fun r hr => hf.ro (h.mem _ hr)
theorem Sat.openC {α : Type} {E : Cod α} {e c : Nat} {A : Option Addr} {xs : List α} {w : World} (h : Sat (.res (OwnC E e A c xs) :: F) w) : ∃ rows, RelsP E xs rows (frz (blocks (.res (OwnC E e A c xs) :: F)) w) ∧ Sat (.res (Own E.n e A xs.length c rows) :: F) w := by
  obtain ⟨rows, h1, h2⟩ := h.resq (r := OwnC E e A c xs) (List.mem_cons_self ..)
  refine ⟨rows, h2, h.nodup, fun x hx => ?_⟩
  cases hx with
  | head => exact ⟨(h.all _ (List.mem_cons_self ..)).1, h1, trivial⟩
  | tail _ hx => exact h.all _ (List.mem_cons_of_mem _ hx)
theorem Sat.shutC {α : Type} {E : Cod α} {e c n : Nat} {A : Option Addr} {xs : List α} {rows : List (List Value)} {w : World} (h : Sat (.res (Own E.n e A n c rows) :: F) w) (hn : n = xs.length) (hr : RelsP E xs rows (frz (blocks (.res (Own E.n e A n c rows) :: F)) w)) :
    Sat (.res (OwnC E e A c xs) :: F) w := by
  subst hn
  refine ⟨h.nodup, fun x hx => ?_⟩
  cases hx with
  | head => exact ⟨(h.all _ (List.mem_cons_self ..)).1, trivial, rows, (h.all _ (List.mem_cons_self ..)).2.1, hr⟩
  | tail _ hx => exact h.all _ (List.mem_cons_of_mem _ hx)
theorem Sat.nilC {α : Type} {w : World} (h : Sat F w) (E : Cod α) (e : Nat) : Sat (.res (OwnC E e none 0 []) :: F) w :=
  h.add_res (Ext.refl w) (OwnC E e none 0 []) (show (blkOf none 0).Nodup from blkOf_nodup _ _) (fun k hk => absurd ((mem_blkOf (A := none) (c := 0)).1 hk).1 (by omega)) trivial ⟨[], OwnP.nil _ _ _, rfl, fun j x r hx => by simp at hx⟩
theorem Sat.meltC {α : Type} {E : Cod α} {e c : Nat} {A : Option Addr} {xs : List α} {w : World} (h : Sat (.res (OwnC E e A c xs) :: F) w) : Sat (.ro (Sl E A c xs) :: F) w := by
  obtain ⟨rows, h1, h2⟩ := h.openC
  have h3 : Sat (.res (Own E.n e A xs.length c rows) :: .ro (Rels E xs rows) :: F) w := (h2.add_ro (Rels E xs rows) h1).perm (List.Perm.swap ..)
  have h4 := Sat.own_sl (E := E) (xs := xs) h3 rfl fun m hm => hm _ (List.mem_cons_self ..) _ rfl
  exact (Keep.k (Keep.d Keep.z)).sat h4
theorem Sat.litC {α : Type} {ls : List (LC α)} {g e : Nat} {cs : List Value} {ys : List α} {w : World} (ye : List (α × ExL ls)) (hcs : (packs ls ye).flatten = cs) (hys : ye.map (·.1) = ys) (hm : Nat.ble ye.length 16777216 = true) (hin : AllIn (pfacts ls ye) F) (h : Sat (.res (Box g e cs) :: F) w) :
    Sat (.res (OwnC (codL ls) e (some ⟨g, 0, none⟩) ys.length ys) :: F) w := by
  subst hys
  have h2 : Sat (.res (Own ls.length e (some ⟨g, 0, none⟩) ye.length ye.length (packs ls ye)) :: F) w :=
    Sat.box_own hcs (by simp [packs]) (packs_ok ls ye) (by have := Nat.le_of_ble_eq_true hm; simp only [maxLen]; omega) h
  have e1 : (ye.map (·.1)).length = ye.length := by simp
  rw [e1]
  exact h2.shutC e1.symm (packs_rels fun r hr => h2.ro (List.mem_cons_of_mem _ (hin.mem _ hr)))
theorem St.ixN [W : Walk P ops X] {α : Type} {ls : List (LC α)} {t e : Nat} {i j : TI} {x ix : Operand} {A : Option Addr} {n c : Nat} {kk : IntKind} {q : Int} {xs : List α} {y : α} (hy : elt xs q = some y) (hd : Nat.blt d nt = true) (hx : ev Γ x = some (.slice A n c)) (hq : ev Γ ix = some (.int kk q))
    (hm : As.ro (Sl (codL ls) A c xs) ∈ F) (hlen : n = xs.length) (hi : tget T.tt t = some i) (hdesc : i.desc = .slice e) (hj : tget T.tt e = some j) (hn : j.size = ls.length)
    (k : ∀ b o (ex : ExL ls), St w0 nt ((d, .pointer (some ⟨b, o, none⟩)) :: Γ) (.ro (Cells b o (valsL y ls ex)) :: (factsL y ls ex ++ F)) (X rest)) : St w0 nt Γ F (X (⟨some d, .indexAddr t x ix, ty, pos, af, none⟩ :: rest)) :=
  St.idx (codL ls) hd hx hq hm hlen hy hi hdesc hj hn fun b o cs a w hs hdf ha hf hw => by
    have hrel : relL (frz (blocks F) w) y ls cs := hf.ro (r := Rel (codL ls) y cs) (by simp)
    obtain ⟨ex, rfl, hex⟩ := openL hrel
    have h0 : Sat F w := hf.tail.tail
    have hc := hf.ro (r := Cells b o (valsL y ls ex)) (by simp)
    refine k b o ex a w hs hdf ha (Sat.add_ro (Sat.add_ros _ (factsL_ro ls ex) hex h0) _ ?_) hw
    rw [blocks_addro (factsL_ro ls ex)]
    exact hc
theorem St.openN {X : Act → World → Prop} {α : Type} {ls : List (LC α)} {A : Option Addr} {c : Nat} {xs : List α} {q : Int} {y : α} (hm : As.ro (Sl (codL ls) A c xs) ∈ F) (hy : elt xs q = some y) (k : ∀ b o (ex : ExL ls), (∃ oA, A = some ⟨b, oA, none⟩ ∧ o = oA + q.toNat * ls.length) → St w0 nt Γ (.ro (Cells b o (valsL y ls ex)) :: (factsL y ls ex ++ F)) X) : St w0 nt Γ F X :=
  fun a w hs hdf ha hf hw => by
    obtain ⟨h0, h1, h2⟩ := elt_some hy
    have hsl := hf.ro hm
    cases A with
    | none =>
      have := hsl.2.2.1 rfl
      subst this
      simp at h2
    | some ad =>
      obtain ⟨hspot, cs, hrel, hc⟩ := hsl.2.2.2 ad rfl _ _ h2
      obtain ⟨ex, rfl, hex⟩ := openL hrel
      obtain ⟨b, o, s⟩ := ad
      simp only at hspot
      subst hspot
      refine k b _ ex ⟨o, rfl, rfl⟩ a w hs hdf ha (Sat.add_ro (Sat.add_ros _ (factsL_ro ls ex) hex hf) _ ?_) hw
      rw [blocks_addro (factsL_ro ls ex)]
      exact hc
theorem Rd.ixN {α : Type} {t e n' : Nat} {i j : TI} {x ix : Operand} {A : Option Addr} {n c : Nat} {kk : IntKind} {q : Int} {xs : List α} {y : α} {b o : Nat} (hA : ∃ oA, A = some ⟨b, oA, none⟩ ∧ o = oA + q.toNat * n') (hy : elt xs q = some y) (hx : ev Γ x = some (.slice A n c)) (hq : ev Γ ix = some (.int kk q))
    (hlen : n = xs.length) (hi : tget T.tt t = some i) (hdesc : i.desc = .slice e) (hj : tget T.tt e = some j) (hn : j.size = n') : Rd P F Γ (.indexAddr t x ix) (.pointer (some ⟨b, o, none⟩)) :=
  fun a w d ty pos af gg ha hf => by
    obtain ⟨oA, rfl, rfl⟩ := hA
    obtain ⟨h0, h1, h2⟩ := elt_some hy
    subst hlen
    obtain ⟨dd, hu, hdd⟩ := T.ok.desc hi
    have hadd : (⟨b, oA, none⟩ : Addr).add (q.toNat * n') = ⟨b, oA + q.toNat * n', none⟩ := by
      unfold Addr.add
      split
      · rename_i hz; rw [hz]; rfl
      · rfl
    simp [execOp, Instr.indexAt, ha.eval hx, ha.eval hq, asIntOf, run_underlying hu, TD.of_slice (hdd.trans hdesc), run_sizeOf_tt T.ok hj, hn, h0, h1, hadd]
theorem St.appC {α : Type} {E : Cod α} {t t2 e m c n : Nat} {i i2 j : TI} {s x : Operand} {A : Option Addr} {xv : Value} {b : Nat} {xs ys zs : List α} (hz : Go.Proofs.Ythdpagcklakahaa.app b xs ys = some zs) (hd : Nat.blt d nt = true) (hs : ev Γ s = some (.slice A n c)) (hx : ev Γ x = some xv)
    (hD : Del F (.res (OwnC E e A c xs)) G) (hlen : n = xs.length) (hi : tget T.tt t = some i) (hdesc : i.desc = .slice e) (hj : tget T.tt e = some j) (hsz : j.size = E.n) (hby : j.bytes = b) (hzs : Nat.beq (zc j.zero).length E.n = true)
    (hm : m = ys.length) (hsrc : ∀ w, Sat F w → ∃ rows, RelsP E ys rows (frz (blocks F) w) ∧ (∀ r ∈ rows, r.length = E.n ∧ ∀ u ∈ r, u.oneCell' = true) ∧ SrcP P E.n xv m rows.flatten w) (hi2 : tget T.tt t2 = some i2) (hd2 : notInt i2.desc = true)
    (k : ∀ A' c', St w0 nt ((d, .slice A' zs.length c') :: Γ) (.res (OwnC E e A' c' zs) :: G) (wpList P ops Q rest)) :
    St w0 nt Γ F (wpList P ops Q (⟨some d, .call { callee := .builtin .append, args := #[s, x], argTypes := #[t, t2] }, ty, pos, af, none⟩ :: rest)) :=
  fun a w hs' hdf ha hf hw => by
    obtain ⟨rfl, h2, h3⟩ := app_some hz
    subst hlen; subst hm; subst hby
    obtain ⟨news, hn1, hn2, hn3⟩ := hsrc w hf
    have hff := hf.front hD
    obtain ⟨rows, hrel, hf2⟩ := hff.openC
    have hb : blocks F = blocks F := rfl
    have hn1' : RelsP E ys news (frz (blocks (.res (Own E.n e A xs.length c rows) :: G)) w) := (Rels E ys news).mono _ _ (frz_anti w fun kk hk => (blocks_perm hD.perm).mem_iff.2 hk) hn1
    have hf3 : Sat (.ro (Rels E ys news) :: .ro (Rels E xs rows) :: .res (Own E.n e A xs.length c rows) :: G) w := (hf2.add_ro (Rels E xs rows) hrel).add_ro (Rels E ys news) hn1'
    refine append_at (F := .ro (Rels E ys news) :: .ro (Rels E xs rows) :: .res (Own E.n e A xs.length c rows) :: G) news hs' hdf ha hf3 hw hd hs hx (.s (.s .z)) hi hdesc hj hsz hzs hn3 rfl hn1.1 hn2 (by simpa [maxLen] using h3) h2 hi2 hd2 fun A' c' => ?_
    intro a2 w2 hs2 hdf2 ha2 hf5 hw2
    have e1 : (xs ++ ys).length = xs.length + ys.length := by simp
    refine (e1 ▸ k A' c') a2 w2 hs2 hdf2 ha2 ?_ hw2
    have hR1 := hf5.ro (r := Rels E xs rows) (by simp)
    have hR2 := hf5.ro (r := Rels E ys news) (by simp)
    have h6 : Sat (.res (OwnC E e A' c' (xs ++ ys)) :: .ro (Rels E ys news) :: .ro (Rels E xs rows) :: G) w2 := by
      refine Sat.shutC (E := E) hf5 e1.symm ⟨by simp [hR1.1, hR2.1], fun j x r hx hr => ?_⟩
      by_cases hj : j < xs.length
      · rw [List.getElem?_append_left hj] at hx
        rw [List.getElem?_append_left (by rw [hR1.1]; exact hj)] at hr
        exact hR1.2 j x r hx hr
      · rw [List.getElem?_append_right (by omega)] at hx
        rw [List.getElem?_append_right (by rw [hR1.1]; omega), hR1.1] at hr
        exact hR2.2 _ x r hx hr
    exact (Keep.k (Keep.d (Keep.d Keep.z))).sat h6
theorem srcBC {α : Type} {ls : List (LC α)} {g e m c : Nat} {cs : List Value} {ys : List α} (ye : List (α × ExL ls)) (hm : As.res (Box g e cs) ∈ F) (hcs : (packs ls ye).flatten = cs) (hys : ye.map (·.1) = ys) (hl : m = ys.length) (hin : AllIn (pfacts ls ye) F) :
    ∀ w, Sat F w → ∃ rows, RelsP (codL ls) ys rows (frz (blocks F) w) ∧ (∀ r ∈ rows, r.length = (codL ls).n ∧ ∀ u ∈ r, u.oneCell' = true) ∧ SrcP P (codL ls).n (.slice (some ⟨g, 0, none⟩) m c) m rows.flatten w := fun w hf => by
  subst hys
  subst hcs
  subst hl
  have hok := packs_ok ls ye
  refine ⟨packs ls ye, packs_rels (hin.ros hf), hok, src_box hm (by rw [length_flatten_rows hok]; simp [packs, codL]) ?_ w hf⟩
  rw [List.all_eq_true]
  intro u hu
  obtain ⟨r, hr, hur⟩ := List.mem_flatten.1 hu
  exact (hok r hr).2 u hur
theorem Rd.eltS {t : Nat} {i : TI} {s : ByteArray} {kk : IntKind} {q z : Int} {ox oy : Operand} (h : Go.Proofs.Ythdpagcklakahaa.eltS s q = some z) (hx : ev Γ ox = some (.string s)) (hy : ev Γ oy = some (.int kk q)) (hi : tget T.tt t = some i) (hdesc : i.desc = .string) : Rd P F Γ (.index t ox oy) (.int .u8 z) := fun a w d ty pos af g ha _ => by
  unfold Go.Proofs.Ythdpagcklakahaa.eltS at h
  split at h
  · rename_i h0
    simp only [Option.map_eq_some_iff] at h
    obtain ⟨b, hb, rfl⟩ := h
    obtain ⟨dd, hu, hdd⟩ := T.ok.desc hi
    simp [execOp, ha.eval hx, ha.eval hy, Instr.index, asIntOf, run_underlying hu, TD.of_string (hdd.trans hdesc), h0, hb]
  · cases h
theorem Rd.quo {t yt : Nat} {k : IntKind} {x y z : Int} {ox oy : Operand} (h : divM k x y = some z) (hx : ev Γ ox = some (.int k x)) (hy : ev Γ oy = some (.int k y)) : Rd P F Γ (.binOp .quo t ox oy yt) (.int k z) :=
  Rd.p (by
    unfold divM at h
    split at h
    · cases h
    · rename_i h0; injection h with h; subst h; simp [pev, hx, hy, pbin, pint, h0])
theorem Rd.rem {t yt : Nat} {k : IntKind} {x y z : Int} {ox oy : Operand} (h : remM x y = some z) (hx : ev Γ ox = some (.int k x)) (hy : ev Γ oy = some (.int k y)) : Rd P F Γ (.binOp .rem t ox oy yt) (.int k z) :=
  Rd.p (by
    unfold remM at h
    split at h
    · cases h
    · rename_i h0; injection h with h; subst h; simp [pev, hx, hy, pbin, pint, h0])
theorem Rd.shl {t yt : Nat} {k k' : IntKind} {x y z : Int} {ox oy : Operand} (h : shlM k x y = some z) (hx : ev Γ ox = some (.int k x)) (hy : ev Γ oy = some (.int k' y)) : Rd P F Γ (.binOp .shl t ox oy yt) (.int k z) :=
  Rd.p (by
    unfold shlM at h
    split at h
    · cases h
    · rename_i h0; injection h with h; subst h; simp [pev, hx, hy, pbin, pshift, h0])
theorem Rd.shr {t yt : Nat} {k k' : IntKind} {x y z : Int} {ox oy : Operand} (h : shrM k x y = some z) (hx : ev Γ ox = some (.int k x)) (hy : ev Γ oy = some (.int k' y)) : Rd P F Γ (.binOp .shr t ox oy yt) (.int k z) :=
  Rd.p (by
    unfold shrM at h
    split at h
    · cases h
    · rename_i h0; injection h with h; subst h; simp [pev, hx, hy, pbin, pshift, h0])
theorem St.openS {X : Act → World → Prop} {α : Type} {E : Cod α} {A : Option Addr} {c : Nat} {xs ys : List α} {l h : Int} (hm : As.ro (Sl E A c xs) ∈ F) (hz : Go.Proofs.Ythdpagcklakahaa.sub xs l h = some ys)
    (k : ∀ A' c', (A' = (if c = l.toNat then A else A.map (·.add (l.toNat * E.n))) ∧ c' = c - l.toNat) → St w0 nt Γ (.ro (Sl E A' c' ys) :: F) X) : St w0 nt Γ F X :=
  fun a w hs hdf ha hf hw => k _ _ ⟨rfl, rfl⟩ a w hs hdf ha (hf.add_ro (Sl E _ _ ys) (SlP.sub (hf.ro hm) hz)) hw
theorem Sat.addS {α : Type} {E : Cod α} {A A' : Option Addr} {c c' : Nat} {xs ys : List α} {l h : Int} {w : World} (hA : A' = (if c = l.toNat then A else A.map (·.add (l.toNat * E.n))) ∧ c' = c - l.toNat) (hm : As.ro (Sl E A c xs) ∈ F) (hz : Go.Proofs.Ythdpagcklakahaa.sub xs l h = some ys) (hf : Sat F w) : Sat (.ro (Sl E A' c' ys) :: F) w := by
  obtain ⟨rfl, rfl⟩ := hA
  exact hf.add_ro (Sl E _ _ ys) (SlP.sub (hf.ro hm) hz)
theorem Rd.sub {α : Type} {E : Cod α} {t e : Nat} {i j : TI} {A A' : Option Addr} {n c c' : Nat} {xs ys : List α} {lo hi : Option Operand} {l h : Int} {ox : Operand} (hA : A' = (if c = l.toNat then A else A.map (·.add (l.toNat * E.n))) ∧ c' = c - l.toNat) (hz : Go.Proofs.Ythdpagcklakahaa.sub xs l h = some ys) (hm : As.ro (Sl E A c xs) ∈ F) (hx : ev Γ ox = some (.slice A n c)) (hlen : n = xs.length)
    (hl : boundOf Γ 0 lo = some l) (hh : boundOf Γ (n : Int) hi = some h) (hi' : tget T.tt t = some i) (hdesc : i.desc = .slice e) (hj : tget T.tt e = some j) (hn : j.size = E.n) : Rd P F Γ (.slice t ox lo hi none) (.slice A' ys.length c') := fun a w d ty pos af g ha hf => by
  obtain ⟨rfl, rfl⟩ := hA
  obtain ⟨h0, h1, h2, _⟩ := sub_some hz
  have hyl := sub_len hz
  have hsl : SlP E A c xs (frz (blocks F) w) := hf.ro hm
  have hcap := hsl.1
  subst hlen
  have hyl2 : ys.length = h.toNat - l.toNat := by omega
  obtain ⟨dd, hu, hdd⟩ := T.ok.desc hi'
  have hb := run_bounds (P := P) true ha hl hh h0 h1 h2 hcap w
  simp [execOp, Instr.sliceAt, Instr.slice, ha.eval hx, run_underlying hu, TD.of_slice (hdd.trans hdesc), hb, run_sizeOf_tt T.ok hj, hn, hyl2]
section
variable {C : World → Prop} {Qn : Act → World → Prop} {iz : Nat} {tz : Tg} {rst t1 t2 : Tr}
theorem St.xalt (h1 : St w0 nt Γ F (wpX P ops C Qn t1)) (h2 : St w0 nt Γ F (wpX P ops C Qn t2)) : St w0 nt Γ F (wpX P ops C Qn (.alt t1 t2)) :=
  fun a w hs hd ha hf hw => ⟨h1 a w hs hd ha hf hw, h2 a w hs hd ha hf hw⟩
theorem St.share {ε : Type} {X Y : Act → World → Prop} (Γs : ε → Env) (Fs : ε → List As) (h1 : (∀ Γ₁ F₁ e, SubL (Γs e) Γ₁ → (∀ w, Sat F₁ w → Sat (Fs e) w) → St w0 nt Γ₁ F₁ Y) → St w0 nt Γ F X) (h2 : ∀ e, St w0 nt (Γs e) (Fs e) Y) : St w0 nt Γ F X :=
  h1 fun _ _ e hΓ hF => St.weak hΓ hF (h2 e)
theorem St.splitB {X : Act → World → Prop} {dj : Nat} (c : Bool) (hg : get Γ dj = some (.bool c)) (ht : c = true → St w0 nt ((dj, .bool true) :: Γ) F X) (hff : c = false → St w0 nt ((dj, .bool false) :: Γ) F X) : St w0 nt Γ F X :=
  fun a w hs hdf ha hf hw => by
    cases c
    · exact hff rfl a w hs hdf (At.cons (ha dj _ hg) ha) hf hw
    · exact ht rfl a w hs hdf (At.cons (ha dj _ hg) ha) hf hw
theorem St.xgOn {dst : Option Nat} {j dj : Nat} {b : Bool} (hj : gdst ops j = some dj) (hg : get Γ dj = some (.bool b)) (k : St w0 nt Γ F (wpX P ops C Qn (.st ⟨tz, iz, ⟨dst, op, ty, pos, af, none⟩⟩ rst))) :
    St w0 nt Γ F (wpX P ops C Qn (.st ⟨tz, iz, ⟨dst, op, ty, pos, af, some (j, b)⟩⟩ rst)) :=
  fun a w hs hdf ha hf hw => by
    have h := k a w hs hdf ha hf hw
    have e1 : Region.wanted ⟨dst, op, ty, pos, af, some (j, b)⟩ (yielded ops a.tmps) = true := by simp [Region.wanted, yielded_of ha hj hg]
    have e2 : Region.wanted ⟨dst, op, ty, pos, af, none⟩ (yielded ops a.tmps) = true := wanted_none rfl _
    unfold wpX stepX at h ⊢
    rw [if_pos e2] at h
    rw [if_pos e1]
    exact h
theorem St.xgOff {d' j dj : Nat} {b : Bool} {v : Value} (hd : Nat.blt d' nt = true) (hj : gdst ops j = some dj) (hg : get Γ dj = some v) (hn : saysNo v b = true) (k : St w0 nt ((d', undef) :: Γ) F (wpX P ops C Qn rst)) :
    St w0 nt Γ F (wpX P ops C Qn (.st ⟨tz, iz, ⟨some d', op, ty, pos, af, some (j, b)⟩⟩ rst)) :=
  fun a w hs hdf ha hf hw => by
    have e1 : ¬ Region.wanted ⟨some d', op, ty, pos, af, some (j, b)⟩ (yielded ops a.tmps) = true := by
      simp only [Region.wanted, yielded_of ha hj hg]
      cases v <;> simp_all [saysNo]
    unfold wpX stepX
    rw [if_neg e1]
    exact k _ w (by simp [Act.put, hs]) hdf (ha.put (hs ▸ Nat.le_of_ble_eq_true hd)) hf hw
end
theorem St.selfThen {c : Code} (h : St w0 nt Γ F (c.wp P (Exit.then (Q .normal) Q))) : St w0 nt Γ F (c.wp P Q) :=
  fun a w hs hd ha hf hw => wp_mono (h a w hs hd ha hf hw) fun e a' w' hq => by
    cases e <;> exact hq
end
end Go.Proofs.Ythdpagcklakahaa
end
section
namespace Go.Proofs.Ythdpagcklakahaa
open Go Go.ChangeShapes Go.WideShapes Go.RowKit
set_option linter.unusedSectionVars false
def ReadsC {α : Type} (P : Program) (E : Cod α) (φ : α → Prop) (t : TypeId) : Prop := ∀ {H : Type} {enc : TypeId × Value → H} {w : World} {base : Nat} {sp : Nat → Bool} {held : Bool} {fuel : Nat} {cs : List Value} {x : DataW H × List MemPlace},
  DataW.trod enc P w base sp held fuel t cs = some x → ∃ y : α, E.rel (hp w) y cs ∧ φ y
abbrev RdL {α : Type} (P : Program) (ls : List (LC α)) (φ : α → Prop) (t : TypeId) : Prop := ReadsC P (codL ls) φ t
section
variable {H : Type} {enc : TypeId × Value → H} {P : Program} {w : World} {base : Nat} {sp : Nat → Bool} {held : Bool} {fuel : Nat} {cs : List Value} {x : DataW H × List MemPlace}
theorem rdl_int {k : IntKind} {t : TypeId} (ht : P.underlying t = some (.int k)) : RdL P [.v (fun x => .int k x) (fun _ => rfl)] (inK k) t := fun h => by
  obtain ⟨n, h1, _, h3⟩ := DataW.trod_int ht h
  subst h1
  exact ⟨n, ⟨rfl, trivial⟩, (Lit.wf_int_iff _ _).1 h3⟩
theorem rdc_flat {α : Type} {E : Enc α} {ls : List (LC α)} {φ : α → Prop} {t : TypeId} (h : RdL P ls φ t) (he : ∀ y ex, valsL y ls ex = E.enc y) : ReadsC P (cod E) φ t := fun hd => by
  obtain ⟨y, h1, h2⟩ := h hd
  obtain ⟨ex, h3, _⟩ := openL h1
  exact ⟨y, h3.trans (he y ex), h2⟩
theorem rows_slpC {α : Type} {E : Cod α} {φ : α → Prop} {ad : Addr} {n : Nat} (hpos : 0 < E.n) (hr : ∀ i, i < n → ∃ (y : α) (cs : List Value), E.rel (hp w) y cs ∧ φ y ∧ ∀ j, j < E.n → w.cell? (ad.add (i * E.n + j)) = cs[j]?) :
    ∃ xs : List α, xs.length = n ∧ (∀ x ∈ xs, φ x) ∧ ∀ j x, xs[j]? = some x → ad.spot = none ∧ ∃ cs, E.rel (hp w) x cs ∧ ∀ i u, cs[i]? = some u → cellm (hp w) ad.block (ad.off + j * E.n + i) = some u := by
  induction n with
  | zero => exact ⟨[], rfl, (fun x h => by cases h), fun j x h => by simp at h⟩
  | succ n ih =>
    obtain ⟨xs, h1, hφ, h2⟩ := ih fun i hi => hr i (by omega)
    obtain ⟨y, cy, hrel, hy0, hy⟩ := hr n (by omega)
    refine ⟨xs ++ [y], by simp [h1], fun x hx => ?_, fun j x hj => ?_⟩
    · rcases List.mem_append.1 hx with hx | hx
      · exact hφ x hx
      · simp only [List.mem_singleton] at hx
        subst hx
        exact hy0
    by_cases hjn : j < n
    · rw [List.getElem?_append_left (by omega)] at hj
      exact h2 j x hj
    · have hl := (List.getElem?_eq_some_iff.1 hj).1
      simp only [List.length_append, List.length_singleton, h1] at hl
      obtain rfl : j = n := by omega
      rw [← h1] at hj
      simp only [List.getElem?_append_right (Nat.le_refl _), Nat.sub_self, List.getElem?_cons_zero, Option.some.injEq] at hj
      subst hj
      have hspot : ad.spot = none := by
        cases hsp : ad.spot with
        | none => rfl
        | some q =>
          obtain ⟨y0, c0, hrel0, _, hc0⟩ := hr 0 (by omega)
          have h := hc0 0 hpos
          have hl0 := E.len _ _ _ hrel0
          rw [List.getElem?_eq_getElem (by omega), show 0 * E.n + 0 = 0 by omega] at h
          have e : ad.add 0 = ad := rfl
          rw [e] at h
          unfold World.cell? at h
          split at h
          · rw [hsp] at h; simp at h
          · cases h
      refine ⟨hspot, cy, hrel, fun i u hu => ?_⟩
      have hi : i < E.n := by rw [← E.len _ _ _ hrel]; exact (List.getElem?_eq_some_iff.1 hu).1
      have h := hy i hi
      rw [hu] at h
      rw [cellm_hp]
      rw [← h]
      congr 1
      obtain ⟨b, o, s⟩ := ad
      simp only at hspot
      subst hspot
      unfold Addr.add
      split
      · rename_i hz; simp only [Addr.mk.injEq, true_and, and_true]; omega
      · simp only [Addr.mk.injEq, true_and, and_true]; omega
theorem rdl_slice {α : Type} {E : Cod α} {φ : α → Prop} {t e : TypeId} (ht : P.underlying t = some (.slice e)) (hC : P.cellsOf e = E.n) (hpos : 0 < E.n) (hE : ReadsC P E φ e) : RdL P [.s E (fun x => x)] (okL φ) t := fun {H enc w base sp held fuel cs x} hf => by
  rcases Deep.open_slice ht hf with ⟨h1, _⟩ | ⟨a, len, cap, m, n, D, Pl, hcs, hb, hl, hm, hmm, _, hi⟩
  · subst h1
    exact ⟨[], ⟨⟨none, 0, rfl, by simp, by simp [maxLen], fun _ => rfl, (fun ad h => by cases h)⟩, trivial⟩, (fun x h => by cases h), by simp⟩
  · subst hcs
    have hlm : len ≤ m := by rw [hmm]; split <;> omega
    obtain ⟨xs, h1, hφ, h2⟩ := rows_slpC (w := w) (E := E) (φ := φ) (ad := a) (n := len) hpos (fun i hin => by
      obtain ⟨cs', hc, ht'⟩ := hi i (by omega)
      obtain ⟨y, hy, hy2⟩ := hE ht'
      obtain ⟨_, _, hat⟩ := World.cells?_some hc
      refine ⟨y, cs', hy, hy2, fun j hj => ?_⟩
      have := hat j (by omega)
      rw [Deep.add_add, hC] at this
      exact this)
    subst h1
    refine ⟨xs, ⟨⟨some a, cap, rfl, hl, hm, (fun h => by cases h), fun ad had => ?_⟩, trivial⟩, hφ, by omega⟩
    injection had with had
    subst had
    exact h2
theorem open_arg {α : Type} {ls : List (LC α)} {φ : α → Prop} {t : TypeId} {v : Value} {d : DataW H} {ps : List MemPlace} (hE : RdL P ls φ t) (h : DataW.Trod enc P w base sp held t v d ps) :
    ∃ (y : α) (ex : ExL ls), v.cells.toList = valsL y ls ex ∧ φ y ∧ ∀ r, As.ro r ∈ factsL y ls ex → r.p (hp w) := by
  obtain ⟨fuel, hf⟩ := h
  obtain ⟨y, h1, h2⟩ := hE hf
  obtain ⟨ex, h3, h4⟩ := openL h1
  exact ⟨y, ex, h3, h2, h4⟩
end
end Go.Proofs.Ythdpagcklakahaa
end
section
namespace Go.Proofs.Ythdpagcklakahaa
open Go
set_option linter.unusedSectionVars false
set_option linter.unusedVariables false
def chkLen {α : Type} (n : Nat) (xs : List α) : Option (List α) := if xs.length = n then some xs else none
theorem chkLen_e {α : Type} {n : Nat} {xs ys : List α} (h : chkLen n xs = some ys) : ys = xs ∧ xs.length = n := by
  unfold chkLen at h
  split at h
  · rename_i hn; injection h with h; exact ⟨h.symm, hn⟩
  · cases h
theorem setE_len {α : Type} {xs zs : List α} {q : Int} {v : α} (h : setE xs q v = some zs) : zs.length = xs.length := by
  unfold setE at h
  split at h
  · injection h with h
    subst h
    simp
  · cases h
def retOrW {ρ σ β : Type} (w : ρ → β) (o : ρ ⊕ σ) (f : σ → Option β) : Option β := match o with | .inl r => some (w r) | .inr s => f s
theorem unR {ρ σ : Type} {s : σ} {f : σ → Option ρ} {r : ρ} (h : retOr (.inr s) f = some r) : f s = some r := h
theorem unRW {ρ σ β : Type} {w : ρ → β} {s : σ} {f : σ → Option β} {r : β} (h : retOrW w (.inr s) f = some r) : f s = some r := h
theorem chkLen_n {α : Type} {n : Nat} {xs ys : List α} (h : chkLen n xs = some ys) : n = xs.length := (chkLen_e h).2.symm
section
variable {P : Program} [T : HasTT P] {w0 : World} {nt : Nat} {Γ Γ' : Env} {F F' G R : List As} {Q : Exit → Act → World → Prop} {ops : Array Oper} {rest : List Oper}
variable {d : Nat} {op : Op} {ty : Nat} {pos : String} {af : Array Edge} {X : List Oper → Act → World → Prop} {Post : Value → List As → Prop}
theorem flat_length {α : Type} (E : Enc α) (xs : List α) : (xs.map E.enc).flatten.length = xs.length * E.sz := by
  induction xs with
  | nil => simp
  | cons x r ih => simp [E.len, Nat.add_mul, Nat.add_comm, ih]
theorem flat_one {α : Type} (E : Enc α) (xs : List α) : ∀ u ∈ (xs.map E.enc).flatten, u.oneCell' = true := by
  intro u hu
  obtain ⟨r, hr, hur⟩ := List.mem_flatten.1 hu
  obtain ⟨x, _, rfl⟩ := List.mem_map.1 hr
  exact E.one x u hur
def plainRes : As → Prop
  | .ro _ => False
  | .res r => ∀ m z z', r.q m z → r.q m z'
def allPlain : List As → Prop
  | [] => True
  | x :: r => plainRes x ∧ allPlain r
theorem allPlain.mem : ∀ {F : List As}, allPlain F → ∀ x ∈ F, plainRes x
  | [], _, x, hx => by cases hx
  | y :: r, h, x, hx => by
    cases hx with
    | head => exact h.1
    | tail _ hx => exact allPlain.mem h.2 x hx
theorem plain_own {α : Type} (E : Enc α) (e : Nat) (A : Option Addr) (c : Nat) (xs : List α) : plainRes (.res (OwnL E e A c xs)) := fun _ _ _ _ => True.intro
theorem Fun.lent {f : FuncId} {args : List Value} {G : List As} (h : Fun P f args G Post) (hro : allRo G = true) {w : World} (hG : ∀ r, As.ro r ∈ G → r.p (hp w)) (hf : Sat F w) (hpl : ∀ v F', Post v F' → allPlain F') :
    Calls P f args.toArray w fun e w' => ∃ v F', e = .returned v ∧ Post v F' ∧ Sat (F' ++ F) w' ∧ Same w w' := by
  have hG' := allRo_gs hro
  have hb : blocks (G ++ [.ro (agree w)]) = [] := blocks_ro fun x hx => by
    rcases List.mem_append.1 hx with hx | hx
    · obtain ⟨r, rfl⟩ := hG' x hx; rfl
    · simp at hx; subst hx; rfl
  have hs : Sat (G ++ [.ro (agree w)]) w := by
    refine ⟨by rw [hb]; simp, fun x hx => ?_⟩
    rw [hb]
    rcases List.mem_append.1 hx with hx | hx
    · obtain ⟨r, rfl⟩ := hG' x hx
      refine r.mono _ _ ?_ (hG r hx)
      intro k o ho
      simpa [frz, hp] using ho
    · simp at hx
      subst hx
      intro k _
      simp [frz]
  refine (h w [.ro (agree w)] hs).mono fun e w' ⟨v', F', h1, h2, h4, h5⟩ => ⟨v', F', h1, h2, ?_, h5⟩
  have hfz : ∀ k, k < w.heap.size → frz (blocks (F' ++ [.ro (agree w)])) w' k = w.heap[k]? := fun k hk => h4.ro (r := agree w) (by simp) k hk
  have hbl : blocks (F' ++ [.ro (agree w)]) = blocks F' := by rw [blocks_append]; simp [blocks, As.gs]
  rw [hbl] at hfz
  have hnew : ∀ k, k ∈ blocks F' → w.heap.size ≤ k := fun k hk => by
    rcases Nat.lt_or_ge k w.heap.size with hlt | hge
    · have := hfz k hlt
      rw [frz, if_pos hk, Array.getElem?_eq_getElem hlt] at this
      cases this
    · exact hge
  have hold : ∀ k, k < w.heap.size → w'.heap[k]? = w.heap[k]? := fun k hk => by
    have := hfz k hk
    rw [frz, if_neg (fun hm => Nat.not_le.2 hk (hnew k hm))] at this
    exact this
  have hext : Ext w w' := ⟨h5, hold⟩
  have hfe := hf.ext hext
  refine ⟨?_, fun x hx => ?_⟩
  · rw [blocks_append]
    refine List.nodup_append.2 ⟨?_, hf.nodup, fun a ha b hb' e => ?_⟩
    · have := h4.nodup
      rw [hbl] at this
      exact this
    · have h6 := hnew a ha
      have h7 := hf.lt hb'
      omega
  · rcases List.mem_append.1 hx with hx | hx
    · have hh := h4.all x (List.mem_append.2 (.inl hx))
      have hp' := (hpl v' F' h2).mem x hx
      cases x with
      | ro r => exact hp'.elim
      | res r => exact ⟨hh.1, hh.2.1, hp' _ _ _ hh.2.2⟩
    · have hh := hf.all x hx
      have hle : Hp.le (frz (blocks F) w) (frz (blocks (F' ++ F)) w') := by
        intro k o hk
        unfold frz at *
        split at hk
        · cases hk
        · rename_i hnn
          have hlt := (Array.getElem?_eq_some_iff.1 hk).1
          rw [if_neg, hold k hlt]
          · exact hk
          · rw [blocks_append, List.mem_append, not_or]
            exact ⟨fun hm => Nat.not_le.2 hlt (hnew k hm), hnn⟩
      cases x with
      | ro r => exact r.mono _ _ hle hh
      | res r =>
        have hb' : ∀ k, k ∈ r.gs → hp w k = hp w' k := fun k hk => (hold k (hh.1 k hk)).symm
        exact ⟨fun k hk => Nat.lt_of_lt_of_le (hh.1 k hk) hext.size, r.loc _ _ hb' hh.2.1, r.qloc _ _ _ _ hb' hle hh.2.2⟩
def Asks (G : List As) (F : List As) : Prop := ∀ w, Sat F w → ∀ r, As.ro r ∈ G → r.p (hp w)
theorem Asks.nil : Asks [] F := fun w h r hr => by cases hr
theorem Asks.ro {r : Ro} (hm : As.ro r ∈ F) (h : Asks G F) : Asks (.ro r :: G) F := fun w hw r' hr => by
  cases hr with
  | head => exact hw.ro_hp hm
  | tail _ hr => exact h w hw r' hr
theorem Asks.own {α : Type} {E : Enc α} {e c : Nat} {A : Option Addr} {xs : List α} (hm : As.res (OwnL E e A c xs) ∈ F) (h : Asks G F) : Asks (.ro (SlL E A c xs) :: G) F := fun w hw r' hr => by
  cases hr with
  | head => exact OwnL.sl hw hm
  | tail _ hr => exact h w hw r' hr
theorem Asks.pure {r : Ro} (hr0 : ∀ m, r.p m) (h : Asks G F) : Asks (.ro r :: G) F := fun w hw r' hr => by
  cases hr with
  | head => exact hr0 _
  | tail _ hr => exact h w hw r' hr
theorem St.callL {f : FuncId} {args : List Value} {G : List As} {x : Operand} {xs : List Operand} {ts : Array Nat} (h : Fun P f args G Post) (he : Ent P f) (hd : Nat.blt d nt = true) (hx : ev Γ x = some (.func (.func f) #[] #[])) (hxs : evs Γ xs = some args)
    (hro : allRo G = true) (hA : Asks G F) (hpl : ∀ v F', Post v F' → allPlain F') (k : ∀ v F', Post v F' → St w0 nt ((d, v) :: Γ) (F' ++ F) (wpList P ops Q rest)) :
    St w0 nt Γ F (wpList P ops Q (⟨some d, .call { callee := .value x, args := xs.toArray, argTypes := ts }, ty, pos, af, none⟩ :: rest)) :=
  fun a w hs hdf ha hf hw => wpList_plain rfl fun K hK => by
    unfold Oper.wp
    rw [run_enter he (ha.eval hx) (ha.evals hxs)]
    show Calls P f args.toArray w _
    refine (h.lent hro (hA w hf) hf hpl).mono fun e w' ⟨v, F', h1, h2, h3, h4⟩ => ?_
    subst h1
    exact hK _ _ (k v F' h2 _ _ (by simp [Act.put, hs]) hdf (ha.put (hs ▸ Nat.le_of_ble_eq_true hd)) h3 (hw.trans h4))
def Fun0 (P : Program) (f : FuncId) (args : List Value) (F : List As) (Post : Value → List As → Prop) : Prop :=
  ∀ (w : World), Sat (F ++ [.ro (agree w)]) w → Calls P f args.toArray w (Out w [.ro (agree w)] Post)
theorem Fun0.intro {f : FuncId} {fn : Func} {c : Code} {args : List Value} (hf : P.funcs[f]? = some fn) (hb : fn.body = some c) (hn : fn.ntmps = nt) (hl : Nat.ble args.length nt = true)
    (h : ∀ w R, R = [.ro (agree w)] → St w nt (envFrom 0 args) (F ++ R) (c.wp P (bodyPost P fn (Out w R Post)))) : Fun0 P f args F Post := by
  intro w hs
  have hl' := Nat.le_of_ble_eq_true hl
  refine calls_of_wp hf hb (h w _ rfl _ w ?_ rfl ?_ hs (Same.refl w))
  · simp [hn]; omega
  · refine At.envFrom _ _ args 0 fun i v hv => ?_
    rw [Nat.zero_add]
    have hi := (List.getElem?_eq_some_iff.1 hv).1
    rw [Array.getElem?_append_left (by simpa using hi)]
    simpa using hv
theorem Fun0.quiet {f : FuncId} {args : List Value} {G : List As} {v : Value} (h : Fun0 P f args G (Val v)) (hro : allRo G = true) (hin : AllIn G F) {w : World} (hf : Sat F w) :
    Calls P f args.toArray w fun e w' => e = .returned v ∧ Ext w w' := by
  have hG := allRo_gs hro
  have hb : blocks (G ++ [.ro (agree w)]) = [] := blocks_ro fun x hx => by
    rcases List.mem_append.1 hx with hx | hx
    · obtain ⟨r, rfl⟩ := hG x hx; rfl
    · simp at hx; subst hx; rfl
  have hs : Sat (G ++ [.ro (agree w)]) w := by
    refine ⟨by rw [hb]; simp, fun x hx => ?_⟩
    rw [hb]
    rcases List.mem_append.1 hx with hx | hx
    · obtain ⟨r, rfl⟩ := hG x hx
      refine r.mono _ _ ?_ (hf.ro (hin.mem _ hx))
      exact frz_anti w (by simp)
    · simp at hx
      subst hx
      intro k _
      simp [frz]
  refine (h w hs).mono fun e w' ⟨v', F', h1, ⟨h2, h3⟩, h4, h5⟩ => ?_
  subst h2; subst h3
  refine ⟨h1, h5, fun k hk => ?_⟩
  have h6 := h4.ro_hp (r := agree w) (by simp) k hk
  exact h6
end
end Go.Proofs.Ythdpagcklakahaa
end
section
namespace Go.Proofs.Ythdpagcklakahaa
open Go
set_option linter.unusedSectionVars false
set_option linter.unusedVariables false
section
variable {P : Program} [T : HasTT P] {w0 : World} {nt : Nat} {Γ Γ' : Env} {F F' G R : List As} {Q : Exit → Act → World → Prop} {ops : Array Oper} {rest : List Oper}
variable {d : Nat} {op : Op} {ty : Nat} {pos : String} {af : Array Edge}
theorem sl_chk {α : Type} {xs ys zs : List α} {A : Option Addr} {c : Nat} (h : chkLen xs.length ys = some zs) : some (Value.slice A xs.length c) = some (Value.slice A ys.length c) := by rw [chkLen_n h]
end
end Go.Proofs.Ythdpagcklakahaa
end
section
namespace Go.Proofs.Ythdpagcklakahaa
open Go
def tt : TT := [
  (2, ⟨(.int .i64), 1, 8, (.int .i64 0), false⟩),
  (3, ⟨(.int .i64), 1, 8, (.int .i64 0), false⟩),
  (4, ⟨.bool, 1, 1, (.bool false), false⟩),
  (5, ⟨(.int .u8), 1, 1, (.int .u8 0), false⟩),
  (9, ⟨.string, 1, 16, (.string ⟨#[]⟩), false⟩),
  (12, ⟨(.int .u64), 1, 8, (.int .u64 0), false⟩),
  (13, ⟨(.struct [(9, 0, false), (12, 1, false)]), 2, 24, (.agg #[(.string ⟨#[]⟩), (.int .u64 0)]), false⟩),
  (21, ⟨(.int .i32), 1, 4, (.int .i32 0), false⟩),
  (22, ⟨(.slice 3), 1, 24, (.slice none 0 0), false⟩),
  (25, ⟨(.pointer 80), 1, 8, (.pointer none), false⟩),
  (26, ⟨(.pointer 73), 1, 8, (.pointer none), false⟩),
  (27, ⟨(.slice 39), 1, 24, (.slice none 0 0), false⟩),
  (31, ⟨(.int .i64), 1, 8, (.int .i64 0), false⟩),
  (37, ⟨(.slice 5), 1, 24, (.slice none 0 0), false⟩),
  (38, ⟨(.struct [(5, 0, false), (37, 1, false), (4, 2, false)]), 3, 40, (.agg #[(.int .u8 0), (.slice none 0 0), (.bool false)]), true⟩),
  (39, ⟨(.struct [(5, 0, false), (37, 1, false), (4, 2, false)]), 3, 40, (.agg #[(.int .u8 0), (.slice none 0 0), (.bool false)]), true⟩),
  (46, ⟨(.pointer 86), 1, 8, (.pointer none), false⟩),
  (57, ⟨(.pointer 115), 1, 8, (.pointer none), false⟩),
  (58, ⟨(.pointer 117), 1, 8, (.pointer none), false⟩),
  (70, ⟨(.map 5 37), 1, 8, (.map none), false⟩),
  (71, ⟨(.map 5 37), 1, 8, (.map none), false⟩),
  (72, ⟨(.struct [(25, 0, false), (3, 1, false), (3, 2, false), (3, 3, false), (71, 4, false), (3, 5, false), (4, 6, false), (4, 7, false)]), 8, 56, (.agg #[(.pointer none), (.int .i64 0), (.int .i64 0), (.int .i64 0), (.map none), (.int .i64 0), (.bool false), (.bool false)]), true⟩),
  (73, ⟨(.struct [(25, 0, false), (3, 1, false), (3, 2, false), (3, 3, false), (71, 4, false), (3, 5, false), (4, 6, false), (4, 7, false)]), 8, 56, (.agg #[(.pointer none), (.int .i64 0), (.int .i64 0), (.int .i64 0), (.map none), (.int .i64 0), (.bool false), (.bool false)]), true⟩),
  (74, ⟨(.struct [(3, 0, false), (71, 1, false), (3, 2, false), (4, 3, false)]), 4, 32, (.agg #[(.int .i64 0), (.map none), (.int .i64 0), (.bool false)]), true⟩),
  (75, ⟨(.struct [(3, 0, false), (71, 1, false), (3, 2, false), (4, 3, false)]), 4, 32, (.agg #[(.int .i64 0), (.map none), (.int .i64 0), (.bool false)]), true⟩),
  (79, ⟨(.struct [(3, 0, false), (37, 1, false), (22, 2, false), (3, 3, false), (3, 4, false), (5, 5, false), (4, 6, false)]), 7, 80, (.agg #[(.int .i64 0), (.slice none 0 0), (.slice none 0 0), (.int .i64 0), (.int .i64 0), (.int .u8 0), (.bool false)]), true⟩),
  (80, ⟨(.struct [(3, 0, false), (37, 1, false), (22, 2, false), (3, 3, false), (3, 4, false), (5, 5, false), (4, 6, false)]), 7, 80, (.agg #[(.int .i64 0), (.slice none 0 0), (.slice none 0 0), (.int .i64 0), (.int .i64 0), (.int .u8 0), (.bool false)]), true⟩),
  (85, ⟨(.struct [(22, 0, false), (3, 1, false)]), 2, 32, (.agg #[(.slice none 0 0), (.int .i64 0)]), true⟩),
  (86, ⟨(.struct [(22, 0, false), (3, 1, false)]), 2, 32, (.agg #[(.slice none 0 0), (.int .i64 0)]), true⟩),
  (98, ⟨(.int .u8), 1, 1, (.int .u8 0), false⟩),
  (101, ⟨(.int .u64), 1, 8, (.int .u64 0), false⟩),
  (109, ⟨(.map 5 4), 1, 8, (.map none), false⟩),
  (112, ⟨(.array 8 5), 8, 8, (.agg #[(.int .u8 0), (.int .u8 0), (.int .u8 0), (.int .u8 0), (.int .u8 0), (.int .u8 0), (.int .u8 0), (.int .u8 0)]), false⟩),
  (114, ⟨(.struct [(3, 0, false), (37, 1, false), (22, 2, false), (3, 3, false), (3, 4, false), (5, 5, false), (4, 6, false)]), 7, 80, (.agg #[(.int .i64 0), (.slice none 0 0), (.slice none 0 0), (.int .i64 0), (.int .i64 0), (.int .u8 0), (.bool false)]), true⟩),
  (115, ⟨(.struct [(3, 0, false), (37, 1, false), (22, 2, false), (3, 3, false), (3, 4, false), (5, 5, false), (4, 6, false)]), 7, 80, (.agg #[(.int .i64 0), (.slice none 0 0), (.slice none 0 0), (.int .i64 0), (.int .i64 0), (.int .u8 0), (.bool false)]), true⟩),
  (116, ⟨(.struct [(57, 0, false), (3, 1, false), (3, 2, false), (3, 3, false), (27, 4, false), (3, 5, false), (4, 6, false)]), 7, 72, (.agg #[(.pointer none), (.int .i64 0), (.int .i64 0), (.int .i64 0), (.slice none 0 0), (.int .i64 0), (.bool false)]), true⟩),
  (117, ⟨(.struct [(57, 0, false), (3, 1, false), (3, 2, false), (3, 3, false), (27, 4, false), (3, 5, false), (4, 6, false)]), 7, 72, (.agg #[(.pointer none), (.int .i64 0), (.int .i64 0), (.int .i64 0), (.slice none 0 0), (.int .i64 0), (.bool false)]), true⟩),
  (128, ⟨(.int .u64), 1, 8, (.int .u64 0), false⟩),
  (134, ⟨(.int .u32), 1, 4, (.int .u32 0), false⟩),
  (140, ⟨(.int .i64), 1, 8, (.int .i64 0), false⟩),
  (149, ⟨(.int .u64), 1, 8, (.int .u64 0), false⟩),
  (153, ⟨(.pointer 3), 1, 8, (.pointer none), false⟩),
  (155, ⟨(.pointer 149), 1, 8, (.pointer none), false⟩),
  (167, ⟨(.pointer 5), 1, 8, (.pointer none), false⟩)]
set_option maxRecDepth 100000 in
theorem ttok : TTok Try.prog tt := ⟨
  ⟨by kernel_rfl, by kernel_rfl, fun h => Bool.noConfusion h⟩,
  ⟨by kernel_rfl, by kernel_rfl, fun h => Bool.noConfusion h⟩,
  ⟨by kernel_rfl, by kernel_rfl, fun h => Bool.noConfusion h⟩,
  ⟨by kernel_rfl, by kernel_rfl, fun h => Bool.noConfusion h⟩,
  ⟨by kernel_rfl, by kernel_rfl, fun h => Bool.noConfusion h⟩,
  ⟨by kernel_rfl, by kernel_rfl, fun h => Bool.noConfusion h⟩,
  ⟨by kernel_rfl, by kernel_rfl, fun h => Bool.noConfusion h⟩,
  ⟨by kernel_rfl, by kernel_rfl, fun h => Bool.noConfusion h⟩,
  ⟨by kernel_rfl, by kernel_rfl, fun h => Bool.noConfusion h⟩,
  ⟨by kernel_rfl, by kernel_rfl, fun h => Bool.noConfusion h⟩,
  ⟨by kernel_rfl, by kernel_rfl, fun h => Bool.noConfusion h⟩,
  ⟨by kernel_rfl, by kernel_rfl, fun h => Bool.noConfusion h⟩,
  ⟨by kernel_rfl, by kernel_rfl, fun h => Bool.noConfusion h⟩,
  ⟨by kernel_rfl, by kernel_rfl, fun h => Bool.noConfusion h⟩,
  ⟨by kernel_rfl, by kernel_rfl, fun _ => ⟨by kernel_rfl, by kernel_rfl⟩⟩,
  ⟨by kernel_rfl, by kernel_rfl, fun _ => ⟨by kernel_rfl, by kernel_rfl⟩⟩,
  ⟨by kernel_rfl, by kernel_rfl, fun h => Bool.noConfusion h⟩,
  ⟨by kernel_rfl, by kernel_rfl, fun h => Bool.noConfusion h⟩,
  ⟨by kernel_rfl, by kernel_rfl, fun h => Bool.noConfusion h⟩,
  ⟨by kernel_rfl, by kernel_rfl, fun h => Bool.noConfusion h⟩,
  ⟨by kernel_rfl, by kernel_rfl, fun h => Bool.noConfusion h⟩,
  ⟨by kernel_rfl, by kernel_rfl, fun _ => ⟨by kernel_rfl, by kernel_rfl⟩⟩,
  ⟨by kernel_rfl, by kernel_rfl, fun _ => ⟨by kernel_rfl, by kernel_rfl⟩⟩,
  ⟨by kernel_rfl, by kernel_rfl, fun _ => ⟨by kernel_rfl, by kernel_rfl⟩⟩,
  ⟨by kernel_rfl, by kernel_rfl, fun _ => ⟨by kernel_rfl, by kernel_rfl⟩⟩,
  ⟨by kernel_rfl, by kernel_rfl, fun _ => ⟨by kernel_rfl, by kernel_rfl⟩⟩,
  ⟨by kernel_rfl, by kernel_rfl, fun _ => ⟨by kernel_rfl, by kernel_rfl⟩⟩,
  ⟨by kernel_rfl, by kernel_rfl, fun _ => ⟨by kernel_rfl, by kernel_rfl⟩⟩,
  ⟨by kernel_rfl, by kernel_rfl, fun _ => ⟨by kernel_rfl, by kernel_rfl⟩⟩,
  ⟨by kernel_rfl, by kernel_rfl, fun h => Bool.noConfusion h⟩,
  ⟨by kernel_rfl, by kernel_rfl, fun h => Bool.noConfusion h⟩,
  ⟨by kernel_rfl, by kernel_rfl, fun h => Bool.noConfusion h⟩,
  ⟨by kernel_rfl, by kernel_rfl, fun h => Bool.noConfusion h⟩,
  ⟨by kernel_rfl, by kernel_rfl, fun _ => ⟨by kernel_rfl, by kernel_rfl⟩⟩,
  ⟨by kernel_rfl, by kernel_rfl, fun _ => ⟨by kernel_rfl, by kernel_rfl⟩⟩,
  ⟨by kernel_rfl, by kernel_rfl, fun _ => ⟨by kernel_rfl, by kernel_rfl⟩⟩,
  ⟨by kernel_rfl, by kernel_rfl, fun _ => ⟨by kernel_rfl, by kernel_rfl⟩⟩,
  ⟨by kernel_rfl, by kernel_rfl, fun h => Bool.noConfusion h⟩,
  ⟨by kernel_rfl, by kernel_rfl, fun h => Bool.noConfusion h⟩,
  ⟨by kernel_rfl, by kernel_rfl, fun h => Bool.noConfusion h⟩,
  ⟨by kernel_rfl, by kernel_rfl, fun h => Bool.noConfusion h⟩,
  ⟨by kernel_rfl, by kernel_rfl, fun h => Bool.noConfusion h⟩,
  ⟨by kernel_rfl, by kernel_rfl, fun h => Bool.noConfusion h⟩,
  ⟨by kernel_rfl, by kernel_rfl, fun h => Bool.noConfusion h⟩, trivial⟩
instance : HasTT Try.prog := ⟨tt, ttok⟩
theorem mixed : Try.prog.follows .mixedOrders = true := by kernel_rfl
end Go.Proofs.Ythdpagcklakahaa
end
section
namespace Go.Proofs.Ythdpagcklakahaa
open Go
set_option linter.unusedSectionVars false
set_option linter.unusedVariables false
def outK {β : Type} : Nat → List As → (As → List As → Option β) → Option β
  | _, [], _ => none
  | 0, x :: F, k => k x F
  | i + 1, y :: F, k => outK i F fun x G => k x (y :: G)
theorem outK_some {β : Type} {r : β} : ∀ {i : Nat} {F : List As} {k : As → List As → Option β}, outK i F k = some r → ∃ x G, Del F x G ∧ k x G = some r
  | _, [], _, h => by cases ‹Nat› <;> cases h
  | 0, x :: F, k, h => ⟨x, F, .z, h⟩
  | i + 1, y :: F, k, h => by
    obtain ⟨x, G, h1, h2⟩ := outK_some (i := i) h
    exact ⟨x, y :: G, .s h1, h2⟩
def dropK {β : Type} : Nat → List As → (List As → Option β) → Option β
  | 0, F, k => k F
  | _ + 1, [], _ => none
  | n + 1, _ :: F, k => dropK n F k
theorem dropK_some {β : Type} {r : β} {k : List As → Option β} : ∀ {n : Nat} {F : List As}, dropK n F k = some r → ∃ D H, F = D ++ H ∧ k H = some r
  | 0, F, h => ⟨[], F, rfl, h⟩
  | _ + 1, [], h => by cases h
  | n + 1, x :: F, h => by
    obtain ⟨D, H, h1, h2⟩ := dropK_some (n := n) (F := F) h
    exact ⟨x :: D, H, by rw [h1]; rfl, h2⟩
def selK {β : Type} : List Nat → Nat → List As → (List As → Option β) → Option β
  | [], d, F, k => dropK d F k
  | i :: is, d, F, k => outK i F fun x G => selK is d G fun t => k (x :: t)
theorem selK_some {β : Type} {r : β} : ∀ {is : List Nat} {d : Nat} {F : List As} {k : List As → Option β}, selK is d F k = some r → ∃ H D, k H = some r ∧ F.Perm (H ++ D)
  | [], d, F, k, h => by
    obtain ⟨D, H, h1, h2⟩ := dropK_some h
    exact ⟨H, D, h2, h1 ▸ List.perm_append_comm⟩
  | i :: is, d, F, k, h => by
    obtain ⟨x, G, h1, h2⟩ := outK_some h
    obtain ⟨H, D, h3, h4⟩ := selK_some (is := is) h2
    exact ⟨x :: H, D, h3, h1.perm.trans (h4.cons x)⟩
theorem Sat.part {H D F : List As} {w : World} (h : Sat F w) (hp : F.Perm (H ++ D)) : Sat H w := by
  have h1 := h.perm hp
  have hn := h1.nodup
  rw [blocks_append] at hn
  exact h1.of_mem (List.nodup_append.1 hn).1 fun x hx => List.mem_append_left _ hx
theorem Sat.sl {F F' : List As} {w : World} (h : Sat F w) (is : List Nat) (d : Nat) (e : selK is d F some = some F') : Sat F' w := by
  obtain ⟨H, D, h1, hp⟩ := selK_some e
  cases h1
  exact h.part hp
theorem zl {F F' : List As} (is : List Nat) (d : Nat) (e : selK is d F some = some F') : ∀ w, Sat F w → Sat F' w := fun _ h => h.sl is d e
def nthK {β : Type} : Nat → List As → (As → Option β) → Option β
  | _, [], _ => none
  | 0, x :: _, k => k x
  | i + 1, _ :: F, k => nthK i F k
theorem nthK_some {β : Type} {r : β} {k : As → Option β} : ∀ {i : Nat} {F : List As}, nthK i F k = some r → ∃ x, x ∈ F ∧ k x = some r
  | _, [], h => by cases ‹Nat› <;> cases h
  | 0, x :: _, h => ⟨x, List.mem_cons_self .., h⟩
  | i + 1, _ :: F, h => by
    obtain ⟨x, h1, h2⟩ := nthK_some (i := i) (F := F) h
    exact ⟨x, List.mem_cons_of_mem _ h1, h2⟩
theorem zm {F : List As} {x : As} (i : Nat) (e : nthK i F some = some x) : x ∈ F := by
  obtain ⟨y, h1, h2⟩ := nthK_some e
  cases h2
  exact h1
def dupK {β : Type} : List Nat → List As → (List As → Option β) → Option β
  | [], F, k => k F
  | i :: is, F, k => nthK i F fun x => match x with
    | .ro r => dupK is F fun t => k (.ro r :: t)
    | .res _ => none
theorem dupK_some {β : Type} {r : β} : ∀ {is : List Nat} {F : List As} {k : List As → Option β}, dupK is F k = some r → ∃ G, allRo G = true ∧ (∀ x ∈ G, x ∈ F) ∧ k (G ++ F) = some r
  | [], F, k, h => ⟨[], rfl, by simp, h⟩
  | i :: is, F, k, h => by
    obtain ⟨x, h1, h2⟩ := nthK_some h
    cases x with
    | res _ => cases h2
    | ro q =>
      obtain ⟨G, h3, h4, h5⟩ := dupK_some (is := is) h2
      exact ⟨.ro q :: G, h3, fun y hy => by
        rcases List.mem_cons.1 hy with rfl | hy
        · exact h1
        · exact h4 y hy, h5⟩
theorem Sat.sd {F F' : List As} {w : World} (h : Sat F w) (js is : List Nat) (d : Nat) (e : selK is d F (fun H => dupK js H some) = some F') : Sat F' w := by
  obtain ⟨H, D, h1, hp⟩ := selK_some e
  obtain ⟨G, h2, h3, h4⟩ := dupK_some h1
  cases h4
  have hH := h.part hp
  have hG := allRo_gs h2
  refine hH.of_mem ?_ fun x hx => ?_
  · rw [blocks_append, blocks_ro (F := G) fun x hx => by obtain ⟨r, rfl⟩ := hG x hx; rfl]
    simpa using hH.nodup
  · rcases List.mem_append.1 hx with hx | hx
    · exact h3 x hx
    · exact hx
theorem zd {F F' : List As} (js is : List Nat) (d : Nat) (e : selK is d F (fun H => dupK js H some) = some F') : ∀ w, Sat F w → Sat F' w := fun _ h => h.sd js is d e
def alsK {β : Type} : List Nat → List As → (List As → Option β) → Option β
  | [], _, k => k []
  | i :: is, F, k => nthK i F fun x => alsK is F fun t => k (x :: t)
theorem alsK_in {F : List As} {G : List As} {k : List As → Option (List As)} : ∀ {is : List Nat}, alsK is F k = some G → ∃ H, k H = some G ∧ ∀ x ∈ H, x ∈ F := by
  intro is
  induction is generalizing k with
  | nil => exact fun h => ⟨[], h, by simp⟩
  | cons i is ih =>
    intro h
    obtain ⟨x, h1, h2⟩ := nthK_some h
    obtain ⟨H, h3, h4⟩ := ih h2
    exact ⟨x :: H, h3, fun y hy => by
      rcases List.mem_cons.1 hy with rfl | hy
      · exact h1
      · exact h4 y hy⟩
theorem AllIn.of {F : List As} : ∀ {G : List As}, (∀ x ∈ G, x ∈ F) → AllIn G F
  | [], _ => trivial
  | x :: G, h => ⟨h x (List.mem_cons_self ..), AllIn.of fun y hy => h y (List.mem_cons_of_mem _ hy)⟩
theorem za {F G : List As} (is : List Nat) (e : alsK is F some = some G) : AllIn G F := by
  obtain ⟨H, h1, h2⟩ := alsK_in e
  cases h1
  exact AllIn.of h2
def opnK {β : Type} : Nat → List As → (List As → Option β) → Option β
  | 0, F, k => k F
  | _ + 1, [], _ => none
  | n + 1, x :: F, k => opnK n F fun t => k (x :: t)
theorem opnK_some {β : Type} {r : β} : ∀ {n : Nat} {F : List As} {k : List As → Option β}, opnK n F k = some r → k F = some r
  | 0, _, _, h => h
  | _ + 1, [], _, h => by cases h
  | n + 1, x :: F, k, h => opnK_some (n := n) (F := F) h
def pickK {β : Type} : List Nat → Env → (Env → Option β) → Option β
  | [], _, k => k []
  | i :: is, Γ, k => match get Γ i with
    | some v => pickK is Γ fun t => k ((i, v) :: t)
    | none => none
theorem pickK_some {β : Type} {r : β} {Γ : Env} : ∀ {is : List Nat} {k : Env → Option β}, pickK is Γ k = some r → ∃ H, k H = some r ∧ SubL H Γ
  | [], k, h => ⟨[], h, trivial⟩
  | i :: is, k, h => by
    unfold pickK at h
    cases hv : get Γ i with
    | none => rw [hv] at h; cases h
    | some v =>
      rw [hv] at h
      obtain ⟨H, h1, h2⟩ := pickK_some (is := is) h
      exact ⟨(i, v) :: H, h1, hv, h2⟩
theorem zb {Γ Γ' : Env} (e : pickK (Γ'.map Prod.fst) Γ some = some Γ') : SubL Γ' Γ := by
  obtain ⟨H, h1, h2⟩ := pickK_some e
  cases h1
  exact h2
def stepK {β : Type} (tt : TT) (ops : Array Oper) (nt : Nat) (o : Oper) (Γ : Env) (k : Env → Option β) : Option β :=
  match o.dst with
  | none => none
  | some d => bif Nat.blt d nt then (match o.guard with
    | none => (match pev tt Γ o.op with
      | some v => k ((d, v) :: Γ)
      | none => none)
    | some (j, b) => match gdst ops j with
      | none => none
      | some dj => match get Γ dj with
        | none => none
        | some v => bif saysNo v b then k ((d, undef) :: Γ) else (match pev tt Γ o.op with
          | some u => k ((d, u) :: Γ)
          | none => none)) else none
section
variable {P : Program} [T : HasTT P] {w0 : World} {nt : Nat} {Γ Γ' : Env} {F F' G R : List As} {Q : Exit → Act → World → Prop} {ops : Array Oper} {rest : List Oper}
variable {d : Nat} {op : Op} {ty : Nat} {pos : String} {af : Array Edge} {X : List Oper → Act → World → Prop} {Y : Act → World → Prop} {Post : Value → List As → Prop} {C : World → Prop}
theorem stepK_some [W : Walk P ops X] {β : Type} {r : β} {o : Oper} {k : Env → Option β} (h : stepK T.tt ops nt o Γ k = some r) : ∃ Γ', k Γ' = some r ∧ (St w0 nt Γ' F (X rest) → St w0 nt Γ F (X (o :: rest))) := by
  obtain ⟨dst, op, ty, pos, af, g⟩ := o
  cases dst with
  | none => cases h
  | some d =>
    unfold stepK at h
    simp only at h
    cases hd : Nat.blt d nt with
    | false => rw [hd] at h; cases h
    | true =>
      rw [hd, cond_true] at h
      cases g with
      | none =>
        simp only at h
        cases hv : pev T.tt Γ op with
        | none => rw [hv] at h; cases h
        | some v =>
          rw [hv] at h
          exact ⟨_, h, fun k => .p hd hv k⟩
      | some jb =>
        obtain ⟨j, b⟩ := jb
        simp only at h
        cases hj : gdst ops j with
        | none => rw [hj] at h; cases h
        | some dj =>
          rw [hj] at h
          simp only at h
          cases hg : get Γ dj with
          | none => rw [hg] at h; cases h
          | some v =>
            rw [hg] at h
            simp only at h
            cases hn : saysNo v b with
            | true =>
              rw [hn, cond_true] at h
              exact ⟨_, h, fun k => .gOff hd hj hg hn k⟩
            | false =>
              rw [hn, cond_false] at h
              have hb : v = .bool b := by
                cases v <;> simp [saysNo] at hn
                rw [hn]
              cases hv : pev T.tt Γ op with
              | none => rw [hv] at h; cases h
              | some u =>
                rw [hv] at h
                exact ⟨_, h, fun k => .gOn hj (hb ▸ hg) (.p hd hv k)⟩
def runK {β : Type} (tt : TT) (ops : Array Oper) (nt : Nat) : Nat → Env → List Oper → (Env → List Oper → Option β) → Option β
  | 0, Γ, l, k => k Γ l
  | _ + 1, _, [], _ => none
  | n + 1, Γ, o :: l, k => stepK tt ops nt o Γ fun Γ' => runK tt ops nt n Γ' l k
theorem runK_some [W : Walk P ops X] {β : Type} {r : β} {k : Env → List Oper → Option β} : ∀ {n : Nat} {Γ : Env} {l : List Oper}, runK T.tt ops nt n Γ l k = some r → ∃ Γ' l', k Γ' l' = some r ∧ (St w0 nt Γ' F (X l') → St w0 nt Γ F (X l))
  | 0, Γ, l, h => ⟨Γ, l, h, id⟩
  | _ + 1, _, [], h => by cases h
  | n + 1, Γ, o :: l, h => by
    obtain ⟨Γ1, h1, h2⟩ := stepK_some (P := P) (w0 := w0) (F := F) (X := X) (rest := l) h
    obtain ⟨Γ2, l2, h3, h4⟩ := runK_some (n := n) h1
    exact ⟨Γ2, l2, h3, fun h => h2 (h4 h)⟩
def endK {β : Type} (tt : TT) (ops : Array Oper) (nt : Nat) : Env → List Oper → (Env → Option β) → Option β
  | Γ, [], k => k Γ
  | Γ, o :: l, k => stepK tt ops nt o Γ fun Γ' => endK tt ops nt Γ' l k
theorem endK_some [W : Walk P ops X] {β : Type} {r : β} {k : Env → Option β} : ∀ {l : List Oper} {Γ : Env}, endK T.tt ops nt Γ l k = some r → ∃ Γ', k Γ' = some r ∧ (St w0 nt Γ' F (X []) → St w0 nt Γ F (X l))
  | [], Γ, h => ⟨Γ, h, id⟩
  | o :: l, Γ, h => by
    obtain ⟨Γ1, h1, h2⟩ := stepK_some (P := P) (w0 := w0) (F := F) (X := X) (rest := l) h
    obtain ⟨Γ2, h3, h4⟩ := endK_some (l := l) h1
    exact ⟨Γ2, h3, fun h => h2 (h4 h)⟩
theorem St.n [W : Walk P ops X] (n : Nat) {l l' : List Oper} (e : runK T.tt ops nt n Γ l (fun Γ l => some (Γ, l)) = some (Γ', l')) (k : St w0 nt Γ' F (X l')) : St w0 nt Γ F (X l) := by
  obtain ⟨Γ1, l1, h1, h2⟩ := runK_some (P := P) (w0 := w0) (F := F) (X := X) e
  cases h1
  exact h2 k
theorem St.a (n : Nat) {id : Nat} {l l' : List Oper} {y : Code} (e : runK T.tt l.toArray nt n Γ l (fun Γ l => some (Γ, l)) = some (Γ', l')) (k : St w0 nt Γ' F (wpList P l.toArray (Exit.then (y.wp P Q) Q) l')) :
    St w0 nt Γ F ((Code.seq (Code.region id l.toArray false) y).wp P Q) := .seq (.region (.n n e k))
theorem St.b (is : List Nat) {l : List Oper} {Qn : Act → World → Prop} (e : endK T.tt ops nt Γ l (fun Γ => pickK is Γ some) = some Γ') (k : St w0 nt Γ' F Qn) : St w0 nt Γ F (wpList P ops (Exit.then Qn Q) l) := by
  obtain ⟨Γ1, h1, h2⟩ := endK_some (P := P) (w0 := w0) (F := F) (X := wpList P ops (Exit.then Qn Q)) e
  obtain ⟨H, h3, h4⟩ := pickK_some h1
  cases h3
  exact h2 (.done (.thenN (.slots h4 k)))
theorem St.bf (is ks : List Nat) (d : Nat) {l : List Oper} {Qn : Act → World → Prop} (e : endK T.tt ops nt Γ l (fun Γ => pickK is Γ some) = some Γ') (e' : selK ks d F some = some F') (k : St w0 nt Γ' F' Qn) : St w0 nt Γ F (wpList P ops (Exit.then Qn Q) l) :=
  .b is e (.asrt (zl ks d e') k)
theorem St.bq (is : List Nat) {l : List Oper} {Qn : Act → World → Prop} (e : endK T.tt ops nt Γ l (fun Γ => pickK is Γ some) = some Γ') (k : St w0 nt Γ' F Qn) : St w0 nt Γ F (wpQ P ops (Exit.then Qn Q) l) := by
  obtain ⟨Γ1, h1, h2⟩ := endK_some (P := P) (w0 := w0) (F := F) (X := wpQ P ops (Exit.then Qn Q)) e
  obtain ⟨H, h3, h4⟩ := pickK_some h1
  cases h3
  exact h2 (.doneQ (.thenN (.slots h4 k)))
theorem St.ab (is : List Nat) {id : Nat} {l : List Oper} {y : Code} (e : endK T.tt l.toArray nt Γ l (fun Γ => pickK is Γ some) = some Γ') (k : St w0 nt Γ' F (y.wp P Q)) :
    St w0 nt Γ F ((Code.seq (Code.region id l.toArray false) y).wp P Q) := .seq (.region (.b is e k))
theorem St.abf (is ks : List Nat) (d : Nat) {id : Nat} {l : List Oper} {y : Code} (e : endK T.tt l.toArray nt Γ l (fun Γ => pickK is Γ some) = some Γ') (e' : selK ks d F some = some F') (k : St w0 nt Γ' F' (y.wp P Q)) :
    St w0 nt Γ F ((Code.seq (Code.region id l.toArray false) y).wp P Q) := .seq (.region (.bf is ks d e e' k))
theorem St.be {l : List Oper} {Qn : Act → World → Prop} (e : endK T.tt ops nt Γ l some = some Γ') (k : St w0 nt Γ' F Qn) : St w0 nt Γ F (wpList P ops (Exit.then Qn Q) l) := by
  obtain ⟨Γ1, h1, h2⟩ := endK_some (P := P) (w0 := w0) (F := F) (X := wpList P ops (Exit.then Qn Q)) e
  cases h1
  exact h2 (.done (.thenN k))
theorem St.beq {l : List Oper} {Qn : Act → World → Prop} (e : endK T.tt ops nt Γ l some = some Γ') (k : St w0 nt Γ' F Qn) : St w0 nt Γ F (wpQ P ops (Exit.then Qn Q) l) := by
  obtain ⟨Γ1, h1, h2⟩ := endK_some (P := P) (w0 := w0) (F := F) (X := wpQ P ops (Exit.then Qn Q)) e
  cases h1
  exact h2 (.doneQ (.thenN k))
theorem St.ae {id : Nat} {l : List Oper} {y : Code} (e : endK T.tt l.toArray nt Γ l some = some Γ') (k : St w0 nt Γ' F (y.wp P Q)) :
    St w0 nt Γ F ((Code.seq (Code.region id l.toArray false) y).wp P Q) := .seq (.region (.be e k))
theorem St.pr (is : List Nat) (e : pickK is Γ some = some Γ') (k : St w0 nt Γ' F Y) : St w0 nt Γ F Y := by
  obtain ⟨H, h3, h4⟩ := pickK_some e
  cases h3
  exact .slots h4 k
theorem St.pf (is ks : List Nat) (d : Nat) (e : pickK is Γ some = some Γ') (e' : selK ks d F some = some F') (k : St w0 nt Γ' F' Y) : St w0 nt Γ F Y :=
  .pr is e (.asrt (zl ks d e') k)
theorem St.ss {v : Value} (i : Nat) (h : get Γ i = some v) (k : St w0 nt ((i, v) :: Γ) F Y) : St w0 nt Γ F Y :=
  fun a w hs hdf ha hf hw => k a w hs hdf (At.cons (ha i v h) ha) hf hw
theorem St.nm (n : Nat) (e : opnK n F some = some F') (k : St w0 nt Γ F' Y) : St w0 nt Γ F Y := by
  have := opnK_some e
  cases this
  exact k
theorem St.sk {n : Act → World → Prop} (k : St w0 nt Γ F n) : St w0 nt Γ F (Code.skip.wp P (Exit.then n Q)) := .skip (.thenN k)
theorem St.cb {c : Operand} {x y : Code} {α : Type} {b : Bool} {p q r : α} (h : (bif b then p else q) = r) (hc : ev Γ c = some (.bool b)) (ht : p = r → St w0 nt Γ F (x.wp P Q)) (hf : q = r → St w0 nt Γ F (y.wp P Q)) :
    St w0 nt Γ F ((Code.cond c x y).wp P Q) := .cond b hc (fun e => ht (bif_t e h)) (fun e => hf (bif_f e h))
theorem St.rt {fn : Func} {v : Value} {rs : List ResultVar} {vs : List Value} {F' : List As} (hq : Q .ret = bodyPost P fn (Out w0 R Post) .ret) (hrs : fn.results = rs.toArray) (hv : ResV T.tt Γ F rs vs) (h1 : res1 vs = some v) (hp : Post v F') (hs : ∀ w, Sat F w → Sat (F' ++ R) w) :
    St w0 nt Γ F (Code.ret.wp P Q) := .ret (hq ▸ St.finR hrs hv h1 F' hp hs)
def xrunK {β : Type} (tt : TT) (nt : Nat) : Nat → Env → Tr → (Env → Tr → Option β) → Option β
  | 0, Γ, t, k => k Γ t
  | _ + 1, _, .nil, _ => none
  | _ + 1, _, .alt _ _, _ => none
  | n + 1, Γ, .st z t, k => match z.t with
    | .ef => none
    | .qc => none
    | _ => match z.o.guard with
      | some _ => none
      | none => match z.o.dst with
        | none => none
        | some d => bif Nat.blt d nt then (match pev tt Γ z.o.op with
          | some v => xrunK tt nt n ((d, v) :: Γ) t k
          | none => none) else none
theorem xrunK_some {β : Type} {r : β} {k : Env → Tr → Option β} {Qn : Act → World → Prop} : ∀ {n : Nat} {Γ : Env} {t : Tr}, xrunK T.tt nt n Γ t k = some r → ∃ Γ' t', k Γ' t' = some r ∧ (St w0 nt Γ' F (wpX P ops C Qn t') → St w0 nt Γ F (wpX P ops C Qn t))
  | 0, Γ, t, h => ⟨Γ, t, h, id⟩
  | _ + 1, _, .nil, h => by cases h
  | _ + 1, _, .alt _ _, h => by cases h
  | n + 1, Γ, .st ⟨g, i, ⟨dst, op, ty, pos, af, gd⟩⟩ t, h => by
    unfold xrunK at h
    simp only at h
    cases gd with
    | some _ => cases g <;> cases h
    | none =>
      cases dst with
      | none => cases g <;> cases h
      | some d =>
        simp only at h
        cases hd : Nat.blt d nt with
        | false => rw [hd] at h; cases g <;> cases h
        | true =>
          rw [hd] at h
          simp only [cond_true] at h
          cases hv : pev T.tt Γ op with
          | none => rw [hv] at h; cases g <;> cases h
          | some v =>
            rw [hv] at h
            cases g with
            | ef => cases h
            | qc => cases h
            | fl =>
              obtain ⟨Γ2, t2, h3, h4⟩ := xrunK_some (n := n) h
              exact ⟨Γ2, t2, h3, fun k => .xfl (F₁ := []) (fun w _ => Sat.nil w) (Rd.p hv) hd (h4 k)⟩
            | fx =>
              obtain ⟨Γ2, t2, h3, h4⟩ := xrunK_some (n := n) h
              exact ⟨Γ2, t2, h3, fun k => .xfx (Rd.p hv) hd (h4 k)⟩
theorem St.xn (n : Nat) {t t' : Tr} {Qn : Act → World → Prop} (e : xrunK T.tt nt n Γ t (fun Γ t => some (Γ, t)) = some (Γ', t')) (k : St w0 nt Γ' F (wpX P ops C Qn t')) : St w0 nt Γ F (wpX P ops C Qn t) := by
  obtain ⟨Γ1, t1, h1, h2⟩ := xrunK_some (P := P) (w0 := w0) (F := F) (ops := ops) (C := C) (Qn := Qn) e
  cases h1
  exact h2 k
end
end Go.Proofs.Ythdpagcklakahaa
end
section
namespace Go.Proofs.Ythdpagcklakahaa
open Go
set_option linter.unusedSectionVars false
set_option linter.unusedVariables false
def partA (A : Option Addr) (c lo sz : Nat) : Option Addr := if c = lo then A else A.map (·.add (lo * sz))
def PartOk (AE : Option Addr) (cc : Nat) (A : Option Addr) (c lo sz : Nat) : Prop := cc = c - lo ∧ (lo < c → AE = A.map (·.add (lo * sz)))
theorem partOk0 {A : Option Addr} {c lo sz : Nat} : PartOk (partA A c lo sz) (c - lo) A c lo sz := ⟨rfl, fun h => by
  unfold partA
  rw [if_neg (by omega)]⟩
theorem add_add (a : Addr) (i j : Nat) : (a.add i).add j = a.add (i + j) := by
  unfold Addr.add
  by_cases hi : i = 0
  · subst hi
    simp
  · by_cases hj : j = 0
    · subst hj; simp
    · simp [hi, hj, Nat.add_assoc]
def partM (n : Nat) (lo hi : Int) : Option Nat := if 0 ≤ lo ∧ lo ≤ hi ∧ hi ≤ n then some (hi.toNat - lo.toNat) else none
def eltP {α : Type} (xs : List α) (lo n : Nat) (i : Int) : Option α := if 0 ≤ i ∧ i < n then elt xs ((lo : Int) + i) else none
theorem partM_e {n m : Nat} {lo hi : Int} (h : partM n lo hi = some m) : 0 ≤ lo ∧ lo ≤ hi ∧ hi ≤ n ∧ m = hi.toNat - lo.toNat := by
  unfold partM at h
  split at h
  · rename_i hh
    injection h with h
    exact ⟨hh.1, hh.2.1, hh.2.2, h.symm⟩
  · cases h
theorem eltP_e {α : Type} {xs : List α} {lo n : Nat} {i : Int} {y : α} (h : eltP xs lo n i = some y) : elt xs ((lo : Int) + i) = some y := by
  unfold eltP at h
  split at h
  · exact h
  · cases h
theorem eltP_lt {α : Type} {xs : List α} {lo n : Nat} {i : Int} {y : α} (h : eltP xs lo n i = some y) : 0 ≤ i ∧ i < n := by
  unfold eltP at h
  split at h
  · rename_i hh; exact hh
  · cases h
def optP {α : Type} (o : Option α) (A : Value → List As → Prop) (B : α → Value → List As → Prop) : Value → List As → Prop := match o with | none => A | some x => B x
theorem optP_n {α : Type} {o : Option α} {A : Value → List As → Prop} {B : α → Value → List As → Prop} {v : Value} {F : List As} (h : o = none) (hp : optP o A B v F) : A v F := by subst h; exact hp
theorem optP_s {α : Type} {o : Option α} {x : α} {A : Value → List As → Prop} {B : α → Value → List As → Prop} {v : Value} {F : List As} (h : o = some x) (hp : optP o A B v F) : B x v F := by subst h; exact hp
theorem optP_mkn {α : Type} {A : Value → List As → Prop} {B : α → Value → List As → Prop} {v : Value} {F : List As} (hp : A v F) : optP none A B v F := hp
theorem optP_mks {α : Type} {x : α} {A : Value → List As → Prop} {B : α → Value → List As → Prop} {v : Value} {F : List As} (hp : B x v F) : optP (some x) A B v F := hp
def optM {α β : Type} (o : Option α) (a : Option β) (f : α → Option β) : Option β := match o with | none => a | some x => f x
theorem optM_n {α β : Type} {o : Option α} {a : Option β} {f : α → Option β} {r : β} (h : o = none) (k : optM o a f = some r) : a = some r := by subst h; exact k
theorem optM_s {α β : Type} {o : Option α} {x : α} {a : Option β} {f : α → Option β} {r : β} (h : o = some x) (k : optM o a f = some r) : f x = some r := by subst h; exact k
section
variable {P : Program} [T : HasTT P] {w0 : World} {nt : Nat} {Γ Γ' : Env} {F F' G R : List As} {Q : Exit → Act → World → Prop} {ops : Array Oper} {rest : List Oper}
variable {d : Nat} {op : Op} {ty : Nat} {pos : String} {af : Array Edge} {X : List Oper → Act → World → Prop} {Post : Value → List As → Prop}
theorem St.part [W : Walk P ops X] {α : Type} {E : Enc α} {t e e' : Nat} {i j : TI} {A : Option Addr} {n c m : Nat} {xs : List α} {lo hi : Option Operand} {l h : Int} {ox : Operand} (hz : partM xs.length l h = some m) (hd : Nat.blt d nt = true) (hx : ev Γ ox = some (.slice A n c)) (hm : As.res (OwnL E e' A c xs) ∈ F) (hlen : n = xs.length)
    (hl : boundOf Γ 0 lo = some l) (hh : boundOf Γ (n : Int) hi = some h) (hi' : tget T.tt t = some i) (hdesc : i.desc = .slice e) (hj : tget T.tt e = some j) (hn : j.size = E.sz)
    (k : St w0 nt ((d, .slice (partA A c l.toNat E.sz) m (c - l.toNat)) :: Γ) F (X rest)) : St w0 nt Γ F (X (⟨some d, .slice t ox lo hi none, ty, pos, af, none⟩ :: rest)) :=
  fun a w hs hdf ha hf hw => by
    obtain ⟨h0, h1, h2, rfl⟩ := partM_e hz
    have hown : OwnP E.sz e' A xs.length c (xs.map E.enc) (hp w) := hf.res hm
    have hcap : xs.length ≤ c := by
      rcases hown.2.2 with ⟨_, _⟩ | ⟨_, _, _, _, _, _, _, hh, _⟩ <;> omega
    subst hlen
    refine St.val (F := F) hd (v := .slice (partA A c l.toNat E.sz) (h.toNat - l.toNat) (c - l.toNat)) (fun a w' ha _ => ?_) k a w hs hdf ha hf hw
    obtain ⟨dd, hu, hdd⟩ := T.ok.desc hi'
    have hb := run_bounds (P := P) true ha hl hh h0 h1 h2 hcap w'
    simp [execOp, Instr.sliceAt, Instr.slice, ha.eval hx, run_underlying hu, TD.of_slice (hdd.trans hdesc), hb, run_sizeOf_tt T.ok hj, hn, partA]
theorem St.ixPt [W : Walk P ops X] {α : Type} {E : Enc α} {t e e' : Nat} {i j : TI} {x ix : Operand} {A AE : Option Addr} {n c cc lo : Nat} {kk : IntKind} {q : Int} {xs : List α} {y : α} (hp : PartOk AE cc A c lo E.sz) (hy : eltP xs lo n q = some y) (hd : Nat.blt d nt = true) (hx : ev Γ x = some (.slice AE n cc)) (hq : ev Γ ix = some (.int kk q))
    (hm : As.res (OwnL E e' A c xs) ∈ F) (hi : tget T.tt t = some i) (hdesc : i.desc = .slice e) (hj : tget T.tt e = some j) (hn : j.size = E.sz)
    (k : ∀ g, A = some ⟨g, 0, none⟩ → St w0 nt ((d, .pointer (some ⟨g, ((lo : Int) + q).toNat * E.sz, none⟩)) :: Γ) F (X rest)) : St w0 nt Γ F (X (⟨some d, .indexAddr t x ix, ty, pos, af, none⟩ :: rest)) :=
  fun a w hs hdf ha hf hw => by
    obtain ⟨h0, h1⟩ := eltP_lt hy
    obtain ⟨_, h3, _⟩ := elt_some (eltP_e hy)
    have hown : OwnP E.sz e' A xs.length c (xs.map E.enc) (Go.Proofs.Ythdpagcklakahaa.hp w) := hf.res hm
    rcases hown.2.2 with ⟨h, _⟩ | ⟨g, cur, fr, hc, hA, _, _, hle, _⟩
    · omega
    · subst hA
      obtain ⟨dd, hu, hdd⟩ := T.ok.desc hi
      have hpa : AE = some ⟨g, lo * E.sz, none⟩ := by
        rw [hp.2 (by omega)]
        exact congrArg some (add_zero_off g _)
      rw [hpa] at hx
      have hadd : (⟨g, lo * E.sz, none⟩ : Addr).add (q.toNat * E.sz) = ⟨g, ((lo : Int) + q).toNat * E.sz, none⟩ := by
        have e1 : ((lo : Int) + q).toNat = lo + q.toNat := by omega
        rw [e1, Nat.add_mul]
        unfold Addr.add
        split
        · rename_i hz; rw [hz]; rfl
        · rfl
      refine W.val _ _ _ _ _ (wanted_none rfl _) (fun w' he => ?_) (k g rfl _ w (by simp [Act.put, hs]) hdf (ha.put (hs ▸ Nat.le_of_ble_eq_true hd)) hf hw)
      simp [execOp, Instr.indexAt, ha.eval hx, ha.eval hq, asIntOf, run_underlying hu, TD.of_slice (hdd.trans hdesc), run_sizeOf_tt T.ok hj, hn, h0, h1, hadd]
theorem slP_part {α : Type} {E : Cod α} {A AE : Option Addr} {c cc lo n : Nat} {xs ys : List α} {m : Hp} (hp : PartOk AE cc A c lo E.n) (h : SlP E A c xs m) (hz : sub xs (lo : Int) ((lo + n : Nat) : Int) = some ys) (hn : n ≠ 0) : SlP E AE cc ys m := by
  have h1 := SlP.sub h hz
  obtain ⟨_, _, h2, _⟩ := sub_some hz
  have hlt : lo < c := by have := h.1; omega
  obtain ⟨rfl, h3⟩ := hp
  rw [h3 hlt]
  rw [if_neg (by omega)] at h1
  exact h1
theorem slP_partL {α : Type} {E : Enc α} {A AE : Option Addr} {c cc lo n e : Nat} {xs ys : List α} {w : World} (hp : PartOk AE cc A c lo E.sz) (hz : sub xs (lo : Int) ((lo + n : Nat) : Int) = some ys) (hm : As.res (OwnL E e A c xs) ∈ F) (hw : Sat F w) : SlP (cod E) AE cc ys (Go.Proofs.Ythdpagcklakahaa.hp w) := by
  have h : SlP (cod E) A c xs (Go.Proofs.Ythdpagcklakahaa.hp w) := OwnL.sl hw hm
  by_cases hn : n = 0
  · subst hn
    have : ys = [] := by have := sub_len hz; simpa using this
    subst this
    refine ⟨Nat.zero_le _, ?_, fun _ => rfl, fun ad _ j x hx => by simp at hx⟩
    have := h.2.1
    obtain ⟨rfl, _⟩ := hp
    omega
  · exact slP_part hp h hz hn
theorem Asks.part {α : Type} {E : Enc α} {e c cc lo n : Nat} {A AE : Option Addr} {xs ys : List α} (hp : PartOk AE cc A c lo E.sz) (hz : sub xs (lo : Int) ((lo + n : Nat) : Int) = some ys) (hm : As.res (OwnL E e A c xs) ∈ F) (h : Asks G F) : Asks (.ro (SlL E AE cc ys) :: G) F := fun w hw r' hr => by
  cases hr with
  | head => exact slP_partL hp hz hm hw
  | tail _ hr => exact h w hw r' hr
theorem part_len {α : Type} {xs ys : List α} {lo n c : Nat} {A : Option Addr} (hz : sub xs (lo : Int) ((lo + n : Nat) : Int) = some ys) : some (Value.slice A n c) = some (Value.slice A ys.length c) := by
  have := sub_len hz
  have e : n = ys.length := by omega
  rw [e]
end
end Go.Proofs.Ythdpagcklakahaa
end
section
namespace Go.Proofs.Ythdpagcklakahaa
open Go
set_option linter.unusedSectionVars false
set_option linter.unusedVariables false
set_option linter.unusedSimpArgs false
def copyM {α : Type} (xs : List α) (lo n : Nat) (ys : List α) : Option (List α) := if lo + n ≤ xs.length then some (xs.take lo ++ ys.take n ++ xs.drop (lo + min ys.length n)) else none
theorem copyM_e {α : Type} {xs ys zs : List α} {lo n : Nat} (h : copyM xs lo n ys = some zs) : lo + n ≤ xs.length ∧ zs = xs.take lo ++ ys.take (min ys.length n) ++ xs.drop (lo + min ys.length n) := by
  unfold copyM at h
  split at h
  · rename_i hh
    injection h with h
    refine ⟨hh, ?_⟩
    rw [← h]
    congr 2
    rcases Nat.le_total ys.length n with h1 | h1
    · rw [Nat.min_eq_left h1, List.take_of_length_le h1, List.take_of_length_le (Nat.le_refl _)]
    · rw [Nat.min_eq_right h1]
  · cases h
theorem copyM_len {α : Type} {xs ys zs : List α} {lo n : Nat} (h : copyM xs lo n ys = some zs) : zs.length = xs.length := by
  obtain ⟨h1, rfl⟩ := copyM_e h
  simp only [List.length_append, List.length_take, List.length_drop]
  omega
theorem copyM_sl {α : Type} {xs ys zs : List α} {lo n : Nat} {A : Option Addr} {c : Nat} (h : copyM xs lo n ys = some zs) : some (Value.slice A xs.length c) = some (Value.slice A zs.length c) := by rw [copyM_len h]
theorem SlP.take {α : Type} {E : Cod α} {A : Option Addr} {c : Nat} {xs : List α} {m : Hp} (h : SlP E A c xs m) (k : Nat) : SlP E A c (xs.take k) m := by
  refine ⟨?_, h.2.1, fun hA => by rw [h.2.2.1 hA]; simp, fun ad hA j x hx => h.2.2.2 ad hA j x ?_⟩
  · have := h.1; simp only [List.length_take]; omega
  · rw [List.getElem?_take] at hx
    split at hx
    · exact hx
    · cases hx
theorem SlP.cells {α : Type} {E : Enc α} {A : Option Addr} {c : Nat} {xs : List α} {P : Program} [HasTT P] {w : World} (h : SlP (cod E) A c xs (hp w)) : SrcP P E.sz (.slice A xs.length c) xs.length (xs.map E.enc).flatten w := by
  obtain ⟨rows, h1, h2, h3⟩ := h.rows
  have : rows = xs.map E.enc := by
    apply List.ext_getElem (by simp [h1.1])
    intro j hj hj'
    simp only [List.length_map] at hj'
    have e : rows[j] = E.enc xs[j] := h1.2 j xs[j] rows[j] (List.getElem?_eq_getElem _) (List.getElem?_eq_getElem _)
    simpa using e
  subst this
  exact SlP.src (E := cod E) h2 (by simp) h.2.2.1 h3
theorem SlP.first {α : Type} {E : Enc α} {A : Option Addr} {c n : Nat} {xs : List α} {P : Program} [HasTT P] {w : World} (h : SlP (cod E) A c xs (hp w)) (k : Nat) (hk : k ≤ xs.length) : (Builtin.firstCells E.sz k (.slice A n c)).run P w = .ok ((xs.take k).map E.enc).flatten.toArray w := by
  have h1 := (SlP.cells (P := P) (h.take k)).2.2.2 w rfl
  have : (xs.take k).length = k := by simp; omega
  rw [this] at h1
  cases A <;> exact h1
section
variable {P : Program} [T : HasTT P] {w0 : World} {nt : Nat} {Γ Γ' : Env} {F F' G R : List As} {Q : Exit → Act → World → Prop} {ops : Array Oper} {rest : List Oper}
variable {d : Nat} {op : Op} {ty : Nat} {pos : String} {af : Array Edge} {X : List Oper → Act → World → Prop} {Post : Value → List As → Prop}
theorem flat_take {α : Type} (E : Enc α) : ∀ (xs : List α) (k : Nat), (xs.map E.enc).flatten.take (k * E.sz) = ((xs.take k).map E.enc).flatten
  | [], k => by simp
  | x :: xs, 0 => by simp
  | x :: xs, k + 1 => by
    have := flat_take E xs k
    have hl := E.len x
    simp only [List.map_cons, List.flatten_cons, List.take_succ_cons]
    rw [Nat.add_mul, Nat.one_mul, Nat.add_comm, List.take_append, hl, Nat.add_sub_cancel_left, this, List.take_of_length_le (by omega)]
theorem flat_drop {α : Type} (E : Enc α) : ∀ (xs : List α) (k : Nat), (xs.map E.enc).flatten.drop (k * E.sz) = ((xs.drop k).map E.enc).flatten
  | [], k => by simp
  | x :: xs, 0 => by simp
  | x :: xs, k + 1 => by
    have := flat_drop E xs k
    have hl := E.len x
    simp only [List.map_cons, List.flatten_cons, List.drop_succ_cons]
    rw [Nat.add_mul, Nat.one_mul, Nat.add_comm, List.drop_append, hl, Nat.add_sub_cancel_left, this, List.drop_eq_nil_of_le (by omega), List.nil_append]
theorem St.copyG {α : Type} {E : Enc α} {t t2 e e' lo n c cd m cs : Nat} {i j : TI} {x y : Operand} {A B S : Option Addr} {xs ys zs : List α} (hz : copyM xs lo n ys = some zs) (hd : Nat.blt d nt = true) (hx : ev Γ x = some (.slice B n cd)) (hy : ev Γ y = some (.slice S m cs)) (hm : m = ys.length)
    (hB : ∀ ad, A = some ad → 0 < n → lo < c → B = some (ad.add (lo * E.sz))) (hD : Del F (.res (OwnL E e' A c xs)) G) (hsrc : ∀ w, Sat F w → SlP (cod E) S cs ys (hp w)) (hi : tget T.tt t = some i) (hdesc : i.desc = .slice e) (hj : tget T.tt e = some j) (hn : j.size = E.sz)
    (k : St w0 nt ((d, .int .i64 ((min ys.length n : Nat) : Int)) :: Γ) (.res (OwnL E e' A c zs) :: G) (wpList P ops Q rest)) :
    St w0 nt Γ F (wpList P ops Q (⟨some d, .call { callee := .builtin .copy, args := #[x, y], argTypes := #[t, t2] }, ty, pos, af, none⟩ :: rest)) :=
  fun a w hs hdf ha hf hw => wpList_plain rfl fun K hK => by
    obtain ⟨hle, rfl⟩ := copyM_e hz
    subst hm
    have hf' := hf.front hD
    have hown : OwnP E.sz e' A xs.length c (xs.map E.enc) (hp w) := hf.del_own hD
    obtain ⟨dd, hu, hdd⟩ := T.ok.desc hi
    have hu' := hu.trans (congrArg some (TD.of_slice (hdd.trans hdesc)))
    have hsz := run_sizeOf_tt T.ok hj
    have hfc := (hsrc w hf).first (P := P) (n := ys.length) (min ys.length n) (by omega)
    have hnm : Nat.min ys.length n = min ys.length n := rfl
    have hbk : ∀ g, A = some ⟨g, 0, none⟩ → 0 < c → [g] = (OwnL E e' A c xs).gs := fun g hA hc => by subst hA; exact (blkOf_some hc).symm
    have go : ∃ w', (execOp a.eval ⟨some d, .call { callee := .builtin .copy, args := #[x, y], argTypes := #[t, t2] }, ty, pos, af, none⟩).run P w = .ok (.value (.int .i64 ((min ys.length n : Nat) : Int))) w' ∧ Same w w' ∧ Sat (.res (OwnL E e' A c (xs.take lo ++ ys.take (min ys.length n) ++ xs.drop (lo + min ys.length n))) :: G) w' := by
      by_cases hk0 : min ys.length n = 0
      · refine ⟨w, ?_, Same.refl w, ?_⟩
        · rw [hk0] at hfc
          cases B with
          | none => simp [execOp, resolve, invoke, builtin, Builtin.copy_, ha.eval hx, ha.eval hy, run_underlying hu', Builtin.lenOf, hsz, hn, hnm, hk0, hfc, goInt]
          | some b => simp [execOp, resolve, invoke, builtin, Builtin.copy_, ha.eval hx, ha.eval hy, run_underlying hu', Builtin.lenOf, hsz, hn, hnm, hk0, hfc, goInt, storeCells]
        · rw [hk0]
          simpa using hf'
      · obtain ⟨o1, o2, o3⟩ := hown
        rcases o3 with ⟨h, _⟩ | ⟨g, cur, fr, hpos, hA, hg, hcs, hnc, hc, htk, hfz⟩
        · omega
        have hBs := hB _ hA (by omega) (by omega)
        rw [add_zero_off] at hBs
        subst hBs
        have hbox : (Box g e' cur.toList).p (hp w) := ⟨_, hg, fr, by simp, fun i hi => hfz i (by simpa using hi)⟩
        have hvl : ((ys.take (min ys.length n)).map E.enc).flatten.length = min ys.length n * E.sz := by
          rw [flat_length]; simp
        have hroom : lo * E.sz + min ys.length n * E.sz ≤ xs.length * E.sz := by
          rw [← Nat.add_mul]; exact Nat.mul_le_mul_right _ (by omega)
        have hroom2 : xs.length * E.sz ≤ c * E.sz := Nat.mul_le_mul_right _ hnc
        obtain ⟨w', hrr, hwr, hb⟩ := setCells_blk (P := P) ((ys.take (min ys.length n)).map E.enc).flatten cur.toList (lo * E.sz) 0 w hbox (by simp only [Array.length_toList, hcs, hvl]; omega) (flat_one E _)
        have hbk := hbk g hA hpos
        have hrr' := hrr
        rw [List.map_take] at hrr'
        refine ⟨w', ?_, hwr.toSame, hf'.exchange (hbk ▸ hwr) (blkOf_nodup _ _) (fun j hj => ?_) ?_⟩
        · simp [execOp, resolve, invoke, builtin, Builtin.copy_, ha.eval hx, ha.eval hy, run_underlying hu', Builtin.lenOf, hsz, hn, hnm, hfc, goInt, hrr']
        · exact ⟨Nat.lt_of_lt_of_le (hf'.lt (by simp only [blocks, As.gs, List.mem_append]; exact .inl hj)) hwr.size, .inl hj⟩
        · have hlen : (xs.take lo ++ ys.take (min ys.length n) ++ xs.drop (lo + min ys.length n)).length = xs.length := by
            simp only [List.length_append, List.length_take, List.length_drop]; omega
          obtain ⟨o, ho, fr', rfl, hfz'⟩ := hb
          refine ⟨by simp, rows_ok E.len E.one _, .inr ⟨g, _, fr', hpos, hA, ho, ?_, by omega, hc, ?_, fun i hi => hfz' i (by simpa using hi)⟩⟩
          · simp only [List.size_toArray, List.length_append, List.length_take, List.length_drop, Array.length_toList, hcs, hvl]
            omega
          · rw [hlen]
            have hcur : cur.toList.take (xs.length * E.sz) = (xs.map E.enc).flatten := htk
            have hcl : cur.toList.length = c * E.sz := by simp [hcs]
            simp only [List.map_append, List.flatten_append, Nat.add_zero]
            rw [← flat_take E xs lo, ← flat_drop E xs, ← hcur, hvl, Nat.add_mul]
            generalize hvs : ((ys.take (min ys.length n)).map E.enc).flatten = vs at hvl ⊢
            generalize hP : lo * E.sz = p at *
            generalize hKK : min ys.length n * E.sz = q at *
            generalize hX : xs.length * E.sz = X at *
            apply List.ext_getElem?
            intro z
            simp only [List.getElem?_take, List.getElem?_append, List.length_append, List.length_take, List.length_drop, List.getElem?_drop, hcl, hvl]
            have e1 : min p (c * E.sz) = p := by omega
            have e2 : min p (min X (c * E.sz)) = p := by omega
            rw [e1, e2]
            by_cases c1 : z < p
            · simp only [c1, show z < X by omega, show z < p + q by omega, if_true]
            · by_cases c2 : z < p + q
              · simp only [c1, c2, show z < X by omega, if_true, if_false]
              · by_cases c3 : z < X
                · simp only [c1, c2, c3, if_true, if_false]
                  rw [if_pos (by omega)]
                · simp only [c1, c2, c3, if_false]
                  rw [if_neg (by omega)]
    obtain ⟨w', hrun, hsame, hsat⟩ := go
    unfold Oper.wp
    rw [hrun]
    exact hK _ _ (k _ _ (by simp [Act.put, hs]) hdf (ha.put (hs ▸ Nat.le_of_ble_eq_true hd)) hsat (hw.trans hsame))
theorem copy_whole {A : Option Addr} {n c sz : Nat} (h0 : ∀ ad, A = some ad → ad.add 0 = ad) : ∀ ad, A = some ad → 0 < n → 0 < c → A = some (ad.add (0 * sz)) := fun ad hA _ _ => by rw [Nat.zero_mul, h0 ad hA]; exact hA
theorem copy_part {A AE : Option Addr} {n c cc lo sz : Nat} (hp : PartOk AE cc A c lo sz) : ∀ ad, A = some ad → 0 < n → lo < c → AE = some (ad.add (lo * sz)) := fun ad hA _ hlt => by
  rw [hp.2 hlt, hA]
  rfl
theorem St.copyW {α : Type} {E : Enc α} {t t2 e e' n c m cs : Nat} {i j : TI} {x y : Operand} {A S : Option Addr} {xs ys zs : List α} (hz : copyM xs 0 xs.length ys = some zs) (hd : Nat.blt d nt = true) (hx : ev Γ x = some (.slice A n c)) (hy : ev Γ y = some (.slice S m cs)) (hm : m = ys.length) (hnx : n = xs.length)
    (hD : Del F (.res (OwnL E e' A c xs)) G) (hsrc : ∀ w, Sat F w → SlP (cod E) S cs ys (hp w)) (hi : tget T.tt t = some i) (hdesc : i.desc = .slice e) (hj : tget T.tt e = some j) (hn : j.size = E.sz)
    (k : St w0 nt ((d, .int .i64 ((min ys.length xs.length : Nat) : Int)) :: Γ) (.res (OwnL E e' A c zs) :: G) (wpList P ops Q rest)) :
    St w0 nt Γ F (wpList P ops Q (⟨some d, .call { callee := .builtin .copy, args := #[x, y], argTypes := #[t, t2] }, ty, pos, af, none⟩ :: rest)) := by
  subst hnx
  refine St.copyG hz hd hx hy hm (copy_whole fun ad hA => ?_) hD hsrc hi hdesc hj hn k
  unfold Addr.add
  simp
theorem St.copyP {α : Type} {E : Enc α} {t t2 e e' lo n c cc m cs : Nat} {i j : TI} {x y : Operand} {A AE S : Option Addr} {xs ys zs : List α} (hp : PartOk AE cc A c lo E.sz) (hz : copyM xs lo n ys = some zs) (hd : Nat.blt d nt = true) (hx : ev Γ x = some (.slice AE n cc)) (hy : ev Γ y = some (.slice S m cs)) (hm : m = ys.length)
    (hD : Del F (.res (OwnL E e' A c xs)) G) (hsrc : ∀ w, Sat F w → SlP (cod E) S cs ys (Go.Proofs.Ythdpagcklakahaa.hp w)) (hi : tget T.tt t = some i) (hdesc : i.desc = .slice e) (hj : tget T.tt e = some j) (hn : j.size = E.sz)
    (k : St w0 nt ((d, .int .i64 ((min ys.length n : Nat) : Int)) :: Γ) (.res (OwnL E e' A c zs) :: G) (wpList P ops Q rest)) :
    St w0 nt Γ F (wpList P ops Q (⟨some d, .call { callee := .builtin .copy, args := #[x, y], argTypes := #[t, t2] }, ty, pos, af, none⟩ :: rest)) :=
  St.copyG hz hd hx hy hm (copy_part hp) hD hsrc hi hdesc hj hn k
theorem csrc_sl {α : Type} {E : Enc α} {A : Option Addr} {c : Nat} {ys : List α} (hm : As.ro (SlL E A c ys) ∈ F) : ∀ w, Sat F w → SlP (cod E) A c ys (hp w) := fun w h => h.ro_hp hm
theorem csrc_part {α : Type} {E : Enc α} {A AE : Option Addr} {c cc e lo n : Nat} {xs ys : List α} (hp : PartOk AE cc A c lo E.sz) (hz : sub xs (lo : Int) ((lo + n : Nat) : Int) = some ys) (hm : As.res (OwnL E e A c xs) ∈ F) : ∀ w, Sat F w → SlP (cod E) AE cc ys (Go.Proofs.Ythdpagcklakahaa.hp w) := fun w h => slP_partL hp hz hm h
theorem part_n {α : Type} {xs ys : List α} {lo n : Nat} (hz : sub xs (lo : Int) ((lo + n : Nat) : Int) = some ys) : n = ys.length := by have := sub_len hz; omega
end
end Go.Proofs.Ythdpagcklakahaa
end
section
namespace Go.Proofs.Ythdpagcklakahaa
open Go
set_option linter.unusedSectionVars false
set_option linter.unusedVariables false
def optA (b : Bool) (g : Nat) : Option Addr := bif b then some ⟨g, 0, none⟩ else none
def chkB (b : Bool) : Option Bool := bif b then some true else none
theorem chkB_e {b x : Bool} (h : chkB b = some x) : b = true := by
  cases b
  · cases h
  · rfl
theorem optA_t {b : Bool} {g : Nat} (h : b = true) : optA b g = some ⟨g, 0, none⟩ := by subst h; rfl
theorem optA_v {b x : Bool} {g : Nat} (h : chkB b = some x) : some (Value.pointer (optA b g)) = some (Value.pointer (some ⟨g, 0, none⟩)) := by rw [optA_t (chkB_e h)]
theorem SlP.none0 {α : Type} {E : Cod α} (m : Hp) : SlP E none 0 [] m := ⟨Nat.le_refl _, by simp [maxLen], fun _ => rfl, fun ad h => by cases h⟩
def mdel {α β : Type} (eq : α → α → Bool) : List (α × β) → α → List (α × β)
  | [], _ => []
  | x :: r, k => bif eq k x.1 then r else x :: mdel eq r k
def EntsP {α β : Type} (K : KeyC α) (E : Cod β) (z : Hp) : List (α × List β) → List MapEntry → Prop
  | [], [] => True
  | x :: m, e :: es => e.key = K.v x.1 ∧ (∃ A c, e.val = .slice A x.2.length c ∧ SlP E A c x.2 z) ∧ EntsP K E z m es
  | _, _ => False
theorem EntsP.mono {α β : Type} {K : KeyC α} {E : Cod β} {z z' : Hp} (hz : Hp.le z z') : ∀ {m : List (α × List β)} {es : List MapEntry}, EntsP K E z m es → EntsP K E z' m es
  | [], [], _ => trivial
  | x :: m, e :: es, h => by
    obtain ⟨h1, ⟨A, c, h2, h3⟩, h4⟩ := h
    exact ⟨h1, ⟨A, c, h2, (Sl E A c x.2).mono _ _ hz h3⟩, EntsP.mono hz h4⟩
  | [], _ :: _, h => h.elim
  | _ :: _, [], h => h.elim
theorem EntsP.len {α β : Type} {K : KeyC α} {E : Cod β} {z : Hp} : ∀ {m : List (α × List β)} {es : List MapEntry}, EntsP K E z m es → es.length = m.length
  | [], [], _ => rfl
  | _ :: _, _ :: _, h => by simp [EntsP.len h.2.2]
  | [], _ :: _, h => h.elim
  | _ :: _, [], h => h.elim
theorem EntsP.snoc {α β : Type} {K : KeyC α} {E : Cod β} {z : Hp} {k : α} {v : List β} {e : MapEntry} (hk : e.key = K.v k) (hv : ∃ A c, e.val = .slice A v.length c ∧ SlP E A c v z) : ∀ {m : List (α × List β)} {es : List MapEntry}, EntsP K E z m es → EntsP K E z (m ++ [(k, v)]) (es ++ [e])
  | [], [], _ => ⟨hk, hv, trivial⟩
  | _ :: _, _ :: _, h => ⟨h.1, h.2.1, EntsP.snoc hk hv h.2.2⟩
  | [], _ :: _, h => h.elim
  | _ :: _, [], h => h.elim
def Stm (es : List MapEntry) (cl : Nat) : Prop := (∀ x ∈ es, x.born < cl) ∧ (es.map (·.born)).Nodup
theorem Stm.nil (cl : Nat) : Stm [] cl := ⟨(fun x h => by cases h), List.nodup_nil⟩
theorem Stm.push {es : List MapEntry} {cl : Nat} (h : Stm es cl) (k v : Value) : Stm (es ++ [⟨k, v, cl⟩]) (cl + 1) := by
  refine ⟨fun x hx => ?_, ?_⟩
  · rcases List.mem_append.1 hx with hx | hx
    · have := h.1 x hx; omega
    · rw [List.mem_singleton] at hx; subst hx; exact Nat.lt_succ_self _
  · rw [List.map_append]
    refine List.nodup_append.2 ⟨h.2, by simp, fun a ha b hb => ?_⟩
    obtain ⟨x, hx, rfl⟩ := List.mem_map.1 ha
    have := h.1 x hx
    simp only [List.map_cons, List.map_nil, List.mem_singleton] at hb
    omega
theorem Stm.modify {f : MapEntry → MapEntry} (hb : ∀ e, (f e).born = e.born) : ∀ {es : List MapEntry} {cl : Nat} (i : Nat), Stm es cl → Stm (es.modify i f) cl := fun {es cl} i h => by
  have e : ∀ (l : List MapEntry) (i : Nat), (l.modify i f).map (·.born) = l.map (·.born) := fun l => by
    induction l with
    | nil => intro i; cases i <;> rfl
    | cons x r ih =>
      intro i
      cases i with
      | zero => simp [hb]
      | succ i => simp [ih]
  refine ⟨fun x hx => ?_, by rw [e]; exact h.2⟩
  have : x.born ∈ (es.modify i f).map (·.born) := List.mem_map_of_mem hx
  rw [e] at this
  obtain ⟨y, hy, hyb⟩ := List.mem_map.1 this
  rw [← hyb]
  exact h.1 y hy
theorem Stm.erase {es : List MapEntry} {cl : Nat} (h : Stm es cl) (i : Nat) : Stm (es.eraseIdx i) cl :=
  ⟨fun x hx => h.1 x ((List.eraseIdx_sublist es i).mem hx), List.Nodup.sublist ((List.eraseIdx_sublist es i).map _) h.2⟩
def MapV {α β : Type} (K : KeyC α) (E : Cod β) (A : Option Nat) (m : Option (List (α × List β))) : Res where
  gs := A.toList
  p _ := True
  loc _ _ _ h := h
  q h z := match A, m with
    | none, none => True
    | some g, some m => ∃ es clock, h g = some (.map es clock) ∧ EntsP K E z m es.toList ∧ Stm es.toList clock
    | _, _ => False
  qloc m m' z z' hm hz h := by
    rename_i mm
    cases A with
    | none =>
      cases mm with
      | none => exact h
      | some x => exact h
    | some g =>
      cases mm with
      | none => exact h
      | some x =>
        obtain ⟨es, cl, h1, h2, h3⟩ := h
        exact ⟨es, cl, (hm g (by simp)).symm.trans h1, h2.mono hz, h3⟩
theorem MapV.get {α β : Type} {K : KeyC α} {E : Cod β} {A : Option Nat} {m : Option (List (α × List β))} {h z : Hp} (hq : (MapV K E A m).q h z) :
    (A = none ∧ m = none) ∨ ∃ g l es cl, A = some g ∧ m = some l ∧ h g = some (.map es cl) ∧ EntsP K E z l es.toList := by
  cases A with
  | none =>
    cases m with
    | none => exact .inl ⟨rfl, rfl⟩
    | some x => exact False.elim hq
  | some g =>
    cases m with
    | none => exact False.elim hq
    | some x =>
      obtain ⟨es, cl, h1, h2, _⟩ := hq
      exact .inr ⟨g, x, es, cl, rfl, rfl, h1, h2⟩
theorem MapV.stm {α β : Type} {K : KeyC α} {E : Cod β} {g : Nat} {m : Option (List (α × List β))} {es : Array MapEntry} {cl : Nat} {h z : Hp} (hq : (MapV K E (some g) m).q h z) (ho : h g = some (.map es cl)) : Stm es.toList cl := by
  cases m with
  | none => exact False.elim hq
  | some x =>
    obtain ⟨es', cl', h1, _, h3⟩ := hq
    rw [ho] at h1
    injection h1 with h1
    injection h1 with h4 h5
    subst h4; subst h5
    exact h3
theorem findV {α β : Type} (K : KeyC α) (E : Cod β) {d : TypeDesc} (hd : TD.of d = K.td) (k : α) (z : Hp) : ∀ (m : List (α × List β)) (es : List MapEntry) (n : Nat), EntsP K E z m es →
    (mget K.eq m k = none ∧ Instr.findNow d (K.v k) es n = some none ∧ (∀ v, mset K.eq m k v = m ++ [(k, v)]) ∧ mdel K.eq m k = m) ∨
    ∃ i b e, mget K.eq m k = some b ∧ Instr.findNow d (K.v k) es n = some (some (n + i, e.val)) ∧ es[i]? = some e ∧ Instr.sameBits 10000 e.key (K.v k) = true ∧ (∃ A c, e.val = .slice A b.length c ∧ SlP E A c b z) ∧
      (∀ v u, (∃ A c, u = .slice A v.length c ∧ SlP E A c v z) → EntsP K E z (mset K.eq m k v) (es.modify i fun e => { e with key := K.v k, val := u })) ∧ EntsP K E z (mdel K.eq m k) (es.eraseIdx i)
  | [], [], n, h => .inl ⟨rfl, rfl, fun _ => rfl, rfl⟩
  | [], _ :: _, _, h => h.elim
  | _ :: _, [], _, h => h.elim
  | x :: m, e :: es, n, h => by
    obtain ⟨h1, h2, h3⟩ := h
    have hs := K.same d k x.1 hd
    cases hc : K.eq k x.1
    · rw [hc] at hs
      rcases findV K E hd k z m es (n + 1) h3 with ⟨g1, g2, g3, g4⟩ | ⟨i, b, e', g1, g2, g3, g4, g5, g6, g7⟩
      · exact .inl ⟨by simp [mget, hc, g1], by simp [Instr.findNow, h1, hs, g2], fun v => by simp [mset, hc, g3], by simp [mdel, hc, g4]⟩
      · refine .inr ⟨i + 1, b, e', by simp [mget, hc, g1], by simp [Instr.findNow, h1, hs, g2]; omega, by simpa using g3, g4, g5, fun v u hu => ?_, ?_⟩
        · have := g6 v u hu
          simp only [mset, hc, cond_false, List.modify_succ_cons]
          exact ⟨h1, h2, this⟩
        · simp only [mdel, hc, cond_false, List.eraseIdx_cons_succ]
          exact ⟨h1, h2, g7⟩
    · rw [hc] at hs
      refine .inr ⟨0, x.2, e, by simp [mget, hc], by simp [Instr.findNow, h1, hs], rfl, by rw [h1]; exact K.stay _ _ hc, h2, fun v u hu => ?_, ?_⟩
      · simp only [mset, hc, cond_true, List.modify_zero_cons]
        exact ⟨rfl, hu, h3⟩
      · simp only [mdel, hc, cond_true, List.eraseIdx_cons_zero]
        exact h3
theorem Sat.nilV {α β : Type} {F : List As} {w : World} (h : Sat F w) (K : KeyC α) (E : Cod β) : Sat (.res (MapV K E none none) :: F) w :=
  h.add_res (Ext.refl w) (MapV K E none none) (by simp [MapV]) (fun k hk => by simp [MapV] at hk) trivial trivial
theorem run_checkKey {α : Type} {K : KeyC α} {P : Program} {t : Nat} {d : TypeDesc} (e : Bool) (k : α) (w : World) (hu : P.underlying t = some d) (hd : TD.of d = K.td) : (Instr.checkKey e 10000 t (K.v k)).run P w = .ok () w := K.plain P t d e k w hu hd
section
variable {P : Program} [T : HasTT P] {w0 : World} {nt : Nat} {Γ Γ' : Env} {F F' G R : List As} {Q : Exit → Act → World → Prop} {ops : Array Oper} {rest : List Oper}
variable {d : Nat} {op : Op} {ty : Nat} {pos : String} {af : Array Edge} {X : List Oper → Act → World → Prop} {Post : Value → List As → Prop}
theorem St.makeMapV {α β : Type} {K : KeyC α} {E : Cod β} {t : Nat} (hd : Nat.blt d nt = true) (k : ∀ g, St w0 nt ((d, .map (some g)) :: Γ) (.res (MapV K E (some g) (some [])) :: F) (wpList P ops Q rest)) :
    St w0 nt Γ F (wpList P ops Q (⟨some d, .makeMap t none, ty, pos, af, none⟩ :: rest)) :=
  fun a w hs hdf ha hf hw => wpList_plain rfl fun K' hK => by
    unfold Oper.wp
    have hr : (execOp a.eval ⟨some d, .makeMap t none, ty, pos, af, none⟩).run P w = .ok (.value (.map (some w.heap.size))) (w.alloc (.map #[] 0)) := by
      simp [execOp, run_mkMap]
    rw [hr]
    refine hK _ _ (k _ _ _ (by simp [Act.put, hs]) hdf (ha.put (hs ▸ Nat.le_of_ble_eq_true hd)) (hf.add_res (Ext.alloc w _) _ (by simp [MapV]) (fun k hk => by simp [MapV] at hk; subst hk; simp) trivial ⟨_, _, hp_alloc w _, trivial, Stm.nil _⟩) (hw.trans (Ext.alloc w _).toSame))
theorem St.lookupV {α β : Type} {K : KeyC α} {E : Cod β} {t kt e : Nat} {i j l : TI} {A : Option Nat} {m : Option (List (α × List β))} {x y : Operand} {comma : Bool} (k : α) (hd : Nat.blt d nt = true) (hx : ev Γ x = some (.map A)) (hy : ev Γ y = some (K.v k)) (hm : As.res (MapV K E A m) ∈ F)
    (hi : tget T.tt t = some i) (hdesc : i.desc = .map kt e) (hj : tget T.tt kt = some j) (hjd : j.desc = K.td) (hl : tget T.tt e = some l) (hz : l.zero = .slice none 0 0)
    (c : ∀ B c, St w0 nt ((d, if comma then .tuple #[.slice B ((mget K.eq (m.getD []) k).getD []).length c, .bool (mget K.eq (m.getD []) k).isSome] else .slice B ((mget K.eq (m.getD []) k).getD []).length c) :: Γ) (.ro (Sl E B c ((mget K.eq (m.getD []) k).getD [])) :: F) (wpList P ops Q rest)) :
    St w0 nt Γ F (wpList P ops Q (⟨some d, .lookup t x y comma, ty, pos, af, none⟩ :: rest)) :=
  fun a w hs hdf ha hf hw => wpList_plain rfl fun K' hK => by
    obtain ⟨d1, hu1, hd1⟩ := T.ok.desc hi
    obtain ⟨d2, hu2, hd2⟩ := T.ok.desc hj
    have h1 := TD.of_map (hd1.trans hdesc)
    subst h1
    have hz0 := run_zeroValue_tt T.ok hl w
    have go : ∃ B c, (execOp a.eval ⟨some d, .lookup t x y comma, ty, pos, af, none⟩).run P w = .ok (.value (if comma then .tuple #[.slice B ((mget K.eq (m.getD []) k).getD []).length c, .bool (mget K.eq (m.getD []) k).isSome] else .slice B ((mget K.eq (m.getD []) k).getD []).length c)) w ∧ (Sl E B c ((mget K.eq (m.getD []) k).getD [])).p (frz (blocks F) w) := by
      rcases MapV.get (hf.resq hm) with ⟨rfl, rfl⟩ | ⟨g, l', es, cl, rfl, rfl, ho, hE⟩
      · have h2 := run_checkKey true k w hu2 (hd2.trans hjd)
        refine ⟨none, 0, ?_, SlP.none0 _⟩
        cases comma <;> simp [execOp, ha.eval hx, ha.eval hy, Instr.lookup, run_underlying hu1, h2, Instr.findKey, Instr.findNow, run_underlying hu2, hz0, hz, mget]
      · have ho' : w.heap[g]? = some (.map es cl) := ho
        have hg : (getObj g).run P w = .ok (.map es cl) w := run_getMap ho'
        have h2 := run_checkKey es.isEmpty k w hu2 (hd2.trans hjd)
        rcases findV K E (hd2.trans hjd) k _ l' es.toList 0 hE with ⟨g1, g2, _⟩ | ⟨i', b, e', g1, g2, _, _, ⟨B, c, g3, g4⟩, _⟩
        · refine ⟨none, 0, ?_, by simp only [Option.getD_some, g1, Option.getD_none]; exact SlP.none0 _⟩
          cases comma <;> simp [execOp, ha.eval hx, ha.eval hy, Instr.lookup, run_underlying hu1, hg, h2, Instr.findKey, run_underlying hu2, g2, hz0, hz, g1]
        · refine ⟨B, c, ?_, by simp only [Option.getD_some, g1]; exact g4⟩
          cases comma <;> simp [execOp, ha.eval hx, ha.eval hy, Instr.lookup, run_underlying hu1, hg, h2, Instr.findKey, run_underlying hu2, g2, g1, g3]
    obtain ⟨B, cc, hr, hsl⟩ := go
    unfold Oper.wp
    rw [hr]
    exact hK _ _ (c B cc _ w (by simp [Act.put, hs]) hdf (ha.put (hs ▸ Nat.le_of_ble_eq_true hd)) (hf.add_ro _ hsl) hw)
theorem set_map {P : Program} {w : World} {g : Nat} {es : Array MapEntry} {cl : Nat} (ho : w.heap[g]? = some (.map es cl)) (o : Obj) : ∃ w', (setObj g o).run P w = .ok () w' ∧ Wrote [g] w w' ∧ hp w' g = some o := by
  have hlt := (Array.getElem?_eq_some_iff.1 ho).1
  refine ⟨{ w with heap := w.heap.setIfInBounds g o }, run_setMap o ho, ⟨⟨rfl, rfl, rfl, by simp⟩, fun i hi hn => ?_⟩, ?_⟩
  · simp only [List.mem_singleton] at hn
    show (w.heap.setIfInBounds g o)[i]? = w.heap[i]?
    rw [Array.getElem?_setIfInBounds_ne (fun h => hn h.symm)]
  · show (w.heap.setIfInBounds g o)[g]? = some o
    simp [hlt]
def mapM {α : Type} (m : Option α) : Option α := m
theorem MapV.turn {α β : Type} {K : KeyC α} {E : Cod β} {g : Nat} {l l' : List (α × List β)} {w w' : World} {es : Array MapEntry} {cl : Nat} (hf : Sat (.res (MapV K E (some g) (some l)) :: G) w) (hwr : Wrote [g] w w') (hh : hp w' g = some (.map es cl))
    (hE : EntsP K E (frz (blocks (.res (MapV K E (some g) (some l)) :: G)) w) l' es.toList) (hS : Stm es.toList cl) : Sat (.res (MapV K E (some g) (some l')) :: G) w' := by
  have hlt : g < w.heap.size := hf.lt (by simp [blocks, As.gs, MapV])
  refine hf.exchange hwr (by simp [MapV]) (fun k hk => ?_) trivial ?_
  · simp [MapV] at hk
    subst hk
    exact ⟨Nat.lt_of_lt_of_le hlt hwr.size, .inl (by simp [MapV])⟩
  · refine ⟨es, cl, hh, hE.mono ?_, hS⟩
    intro k o hk
    unfold frz at *
    split at hk
    · cases hk
    · rename_i hn
      have hn' : k ∉ (MapV K E (some g) (some l')).gs ++ blocks G := by simpa [blocks, As.gs, MapV] using hn
      rw [if_neg hn']
      have hkg : k ∉ [g] := by simp [blocks, As.gs, MapV] at hn; simp; exact hn.1
      rw [hwr.block k (Array.getElem?_eq_some_iff.1 hk).1 hkg]
      exact hk
theorem St.mapUpdateV {α β : Type} {K : KeyC α} {E : Cod β} {t kt e n cc : Nat} {i j : TI} {A B : Option _} {m : Option (List (α × List β))} {l : List (α × List β)} {x y z : Operand} (hl : mapM m = some l) (k : α) {v : List β} (hx : ev Γ x = some (.map A)) (hy : ev Γ y = some (K.v k)) (hz : ev Γ z = some (.slice B n cc)) (hn : n = v.length)
    (hD : Del F (.res (MapV K E A m)) G) (hv : As.ro (Sl E B cc v) ∈ F)
    (hi : tget T.tt t = some i) (hdesc : i.desc = .map kt e) (hj : tget T.tt kt = some j) (hjd : j.desc = K.td)
    (c : St w0 nt Γ (.res (MapV K E A (some (mset K.eq l k v))) :: G) (wpList P ops Q rest)) : St w0 nt Γ F (wpList P ops Q (⟨none, .mapUpdate t x y z, ty, pos, af, none⟩ :: rest)) :=
  fun a w hs hdf ha hf hw => wpList_plain rfl fun K' hK => by
    unfold mapM at hl
    subst hl; subst hn
    have hf' := hf.front hD
    have hvz : SlP E B cc v (frz (blocks (.res (MapV K E A (some l)) :: G)) w) := hf'.ro (r := Sl E B cc v) (hD.perm.mem_iff.1 hv)
    rcases MapV.get (hf'.resq (List.mem_cons_self ..)) with ⟨_, h⟩ | ⟨g, l', es, cl, rfl, h, ho, hE⟩
    · cases h
    injection h with h
    subst h
    obtain ⟨d1, hu1, hd1⟩ := T.ok.desc hi
    obtain ⟨d2, hu2, hd2⟩ := T.ok.desc hj
    have h1 := TD.of_map (hd1.trans hdesc)
    subst h1
    have h2 := run_checkKey false k w hu2 (hd2.trans hjd)
    have ho' : w.heap[g]? = some (.map es cl) := ho
    have hst := MapV.stm (hf'.resq (List.mem_cons_self ..)) ho
    have hg : (getObj g).run P w = .ok (.map es cl) w := run_getMap ho'
    have go : ∃ w', (execOp a.eval ⟨none, .mapUpdate t x y z, ty, pos, af, none⟩).run P w = .ok .skip w' ∧ Wrote [g] w w' ∧ Sat (.res (MapV K E (some g) (some (mset K.eq l k v))) :: G) w' := by
      rcases findV K E (hd2.trans hjd) k _ l es.toList 0 hE with ⟨g1, g2, g3, _⟩ | ⟨i', b, e0, g1, g2, g3, g4, _, g6, _⟩
      · obtain ⟨w', hr, hwr, hh⟩ := set_map (P := P) ho' (.map (es.push ⟨K.v k, .slice B v.length cc, cl⟩) (cl + 1))
        refine ⟨w', ?_, hwr, MapV.turn hf' hwr hh ?_ (by rw [Array.toList_push]; exact hst.push _ _)⟩
        · simp [execOp, ha.eval hx, ha.eval hy, ha.eval hz, Instr.mapUpdate, run_underlying hu1, hg, h2, Instr.findKey, run_underlying hu2, g2, hr]
        · rw [g3, Array.toList_push]
          exact hE.snoc rfl ⟨B, cc, rfl, hvz⟩
      · have hmod : (es.modify i' fun e => { e with key := K.v k, val := .slice B v.length cc }).toList = es.toList.modify i' fun e => { e with key := K.v k, val := .slice B v.length cc } := Array.toList_modify
        obtain ⟨w', hr, hwr, hh⟩ := set_map (P := P) ho' (.map (es.modify i' fun e => { e with key := K.v k, val := .slice B v.length cc }) cl)
        refine ⟨w', ?_, hwr, MapV.turn hf' hwr hh ?_ (by rw [hmod]; exact hst.modify (f := fun e => { e with key := K.v k, val := .slice B v.length cc }) (fun _ => rfl) _)⟩
        · have he1 : es[i']? = some e0 := by simpa using g3
          simp only [Nat.zero_add] at g2
          simp [execOp, ha.eval hx, ha.eval hy, ha.eval hz, Instr.mapUpdate, run_underlying hu1, hg, h2, Instr.findKey, run_underlying hu2, g2, he1, Instr.keyThatStays, g4, hr]
        · rw [hmod]
          exact g6 v _ ⟨B, cc, rfl, hvz⟩
    obtain ⟨w', hrun, hwr, hsat⟩ := go
    unfold Oper.wp
    rw [hrun]
    exact hK _ _ (c _ _ (by simpa [Act.put] using hs) hdf (ha.put_none) hsat (hw.trans hwr.toSame))
theorem St.mapDeleteVN {α β : Type} {K : KeyC α} {E : Cod β} {t kt e : Nat} {ts : Array Nat} {i j : TI} {A : Option Nat} {m : Option (List (α × List β))} {x y : Operand} (k : α) (hx : ev Γ x = some (.map A)) (hy : ev Γ y = some (K.v k)) (hD : Del F (.res (MapV K E A m)) G)
    (hts : ts[0]? = some t) (hi : tget T.tt t = some i) (hdesc : i.desc = .map kt e) (hj : tget T.tt kt = some j) (hjd : j.desc = K.td)
    (c : St w0 nt Γ (.res (MapV K E A (m.map fun l => mdel K.eq l k)) :: G) (wpList P ops Q rest)) : St w0 nt Γ F (wpList P ops Q (⟨none, .call { callee := .builtin .delete, args := #[x, y], argTypes := ts }, ty, pos, af, none⟩ :: rest)) :=
  fun a w hs hdf ha hf hw => wpList_plain rfl fun K' hK => by
    have hf' := hf.front hD
    obtain ⟨d1, hu1, hd1⟩ := T.ok.desc hi
    obtain ⟨d2, hu2, hd2⟩ := T.ok.desc hj
    have h1 := TD.of_map (hd1.trans hdesc)
    subst h1
    have go : ∃ w', (execOp a.eval ⟨none, .call { callee := .builtin .delete, args := #[x, y], argTypes := ts }, ty, pos, af, none⟩).run P w = .ok (.value (.tuple #[])) w' ∧ Same w w' ∧ Sat (.res (MapV K E A (m.map fun l => mdel K.eq l k)) :: G) w' := by
      rcases MapV.get (hf'.resq (List.mem_cons_self ..)) with ⟨rfl, rfl⟩ | ⟨g, l', es, cl, rfl, rfl, ho, hE⟩
      · have h2 := run_checkKey true k w hu2 (hd2.trans hjd)
        refine ⟨w, ?_, Same.refl w, hf'⟩
        simp [execOp, resolve, invoke, ha.eval hx, ha.eval hy, builtin, Builtin.delete_, hts, run_underlying hu1, h2]
      · have ho' : w.heap[g]? = some (.map es cl) := ho
        have hg : (getObj g).run P w = .ok (.map es cl) w := run_getMap ho'
        have h2 := run_checkKey es.isEmpty k w hu2 (hd2.trans hjd)
        have hst := MapV.stm (hf'.resq (List.mem_cons_self ..)) ho
        rcases findV K E (hd2.trans hjd) k _ l' es.toList 0 hE with ⟨g1, g2, g3, g4⟩ | ⟨i', b, e0, g1, g2, g3, _, _, _, g7⟩
        · obtain ⟨w', hr, hwr, hh⟩ := set_map (P := P) ho' (.map es cl)
          refine ⟨w', ?_, hwr.toSame, MapV.turn hf' hwr hh (by show EntsP K E _ (mdel K.eq l' k) _; rw [g4]; exact hE) hst⟩
          simp [execOp, resolve, invoke, ha.eval hx, ha.eval hy, builtin, Builtin.delete_, hts, run_underlying hu1, h2, hg, Instr.findKey, run_underlying hu2, g2, hr]
        · obtain ⟨w', hr, hwr, hh⟩ := set_map (P := P) ho' (.map (es.eraseIdxIfInBounds i') cl)
          have hi' : i' < es.size := by have := (List.getElem?_eq_some_iff.1 g3).1; simpa using this
          have hel : (es.eraseIdxIfInBounds i').toList = es.toList.eraseIdx i' := by
            unfold Array.eraseIdxIfInBounds
            rw [dif_pos hi', Array.toList_eraseIdx]
          refine ⟨w', ?_, hwr.toSame, MapV.turn hf' hwr hh ?_ (by rw [hel]; exact hst.erase _)⟩
          · simp only [Nat.zero_add] at g2
            simp [execOp, resolve, invoke, ha.eval hx, ha.eval hy, builtin, Builtin.delete_, hts, run_underlying hu1, h2, hg, Instr.findKey, run_underlying hu2, g2, hr]
          · have : (es.eraseIdxIfInBounds i').toList = es.toList.eraseIdx i' := by
              unfold Array.eraseIdxIfInBounds
              rw [dif_pos hi', Array.toList_eraseIdx]
            rw [this]
            exact g7
    obtain ⟨w', hrun, hsame, hsat⟩ := go
    unfold Oper.wp
    rw [hrun]
    exact hK _ _ (c _ _ (by simpa [Act.put] using hs) hdf ha.put_none hsat (hw.trans hsame))
theorem St.mapLenV {α β : Type} {K : KeyC α} {E : Cod β} {t kt e : Nat} {ts : Array Nat} {i : TI} {A : Option Nat} {m : Option (List (α × List β))} {x : Operand} (hd : Nat.blt d nt = true) (hx : ev Γ x = some (.map A)) (hm : As.res (MapV K E A m) ∈ F)
    (hts : ts[0]? = some t) (hi : tget T.tt t = some i) (hdesc : i.desc = .map kt e)
    (c : St w0 nt ((d, .int .i64 (((m.getD []).length : Nat) : Int)) :: Γ) F (wpList P ops Q rest)) : St w0 nt Γ F (wpList P ops Q (⟨some d, .call { callee := .builtin .len, args := #[x], argTypes := ts }, ty, pos, af, none⟩ :: rest)) :=
  fun a w hs hdf ha hf hw => wpList_plain rfl fun K' hK => by
    obtain ⟨d1, hu1, hd1⟩ := T.ok.desc hi
    have h1 := TD.of_map (hd1.trans hdesc)
    subst h1
    have go : (execOp a.eval ⟨some d, .call { callee := .builtin .len, args := #[x], argTypes := ts }, ty, pos, af, none⟩).run P w = .ok (.value (.int .i64 (((m.getD []).length : Nat) : Int))) w := by
      rcases MapV.get (hf.resq hm) with ⟨rfl, rfl⟩ | ⟨g, l', es, cl, rfl, rfl, ho, hE⟩
      · simp [execOp, resolve, invoke, ha.eval hx, builtin, Builtin.len_, hts, run_underlying hu1, goInt]
      · have ho' : w.heap[g]? = some (.map es cl) := ho
        have hg : (getObj g).run P w = .ok (.map es cl) w := run_getMap ho'
        have := hE.len
        simp [execOp, resolve, invoke, ha.eval hx, builtin, Builtin.len_, hts, run_underlying hu1, hg, goInt]
        simpa using congrArg Int.ofNat this
    unfold Oper.wp
    rw [go]
    exact hK _ _ (c _ w (by simp [Act.put, hs]) hdf (ha.put (hs ▸ Nat.le_of_ble_eq_true hd)) hf hw)
end
end Go.Proofs.Ythdpagcklakahaa
end
section
namespace Go.Proofs.Ythdpagcklakahaa
open Go
set_option linter.unusedSectionVars false
set_option linter.unusedVariables false
set_option maxRecDepth 10000
theorem MapV.new {α β : Type} {K : KeyC α} {E : Cod β} {g : Nat} {l : List (α × List β)} {es : Array MapEntry} {cl : Nat} {F : List As} {w : World} (hf : Sat (.res (MapV K E (some g) (some l)) :: F) w) (ho : w.heap[g]? = some (.map es cl))
    (hE : EntsP K E (frz (blocks (.res (MapV K E (some g) (some l)) :: F)) w) l es.toList) (hS : Stm es.toList cl) : Sat (.res (MapV K E (some w.heap.size) (some l)) :: .res (MapV K E (some g) (some l)) :: F) (w.alloc (.map es cl)) := by
  refine hf.add_res (Ext.alloc w _) _ (by simp [MapV]) (fun k hk => by simp [MapV] at hk; subst hk; simp) trivial ⟨es, cl, hp_alloc w _, hE.mono ?_, hS⟩
  intro k o hk
  unfold frz at *
  split at hk
  · cases hk
  · rename_i hn
    have hlt := (Array.getElem?_eq_some_iff.1 hk).1
    have hn2 : k ∉ (MapV K E (some w.heap.size) (some l)).gs ++ blocks (.res (MapV K E (some g) (some l)) :: F) := by
      intro hm
      rcases List.mem_append.1 hm with hm | hm
      · simp [MapV] at hm; omega
      · exact hn hm
    rw [if_neg hn2, (Ext.alloc w _).block k hlt]
    exact hk
theorem clone_fun {P : Program} {ρ : Shelf.Ren} (L : SlLaysW.n5 P ρ) {α β : Type} (K : KeyC α) (E : Cod β) (A : Option Nat) (m : Option (List (α × List β))) :
    Fun P (ρ.f 5) [.map A] [.res (MapV K E A m)] (fun v F' => ∃ B, v = .map B ∧ F' = [.res (MapV K E B m), .res (MapV K E A m)]) := by
  intro w R hsat
  have hf : Sat (.res (MapV K E A m) :: R) w := hsat
  rcases MapV.get (hf.resq (List.mem_cons_self ..)) with ⟨rfl, rfl⟩ | ⟨g, l, es, cl, rfl, rfl, ho, hE⟩
  · refine (AnyW.maps_Clone_nil L w).mono fun e w' ⟨he, hw⟩ => ?_
    subst he; subst hw
    exact ⟨_, _, rfl, ⟨none, rfl, rfl⟩, hf.nilV K E, Same.refl _⟩
  · have ho' : w.heap[g]? = some (.map es cl) := ho
    refine (AnyW.maps_Clone L g es cl w ho').mono fun e w' ⟨he, hw⟩ => ?_
    subst he; subst hw
    exact ⟨_, _, rfl, ⟨some w.heap.size, rfl, rfl⟩, MapV.new hf ho' hE (MapV.stm (hf.resq (List.mem_cons_self ..)) ho), (Ext.alloc w _).toSame⟩
def cloneRen : Shelf.Ren := ⟨fun x => if x = 5 then 66 else if x = 7 then 78 else x, fun x => if x = 3 then 37 else if x = 4 then 4 else if x = 20 then 20 else if x = 23 then 71 else if x = 25 then 5 else x, fun x => x⟩
theorem cloneLays : SlLaysW.n5 Try.prog cloneRen where
  mixed := by kernel_rfl
  f5 := ⟨Try.f66.name, by kernel_rfl, by kernel_rfl⟩
  f7 := by kernel_rfl
  t4 := by kernel_rfl
  a4 := fun _ => rfl
  z4 := fun _ => rfl
  v4 := fun _ => rfl
  t20 := by kernel_rfl
  a20 := fun _ => rfl
  z20 := fun _ => rfl
  v20 := fun _ => rfl
  t23 := by kernel_rfl
  a23 := fun _ => rfl
  z23 := fun _ => rfl
  v23 := fun _ => rfl
def m_mapsClone (m : Option (List (Int × List Int))) : Option (Option (List (Int × List Int))) := some m
theorem c_mapsClone {A : Option Nat} {m r : Option (List (Int × List Int))} (h : m_mapsClone m = some r) :
    Fun Try.prog 66 [.map A] [.res (MapV (kint .u8) (cod eu8) A m)] (fun v F' => ∃ B, v = .map B ∧ F' = [.res (MapV (kint .u8) (cod eu8) A m), .res (MapV (kint .u8) (cod eu8) B r)]) := by
  injection h with h
  subst h
  intro w R hs
  exact (clone_fun cloneLays (kint .u8) (cod eu8) A m w R hs).mono fun e w' ⟨v, F', h1, ⟨B, h2, h3⟩, h4, h5⟩ => by
    subst h3
    exact ⟨v, _, h1, ⟨B, h2, rfl⟩, h4.perm (List.Perm.swap ..), h5⟩
end Go.Proofs.Ythdpagcklakahaa
end
section
namespace Go.Proofs.Ythdpagcklakahaa
open Go
open Go.ChangeMaps (setBlock)
set_option linter.unusedSectionVars false
set_option linter.unusedVariables false
set_option maxRecDepth 10000
def MapIt {α β : Type} (K : KeyC α) (E : Cod β) (A : Option Nat) (m : Option (List (α × List β))) (it : Nat) (done : List α) : Res where
  gs := it :: A.toList
  p _ := True
  loc _ _ _ h := h
  q h z := match A, m with
    | none, none => h it = some (.mapIter none 0 #[] 0) ∧ done = []
    | some g, some m => ∃ (es : Array MapEntry) (cl : Nat) (ds : List MapEntry), h g = some (.map es cl) ∧ EntsP K E z m es.toList ∧ Stm es.toList cl ∧ h it = some (.mapIter (some g) cl (ds.map (·.born)).toArray cl) ∧ (∀ x ∈ ds, x ∈ es.toList) ∧ (ds.map (·.born)).Nodup ∧ done.map K.v = ds.map (·.key)
    | _, _ => False
  qloc a a' z z' hm hz h := by
    cases A with
    | none =>
      cases m with
      | none => exact ⟨(hm it (by simp)).symm.trans h.1, h.2⟩
      | some x => exact h
    | some g =>
      cases m with
      | none => exact h
      | some x =>
        obtain ⟨es, cl, ds, h1, h2, h3, h4, h5⟩ := h
        exact ⟨es, cl, ds, (hm g (by simp)).symm.trans h1, h2.mono hz, h3, (hm it (by simp)).symm.trans h4, h5⟩
theorem MapIt.get {α β : Type} {K : KeyC α} {E : Cod β} {A : Option Nat} {m : Option (List (α × List β))} {it : Nat} {done : List α} {h z : Hp} (hq : (MapIt K E A m it done).q h z) :
    (A = none ∧ m = none ∧ h it = some (.mapIter none 0 #[] 0) ∧ done = []) ∨ ∃ (g : Nat) (l : List (α × List β)) (es : Array MapEntry) (cl : Nat) (ds : List MapEntry), A = some g ∧ m = some l ∧ h g = some (.map es cl) ∧ EntsP K E z l es.toList ∧ Stm es.toList cl ∧ h it = some (.mapIter (some g) cl (ds.map (·.born)).toArray cl) ∧ (∀ x ∈ ds, x ∈ es.toList) ∧ (ds.map (·.born)).Nodup ∧ done.map K.v = ds.map (·.key) := by
  cases A with
  | none =>
    cases m with
    | none => exact .inl ⟨rfl, rfl, hq⟩
    | some x => exact False.elim hq
  | some g =>
    cases m with
    | none => exact False.elim hq
    | some x =>
      obtain ⟨es, cl, ds, h1⟩ := hq
      exact .inr ⟨g, x, es, cl, ds, rfl, rfl, h1⟩
theorem EntsP.keys {α β : Type} {K : KeyC α} {E : Cod β} {z : Hp} : ∀ {m : List (α × List β)} {es : List MapEntry}, EntsP K E z m es → es.map (·.key) = m.map fun x => K.v x.1
  | [], [], _ => rfl
  | x :: m, e :: es, h => by simp only [List.map_cons]; rw [h.1, EntsP.keys h.2.2]
  | [], _ :: _, h => h.elim
  | _ :: _, [], h => h.elim
theorem EntsP.memE {α β : Type} {K : KeyC α} {E : Cod β} {z : Hp} {e : MapEntry} : ∀ {m : List (α × List β)} {es : List MapEntry}, EntsP K E z m es → e ∈ es → ∃ k, e.key = K.v k ∧ ∃ v, (k, v) ∈ m
  | x :: m, y :: es, h, he => by
    rcases List.mem_cons.1 he with rfl | he
    · exact ⟨x.1, h.1, x.2, by simp⟩
    · obtain ⟨k, h1, v, h2⟩ := EntsP.memE h.2.2 he
      exact ⟨k, h1, v, by simp [h2]⟩
  | [], [], _, he => by cases he
  | [], _ :: _, h, _ => h.elim
  | _ :: _, [], h, _ => h.elim
theorem born_inj {es : List MapEntry} (hn : (es.map (·.born)).Nodup) {x y : MapEntry} (hx : x ∈ es) (hy : y ∈ es) (h : x.born = y.born) : x = y := by
  induction es with
  | nil => cases hx
  | cons e r ih =>
    rw [List.map_cons] at hn
    have h2 := List.nodup_cons.1 hn
    rcases List.mem_cons.1 hx with hx1 | hx1
    · rcases List.mem_cons.1 hy with hy1 | hy1
      · rw [hx1, hy1]
      · exact absurd (show e.born ∈ r.map (·.born) from List.mem_map.2 ⟨y, hy1, by rw [← hx1, h]⟩) h2.1
    · rcases List.mem_cons.1 hy with hy1 | hy1
      · exact absurd (show e.born ∈ r.map (·.born) from List.mem_map.2 ⟨x, hx1, by rw [← hy1, h]⟩) h2.1
      · exact ih h2.2 hx1 hy1
theorem nodup_len : ∀ {l m : List Nat}, l.Nodup → (∀ x ∈ l, x ∈ m) → l.length ≤ m.length
  | [], _, _, _ => Nat.zero_le _
  | x :: l, m, h, hs => by
    have h2 := List.nodup_cons.1 h
    have hx := hs x (by simp)
    have := nodup_len (m := m.erase x) h2.2 fun y hy => (List.mem_erase_of_ne (a := y) (b := x) (fun e => h2.1 (by rw [← e]; exact hy))).2 (hs y (by simp [hy]))
    rw [List.length_erase_of_mem hx] at this
    have := List.length_pos_of_mem hx
    simp only [List.length_cons]
    omega
theorem nodup_of_map {α β : Type} {f : α → β} {l : List α} (h : (l.map f).Nodup) : l.Nodup := by
  induction l with
  | nil => exact List.nodup_nil
  | cons x r ih =>
    rw [List.map_cons] at h
    have h2 := List.nodup_cons.1 h
    exact List.nodup_cons.2 ⟨fun hx => h2.1 (List.mem_map_of_mem hx), ih h2.2⟩
section
variable {P : Program} [T : HasTT P] {w0 : World} {nt : Nat} {Γ Γ' : Env} {F F' G R : List As} {Q : Exit → Act → World → Prop} {ops : Array Oper} {rest : List Oper}
variable {d : Nat} {op : Op} {ty : Nat} {pos : String} {af : Array Edge} {X : List Oper → Act → World → Prop} {Post : Value → List As → Prop}
theorem St.rangeV {α β : Type} {K : KeyC α} {E : Cod β} {t kt e : Nat} {i : TI} {A : Option Nat} {m : Option (List (α × List β))} {x : Operand} (hd : Nat.blt d nt = true) (hx : ev Γ x = some (.map A)) (hD : Del F (.res (MapV K E A m)) G)
    (hi : tget T.tt t = some i) (hdesc : i.desc = .map kt e)
    (c : ∀ it, St w0 nt ((d, .pointer (some ⟨it, 0, none⟩)) :: Γ) (.res (MapIt K E A m it []) :: G) (wpList P ops Q rest)) : St w0 nt Γ F (wpList P ops Q (⟨some d, .range t x, ty, pos, af, none⟩ :: rest)) :=
  fun a w hs hdf ha hf hw => wpList_plain rfl fun K' hK => by
    have hf' := hf.front hD
    obtain ⟨d1, hu1, hd1⟩ := T.ok.desc hi
    have h1 := TD.of_map (hd1.trans hdesc)
    subst h1
    have go : ∃ o : Obj, (execOp a.eval ⟨some d, .range t x, ty, pos, af, none⟩).run P w = .ok (.value (.pointer (some ⟨w.heap.size, 0, none⟩))) (w.alloc o) ∧ Sat (.res (MapIt K E A m w.heap.size []) :: G) (w.alloc o) := by
      have hb := hf'.nodup
      rcases MapV.get (hf'.resq (List.mem_cons_self ..)) with ⟨rfl, rfl⟩ | ⟨g, l, es, cl, rfl, rfl, ho, hE⟩
      · refine ⟨.mapIter none 0 #[] 0, ?_, ?_⟩
        · simp [execOp, ha.eval hx, run_range_nilMap w t kt e hu1]
        · refine hf'.exchange (r' := MapIt K E none none w.heap.size []) ⟨(Ext.alloc w _).toSame, fun k hk _ => (Ext.alloc w _).block k hk⟩ (by simp [MapIt]) (fun k hk => ?_) trivial ⟨hp_alloc w _, rfl⟩
          simp [MapIt] at hk
          subst hk
          exact ⟨by simp, .inr (Nat.le_refl _)⟩
      · have ho' : w.heap[g]? = some (.map es cl) := ho
        have hlt : g < w.heap.size := hf'.lt (by simp [blocks, As.gs, MapV])
        have hst := MapV.stm (hf'.resq (List.mem_cons_self ..)) ho
        refine ⟨.mapIter (some g) cl #[] cl, ?_, ?_⟩
        · simp [execOp, ha.eval hx, run_range_map w t kt e g es cl hu1 ho']
        · refine hf'.exchange (r' := MapIt K E (some g) (some l) w.heap.size []) ⟨(Ext.alloc w _).toSame, fun k hk _ => (Ext.alloc w _).block k hk⟩ (by simp [MapIt]; omega) (fun k hk => ?_) trivial ?_
          · simp [MapIt] at hk
            rcases hk with rfl | rfl
            · exact ⟨by simp, .inr (Nat.le_refl _)⟩
            · exact ⟨by simp; omega, .inl (by simp [MapV])⟩
          · refine ⟨es, cl, [], ((Ext.alloc w _).block g hlt).trans ho', hE.mono ?_, hst, hp_alloc w _, (fun x hx => by cases hx), List.nodup_nil, rfl⟩
            intro k o hk
            unfold frz at *
            split at hk
            · cases hk
            · rename_i hn
              have hlt2 := (Array.getElem?_eq_some_iff.1 hk).1
              rw [if_neg (fun hm => by
                rcases List.mem_append.1 hm with hm | hm
                · simp [MapIt] at hm
                  rcases hm with rfl | rfl
                  · omega
                  · exact hn (by simp [blocks, As.gs, MapV])
                · exact hn (by simp [blocks, hm])), (Ext.alloc w _).block k hlt2]
              exact hk
    obtain ⟨o, hrun, hsat⟩ := go
    unfold Oper.wp
    rw [hrun]
    exact hK _ _ (c _ _ _ (by simp [Act.put, hs]) hdf (ha.put (hs ▸ Nat.le_of_ble_eq_true hd)) hsat (hw.trans (Ext.alloc w _).toSame))
def keysOf {α β : Type} (m : Option (List (α × List β))) : List α := (m.getD []).map (·.1)
theorem St.nextV {α β : Type} {K : KeyC α} {E : Cod β} {A : Option Nat} {m : Option (List (α × List β))} {x : Operand} {it : Nat} {done : List α} {G : List As} (hd : Nat.blt d nt = true) (hx : ev Γ x = some (.pointer (some ⟨it, 0, none⟩))) (hD : Del F (.res (MapIt K E A m it done)) G)
    (c0 : (done.map K.v).Perm ((keysOf m).map K.v) → St w0 nt ((d, .tuple #[.bool false]) :: Γ) (.res (MapIt K E A m it done) :: G) (wpList P ops Q rest))
    (c1 : ∀ k v, done.length < (keysOf m).length → St w0 nt ((d, .tuple #[.bool true, K.v k, v]) :: Γ) (.res (MapIt K E A m it (done ++ [k])) :: G) (wpList P ops Q rest)) :
    St w0 nt Γ F (wpList P ops Q (⟨some d, .next x false, ty, pos, af, none⟩ :: rest)) :=
  fun a w hs hdf ha hf hw => wpList_plain rfl fun K' hK => by
    have hf' := hf.front hD
    unfold Oper.wp
    rcases MapIt.get (hf'.resq (List.mem_cons_self ..)) with ⟨rfl, rfl, hit, rfl⟩ | ⟨g, l, es, cl, ds, rfl, rfl, ho, hE, hst, hit, hds, hdn, hk⟩
    · have hit' : w.heap[it]? = some (.mapIter none 0 #[] 0) := hit
      have hr : (execOp a.eval ⟨some d, .next x false, ty, pos, af, none⟩).run P w = .ok (.value (.tuple #[.bool false])) w := by
        simp [execOp, ha.eval hx, Instr.next, getObj, Sem.run, hit', Result.andThen]
      rw [hr]
      exact hK _ _ (c0 (by simp [keysOf]) _ w (by simp [Act.put, hs]) hdf (ha.put (hs ▸ Nat.le_of_ble_eq_true hd)) hf' hw)
    · have hit' : w.heap[it]? = some (.mapIter (some g) cl (ds.map (·.born)).toArray cl) := hit
      have ho' : w.heap[g]? = some (.map es cl) := ho
      have hne : it ≠ g := fun e => by rw [e, ho'] at hit'; cases hit'
      have hlt : it < w.heap.size := hf'.lt (by simp [blocks, As.gs, MapIt])
      have hltg : g < w.heap.size := hf'.lt (by simp [blocks, As.gs, MapIt])
      have hdp : ds.Nodup := nodup_of_map hdn
      have hep : es.toList.Nodup := nodup_of_map hst.2
      have hks : (keysOf (some l)).map K.v = es.toList.map (·.key) := by
        rw [hE.keys]; simp [keysOf, List.map_map]
      rcases run_next_at (P := P) w ty it g cl cl (ds.map (·.born)).toArray es cl hit' ho' hst.1 (Nat.le_refl _) with ⟨h0, hrun⟩ | ⟨e, he, w1, hw1, hrun⟩
      · have hr : (execOp a.eval ⟨some d, .next x false, ty, pos, af, none⟩).run P w = .ok (.value (.tuple #[.bool false])) w := by
          simp [execOp, ha.eval hx, hrun]
        rw [hr]
        refine hK _ _ (c0 ?_ _ w (by simp [Act.put, hs]) hdf (ha.put (hs ▸ Nat.le_of_ble_eq_true hd)) hf' hw)
        rw [hk, hks]
        refine List.Perm.map _ ((List.perm_ext_iff_of_nodup hdp hep).2 fun y => ⟨hds y, fun hy => ?_⟩)
        have := all_seen es _ h0 y hy
        simp at this
        obtain ⟨z, hz, hzb⟩ := this
        rw [← born_inj hst.2 (hds z hz) hy hzb]
        exact hz
      · obtain ⟨hem, hes⟩ := mem_left he
        obtain ⟨k, hek, v0, hkv⟩ := hE.memE hem
        have hr : (execOp a.eval ⟨some d, .next x false, ty, pos, af, none⟩).run P w = .ok (.value (.tuple #[.bool true, K.v k, e.val])) (setBlock w1 it (.mapIter (some g) cl ((ds.map (·.born)).toArray.push e.born) cl)) := by
          simp [execOp, ha.eval hx, hrun, hek]
        rw [hr]
        have hnot : e ∉ ds := fun hed => by
          have : (ds.map (·.born)).toArray.contains e.born = true := by simp; exact ⟨e, hed, rfl⟩
          rw [this] at hes; cases hes
        have hlen : done.length < (keysOf (some l)).length := by
          have e1 : done.length = ds.length := by have := congrArg List.length hk; simpa using this
          have e2 : (keysOf (some l)).length = es.toList.length := by have := congrArg List.length hks; simpa using this
          have hnb : e.born ∉ ds.map (·.born) := fun h => by
            obtain ⟨y, hy, hyb⟩ := List.mem_map.1 h
            exact hnot (born_inj hst.2 (hds y hy) hem hyb ▸ hy)
          have := nodup_len (l := e.born :: ds.map (·.born)) (m := es.toList.map (·.born)) (List.nodup_cons.2 ⟨hnb, hdn⟩) fun y hy => by
            rcases List.mem_cons.1 hy with rfl | hy
            · exact List.mem_map_of_mem hem
            · obtain ⟨z, hz, rfl⟩ := List.mem_map.1 hy
              exact List.mem_map_of_mem (hds z hz)
          simp only [List.length_cons, List.length_map] at this
          omega
        have hsz : w1.heap = w.heap := by rcases hw1 with rfl | rfl <;> rfl
        have hext : Wrote [it] w (setBlock w1 it (.mapIter (some g) cl ((ds.map (·.born)).toArray.push e.born) cl)) := by
          refine ⟨?_, fun i hi hn => ?_⟩
          · rcases hw1 with rfl | rfl
            · exact ⟨rfl, rfl, rfl, by simp [setBlock]⟩
            · exact ⟨rfl, rfl, rfl, by show w.heap.size ≤ (w.heap.setIfInBounds it _).size; simp⟩
          · simp only [List.mem_singleton] at hn
            show (w1.heap.setIfInBounds it _)[i]? = w.heap[i]?
            rw [hsz, Array.getElem?_setIfInBounds_ne (fun h => hn h.symm)]
        have hwr : Wrote (MapIt K E (some g) (some l) it done).gs w (setBlock w1 it (.mapIter (some g) cl ((ds.map (·.born)).toArray.push e.born) cl)) := ⟨hext.toSame, fun i hi hn => hext.block i hi (fun hm => hn (by simp only [List.mem_singleton] at hm; subst hm; simp [MapIt]))⟩
        refine hK _ _ (c1 k e.val hlen _ _ (by simp [Act.put, hs]) hdf (ha.put (hs ▸ Nat.le_of_ble_eq_true hd)) ?_ (hw.trans hext.toSame))
        refine hf'.exchange (r' := MapIt K E (some g) (some l) it (done ++ [k])) hwr (by simp [MapIt]; exact hne) (fun i hi => ?_) trivial ?_
        · exact ⟨Nat.lt_of_lt_of_le (by simp [MapIt] at hi; rcases hi with rfl | rfl <;> assumption) hext.size, .inl hi⟩
        · refine ⟨es, cl, ds ++ [e], (hext.block g hltg (by simp; exact fun h => hne h.symm)).trans ho', hE.mono ?_, hst, ?_, fun y hy => ?_, ?_, ?_⟩
          · intro i o hio
            unfold frz at *
            split at hio
            · cases hio
            · rename_i hn
              have hlt2 := (Array.getElem?_eq_some_iff.1 hio).1
              rw [if_neg (fun hm => hn (by simpa [blocks, As.gs, MapIt] using hm)), hext.block i hlt2 (fun hm => hn (by simp only [List.mem_singleton] at hm; subst hm; simp [blocks, As.gs, MapIt]))]
              exact hio
          · show (w1.heap.setIfInBounds it _)[it]? = _
            rw [hsz]
            simp [hlt]
          · rcases List.mem_append.1 hy with hy | hy
            · exact hds y hy
            · simp only [List.mem_singleton] at hy; subst hy; exact hem
          · rw [List.map_append]
            refine List.nodup_append.2 ⟨hdn, by simp, fun p hp q hq => ?_⟩
            simp only [List.map_cons, List.map_nil, List.mem_singleton] at hq
            subst hq
            intro h
            subst h
            obtain ⟨y, hy, hyb⟩ := List.mem_map.1 hp
            exact hnot (born_inj hst.2 (hds y hy) hem hyb ▸ hy)
          · rw [List.map_append, List.map_append, hk, List.map_cons, List.map_nil, List.map_cons, List.map_nil, hek]
theorem St.entryV {α β : Type} {K : KeyC α} {E : Cod β} {A : Option Nat} {m : Option (List (α × List β))} {x : Operand} {it : Nat} {done : List α} {k : α} (hd : Nat.blt d nt = true) (hx : ev Γ x = some (.pointer (some ⟨it, 0, none⟩))) (hm : As.res (MapIt K E A m it (done ++ [k])) ∈ F)
    (c : ∀ v, St w0 nt ((d, .tuple #[K.v k, v]) :: Γ) F (wpList P ops Q rest)) :
    St w0 nt Γ F (wpList P ops Q (⟨some d, .entry x, ty, pos, af, none⟩ :: rest)) :=
  fun a w hs hdf ha hf hw => wpList_plain rfl fun K' hK => by
    unfold Oper.wp
    rcases MapIt.get (hf.resq hm) with ⟨rfl, rfl, hit, h⟩ | ⟨g, l, es, cl, ds, rfl, rfl, ho, hE, hst, hit, hds, hdn, hk⟩
    · simp at h
    · have hit' : w.heap[it]? = some (.mapIter (some g) cl (ds.map (·.born)).toArray cl) := hit
      have ho' : w.heap[g]? = some (.map es cl) := ho
      have hsp : ∃ ds' e, ds = ds' ++ [e] ∧ e.key = K.v k := by
        rcases List.eq_nil_or_concat ds with rfl | ⟨ds', e, rfl⟩
        · simp at hk
        · refine ⟨ds', e, by simp, ?_⟩
          simp only [List.map_append, List.map_cons, List.map_nil, List.concat_eq_append] at hk
          exact (List.append_inj' hk rfl).2 |> fun h => by simpa using h.symm
      obtain ⟨ds', e, rfl, hek⟩ := hsp
      have hit2 : w.heap[it]? = some (.mapIter (some g) cl ((ds'.map (·.born)).toArray.push e.born) cl) := by
        rw [hit']; simp
      have hr : (execOp a.eval ⟨some d, .entry x, ty, pos, af, none⟩).run P w = .ok (.value (.tuple #[K.v k, e.val])) w := by
        have := run_entry_at (P := P) w it g cl (ds'.map (·.born)).toArray es cl e hit2 ho' (hds e (by simp)) hst.2
        simp [execOp, ha.eval hx, this, hek]
      rw [hr]
      exact hK _ _ (c _ _ w (by simp [Act.put, hs]) hdf (ha.put (hs ▸ Nat.le_of_ble_eq_true hd)) hf hw)
theorem Sat.itV {α β : Type} {K : KeyC α} {E : Cod β} {A : Option Nat} {m : Option (List (α × List β))} {it : Nat} {done : List α} {F : List As} {w : World} (h : Sat (.res (MapIt K E A m it done) :: F) w) : Sat (.res (MapV K E A m) :: F) w := by
  refine h.exchange (r' := MapV K E A m) ⟨Same.refl w, fun _ _ _ => rfl⟩ (by cases A <;> simp [MapV]) (fun k hk => ⟨h.lt ?_, .inl ?_⟩) trivial ?_
  · simp only [MapV] at hk
    simp [blocks, As.gs, MapIt]
    cases A with
    | none => simp at hk
    | some g => simp at hk; subst hk; simp
  · simp only [MapV] at hk
    simp only [MapIt]
    exact List.mem_cons_of_mem _ hk
  · rcases MapIt.get (h.resq (List.mem_cons_self ..)) with ⟨rfl, rfl, _⟩ | ⟨g, l, es, cl, ds, rfl, rfl, ho, hE, hst, _⟩
    · trivial
    · refine ⟨es, cl, ho, hE.mono (frz_anti w fun k hk => ?_), hst⟩
      rcases List.mem_append.1 hk with hk | hk
      · simp [MapV] at hk; subst hk; simp [blocks, As.gs, MapIt]
      · simp [blocks, hk]
end
end Go.Proofs.Ythdpagcklakahaa
end
section
namespace Go.Proofs.Ythdpagcklakahaa
open Go
set_option linter.unusedSectionVars false
set_option linter.unusedVariables false
set_option maxRecDepth 10000
def okRes : Result Next → Prop
  | .ok (.value _) _ => True
  | .ok .skip _ => True
  | .halt _ _ => True
  | _ => False
def PlainO (o : Oper) : Prop := (o.guard = none ∧ ∀ c, o.op ≠ .defer c) ∧ ∀ (P : Program) (ev : Operand → Value) (w : World), okRes ((execOp ev o).run P w)
theorem okRes_v {P : Program} {w : World} (x : Sem Value) : okRes ((do pure (Next.value (← x)) : Sem Next).run P w) := by
  rw [Sem.run_bind]
  cases x.run P w with
  | ok v w' => simp [Result.andThen, okRes]
  | halt h w' => simp [Result.andThen, okRes]
theorem okRes_u {P : Program} {w : World} (x : Sem Unit) : okRes ((do x; pure Next.skip : Sem Next).run P w) := by
  rw [Sem.run_bind]
  cases x.run P w with
  | ok v w' => simp [Result.andThen, okRes]
  | halt h w' => simp [Result.andThen, okRes]
theorem plain_move {d ty pos af x} : PlainO ⟨some d, .move x, ty, pos, af, none⟩ := ⟨⟨rfl, fun c h => by cases h⟩, fun P ev w => by simp [execOp, okRes]⟩
theorem plain_assign {d ty pos af x} : PlainO ⟨some d, .assign x, ty, pos, af, none⟩ := ⟨⟨rfl, fun c h => by cases h⟩, fun P ev w => by simp [execOp, okRes]⟩
theorem plain_load {d ty pos af t x} : PlainO ⟨some d, .load t x, ty, pos, af, none⟩ := ⟨⟨rfl, fun c h => by cases h⟩, fun P ev w => by unfold execOp; exact okRes_v _⟩
theorem plain_build {d ty pos af t n ps} : PlainO ⟨some d, .buildSlice t n ps, ty, pos, af, none⟩ := ⟨⟨rfl, fun c h => by cases h⟩, fun P ev w => by unfold execOp; exact okRes_v _⟩
theorem plain_store {ty pos af t x y} : PlainO ⟨none, .store t x y, ty, pos, af, none⟩ := ⟨⟨rfl, fun c h => by cases h⟩, fun P ev w => by unfold execOp; exact okRes_u _⟩
theorem plain_append {d ty pos af xs ts} : PlainO ⟨some d, .call { callee := .builtin .append, args := xs, argTypes := ts }, ty, pos, af, none⟩ := ⟨⟨rfl, fun c h => by cases h⟩, fun P ev w => by
  simp only [execOp, resolve, Sem.run_bind, Sem.run_pure, Result.andThen_ok, invoke, builtin]
  generalize Sem.run P (Builtin.append_ ts ty (Array.map ev xs)) w = r
  cases r <;> simp [Result.andThen, okRes]⟩
theorem wpList_in {Fn : Fence} {n : Nat} {P : Program} {ops : Array Oper} {Qx Q : Exit → Act → World → Prop} (hF : ∀ f, Fn.fn f) (hq : ∀ e a w, Qx e a w → e = .normal ∧ Q .normal a w) : ∀ (l : List Oper) (a : Act) (w : World), (∀ o ∈ l, PlainO o) → wpList P ops Qx l a w → wpListIn Fn n P ops Q l a w
  | [], a, w, _, h => (hq _ _ _ h).2
  | o :: l, a, w, ho, h => by
    obtain ⟨⟨hg, hnd⟩, hr⟩ := ho o (by simp)
    have hw : Region.wanted o (yielded ops a.tmps) = true := by simp [Region.wanted, hg]
    unfold wpList at h
    rw [if_pos hw] at h
    unfold wpListIn
    rw [if_pos hw]
    rcases h with h | ⟨_, a', w', h⟩
    · unfold Oper.wp at h
      unfold Oper.wpIn
      refine ⟨fun f _ => hF f, ?_⟩
      rw [Oper.semAt_eq _ _ _ hnd]
      have hok := hr P a.eval w
      revert h hok
      generalize (execOp a.eval o).run P w = r
      intro h hok
      cases r with
      | ok nx w' =>
        cases nx with
        | value v => exact wpList_in hF hq l _ _ (fun o' h' => ho o' (by simp [h'])) h
        | skip => exact wpList_in hF hq l _ _ (fun o' h' => ho o' (by simp [h'])) h
        | _ => exact hok.elim
      | halt hh w' =>
        cases hh with
        | panic v => have := (hq _ _ _ h).1; cases this
        | _ => exact False.elim h
    · have := (hq _ _ _ h).1
      cases this
instance (P : Program) (ops : Array Oper) (Q : Exit → Act → World → Prop) : Walk P ops (wpListIn Fence.wide 0 P ops Q) where
  val o rest a w v hw hr hx := by
    unfold wpListIn
    rw [if_pos hw]
    unfold Oper.wpIn
    refine ⟨fun _ _ => trivial, ?_⟩
    rw [Fence.wide_round, Oper.semAt_none, hr w (Ext.refl w)]
    exact hx
  pass o rest a w hw hx := by
    unfold wpListIn
    rw [if_neg (by simp [hw])]
    exact ⟨fun _ _ => trivial, hx⟩
  bare o o' rest a w hw hw' hd ho ht hx := by
    unfold wpListIn at hx ⊢
    rw [if_pos hw'] at hx
    rw [if_pos hw]
    have : execOp a.eval o = execOp a.eval o' := by unfold execOp; rw [ho, ht]
    unfold Oper.wpIn at hx ⊢
    refine ⟨fun _ _ => trivial, ?_⟩
    have hx2 := hx.2
    rw [Fence.wide_round, Oper.semAt_none] at hx2 ⊢
    rw [this]
    revert hx2
    unfold Oper.uponIn
    rw [hd]
    exact id
  call o rest a w f args v hw hr hc hx := by
    unfold wpListIn
    rw [if_pos hw]
    unfold Oper.wpIn
    refine ⟨fun _ _ => trivial, ?_⟩
    rw [Fence.wide_round, Oper.semAt_none, hr w (Ext.refl w)]
    refine ⟨fun h => by simp [Fence.wide] at h, callsIn_wide.2 ((hc w (Ext.refl w)).mono ?_)⟩
    rintro e w' ⟨rfl, hw'⟩
    exact hx w' hw'
def YFun {ε : Type} (P : Program) (l : Nat) (N : Nat) (Y : ε → List Int → List As) : Prop := ∀ (e : ε) (pre : List Int) (x : Int) (w : World) (R : List As), pre.length < N → Sat (Y e pre ++ R) w →
  YieldAt Fence.wide 0 P l #[.int .u8 x] w fun o w' => o = .returned (.bool true) ∧ ∃ e', Sat (Y e' (pre ++ [x]) ++ R) w' ∧ Same w w'
section
variable {P : Program} [T : HasTT P] {w0 : World} {nt : Nat} {Γ Γ' : Env} {F F' G R : List As} {Q : Exit → Act → World → Prop} {ops : Array Oper} {rest : List Oper}
variable {d : Nat} {op : Op} {ty : Nat} {pos : String} {af : Array Edge} {X : List Oper → Act → World → Prop} {Post : Value → List As → Prop}
theorem St.regionI {id : Nat} {l : List Oper} (h : St w0 nt Γ F (wpListIn Fence.wide 0 P l.toArray Q l)) : St w0 nt Γ F ((Code.region id l.toArray false).wp P Q) :=
  fun a w hs hd ha hf hw => wpIn_wide.1 (wpIn_region_lit (h a w hs hd ha hf hw))
theorem St.doneI (h : St w0 nt Γ F (Q .normal)) : St w0 nt Γ F (wpListIn Fence.wide 0 P ops Q []) := fun a w hs hd ha hf hw => wpListIn_nil (h a w hs hd ha hf hw)
theorem St.yield {ε : Type} {l N : Nat} {Y : ε → List Int → List As} (h : YFun P l N Y) {e : ε} {pre : List Int} {k : Int} {x y : Operand} {ts : Array Nat} (hl : pre.length < N) (hd : Nat.blt d nt = true) (hx : ev Γ x = some (.func (.yield l) #[] #[])) (hy : ev Γ y = some (.int .u8 k))
    (hF : ∀ w, Sat F w → Sat (Y e pre ++ R) w) (c : ∀ e', St w0 nt ((d, .bool true) :: Γ) (Y e' (pre ++ [k]) ++ R) (wpListIn Fence.wide 0 P ops Q rest)) :
    St w0 nt Γ F (wpListIn Fence.wide 0 P ops Q (⟨some d, .call { callee := .value x, args := #[y], argTypes := ts }, ty, pos, af, none⟩ :: rest)) :=
  fun a w hs hdf ha hf hw => wpListIn_plain rfl fun K hK => by
    obtain ⟨fn, tmps, assign, body, hy1, hR⟩ := h e pre k w R hl (hF w hf)
    have hr : (execOp a.eval ⟨some d, .call { callee := .value x, args := #[y], argTypes := ts }, ty, pos, af, none⟩).run P w = .ok (.round l fn tmps assign body) w := by
      simp [execOp, resolve, ha.eval hx, ha.eval hy, Deferred.ofValue, invoke, hy1]
    unfold Oper.wpIn
    refine ⟨fun _ _ => trivial, ?_⟩
    rw [Fence.wide_round, Oper.semAt_none, hr]
    refine ⟨fun h => by simp [Fence.wide] at h, hR.mono ?_⟩
    rintro o w' ⟨rfl, e', hsat, hsame⟩
    exact hK _ _ (c e' _ _ (by simp [Act.put, hs]) hdf (ha.put (hs ▸ Nat.le_of_ble_eq_true hd)) hsat (hw.trans hsame))
end
def mCount : Nat → Option (Step Nat Unit) := fun k => some (if k = 0 then .done () else .next (k - 1))
theorem mCount_ok : ∀ n, loopM mCount n = some ()
  | 0 => loopM_some.2 ⟨1, rfl⟩
  | n + 1 => by
    obtain ⟨k, hk⟩ := loopM_some.1 (mCount_ok n)
    exact loopM_some.2 ⟨k + 1, by simp [iter, mCount]; exact hk⟩
end Go.Proofs.Ythdpagcklakahaa
end
section
namespace Go.Proofs.Ythdpagcklakahaa
open Go
set_option linter.unusedSectionVars false
set_option linter.unusedVariables false
set_option maxRecDepth 10000
theorem c_keys1 {ε : Type} {l N : Nat} {Y : ε → List Int → List As} (hY : YFun Try.prog l N Y) {g : Nat} {A : Option Nat} {m : Option (List (Int × List Int))} (hN : (keysOf m).length ≤ N) (e0 : ε) :
    Fun Try.prog 77 [.func (.yield l) #[] #[], .pointer (some ⟨g, 0, none⟩)] (.res (Box g 71 [.map A]) :: .res (MapV (kint .u8) (cod eu8) A m) :: Y e0 [])
      (fun v F' => ∃ e ss, (ss.map (kint .u8).v).Perm ((keysOf m).map (kint .u8).v) ∧ F' = .res (Box g 71 [.map A]) :: .res (MapV (kint .u8) (cod eu8) A m) :: Y e ss) := by
  refine Fun.intro Try.func77 rfl rfl rfl fun w R => ?_
  refine St.seq ?_
  refine St.region ?_
  refine St.loadB 0 rfl rfl (.head _) rfl rfl ?_
  refine St.rangeV rfl rfl (.s .z) rfl rfl fun it => ?_
  refine St.done ?_
  refine St.thenN ?_
  refine St.slots (Γ' := [(0, .func (.yield l) #[] #[]), (1, .pointer (some ⟨g, 0, none⟩)), (5, .pointer (some ⟨it, 0, none⟩))]) ⟨rfl, rfl, rfl, trivial⟩ ?_
  refine St.block ?_
  refine St.loop (mCount_ok (keysOf m).length) (fun (_ : Nat) (_ : List Int × ε) => [(0, .func (.yield l) #[] #[]), (1, .pointer (some ⟨g, 0, none⟩)), (5, .pointer (some ⟨it, 0, none⟩))]) (fun _ e => .res (MapIt (kint .u8) (cod eu8) A m it e.1) :: .res (Box g 71 [.map A]) :: (Y e.2 e.1 ++ R)) (fun k e => e.1.length + k = (keysOf m).length) ([], e0) (by simp) ⟨rfl, rfl, rfl, trivial⟩ (fun _ w => w) ?_
  rintro k ⟨done, e⟩ hk -
  replace hk : done.length + k = (keysOf m).length := hk
  refine St.seq ?_
  refine St.region ?_
  refine St.nextV rfl rfl .z (fun hp => ?_) (fun x v hlt => ?_)
  · refine St.p rfl rfl ?_
    refine St.done ?_
    refine St.thenN ?_
    refine St.seq ?_
    refine St.condF rfl ?_
    refine St.exit ?_
    repeat (first | refine St.thenX ?_ | refine St.blkMiss rfl ?_)
    refine St.blkHit ?_
    exact St.finN (rs := []) rfl rfl (.res (Box g 71 [.map A]) :: .res (MapV (kint .u8) (cod eu8) A m) :: Y e done) ⟨e, done, hp, rfl⟩ (fun _ w => (w.itV).front (.s .z))
  · replace hlt : done.length < (keysOf m).length := hlt
    refine St.p rfl rfl ?_
    refine St.done ?_
    refine St.thenN ?_
    refine St.seq ?_
    refine St.condT rfl ?_
    refine St.skip ?_
    refine St.thenN ?_
    refine St.slots (Γ' := [(0, .func (.yield l) #[] #[]), (1, .pointer (some ⟨g, 0, none⟩)), (5, .pointer (some ⟨it, 0, none⟩))]) ⟨rfl, rfl, rfl, trivial⟩ ?_
    refine St.block ?_
    refine St.seq ?_
    refine St.region ?_
    refine St.entryV rfl rfl (.head _) fun v2 => ?_
    iterate 2 refine St.p rfl rfl ?_
    refine St.done ?_
    refine St.thenN ?_
    refine St.seq ?_
    refine St.regionI ?_
    iterate 2 refine St.p rfl rfl ?_
    refine St.yield hY (e := e) (pre := done) (R := .res (MapIt (kint .u8) (cod eu8) A m it (done ++ [x])) :: .res (Box g 71 [.map A]) :: R) (by omega) rfl rfl rfl (fun _ w => w.perm ?_) fun e' => ?_
    · exact ((List.perm_middle (l₁ := Y e done)).trans (List.Perm.cons _ (List.perm_middle (l₁ := Y e done)))).symm
    refine St.p rfl rfl ?_
    refine St.doneI ?_
    refine St.thenN ?_
    refine St.condF rfl ?_
    refine St.skip ?_
    refine St.blkN ?_
    refine St.thenN ?_
    exact St.again (k - 1) (done ++ [x], e') (by simp only [mCount]; rw [if_neg (by omega)]) (by show (done ++ [x]).length + (k - 1) = _; rw [List.length_append, List.length_singleton]; omega) ⟨rfl, rfl, rfl, trivial⟩ (fun _ w => w.perm ((List.perm_middle (l₁ := Y e' (done ++ [x]))).trans (List.Perm.cons _ (List.perm_middle (l₁ := Y e' (done ++ [x]))))))
end Go.Proofs.Ythdpagcklakahaa
end
section
namespace Go.Proofs.Ythdpagcklakahaa
open Go
set_option linter.unusedSectionVars false
set_option linter.unusedVariables false
set_option maxRecDepth 10000
def LoopR (l : Nat) (r : Loop) : Res where
  gs := [l]
  p h := h l = some (.loop r)
  loc m m' h k := (h l (by simp)).symm.trans k
def DefR (b : Nat) : Res where
  gs := [b]
  p h := h b = some (.deferred (some []))
  loc m m' h k := (h b (by simp)).symm.trans k
theorem put_wrote {w : World} {l : Nat} {o : Obj} : Wrote [l] w (w.putObj l o) := ⟨⟨rfl, rfl, rfl, by show w.heap.size ≤ (w.heap.setIfInBounds l o).size; simp⟩, fun k _ hn => World.putObj_heap_other (by simpa using hn)⟩
theorem Sat.loopR {l : Nat} {r r' : Loop} {F : List As} {w : World} (h : Sat (.res (LoopR l r) :: F) w) : Sat (.res (LoopR l r') :: F) (w.putObj l (.loop r')) := by
  have hlt : l < w.heap.size := h.lt (by simp [blocks, As.gs, LoopR])
  refine h.exchange (r' := LoopR l r') put_wrote (by simp [LoopR]) (fun k hk => ⟨Nat.lt_of_lt_of_le (by simp [LoopR] at hk; subst hk; exact hlt) put_wrote.size, .inl hk⟩) (World.putObj_heap_same hlt) trivial
theorem wpList_df {P : Program} {ops : Array Oper} {D : List Deferred} {Qx Q : Exit → Act → World → Prop} (hq : ∀ e a w, Qx e a w → e = .normal ∧ Q .normal { a with defers := D } w) : ∀ (l : List Oper) (a : Act) (w : World), (∀ o ∈ l, PlainO o) → wpList P ops Qx l a w → wpList P ops Q l { a with defers := D } w
  | [], a, w, _, h => (hq _ _ _ h).2
  | o :: l, a, w, ho, h => by
    obtain ⟨⟨hg, hnd⟩, hr⟩ := ho o (by simp)
    have hw : Region.wanted o (yielded ops a.tmps) = true := by simp [Region.wanted, hg]
    unfold wpList at h
    rw [if_pos hw] at h
    refine wpList_plain hg fun K hK => ?_
    have hput : ∀ v, ({ a with defers := D } : Act).put o.dst v = { (a.put o.dst v) with defers := D } := fun v => by
      unfold Act.put
      cases o.dst <;> rfl
    rcases h with h | ⟨_, a', w', h⟩
    · unfold Oper.wp at h ⊢
      have hok := hr P a.eval w
      have hev : ({ a with defers := D } : Act).eval = a.eval := by
        funext x; cases x <;> rfl
      rw [hev]
      revert h hok
      generalize (execOp a.eval o).run P w = r
      intro h hok
      cases r with
      | ok nx w' =>
        cases nx with
        | value v => exact hK _ _ (by rw [hput]; exact wpList_df hq l _ _ (fun o' h' => ho o' (by simp [h'])) h)
        | skip => exact hK _ _ (by rw [hput]; exact wpList_df hq l _ _ (fun o' h' => ho o' (by simp [h'])) h)
        | _ => exact hok.elim
      | halt hh w' =>
        cases hh with
        | panic v => have := (hq _ _ _ h).1; cases this
        | _ => exact False.elim h
    · have := (hq _ _ _ h).1
      cases this
section
variable {P : Program} [T : HasTT P] {w0 : World} {nt : Nat} {Γ Γ' : Env} {F F' G R : List As} {Q : Exit → Act → World → Prop} {ops : Array Oper} {rest : List Oper}
def Ends (w0 : World) (nt : Nat) (Γ : Env) (F : List As) : Exit → Act → World → Prop := fun e a w => e = .normal ∧ a.tmps.size = nt ∧ a.defers = [] ∧ At a Γ ∧ Sat F w ∧ Same w0 w
theorem St.ends : St w0 nt Γ F (Ends w0 nt Γ F .normal) := fun a w hs hd ha hf hw => ⟨rfl, hs, hd, ha, hf, hw⟩
theorem round_ok {ε : Type} {l N p q i1 i2 i3 fn b : Nat} {la lb : List Oper} {tmps : Array Value} {Y0 : ε → List Int → List As}
    (hs : tmps.size = nt) (hΓ : At { tmps := tmps, defers := [] } Γ) (hp : Nat.blt p nt = true)
    (pa : ∀ o ∈ la, PlainO o) (pb : ∀ o ∈ lb, PlainO o)
    (hA : ∀ (x : Int) (F : List As) (w1 : World), St w1 nt ((p, .int .u8 x) :: Γ) F (wpList P la.toArray (Ends w1 nt ((q, .int .u8 x) :: Γ) F) la))
    (hB : ∀ (e : ε) (pre : List Int) (x : Int) (R : List As) (w1 : World), pre.length < N → St w1 nt ((q, .int .u8 x) :: Γ) (Y0 e pre ++ R) (wpList P lb.toArray (fun o a w => o = .normal ∧ ∃ e', Sat (Y0 e' (pre ++ [x]) ++ R) w ∧ Same w1 w) lb)) :
    YFun P l N (fun e pre => .res (LoopR l { state := .ready, pending := none, fn := fn, tmps := tmps, params := #[p], assign := Code.region i1 la.toArray false, body := Code.block i2 (Code.region i3 lb.toArray false), defers := b }) :: Y0 e pre) := by
  intro e pre x w R hl hsat
  generalize hrec : ({ state := .ready, pending := none, fn := fn, tmps := tmps, params := #[p], assign := Code.region i1 la.toArray false, body := Code.block i2 (Code.region i3 lb.toArray false), defers := b } : Loop) = r at hsat ⊢
  have hL : w.heap[l]? = some (.loop r) := hsat.res (List.mem_cons_self ..)
  have hy := run_yield (P := P) (args := #[.int .u8 x]) hL (by rw [← hrec]; rfl)
  refine ⟨_, _, _, _, hy, roundIn_of_wpIn trivial ?_⟩
  have htm : (r.params.zip #[.int .u8 x]).foldl (fun tmps (t, a) => tmps.setIfInBounds t a) r.tmps = tmps.setIfInBounds p (.int .u8 x) := by
    rw [← hrec]; simp
  rw [htm]
  have hra : r.assign = Code.region i1 la.toArray false := by rw [← hrec]
  have hrb : r.body = Code.block i2 (Code.region i3 lb.toArray false) := by rw [← hrec]
  have hrs : r.state = .ready := by rw [← hrec]
  have hrp : r.pending = none := by rw [← hrec]
  rw [hra]
  have hple : p < nt := Nat.le_of_ble_eq_true hp
  have ha0 : At { tmps := tmps.setIfInBounds p (.int .u8 x), defers := [] } ((p, .int .u8 x) :: Γ) := At.put (a := { tmps := tmps, defers := [] }) hΓ (by show p < tmps.size; omega)
  refine wpIn_region_lit (wpList_in (fun _ => trivial) ?_ _ _ _ pa (hA x _ w _ w (by simp [hs]) rfl ha0 hsat (Same.refl w)))
  rintro o a1 w1 ⟨rfl, h1, h2, h3, h4, h5⟩
  refine ⟨rfl, ?_⟩
  have hL1 : w1.heap[l]? = some (.loop r) := h4.res (List.mem_cons_self ..)
  refine ⟨_, run_beginRound hL1 hrs, ?_⟩
  have h6 := h4.loopR (r' := { r with state := .busy })
  have hsm : Same w1 (w1.putObj l (.loop { r with state := .busy })) := (put_wrote (w := w1) (l := l)).toSame
  revert h6 hsm
  generalize w1.putObj l (.loop { r with state := .busy }) = wB
  intro h6 hsm
  rw [hrb]
  refine wpIn_block (wpIn_region_lit (wpList_in (fun _ => trivial) ?_ _ _ _ pb (hB e pre x (.res (LoopR l { r with state := .busy }) :: R) _ hl a1 _ h1 h2 h3 (h6.perm (List.perm_middle (l₁ := Y0 e pre)).symm) (Same.refl _))))
  rintro o a2 w2 ⟨rfl, e', h7, h8⟩
  refine ⟨rfl, ?_⟩
  have h9 := h7.perm (List.perm_middle (l₁ := Y0 e' (pre ++ [x])))
  have hL2 : w2.heap[l]? = some (.loop { r with state := .busy }) := h9.res (List.mem_cons_self ..)
  refine ⟨_, _, run_endRound none hL2, rfl, e', ?_, ?_⟩
  · have h10 := h9.loopR (r' := r)
    have er : ({ ({ r with state := .busy } : Loop) with state := if (none : Option Code).isNone then .ready else .done, pending := none } : Loop) = r := by
      rw [← hrec]; rfl
    rw [er]
    exact h10
  · exact h5.trans (hsm.trans (h8.trans (put_wrote (w := w2) (l := l)).toSame))
end
theorem Fun.introM {P : Program} {f : FuncId} {fn : Func} {c : Code} {args : List Value} {F : List As} {Post : Value → List As → Prop} {nt : Nat} (hf : P.funcs[f]? = some fn) (hb : fn.body = some c) (hn : fn.ntmps = nt) (hl : Nat.ble args.length nt = true)
    (h : ∀ w R, St w nt (envFrom 0 args) (F ++ R) (c.wp P (bodyPostM Fence.wide 0 P fn (Out w R Post)))) : Fun P f args F Post := by
  intro w R hs
  have hl' := Nat.le_of_ble_eq_true hl
  refine (callsIn_wide (n := 0)).1 (callsIn_of_wp_marks hf hb trivial (wpIn_wide.2 (h w R _ w ?_ rfl ?_ hs (Same.refl w))) rfl)
  · simp [hn]; omega
  · refine At.envFrom _ _ args 0 fun i v hv => ?_
    rw [Nat.zero_add]
    have hi := (List.getElem?_eq_some_iff.1 hv).1
    rw [Array.getElem?_append_left (by simpa using hi)]
    simpa using hv
theorem run_callFunc {P : Program} {f : FuncId} (he : Ent P f) (args : Array Value) (w : World) : (callFunc f args).run P w = .ok (.enter f args) w := by
  obtain ⟨fn, h1, h2, h3⟩ := he
  unfold callFunc
  rw [Sem.run_bind, run_program]
  simp only [Result.andThen_ok, h1, h2, h3, Bool.false_eq_true, if_false, Sem.run_pure]
theorem Sat.letgo {r : Res} {F : List As} {w w' : World} (h : Sat (.res r :: F) w) (hw : Wrote r.gs w w') : Sat F w' :=
  (h.exchange (r' := ⟨r.gs, fun _ => True, fun _ _ _ _ => trivial, fun _ _ => True, fun _ _ _ _ _ _ _ => trivial⟩) hw (List.nodup_append.1 h.nodup).1 (fun k hk => ⟨Nat.lt_of_lt_of_le (h.lt (by simp only [blocks, As.gs]; exact List.mem_append_left _ hk)) hw.size, .inl hk⟩) trivial trivial).tail
theorem St.rangeFn {P : Program} [T : HasTT P] {w0 : World} {nt : Nat} {Γ : Env} {F G R : List As} {Q : Exit → Act → World → Prop} {ε : Type} {N p q i1 i2 i3 f : Nat} {la lb : List Oper} {x : Operand} {caps : List Value} {Y0 : ε → List Int → List As} {S : List Int → Prop} (e0 : ε)
    (hx : ev Γ x = some (.func (.func f) #[] caps.toArray)) (he : Ent P f) (hp : Nat.blt p nt = true) (hF : ∀ w, Sat F w → Sat (G ++ (Y0 e0 [] ++ R)) w)
    (hcall : ∀ (l : Nat) (Y : ε → List Int → List As), YFun P l N Y → Fun P f (.func (.yield l) #[] #[] :: caps) (G ++ Y e0 []) (fun v F' => ∃ e ss, S ss ∧ F' = G ++ Y e ss))
    (pa : ∀ o ∈ la, PlainO o) (pb : ∀ o ∈ lb, PlainO o)
    (hA : ∀ (x : Int) (F : List As) (w1 : World), St w1 nt ((p, .int .u8 x) :: Γ) F (wpList P la.toArray (Ends w1 nt ((q, .int .u8 x) :: Γ) F) la))
    (hB : ∀ (e : ε) (pre : List Int) (x : Int) (R : List As) (w1 : World), pre.length < N → St w1 nt ((q, .int .u8 x) :: Γ) (Y0 e pre ++ R) (wpList P lb.toArray (fun o a w => o = .normal ∧ ∃ e', Sat (Y0 e' (pre ++ [x]) ++ R) w ∧ Same w1 w) lb))
    (k : ∀ (b : Nat) (e : ε) (ss : List Int), S ss → ∀ a w, a.tmps.size = nt → a.defers = [] → At a Γ → Sat (.res (DefR b) :: (G ++ (Y0 e ss ++ R))) w → Same w0 w → Q .normal { a with defers := [{ target := .collected b, args := #[] }] } w) :
    St w0 nt Γ F ((Code.rangeFunc x #[p] (Code.region i1 la.toArray false) (Code.block i2 (Code.region i3 lb.toArray false))).wp P Q) := by
  intro a w1 hs hdf ha hf hw
  refine (wpIn_wide (n := 0)).1 (wpIn_rangeFunc fun fn _ => ?_)
  have hf2 := (hF w1 hf).add_res (Ext.alloc w1 (.deferred (some []))) (DefR w1.heap.size) (by simp [DefR]) (fun k hk => by simp [DefR] at hk; subst hk; simp) (hp_alloc w1 _) trivial
  have hs2 : (w1.alloc (.deferred (some []))).heap.size = w1.heap.size + 1 := by simp
  have hround := round_ok (P := P) (l := w1.heap.size + 1) (N := N) (p := p) (q := q) (i1 := i1) (i2 := i2) (i3 := i3) (fn := fn) (b := w1.heap.size) (tmps := a.tmps) (Y0 := Y0) hs (fun i v hv => ha i v hv) hp pa pb hA hB
  generalize hrec : ({ state := .ready, pending := none, fn := fn, tmps := a.tmps, params := #[p], assign := Code.region i1 la.toArray false, body := Code.block i2 (Code.region i3 lb.toArray false), defers := w1.heap.size } : Loop) = rec at hround
  have hf3 := hf2.add_res (Ext.alloc _ (.loop rec)) (LoopR (w1.heap.size + 1) rec) (by simp [LoopR]) (fun k hk => by simp [LoopR] at hk; subst hk; simp) (by have := hp_alloc (w1.alloc (.deferred (some []))) (.loop rec); rwa [hs2] at this) trivial
  have hsm : Same w1 ((w1.alloc (.deferred (some []))).alloc (.loop rec)) := (Ext.alloc w1 _).toSame.trans (Ext.alloc _ _).toSame
  have henter := run_enterLoop_outer (P := P) (w := w1) fn a.tmps #[p] (Code.region i1 la.toArray false) (Code.block i2 (Code.region i3 lb.toArray false))
  rw [hrec] at henter
  revert hf3 hsm henter
  generalize (w1.alloc (.deferred (some []))).alloc (.loop rec) = w3
  intro hf3 hsm henter
  refine ⟨w1.heap.size + 1, _, w3, { target := .fn (.func f) caps.toArray, args := #[.func (.yield (w1.heap.size + 1)) #[] #[]] }, w3, f, (Value.func (.yield (w1.heap.size + 1)) #[] #[] :: caps).toArray, w3, henter, ?_, fun _ _ => trivial, ?_, fun h => by simp [Fence.wide] at h, callsIn_wide.2 ?_⟩
  · have hev : Act.eval { tmps := a.tmps, defers := a.defers } x = .func (.func f) #[] caps.toArray := ha.eval hx
    simp [resolve, ha.eval hx, Deferred.ofValue]
    try rfl
  · simp only [invoke]
    have := run_callFunc he (#[Value.func (.yield (w1.heap.size + 1)) #[] #[]] ++ caps.toArray) w3
    rw [this]
    congr 2
    simp
  · have hmid : ∀ (Y R : List As) (X : As), (G ++ (Y ++ X :: R)).Perm (X :: (G ++ (Y ++ R))) := fun Y R X => by
      rw [← List.append_assoc, ← List.append_assoc]
      exact List.perm_middle
    have hc := hcall _ _ hround w3 (.res (DefR w1.heap.size) :: R) (hf3.perm ?_)
    · refine hc.mono ?_
      rintro o w4 ⟨v, F', rfl, ⟨e, ss, hS, rfl⟩, hsat, hsame⟩
      have hsat2 := hsat.perm (G := .res (LoopR (w1.heap.size + 1) rec) :: .res (DefR w1.heap.size) :: (G ++ (Y0 e ss ++ R))) (by
        rw [List.append_assoc]
        exact (List.perm_middle (l₁ := G)).trans (List.Perm.cons _ (hmid _ _ _)))
      have hL : w4.heap[w1.heap.size + 1]? = some (.loop rec) := hsat2.res (List.mem_cons_self ..)
      have hend := run_endLoop (P := P) hL (by rw [← hrec]; simp)
      have hpn : rec.pending = none := by rw [← hrec]
      have hwr : Wrote (LoopR (w1.heap.size + 1) rec).gs w4 (w4.putObj (w1.heap.size + 1) (.loop { rec with state := .exhausted })) := put_wrote
      revert hend hwr
      generalize w4.putObj (w1.heap.size + 1) (.loop { rec with state := .exhausted }) = w5
      intro hend hwr
      rw [hpn] at hend
      refine ⟨none, w5, hend, ?_⟩
      have h5 := hsat2.letgo hwr
      have := k w1.heap.size e ss hS a w5 hs hdf ha h5 (hw.trans (hsm.trans (hsame.trans hwr.toSame)))
      rw [hdf]
      exact this
    · rw [List.append_assoc]
      exact (List.Perm.cons _ (hmid _ _ _).symm).trans (List.perm_middle (l₁ := G)).symm
end Go.Proofs.Ythdpagcklakahaa
end
section
namespace Go.Proofs.Ythdpagcklakahaa
open Go
set_option linter.unusedSectionVars false
set_option linter.unusedVariables false
set_option maxRecDepth 10000
def colY (bs : Nat) (e : Option Addr × Nat) (pre : List Int) : List As := [.res (Box bs 37 [.slice e.1 pre.length e.2]), .res (OwnL eu8 5 e.1 e.2 pre)]
theorem entKeys1 : Ent Try.prog 77 := ⟨_, Try.func77, by kernel_rfl, by kernel_rfl⟩
theorem c_appendSeq {g : Nat} {A : Option Nat} {m : Option (List (Int × List Int))} (hm : (keysOf m).length ≤ 1000) :
    Fun Try.prog 82 [.slice none 0 0, .func (.func 77) #[] #[.pointer (some ⟨g, 0, none⟩)]] [.res (Box g 71 [.map A]), .res (MapV (kint .u8) (cod eu8) A m)]
      (fun v F' => ∃ B c ss, (ss.map (kint .u8).v).Perm ((keysOf m).map (kint .u8).v) ∧ v = .slice B ss.length c ∧ F' = [.res (Box g 71 [.map A]), .res (MapV (kint .u8) (cod eu8) A m), .res (OwnL eu8 5 B c ss)]) := by
  refine Fun.introM Try.func82 rfl rfl rfl fun w R => ?_
  refine St.seq ?_
  refine St.region ?_
  refine St.box rfl rfl fun bs => ?_
  refine St.p rfl rfl ?_
  refine St.done ?_
  refine St.thenN ?_
  refine St.seq ?_
  refine St.seq ?_
  refine St.region ?_
  refine St.p rfl rfl ?_
  refine St.done ?_
  refine St.thenN ?_
  refine St.slots (Γ' := [(2, .pointer (some ⟨bs, 0, none⟩)), (6, .func (.func 77) #[] #[.pointer (some ⟨g, 0, none⟩)])]) ⟨rfl, rfl, trivial⟩ ?_
  refine St.block ?_
  refine St.rangeFn (N := 1000) (q := 5) (caps := [.pointer (some ⟨g, 0, none⟩)]) (Y0 := colY bs) (S := fun ss => (ss.map (kint .u8).v).Perm ((keysOf m).map (kint .u8).v)) (G := [.res (Box g 71 [.map A]), .res (MapV (kint .u8) (cod eu8) A m)]) (R := R) (none, 0) rfl entKeys1 rfl (fun w h => (((h.nilL eu8 5).front (.s .z)).front (.s (.s (.s .z)))).front (.s (.s (.s .z)))) (fun l Y hY => c_keys1 hY hm _) ?_ ?_ (fun x F w1 => ?_) (fun e pre x R w1 hl => ?_) ?_
  · intro o ho
    simp only [List.mem_cons, List.not_mem_nil, or_false] at ho
    subst ho
    exact plain_assign
  · intro o ho
    simp only [List.mem_cons, List.not_mem_nil, or_false] at ho
    rcases ho with rfl | rfl | rfl | rfl | rfl
    · exact plain_load
    · exact plain_move
    · exact plain_build
    · exact plain_append
    · exact plain_store
  · refine St.p rfl rfl ?_
    refine St.done ?_
    refine St.slots (Γ' := [(5, .int .u8 x), (2, .pointer (some ⟨bs, 0, none⟩)), (6, .func (.func 77) #[] #[.pointer (some ⟨g, 0, none⟩)])]) ⟨rfl, rfl, rfl, trivial⟩ ?_
    exact St.ends
  · have happ : app 1 pre [x] = some (pre ++ [x]) := by
      unfold app
      rw [if_pos (by simp; omega)]
    refine St.loadB 0 rfl rfl (.head _) rfl rfl ?_
    refine St.p rfl rfl ?_
    refine St.buildSlice rfl rfl rfl rfl rfl rfl rfl rfl fun g1 => ?_
    refine St.app (E := eu8) happ rfl rfl rfl (.s (.s .z)) rfl rfl rfl rfl rfl rfl rfl rfl (srcB (.head _) rfl rfl) rfl rfl fun A4 c4 => ?_
    refine St.store 0 rfl rfl rfl rfl rfl rfl (.s (.s .z)) rfl ?_
    refine St.done ?_
    intro a w hs hdf ha hf hw
    exact ⟨rfl, (A4, c4), ((.k (.k (.d .z))) : Keep _ _).sat hf, hw⟩
  · intro b e ss hS a w1 hs hdf ha hf hw
    have hst : ∀ {X : Act → World → Prop}, St w _ [(2, .pointer (some ⟨bs, 0, none⟩)), (6, .func (.func 77) #[] #[.pointer (some ⟨g, 0, none⟩)])] (.res (DefR b) :: ([.res (Box g 71 [.map A]), .res (MapV (kint .u8) (cod eu8) A m)] ++ (colY bs e ss ++ R))) X → X a w1 := fun h => h a w1 hs hdf ha hf hw
    refine wp_seq ?_
    refine wp_region_lit (wpList_df (Qx := Ends w Try.f82.ntmps [(4, .slice e.1 ss.length e.2)] (.res (DefR b) :: ([.res (Box g 71 [.map A]), .res (MapV (kint .u8) (cod eu8) A m)] ++ (colY bs e ss ++ R)))) ?_ _ a w1 ?_ (hst ?_))
    · rintro o a2 w2 ⟨rfl, h1, h2, h3, h4, h5⟩
      refine ⟨rfl, ?_⟩
      refine wp_ret ?_
      have hD : w2.heap[b]? = some (.deferred (some [])) := h4.res (List.mem_cons_self ..)
      have hwr : Wrote (DefR b).gs w2 (w2.putObj b (.deferred none)) := put_wrote
      have h6 := h4.letgo hwr
      refine ⟨by simp, .inl ⟨b, _, rfl, run_takeDeferred hD, .slice e.1 ss.length e.2, results_run h3 (rs := [.tmp 4]) rfl rfl, ?_⟩⟩
      refine ⟨_, _, rfl, ⟨e.1, e.2, ss, hS, rfl, rfl⟩, ?_, h5.trans hwr.toSame⟩
      exact ((.k (.k (.d (.k .z)))) : Keep _ _).sat h6
    · intro o ho
      simp only [List.mem_cons, List.not_mem_nil, or_false] at ho
      rcases ho with rfl | rfl
      · exact plain_load
      · exact plain_assign
    · refine St.loadB 0 rfl rfl (.tail _ (.tail _ (.tail _ (.head _)))) rfl rfl ?_
      refine St.p rfl rfl ?_
      refine St.done ?_
      refine St.slots (Γ' := [(4, .slice e.1 ss.length e.2)]) ⟨rfl, trivial⟩ ?_
      exact St.ends
end Go.Proofs.Ythdpagcklakahaa
end
section
namespace Go.Proofs.Ythdpagcklakahaa
open Go
set_option linter.unusedVariables false
set_option maxRecDepth 4000
theorem ent97 : Ent Try.prog 97 := ⟨_, Try.func97, by kernel_rfl, by kernel_rfl⟩
noncomputable def m_math_bits_Len64 (x_p0 : Int) : Option Int :=
  bnd ((bif decide (x_p0 ≥ 4294967296) then (some (iShr .u64 x_p0 32, 32)) else (some (x_p0, 0)) : Option (Int × Int))) fun o1 => bnd ((bif decide (o1.1 ≥ 65536) then (some (iShr .u64 o1.1 16, IntKind.wrap .i64 (o1.2 + 16))) else (some (o1.1, o1.2)) : Option (Int × Int))) fun o2 => bif decide (o2.1 ≥ 256) then (bnd (eltS (⟨#[0, 1, 2, 2, 3, 3, 3, 3, 4, 4, 4, 4, 4, 4, 4, 4, 5, 5, 5, 5, 5, 5, 5, 5, 5, 5, 5, 5, 5, 5, 5, 5, 6, 6, 6, 6, 6, 6, 6, 6, 6, 6, 6, 6, 6, 6, 6, 6, 6, 6, 6, 6, 6, 6, 6, 6, 6, 6, 6, 6, 6, 6, 6, 6, 7, 7, 7, 7, 7, 7, 7, 7, 7, 7, 7, 7, 7, 7, 7, 7, 7, 7, 7, 7, 7, 7, 7, 7, 7, 7, 7, 7, 7, 7, 7, 7, 7, 7, 7, 7, 7, 7, 7, 7, 7, 7, 7, 7, 7, 7, 7, 7, 7, 7, 7, 7, 7, 7, 7, 7, 7, 7, 7, 7, 7, 7, 7, 7, 8, 8, 8, 8, 8, 8, 8, 8, 8, 8, 8, 8, 8, 8, 8, 8, 8, 8, 8, 8, 8, 8, 8, 8, 8, 8, 8, 8, 8, 8, 8, 8, 8, 8, 8, 8, 8, 8, 8, 8, 8, 8, 8, 8, 8, 8, 8, 8, 8, 8, 8, 8, 8, 8, 8, 8, 8, 8, 8, 8, 8, 8, 8, 8, 8, 8, 8, 8, 8, 8, 8, 8, 8, 8, 8, 8, 8, 8, 8, 8, 8, 8, 8, 8, 8, 8, 8, 8, 8, 8, 8, 8, 8, 8, 8, 8, 8, 8, 8, 8, 8, 8, 8, 8, 8, 8, 8, 8, 8, 8, 8, 8, 8, 8, 8, 8, 8, 8, 8, 8, 8, 8, 8, 8, 8, 8, 8, 8]⟩) (IntKind.wrap .u8 (iShr .u64 o2.1 8))) fun y1 => some (IntKind.wrap .i64 ((IntKind.wrap .i64 (o2.2 + 8)) + (IntKind.wrap .i64 y1)))) else (bnd (eltS (⟨#[0, 1, 2, 2, 3, 3, 3, 3, 4, 4, 4, 4, 4, 4, 4, 4, 5, 5, 5, 5, 5, 5, 5, 5, 5, 5, 5, 5, 5, 5, 5, 5, 6, 6, 6, 6, 6, 6, 6, 6, 6, 6, 6, 6, 6, 6, 6, 6, 6, 6, 6, 6, 6, 6, 6, 6, 6, 6, 6, 6, 6, 6, 6, 6, 7, 7, 7, 7, 7, 7, 7, 7, 7, 7, 7, 7, 7, 7, 7, 7, 7, 7, 7, 7, 7, 7, 7, 7, 7, 7, 7, 7, 7, 7, 7, 7, 7, 7, 7, 7, 7, 7, 7, 7, 7, 7, 7, 7, 7, 7, 7, 7, 7, 7, 7, 7, 7, 7, 7, 7, 7, 7, 7, 7, 7, 7, 7, 7, 8, 8, 8, 8, 8, 8, 8, 8, 8, 8, 8, 8, 8, 8, 8, 8, 8, 8, 8, 8, 8, 8, 8, 8, 8, 8, 8, 8, 8, 8, 8, 8, 8, 8, 8, 8, 8, 8, 8, 8, 8, 8, 8, 8, 8, 8, 8, 8, 8, 8, 8, 8, 8, 8, 8, 8, 8, 8, 8, 8, 8, 8, 8, 8, 8, 8, 8, 8, 8, 8, 8, 8, 8, 8, 8, 8, 8, 8, 8, 8, 8, 8, 8, 8, 8, 8, 8, 8, 8, 8, 8, 8, 8, 8, 8, 8, 8, 8, 8, 8, 8, 8, 8, 8, 8, 8, 8, 8, 8, 8, 8, 8, 8, 8, 8, 8, 8, 8, 8, 8, 8, 8, 8, 8, 8, 8, 8, 8]⟩) (IntKind.wrap .u8 o2.1)) fun y2 => some (IntKind.wrap .i64 (o2.2 + (IntKind.wrap .i64 y2))))
theorem c_math_bits_Len64 {x_p0 : Int} {r : Int} (h : m_math_bits_Len64 x_p0 = some r) :
    Fun Try.prog 97 [.int .u64 x_p0] [] (Val (.int .i64 r)) := by
 unfold m_math_bits_Len64 at h
 refine Fun.intro Try.func97 rfl rfl rfl fun w R => ?_;refine .ae rfl ?_;refine .seq ?_;obtain ⟨o1, hj1, h⟩ := bnd_e h;refine .cutE (fun (e1 : Unit) => [(0, .int .u64 o1.1), (2, .int .i64 o1.2)]) (fun e1 => R) ?_ ?_
 ·refine .ab [0,2,4] rfl ?_;refine .cb hj1 rfl (fun hj1 => ?_) (fun hj1 => ?_)
  ·refine .ab [0] rfl ?_;refine .region ?_;cases hj1;refine .be rfl ?_;exact .hereE () (zb rfl) (fun _ w => w)
  cases hj1;refine .sk ?_;exact .hereE () (zb rfl) (fun _ w => w)
 rintro e1;refine .seq ?_;obtain ⟨o2, hj2, h⟩ := bnd_e h;refine .cutE (fun (e2 : Unit) => [(0, .int .u64 o2.1), (2, .int .i64 o2.2)]) (fun e2 => R) ?_ ?_
 ·refine .ab [0,2,8] rfl ?_;refine .cb hj2 rfl (fun hj2 => ?_) (fun hj2 => ?_)
  ·refine .ab [0,2] rfl ?_;refine .region ?_;cases hj2;refine .be rfl ?_;exact .hereE () (zb rfl) (fun _ w => w)
  cases hj2;refine .sk ?_;exact .hereE () (zb rfl) (fun _ w => w)
 rintro e2;refine .seq ?_;refine .ab [0,2,14] rfl ?_;refine .cb h rfl (fun h => ?_) (fun h => ?_)
 ·refine .ab [0,2] rfl ?_;refine .region ?_;refine .b [0,2] rfl ?_;refine .a 3 rfl ?_;obtain ⟨y1, hy1, h⟩ := bnd_e h;refine .eltS rfl rfl rfl rfl rfl hy1 ?_;refine .b [2] rfl ?_;cases h;exact .rt rfl Try.results97 (.tmp rfl .nil) rfl ⟨rfl, rfl⟩ (fun _ w => w)
 refine .sk ?_;refine .pr [0,2] rfl ?_;refine .a 3 rfl ?_;obtain ⟨y2, hy2, h⟩ := bnd_e h;refine .eltS rfl rfl rfl rfl rfl hy2 ?_;refine .b [2] rfl ?_;cases h;exact .rt rfl Try.results97 (.tmp rfl .nil) rfl ⟨rfl, rfl⟩ (fun _ w => w)
theorem ent84 : Ent Try.prog 84 := ⟨_, Try.func84, by kernel_rfl, by kernel_rfl⟩
noncomputable def m_math_bits_Len (x_p0 : Int) : Option Int :=
  bnd (m_math_bits_Len64 x_p0) fun r1 => some r1
theorem c_math_bits_Len {x_p0 : Int} {r : Int} (h : m_math_bits_Len x_p0 = some r) :
    Fun Try.prog 84 [.int .u64 x_p0] [] (Val (.int .i64 r)) := by
 unfold m_math_bits_Len at h
 refine Fun.intro Try.func84 rfl rfl rfl fun w R => ?_;refine .ab [0] rfl ?_;refine .seq ?_;refine .condF rfl ?_;refine .sk ?_;refine .a 1 rfl ?_;obtain ⟨r1, hr1, h⟩ := bnd_e h;refine .callV (c_math_bits_Len64 hr1) ent97 rfl rfl rfl rfl trivial ?_;refine .b [2] rfl ?_;cases h;exact .rt rfl Try.results84 (.tmp rfl .nil) rfl ⟨rfl, rfl⟩ (fun _ w => w)
theorem ent103 : Ent Try.prog 103 := ⟨_, Try.func103, by kernel_rfl, by kernel_rfl⟩
noncomputable def m_cmp_isNaN_uint8 (x_p0 : Int) : Option Bool :=
  some (x_p0 != x_p0)
theorem c_cmp_isNaN_uint8 {x_p0 : Int} {r : Bool} (h : m_cmp_isNaN_uint8 x_p0 = some r) :
    Fun Try.prog 103 [.int .u8 x_p0] [] (Val (.bool r)) := by
 unfold m_cmp_isNaN_uint8 at h
 refine Fun.intro Try.func103 rfl rfl rfl fun w R => ?_;refine .ab [0] rfl ?_;refine .ab [2] rfl ?_;cases h;exact .rt rfl Try.results103 (.tmp rfl .nil) rfl ⟨rfl, rfl⟩ (fun _ w => w)
theorem ent93 : Ent Try.prog 93 := ⟨_, Try.func93, by kernel_rfl, by kernel_rfl⟩
noncomputable def m_cmp_Less_uint8 (x_p0 : Int) (y_p1 : Int) : Option Bool :=
  bnd ((bnd (m_cmp_isNaN_uint8 x_p0) fun r1 => bif r1 then (bnd (m_cmp_isNaN_uint8 y_p1) fun r2 => bif !r2 then (some true) else (some (decide (x_p0 < y_p1)))) else (some (decide (x_p0 < y_p1))) : Option Bool)) fun o1 => some o1
theorem c_cmp_Less_uint8 {x_p0 : Int} {y_p1 : Int} {r : Bool} (h : m_cmp_Less_uint8 x_p0 y_p1 = some r) :
    Fun Try.prog 93 [.int .u8 x_p0, .int .u8 y_p1] [] (Val (.bool r)) := by
 unfold m_cmp_Less_uint8 at h
 refine Fun.intro Try.func93 rfl rfl rfl fun w R => ?_;refine .ab [0,1] rfl ?_;refine .seq ?_;obtain ⟨o1, hj1, h⟩ := bnd_e h;refine .cutE (fun (e1 : Unit) => [(4, .bool o1)]) (fun e1 => R) ?_ ?_
 ·refine .region ?_;refine .p rfl rfl ?_;obtain ⟨r1, hr1, hj1⟩ := bnd_e hj1;refine .callV (c_cmp_isNaN_uint8 hr1) ent103 rfl rfl rfl rfl trivial ?_;refine .p rfl rfl ?_;refine .gSplit (dj := 7) _ rfl (fun hb1 => ?_) (fun hb1 => ?_)
  ·replace hj1 := bif_t hb1 hj1;refine .n 1 rfl ?_;refine .gOn (dj := 7) rfl rfl ?_;obtain ⟨r2, hr2, hj1⟩ := bnd_e hj1;refine .callV (c_cmp_isNaN_uint8 hr2) ent103 rfl rfl rfl rfl trivial ?_;refine .n 3 rfl ?_;refine .gSplit (dj := 12) _ rfl (fun hb2 => ?_) (fun hb2 => ?_)
   ·replace hj1 := bif_t hb2 hj1;cases hj1;refine .be rfl ?_;exact .hereE () (zb rfl) (fun _ w => w)
   replace hj1 := bif_f hb2 hj1;cases hj1;refine .be rfl ?_;exact .hereE () (zb rfl) (fun _ w => w)
  replace hj1 := bif_f hb1 hj1;cases hj1;refine .be rfl ?_;exact .hereE () (zb rfl) (fun _ w => w)
 rintro e1;cases h;exact .rt rfl Try.results93 (.tmp rfl .nil) rfl ⟨rfl, rfl⟩ (fun _ w => w)
theorem ent87 : Ent Try.prog 87 := ⟨_, Try.func87, by kernel_rfl, by kernel_rfl⟩
noncomputable def m_slices_insertionSortOrdered_uint8 (data : (List Int)) (a_p1 : Int) (b_p2 : Int) : Option (List Int) :=
  bnd (loopM (τ := List Int) (fun (s1 : List Int × Int) => bif decide (s1.2 < b_p2) then (bnd (loopM (τ := List Int) (fun (s2 : List Int × Int) => bnd ((bif decide (s2.2 > a_p1) then (bnd (elt s2.1 s2.2) fun x1 => bnd (elt s2.1 (IntKind.wrap .i64 (s2.2 - 1))) fun x2 => bnd (m_cmp_Less_uint8 x1 x2) fun r1 => some r1) else (some false) : Option Bool)) fun o3 => bif o3 then (bnd (elt s2.1 (IntKind.wrap .i64 (s2.2 - 1))) fun x3 => bnd (elt s2.1 (IntKind.wrap .i64 (s2.2 - 1))) fun x4 => bnd (elt s2.1 s2.2) fun x5 => bnd (elt s2.1 s2.2) fun x6 => bnd (setE s2.1 s2.2 x4) fun l1 => bnd (elt l1 (IntKind.wrap .i64 (s2.2 - 1))) fun x7 => bnd (setE l1 (IntKind.wrap .i64 (s2.2 - 1)) x5) fun l2 => some (.next (l2, IntKind.wrap .i64 (s2.2 - 1)))) else (some (.done s2.1))) (s1.1, s1.2)) fun o2 => some (.next (o2, IntKind.wrap .i64 (s1.2 + 1)))) else (some (.done s1.1))) (data, IntKind.wrap .i64 (a_p1 + 1))) fun o1 => some o1
theorem c_slices_insertionSortOrdered_uint8 {data : (List Int)} {a_p1 : Int} {b_p2 : Int} {A1 : Option Addr} {c1 : Nat} {r : (List Int)} (h : m_slices_insertionSortOrdered_uint8 data a_p1 b_p2 = some r) :
    Fun Try.prog 87 [.slice A1 data.length c1, .int .i64 a_p1, .int .i64 b_p2] [.res (OwnL eu8 5 A1 c1 data)] (fun v_ F_ => v_ = .tuple #[] ∧ F_ = [.res (OwnL eu8 5 A1 c1 r)]) := by
 unfold m_slices_insertionSortOrdered_uint8 at h
 refine Fun.intro Try.func87 rfl rfl rfl fun w R => ?_;refine .ab [0,1,2,6] rfl ?_;obtain ⟨o1, hl1, h⟩ := bnd_e h;refine .selfThen ?_;refine .cutE (fun (e2 : Unit) => []) (fun e2 => .res (OwnL eu8 5 A1 c1 o1) :: R) ?_ ?_
 ·refine .block ?_;refine .loop hl1 (fun (s1 : List Int × Int) (e1 : Unit) => [(0, .slice A1 s1.1.length c1), (1, .int .i64 a_p1), (2, .int .i64 b_p2), (6, .int .i64 s1.2)]) (fun s1 e1 => .res (OwnL eu8 5 A1 c1 s1.1) :: R) (fun _ _ => True) () trivial (zb rfl) (fun _ w => w) ?_;rintro s1 e1 - hit1;obtain ⟨st1, hm1, hd1⟩ := iter_e hit1;have h1 := hm1;refine .seq ?_;refine .ab [0,1,2,6,12] rfl ?_
  refine .cb h1 rfl (fun h1 => ?_) (fun h1 => ?_)
  ·refine .sk ?_;refine .pr [0,1,2,6] rfl ?_;refine .seq ?_;refine .block ?_;refine .ab [0,1,2,6,7] rfl ?_;obtain ⟨o2, hl2, h1⟩ := bnd_e h1;refine .selfThen ?_;refine .cutE (fun (e4 : Unit) => [(0, .slice A1 o2.length c1), (1, .int .i64 a_p1), (2, .int .i64 b_p2), (6, .int .i64 s1.2)]) (fun e4 => .res (OwnL eu8 5 A1 c1 o2) :: R) ?_ ?_
   ·refine .block ?_;refine .loop hl2 (fun (s2 : List Int × Int) (e3 : Unit) => [(0, .slice A1 s2.1.length c1), (1, .int .i64 a_p1), (2, .int .i64 b_p2), (6, .int .i64 s1.2), (7, .int .i64 s2.2)]) (fun s2 e3 => .res (OwnL eu8 5 A1 c1 s2.1) :: R) (fun _ _ => True) () trivial (zb rfl) (fun _ w => w) ?_;rintro s2 e3 - hit2;obtain ⟨st2, hm2, hd2⟩ := iter_e hit2;have h2 := hm2;refine .seq ?_
    refine .seq ?_;obtain ⟨o3, hj1, h2⟩ := bnd_e h2;refine .cutE (fun (e5 : Unit) => [(0, .slice A1 s2.1.length c1), (1, .int .i64 a_p1), (2, .int .i64 b_p2), (6, .int .i64 s1.2), (7, .int .i64 s2.2), (30, .bool o3)]) (fun e5 => .res (OwnL eu8 5 A1 c1 s2.1) :: R) ?_ ?_
    ·refine .regionF mixed (by kernel_rfl) ?_;refine .n 4 rfl ?_;refine .gSplit (dj := 19) _ rfl (fun hb2 => ?_) (fun hb2 => ?_)
     ·replace hj1 := bif_t hb2 hj1;refine .n 2 rfl ?_;refine .gOn (dj := 19) rfl rfl ?_;obtain ⟨x1, hx1, hj1⟩ := bnd_e hj1;refine .ixO hx1 rfl rfl rfl (.head _) rfl rfl rfl rfl rfl fun g1 hA => ?_;subst hA;refine .gOn (dj := 19) rfl rfl ?_;refine .ldO 0 hx1 rfl rfl (.head _) rfl rfl ?_;refine .n 3 rfl ?_;refine .gOn (dj := 19) rfl rfl ?_;obtain ⟨x2, hx2, hj1⟩ := bnd_e hj1
      refine .ixO hx2 rfl rfl rfl (.head _) rfl rfl rfl rfl rfl fun g2 hA => ?_;cases hA;refine .gOn (dj := 19) rfl rfl ?_;refine .ldO 0 hx2 rfl rfl (.head _) rfl rfl ?_;refine .gOn (dj := 19) rfl rfl ?_;obtain ⟨r1, hr1, hj1⟩ := bnd_e hj1;refine .callV (c_cmp_Less_uint8 hr1) ent93 rfl rfl rfl rfl trivial ?_;cases hj1;refine .beq rfl ?_;exact .hereE () (zb rfl) (fun _ w => w)
     replace hj1 := bif_f hb2 hj1;cases hj1;refine .beq rfl ?_;exact .hereE () (zb rfl) (fun _ w => w)
    rintro e5;refine .cb h2 rfl (fun h2 => ?_) (fun h2 => ?_)
    ·refine .sk ?_;refine .pr [0,1,2,6,7] rfl ?_;refine .seq ?_;refine .block ?_;obtain ⟨x3, hx3, h2⟩ := bnd_e h2;refine .openO (.head _) hx3 fun g3 hA => ?_;subst hA
     refine .regionX (iL [(.fl, 0), (.fl, 1), (.fl, 2), (.fl, 3), (.fl, 4), (.fl, 5), (.fl, 6), (.fl, 7), (.fx, 8), (.fx, 9), (.fl, 10), (.fl, 11), (.fx, 12), (.fx, 13), (.fx, 14), (.ef, 15), (.fx, 16), (.ef, 17)] .nil) (R) mixed (by kernel_rfl) (zl [] 1 rfl) ?_;refine .xn 8 rfl ?_;obtain ⟨x4, hx4, h2⟩ := bnd_e h2;refine .xfx (Rd.ixO (E := eu8) hx4 rfl rfl rfl rfl rfl rfl rfl) rfl ?_
     refine .xfx (Rd.ldO 0 hx4 rfl (.head _) rfl rfl) rfl ?_;refine .xn 2 rfl ?_;obtain ⟨x5, hx5, h2⟩ := bnd_e h2;refine .xfx (Rd.ixO (E := eu8) hx5 rfl rfl rfl rfl rfl rfl rfl) rfl ?_;refine .xfx (Rd.ldO 0 hx5 rfl (.head _) rfl rfl) rfl ?_;obtain ⟨x6, hx6, h2⟩ := bnd_e h2;refine .xfx (Rd.ixO (E := eu8) hx6 rfl rfl rfl rfl rfl rfl rfl) rfl ?_;refine .xef ?_;obtain ⟨l1, hl1, h2⟩ := bnd_e h2
     refine .stO 0 hx6 hl1 rfl rfl .z rfl rfl rfl rfl rfl ?_;refine .ss 0 (sl_len hl1) ?_;refine .ss 33 (sl_len hl1) ?_;refine .ss 35 (sl_len hl1) ?_;refine .ss 38 (sl_len hl1) ?_;refine .ss 43 (sl_len hl1) ?_;refine .xk (zl [] 1 rfl) ?_;obtain ⟨x7, hx7, h2⟩ := bnd_e h2;refine .xfx (Rd.ixO (E := eu8) hx7 rfl rfl rfl rfl rfl rfl rfl) rfl ?_;refine .xef ?_;obtain ⟨l2, hl2, h2⟩ := bnd_e h2
     refine .stO 0 hx7 hl2 rfl rfl .z rfl rfl rfl rfl rfl ?_;refine .ss 0 (sl_len hl2) ?_;refine .ss 33 (sl_len hl2) ?_;refine .ss 35 (sl_len hl2) ?_;refine .ss 38 (sl_len hl2) ?_;refine .ss 43 (sl_len hl2) ?_;refine .xk (zl [] 1 rfl) ?_;refine .xdone ?_;refine .blkN ?_;refine .thenN ?_;refine .pr [0,1,2,6,7] rfl ?_;refine .region ?_;cases h2;refine .be rfl ?_
     exact .again _ () hm2 trivial (zb rfl) (fun _ w => w)
    refine .exit ?_;repeat (first | refine .thenX ?_ | refine .blkMiss rfl ?_)
    refine .blkHit ?_;cases h2;have ho := hd2 _ rfl;subst ho;refine .thenN ?_;exact .hereE () (zb rfl) (fun _ w => w)
   rintro e4;refine .blkN ?_;refine .thenN ?_;refine .region ?_;cases h1;refine .be rfl ?_;exact .again _ () hm1 trivial (zb rfl) (fun _ w => w)
  refine .exit ?_;repeat (first | refine .thenX ?_ | refine .blkMiss rfl ?_)
  refine .blkHit ?_;cases h1;have ho := hd1 _ rfl;subst ho;refine .thenN ?_;exact .hereE () trivial (fun _ w => w)
 rintro e2;cases h;exact .finN' Try.results87 .nil rfl _ ⟨rfl, rfl⟩ (fun _ w => w)
theorem ent98 : Ent Try.prog 98 := ⟨_, Try.func98, by kernel_rfl, by kernel_rfl⟩
noncomputable def m_slices_siftDownOrdered_uint8 (data : (List Int)) (lo_p1 : Int) (hi_p2 : Int) (first : Int) : Option (List Int) :=
  bnd (loopM (τ := (List Int) ⊕ List Int) (fun (s1 : List Int × Int) => bif decide ((IntKind.wrap .i64 ((IntKind.wrap .i64 (2 * s1.2)) + 1)) ≥ hi_p2) then (some (.done (.inr s1.1))) else (bnd ((bnd ((bif decide ((IntKind.wrap .i64 ((IntKind.wrap .i64 ((IntKind.wrap .i64 (2 * s1.2)) + 1)) + 1)) < hi_p2) then (bnd (elt s1.1 (IntKind.wrap .i64 (first + (IntKind.wrap .i64 ((IntKind.wrap .i64 (2 * s1.2)) + 1))))) fun x1 => bnd (elt s1.1 (IntKind.wrap .i64 ((IntKind.wrap .i64 (first + (IntKind.wrap .i64 ((IntKind.wrap .i64 (2 * s1.2)) + 1)))) + 1))) fun x2 => bnd (m_cmp_Less_uint8 x1 x2) fun r1 => some r1) else (some false) : Option Bool)) fun o4 => bif o4 then (some (IntKind.wrap .i64 ((IntKind.wrap .i64 ((IntKind.wrap .i64 (2 * s1.2)) + 1)) + 1))) else (some (IntKind.wrap .i64 ((IntKind.wrap .i64 (2 * s1.2)) + 1))) : Option Int)) fun o3 => bnd (elt s1.1 (IntKind.wrap .i64 (first + s1.2))) fun x3 => bnd (elt s1.1 (IntKind.wrap .i64 (first + o3))) fun x4 => bnd (m_cmp_Less_uint8 x3 x4) fun r2 => bif !r2 then (some (.done (.inl s1.1))) else (bnd (elt s1.1 (IntKind.wrap .i64 (first + o3))) fun x5 => bnd (elt s1.1 (IntKind.wrap .i64 (first + s1.2))) fun x6 => bnd (elt s1.1 (IntKind.wrap .i64 (first + s1.2))) fun x7 => bnd (setE s1.1 (IntKind.wrap .i64 (first + s1.2)) x5) fun l1 => bnd (elt l1 (IntKind.wrap .i64 (first + o3))) fun x8 => bnd (setE l1 (IntKind.wrap .i64 (first + o3)) x6) fun l2 => some (.next (l2, o3))))) (data, lo_p1)) fun o1 => retOr o1 fun o2 => some o2
theorem c_slices_siftDownOrdered_uint8 {data : (List Int)} {lo_p1 : Int} {hi_p2 : Int} {first : Int} {A1 : Option Addr} {c1 : Nat} {r : (List Int)} (h : m_slices_siftDownOrdered_uint8 data lo_p1 hi_p2 first = some r) :
    Fun Try.prog 98 [.slice A1 data.length c1, .int .i64 lo_p1, .int .i64 hi_p2, .int .i64 first] [.res (OwnL eu8 5 A1 c1 data)] (fun v_ F_ => v_ = .tuple #[] ∧ F_ = [.res (OwnL eu8 5 A1 c1 r)]) := by
 unfold m_slices_siftDownOrdered_uint8 at h
 refine Fun.intro Try.func98 rfl rfl rfl fun w R => ?_;refine .ab [0,2,3,8] rfl ?_;obtain ⟨o1, hl1, h⟩ := bnd_e h;refine .selfThen ?_;refine .cutI (fun (o2 : List Int) (e2 : Unit) => []) (fun o2 e2 => .res (OwnL eu8 5 A1 c1 o2) :: R) (fun o2 => o1 = .inr o2) ?_ ?_
 ·refine .block ?_;refine .loop hl1 (fun (s1 : List Int × Int) (e1 : Unit) => [(0, .slice A1 s1.1.length c1), (2, .int .i64 hi_p2), (3, .int .i64 first), (8, .int .i64 s1.2)]) (fun s1 e1 => .res (OwnL eu8 5 A1 c1 s1.1) :: R) (fun _ _ => True) () trivial (zb rfl) (fun _ w => w) ?_;rintro s1 e1 - hit1;obtain ⟨st1, hm1, hd1⟩ := iter_e hit1;have h1 := hm1;refine .block ?_;refine .ab [0,2,3,8,9] rfl ?_
  refine .seq ?_;refine .ab [0,2,3,8,9,16] rfl ?_;refine .cb h1 rfl (fun h1 => ?_) (fun h1 => ?_)
  ·refine .exit ?_;repeat (first | refine .thenX ?_ | refine .blkMiss rfl ?_)
   refine .blkHit ?_;cases h1;have ho := hd1 _ rfl;subst ho;refine .thenN ?_;exact .hereI s1.1 () rfl trivial (fun _ w => w)
  refine .sk ?_;refine .pr [0,2,3,8,9] rfl ?_;refine .seq ?_;obtain ⟨o3, hj1, h1⟩ := bnd_e h1;refine .cutE (fun (e3 : Unit) => [(0, .slice A1 s1.1.length c1), (2, .int .i64 hi_p2), (3, .int .i64 first), (8, .int .i64 s1.2), (9, .int .i64 o3)]) (fun e3 => .res (OwnL eu8 5 A1 c1 s1.1) :: R) ?_ ?_
  ·refine .seq ?_;obtain ⟨o4, hj2, hj1⟩ := bnd_e hj1;refine .cutE (fun (e4 : Unit) => [(0, .slice A1 s1.1.length c1), (2, .int .i64 hi_p2), (3, .int .i64 first), (8, .int .i64 s1.2), (9, .int .i64 (IntKind.wrap .i64 ((IntKind.wrap .i64 (2 * s1.2)) + 1))), (36, .bool o4)]) (fun e4 => .res (OwnL eu8 5 A1 c1 s1.1) :: R) ?_ ?_
   ·refine .regionF mixed (by kernel_rfl) ?_;refine .n 5 rfl ?_;refine .gSplit (dj := 21) _ rfl (fun hb2 => ?_) (fun hb2 => ?_)
    ·replace hj2 := bif_t hb2 hj2;refine .n 4 rfl ?_;refine .gOn (dj := 21) rfl rfl ?_;obtain ⟨x1, hx1, hj2⟩ := bnd_e hj2;refine .ixO hx1 rfl rfl rfl (.head _) rfl rfl rfl rfl rfl fun g1 hA => ?_;subst hA;refine .gOn (dj := 21) rfl rfl ?_;refine .ldO 0 hx1 rfl rfl (.head _) rfl rfl ?_;refine .n 5 rfl ?_;refine .gOn (dj := 21) rfl rfl ?_;obtain ⟨x2, hx2, hj2⟩ := bnd_e hj2
     refine .ixO hx2 rfl rfl rfl (.head _) rfl rfl rfl rfl rfl fun g2 hA => ?_;cases hA;refine .gOn (dj := 21) rfl rfl ?_;refine .ldO 0 hx2 rfl rfl (.head _) rfl rfl ?_;refine .gOn (dj := 21) rfl rfl ?_;obtain ⟨r1, hr1, hj2⟩ := bnd_e hj2;refine .callV (c_cmp_Less_uint8 hr1) ent93 rfl rfl rfl rfl trivial ?_;cases hj2;refine .beq rfl ?_;exact .hereE () (zb rfl) (fun _ w => w)
    replace hj2 := bif_f hb2 hj2;cases hj2;refine .beq rfl ?_;exact .hereE () (zb rfl) (fun _ w => w)
   rintro e4;refine .cb hj1 rfl (fun hj1 => ?_) (fun hj1 => ?_)
   ·refine .region ?_;cases hj1;refine .be rfl ?_;exact .hereE () (zb rfl) (fun _ w => w)
   cases hj1;refine .sk ?_;exact .hereE () (zb rfl) (fun _ w => w)
  rintro e3;refine .seq ?_;refine .seq ?_;refine .regionF mixed (by kernel_rfl) ?_;refine .n 4 rfl ?_;obtain ⟨x3, hx3, h1⟩ := bnd_e h1;refine .ixO hx3 rfl rfl rfl (.head _) rfl rfl rfl rfl rfl fun g3 hA => ?_;subst hA;refine .ldO 0 hx3 rfl rfl (.head _) rfl rfl ?_;refine .n 4 rfl ?_;obtain ⟨x4, hx4, h1⟩ := bnd_e h1;refine .ixO hx4 rfl rfl rfl (.head _) rfl rfl rfl rfl rfl fun g4 hA => ?_;cases hA
  refine .ldO 0 hx4 rfl rfl (.head _) rfl rfl ?_;obtain ⟨r2, hr2, h1⟩ := bnd_e h1;refine .callV (c_cmp_Less_uint8 hr2) ent93 rfl rfl rfl rfl trivial ?_;refine .bq [0,2,3,8,9,52] rfl ?_;refine .cb h1 rfl (fun h1 => ?_) (fun h1 => ?_)
  ·refine .ret ?_;repeat (first | refine .thenR ?_ | refine .blkR ?_)
   cases h1;have ho := hd1 _ rfl;subst ho;have h : some _ = some _ := h;cases h;exact .finR Try.results98 .nil rfl _ ⟨rfl, rfl⟩ (fun _ w => w)
  refine .sk ?_;refine .pr [0,2,3,8,9] rfl ?_;refine .seq ?_;refine .regionX (iL [(.fl, 0), (.fl, 1), (.fl, 2), (.fl, 3), (.fl, 4), (.fl, 5), (.fl, 6), (.fl, 7), (.fl, 8), (.fl, 9), (.fl, 10), (.fl, 11), (.fx, 12), (.fx, 13), (.fl, 14), (.fl, 15), (.fl, 16), (.fl, 17), (.fx, 18), (.fx, 19), (.fx, 20), (.ef, 21), (.fx, 22), (.ef, 23)] .nil) (R) mixed (by kernel_rfl) (zl [] 1 rfl) ?_
  refine .xn 12 rfl ?_;obtain ⟨x5, hx5, h1⟩ := bnd_e h1;refine .xfx (Rd.ixO (E := eu8) hx5 rfl rfl rfl rfl rfl rfl rfl) rfl ?_;refine .xfx (Rd.ldO 0 hx5 rfl (.head _) rfl rfl) rfl ?_;refine .xn 4 rfl ?_;obtain ⟨x6, hx6, h1⟩ := bnd_e h1;refine .xfx (Rd.ixO (E := eu8) hx6 rfl rfl rfl rfl rfl rfl rfl) rfl ?_;refine .xfx (Rd.ldO 0 hx6 rfl (.head _) rfl rfl) rfl ?_;obtain ⟨x7, hx7, h1⟩ := bnd_e h1
  refine .xfx (Rd.ixO (E := eu8) hx7 rfl rfl rfl rfl rfl rfl rfl) rfl ?_;refine .xef ?_;obtain ⟨l1, hl1, h1⟩ := bnd_e h1;refine .stO 0 hx7 hl1 rfl rfl .z rfl rfl rfl rfl rfl ?_;refine .ss 0 (sl_len hl1) ?_;refine .ss 53 (sl_len hl1) ?_;refine .ss 57 (sl_len hl1) ?_;refine .ss 61 (sl_len hl1) ?_;refine .ss 67 (sl_len hl1) ?_;refine .xk (zl [] 1 rfl) ?_;obtain ⟨x8, hx8, h1⟩ := bnd_e h1
  refine .xfx (Rd.ixO (E := eu8) hx8 rfl rfl rfl rfl rfl rfl rfl) rfl ?_;refine .xef ?_;obtain ⟨l2, hl2, h1⟩ := bnd_e h1;refine .stO 0 hx8 hl2 rfl rfl .z rfl rfl rfl rfl rfl ?_;refine .ss 0 (sl_len hl2) ?_;refine .ss 53 (sl_len hl2) ?_;refine .ss 57 (sl_len hl2) ?_;refine .ss 61 (sl_len hl2) ?_;refine .ss 67 (sl_len hl2) ?_;refine .xk (zl [] 1 rfl) ?_;refine .xdone ?_;refine .thenN ?_
  refine .pr [0,2,3,9] rfl ?_;refine .region ?_;refine .n 2 rfl ?_;refine .done ?_;refine .blkN ?_;cases h1;refine .thenN ?_;exact .again _ () hm1 trivial (zb rfl) (fun _ w => w)
 rintro o2 e2 ho;subst ho;have h := unR h;cases h;exact .finN' Try.results98 .nil rfl _ ⟨rfl, rfl⟩ (fun _ w => w)
theorem ent88 : Ent Try.prog 88 := ⟨_, Try.func88, by kernel_rfl, by kernel_rfl⟩
noncomputable def m_slices_heapSortOrdered_uint8 (data : (List Int)) (a_p1 : Int) (b_p2 : Int) : Option (List Int) :=
  bnd (loopM (τ := List Int) (fun (s1 : List Int × Int) => bif decide (s1.2 ≥ 0) then (bnd (m_slices_siftDownOrdered_uint8 s1.1 s1.2 (IntKind.wrap .i64 (b_p2 - a_p1)) a_p1) fun r1 => bnd (chkLen s1.1.length r1) fun l1 => some (.next (r1, IntKind.wrap .i64 (s1.2 - 1)))) else (some (.done s1.1))) (data, IntKind.wrap .i64 ((IntKind.wrap .i64 ((IntKind.wrap .i64 (b_p2 - a_p1)) - 1)).tdiv 2))) fun o1 => bnd (loopM (τ := List Int) (fun (s2 : List Int × Int) => bif decide (s2.2 ≥ 0) then (bnd (elt s2.1 (IntKind.wrap .i64 (a_p1 + s2.2))) fun x1 => bnd (elt s2.1 (IntKind.wrap .i64 (a_p1 + s2.2))) fun x2 => bnd (elt s2.1 a_p1) fun x3 => bnd (elt s2.1 a_p1) fun x4 => bnd (setE s2.1 a_p1 x2) fun l2 => bnd (elt l2 (IntKind.wrap .i64 (a_p1 + s2.2))) fun x5 => bnd (setE l2 (IntKind.wrap .i64 (a_p1 + s2.2)) x3) fun l3 => bnd (m_slices_siftDownOrdered_uint8 l3 0 s2.2 a_p1) fun r2 => bnd (chkLen l3.length r2) fun l4 => some (.next (r2, IntKind.wrap .i64 (s2.2 - 1)))) else (some (.done s2.1))) (o1, IntKind.wrap .i64 ((IntKind.wrap .i64 (b_p2 - a_p1)) - 1))) fun o2 => some o2
theorem c_slices_heapSortOrdered_uint8 {data : (List Int)} {a_p1 : Int} {b_p2 : Int} {A1 : Option Addr} {c1 : Nat} {r : (List Int)} (h : m_slices_heapSortOrdered_uint8 data a_p1 b_p2 = some r) :
    Fun Try.prog 88 [.slice A1 data.length c1, .int .i64 a_p1, .int .i64 b_p2] [.res (OwnL eu8 5 A1 c1 data)] (fun v_ F_ => v_ = .tuple #[] ∧ F_ = [.res (OwnL eu8 5 A1 c1 r)]) := by
 unfold m_slices_heapSortOrdered_uint8 at h
 refine Fun.intro Try.func88 rfl rfl rfl fun w R => ?_;refine .ab [0,1,2,6] rfl ?_;refine .ae rfl ?_;refine .ab [0,6,7,8] rfl ?_;refine .seq ?_;refine .ab [0,6,7,8,9] rfl ?_;obtain ⟨o1, hl1, h⟩ := bnd_e h
 refine .cutE (fun (e2 : Unit) => [(0, .slice A1 o1.length c1), (6, .int .i64 a_p1), (7, .int .i64 0), (8, .int .i64 (IntKind.wrap .i64 (b_p2 - a_p1)))]) (fun e2 => .res (OwnL eu8 5 A1 c1 o1) :: R) ?_ ?_
 ·refine .block ?_;refine .loop hl1 (fun (s1 : List Int × Int) (e1 : Unit) => [(0, .slice A1 s1.1.length c1), (6, .int .i64 a_p1), (7, .int .i64 0), (8, .int .i64 (IntKind.wrap .i64 (b_p2 - a_p1))), (9, .int .i64 s1.2)]) (fun s1 e1 => .res (OwnL eu8 5 A1 c1 s1.1) :: R) (fun _ _ => True) () trivial (zb rfl) (fun _ w => w) ?_;rintro s1 e1 - hit1;obtain ⟨st1, hm1, hd1⟩ := iter_e hit1;have h1 := hm1
  refine .seq ?_;refine .ab [0,6,7,8,9,19] rfl ?_;refine .cb h1 rfl (fun h1 => ?_) (fun h1 => ?_)
  ·refine .sk ?_;refine .pr [0,6,7,8,9] rfl ?_;refine .seq ?_;refine .block ?_;refine .region ?_;refine .n 4 rfl ?_;obtain ⟨r1, hr1, h1⟩ := bnd_e h1;refine .call (c_slices_siftDownOrdered_uint8 hr1) ent98 rfl rfl rfl (fun _ w => w) ?_;rintro _ _ ⟨rfl, rfl⟩;refine .nm 1 rfl ?_;obtain ⟨l1, hl1, h1⟩ := bnd_e h1;refine .ss 0 (sl_chk hl1) ?_;refine .ss 22 (sl_chk hl1) ?_;refine .done ?_;refine .blkN ?_
   refine .thenN ?_;refine .pr [0,6,7,8,9] rfl ?_;refine .region ?_;cases h1;refine .be rfl ?_;exact .again _ () hm1 trivial (zb rfl) (fun _ w => w)
  refine .exit ?_;repeat (first | refine .thenX ?_ | refine .blkMiss rfl ?_)
  refine .blkHit ?_;cases h1;have ho := hd1 _ rfl;subst ho;refine .thenN ?_;exact .hereE () (zb rfl) (fun _ w => w)
 rintro e2;refine .ab [0,6,7,10] rfl ?_;obtain ⟨o2, hl2, h⟩ := bnd_e h;refine .selfThen ?_;refine .cutE (fun (e4 : Unit) => []) (fun e4 => .res (OwnL eu8 5 A1 c1 o2) :: R) ?_ ?_
 ·refine .block ?_;refine .loop hl2 (fun (s2 : List Int × Int) (e3 : Unit) => [(0, .slice A1 s2.1.length c1), (6, .int .i64 a_p1), (7, .int .i64 0), (10, .int .i64 s2.2)]) (fun s2 e3 => .res (OwnL eu8 5 A1 c1 s2.1) :: R) (fun _ _ => True) () trivial (zb rfl) (fun _ w => w) ?_;rintro s2 e3 - hit2;obtain ⟨st2, hm2, hd2⟩ := iter_e hit2;have h2 := hm2;refine .seq ?_;refine .ab [0,6,7,10,30] rfl ?_
  refine .cb h2 rfl (fun h2 => ?_) (fun h2 => ?_)
  ·refine .sk ?_;refine .pr [0,6,7,10] rfl ?_;refine .seq ?_;refine .block ?_;refine .seq ?_;obtain ⟨x1, hx1, h2⟩ := bnd_e h2;refine .openO (.head _) hx1 fun g1 hA => ?_;subst hA
   refine .regionX (iL [(.fl, 0), (.fl, 1), (.fl, 2), (.fl, 3), (.fl, 4), (.fl, 5), (.fl, 6), (.fl, 7), (.fl, 8), (.fl, 9), (.fx, 10), (.fx, 11), (.fl, 12), (.fl, 13), (.fx, 14), (.fx, 15), (.fx, 16), (.ef, 17), (.fx, 18), (.ef, 19)] .nil) (R) mixed (by kernel_rfl) (zl [] 1 rfl) ?_;refine .xn 10 rfl ?_;obtain ⟨x2, hx2, h2⟩ := bnd_e h2
   refine .xfx (Rd.ixO (E := eu8) hx2 rfl rfl rfl rfl rfl rfl rfl) rfl ?_;refine .xfx (Rd.ldO 0 hx2 rfl (.head _) rfl rfl) rfl ?_;refine .xn 2 rfl ?_;obtain ⟨x3, hx3, h2⟩ := bnd_e h2;refine .xfx (Rd.ixO (E := eu8) hx3 rfl rfl rfl rfl rfl rfl rfl) rfl ?_;refine .xfx (Rd.ldO 0 hx3 rfl (.head _) rfl rfl) rfl ?_;obtain ⟨x4, hx4, h2⟩ := bnd_e h2
   refine .xfx (Rd.ixO (E := eu8) hx4 rfl rfl rfl rfl rfl rfl rfl) rfl ?_;refine .xef ?_;obtain ⟨l2, hl2, h2⟩ := bnd_e h2;refine .stO 0 hx4 hl2 rfl rfl .z rfl rfl rfl rfl rfl ?_;refine .ss 0 (sl_len hl2) ?_;refine .ss 33 (sl_len hl2) ?_;refine .ss 35 (sl_len hl2) ?_;refine .ss 39 (sl_len hl2) ?_;refine .ss 45 (sl_len hl2) ?_;refine .xk (zl [] 1 rfl) ?_;obtain ⟨x5, hx5, h2⟩ := bnd_e h2
   refine .xfx (Rd.ixO (E := eu8) hx5 rfl rfl rfl rfl rfl rfl rfl) rfl ?_;refine .xef ?_;obtain ⟨l3, hl3, h2⟩ := bnd_e h2;refine .stO 0 hx5 hl3 rfl rfl .z rfl rfl rfl rfl rfl ?_;refine .ss 0 (sl_len hl3) ?_;refine .ss 33 (sl_len hl3) ?_;refine .ss 35 (sl_len hl3) ?_;refine .ss 39 (sl_len hl3) ?_;refine .ss 45 (sl_len hl3) ?_;refine .xk (zl [] 1 rfl) ?_;refine .xdone ?_;refine .thenN ?_
   refine .pr [0,6,7,10] rfl ?_;refine .region ?_;refine .n 4 rfl ?_;obtain ⟨r2, hr2, h2⟩ := bnd_e h2;refine .call (c_slices_siftDownOrdered_uint8 hr2) ent98 rfl rfl rfl (fun _ w => w) ?_;rintro _ _ ⟨rfl, rfl⟩;refine .nm 1 rfl ?_;obtain ⟨l4, hl4, h2⟩ := bnd_e h2;refine .ss 0 (sl_chk hl4) ?_;refine .ss 51 (sl_chk hl4) ?_;refine .done ?_;refine .blkN ?_;refine .thenN ?_;refine .pr [0,6,7,10] rfl ?_
   refine .region ?_;cases h2;refine .be rfl ?_;exact .again _ () hm2 trivial (zb rfl) (fun _ w => w)
  refine .exit ?_;repeat (first | refine .thenX ?_ | refine .blkMiss rfl ?_)
  refine .blkHit ?_;cases h2;have ho := hd2 _ rfl;subst ho;refine .thenN ?_;exact .hereE () trivial (fun _ w => w)
 rintro e4;cases h;exact .finN' Try.results88 .nil rfl _ ⟨rfl, rfl⟩ (fun _ w => w)
theorem ent99 : Ent Try.prog 99 := ⟨_, Try.func99, by kernel_rfl, by kernel_rfl⟩
noncomputable def m_slices_nextPowerOfTwo (length : Int) : Option Int :=
  bnd (m_math_bits_Len (IntKind.wrap .u64 length)) fun r1 => bnd (shlM .u64 1 r1) fun q1 => some q1
theorem c_slices_nextPowerOfTwo {length : Int} {r : Int} (h : m_slices_nextPowerOfTwo length = some r) :
    Fun Try.prog 99 [.int .i64 length] [] (Val (.int .u64 r)) := by
 unfold m_slices_nextPowerOfTwo at h
 refine Fun.intro Try.func99 rfl rfl rfl fun w R => ?_;refine .ab [0] rfl ?_;refine .a 2 rfl ?_;obtain ⟨r1, hr1, h⟩ := bnd_e h;refine .callV (c_math_bits_Len hr1) ent84 rfl rfl rfl rfl trivial ?_;obtain ⟨q1, hq1, h⟩ := bnd_e h;refine .shl rfl rfl rfl hq1 ?_;refine .b [2] rfl ?_;cases h;exact .rt rfl Try.results99 (.tmp rfl .nil) rfl ⟨rfl, rfl⟩ (fun _ w => w)
theorem ent100 : Ent Try.prog 100 := ⟨_, Try.func100, by kernel_rfl, by kernel_rfl⟩
noncomputable def m_slices_xorshift_Next (r_p0 : Int) : Option (Int × Int) :=
  some (iXor .u64 (iXor .u64 (iXor .u64 r_p0 (iShl .u64 r_p0 13)) (iShr .u64 (iXor .u64 r_p0 (iShl .u64 r_p0 13)) 7)) (iShl .u64 (iXor .u64 (iXor .u64 r_p0 (iShl .u64 r_p0 13)) (iShr .u64 (iXor .u64 r_p0 (iShl .u64 r_p0 13)) 7)) 17), iXor .u64 (iXor .u64 (iXor .u64 r_p0 (iShl .u64 r_p0 13)) (iShr .u64 (iXor .u64 r_p0 (iShl .u64 r_p0 13)) 7)) (iShl .u64 (iXor .u64 (iXor .u64 r_p0 (iShl .u64 r_p0 13)) (iShr .u64 (iXor .u64 r_p0 (iShl .u64 r_p0 13)) 7)) 17))
theorem c_slices_xorshift_Next {r_p0 : Int} {gb1 : Nat} {r : (Int × Int)} (h : m_slices_xorshift_Next r_p0 = some r) :
    Fun Try.prog 100 [.pointer (some ⟨gb1, 0, none⟩)] [.res (Box gb1 149 [.int .u64 r_p0])] (fun v_ F_ => v_ = .int .u64 r.2 ∧ F_ = [.res (Box gb1 149 [.int .u64 r.1])]) := by
 unfold m_slices_xorshift_Next at h
 refine Fun.intro Try.func100 rfl rfl rfl fun w R => ?_;refine .ab [0] rfl ?_;refine .seq ?_;refine .regionX (iL [(.fl, 0), (.fl, 1), (.fx, 2), (.fl, 3), (.fl, 4), (.fx, 5), (.fl, 6), (.fl, 7), (.fl, 8), (.ef, 9)] .nil) (R) mixed (by kernel_rfl) (zl [] 1 rfl) ?_;refine .xn 2 rfl ?_;refine .xfx (Rd.loadB 0 rfl (.head _) rfl rfl) rfl ?_;refine .xn 2 rfl ?_
 refine .xfx (Rd.loadB 0 rfl (.head _) rfl rfl) rfl ?_;refine .xn 3 rfl ?_;refine .xef ?_;refine .store 0 rfl rfl rfl rfl rfl rfl .z rfl ?_;refine .xk (zl [] 1 rfl) ?_;refine .xdone ?_;refine .thenN ?_;refine .pr [0] rfl ?_;refine .seq ?_
 refine .regionX (iL [(.fl, 0), (.fl, 1), (.fx, 2), (.fl, 3), (.fl, 4), (.fx, 5), (.fl, 6), (.fl, 7), (.fl, 8), (.ef, 9)] .nil) (R) mixed (by kernel_rfl) (zl [] 1 rfl) ?_;refine .xn 2 rfl ?_;refine .xfx (Rd.loadB 0 rfl (.head _) rfl rfl) rfl ?_;refine .xn 2 rfl ?_;refine .xfx (Rd.loadB 0 rfl (.head _) rfl rfl) rfl ?_;refine .xn 3 rfl ?_;refine .xef ?_
 refine .store 0 rfl rfl rfl rfl rfl rfl .z rfl ?_;refine .xk (zl [] 1 rfl) ?_;refine .xdone ?_;refine .thenN ?_;refine .pr [0] rfl ?_;refine .seq ?_;refine .regionX (iL [(.fl, 0), (.fl, 1), (.fx, 2), (.fl, 3), (.fl, 4), (.fx, 5), (.fl, 6), (.fl, 7), (.fl, 8), (.ef, 9)] .nil) (R) mixed (by kernel_rfl) (zl [] 1 rfl) ?_;refine .xn 2 rfl ?_;refine .xfx (Rd.loadB 0 rfl (.head _) rfl rfl) rfl ?_
 refine .xn 2 rfl ?_;refine .xfx (Rd.loadB 0 rfl (.head _) rfl rfl) rfl ?_;refine .xn 3 rfl ?_;refine .xef ?_;refine .store 0 rfl rfl rfl rfl rfl rfl .z rfl ?_;refine .xk (zl [] 1 rfl) ?_;refine .xdone ?_;refine .thenN ?_;refine .pr [0] rfl ?_;refine .a 2 rfl ?_;refine .loadB 0 rfl rfl (.head _) rfl rfl ?_;refine .b [2] rfl ?_;cases h
 exact .rt rfl Try.results100 (.tmp rfl .nil) rfl ⟨rfl, rfl⟩ (fun _ w => w)
theorem ent89 : Ent Try.prog 89 := ⟨_, Try.func89, by kernel_rfl, by kernel_rfl⟩
noncomputable def m_slices_breakPatternsOrdered_uint8 (data : (List Int)) (a_p1 : Int) (b_p2 : Int) : Option (List Int) :=
  bif decide ((IntKind.wrap .i64 (b_p2 - a_p1)) ≥ 8) then (bnd (m_slices_nextPowerOfTwo (IntKind.wrap .i64 (b_p2 - a_p1))) fun r1 => bnd (loopM (τ := List Int × Int) (fun (s1 : List Int × Int × Int) => bif decide (s1.2.1 ≤ (IntKind.wrap .i64 ((IntKind.wrap .i64 (a_p1 + (IntKind.wrap .i64 ((IntKind.wrap .i64 ((IntKind.wrap .i64 (b_p2 - a_p1)).tdiv 4)) * 2)))) + 1))) then (bnd (m_slices_xorshift_Next s1.2.2) fun r2 => bnd ((bif decide ((IntKind.wrap .i64 (iAnd .u64 r2.2 (IntKind.wrap .u64 (r1 - 1)))) ≥ (IntKind.wrap .i64 (b_p2 - a_p1))) then (some (IntKind.wrap .i64 ((IntKind.wrap .i64 (iAnd .u64 r2.2 (IntKind.wrap .u64 (r1 - 1)))) - (IntKind.wrap .i64 (b_p2 - a_p1))))) else (some (IntKind.wrap .i64 (iAnd .u64 r2.2 (IntKind.wrap .u64 (r1 - 1))))) : Option Int)) fun o2 => bnd (elt s1.1 (IntKind.wrap .i64 (a_p1 + o2))) fun x1 => bnd (elt s1.1 (IntKind.wrap .i64 (a_p1 + o2))) fun x2 => bnd (elt s1.1 s1.2.1) fun x3 => bnd (elt s1.1 s1.2.1) fun x4 => bnd (setE s1.1 s1.2.1 x2) fun l1 => bnd (elt l1 (IntKind.wrap .i64 (a_p1 + o2))) fun x5 => bnd (setE l1 (IntKind.wrap .i64 (a_p1 + o2)) x3) fun l2 => some (.next (l2, IntKind.wrap .i64 (s1.2.1 + 1), r2.1))) else (some (.done (s1.1, s1.2.2)))) (data, IntKind.wrap .i64 ((IntKind.wrap .i64 (a_p1 + (IntKind.wrap .i64 ((IntKind.wrap .i64 ((IntKind.wrap .i64 (b_p2 - a_p1)).tdiv 4)) * 2)))) - 1), IntKind.wrap .u64 (IntKind.wrap .i64 (b_p2 - a_p1)))) fun o1 => some o1.1) else (some data)
theorem c_slices_breakPatternsOrdered_uint8 {data : (List Int)} {a_p1 : Int} {b_p2 : Int} {A1 : Option Addr} {c1 : Nat} {r : (List Int)} (h : m_slices_breakPatternsOrdered_uint8 data a_p1 b_p2 = some r) :
    Fun Try.prog 89 [.slice A1 data.length c1, .int .i64 a_p1, .int .i64 b_p2] [.res (OwnL eu8 5 A1 c1 data)] (fun v_ F_ => v_ = .tuple #[] ∧ F_ = [.res (OwnL eu8 5 A1 c1 r)]) := by
 unfold m_slices_breakPatternsOrdered_uint8 at h
 refine Fun.intro Try.func89 rfl rfl rfl fun w R => ?_;refine .ab [0,1,6] rfl ?_;refine .ab [0,1,6,15] rfl ?_;refine .cb h rfl (fun h => ?_) (fun h => ?_)
 ·refine .a 2 rfl ?_;refine .alloc rfl rfl fun g1 => ?_;refine .store 0 rfl rfl rfl rfl rfl rfl .z rfl ?_;refine .b [0,1,6,7] rfl ?_;refine .a 1 rfl ?_;obtain ⟨r1, hr1, h⟩ := bnd_e h;refine .callV (c_slices_nextPowerOfTwo hr1) ent99 rfl rfl rfl rfl trivial ?_;refine .b [0,1,6,7,8] rfl ?_;refine .ab [0,1,6,7,8,9] rfl ?_;obtain ⟨o1, hl1, h⟩ := bnd_e h;refine .selfThen ?_
  refine .cutE (fun (e2 : Unit) => []) (fun e2 => .res (OwnL eu8 5 A1 c1 o1.1) :: R) ?_ ?_
  ·refine .block ?_
   refine .loop hl1 (fun (s1 : List Int × Int × Int) (e1 : Unit) => [(0, .slice A1 s1.1.length c1), (1, .int .i64 a_p1), (6, .int .i64 (IntKind.wrap .i64 (b_p2 - a_p1))), (7, .pointer (some ⟨g1, 0, none⟩)), (8, .int .u64 r1), (9, .int .i64 s1.2.1)]) (fun s1 e1 => .res (Box g1 149 [.int .u64 s1.2.2]) :: .res (OwnL eu8 5 A1 c1 s1.1) :: R) (fun _ _ => True) () trivial (zb rfl) (fun _ w => w) ?_
   rintro s1 e1 - hit1;obtain ⟨st1, hm1, hd1⟩ := iter_e hit1;have h1 := hm1;refine .seq ?_;refine .ab [0,1,6,7,8,9,33] rfl ?_;refine .cb h1 rfl (fun h1 => ?_) (fun h1 => ?_)
   ·refine .sk ?_;refine .pr [0,1,6,7,8,9] rfl ?_;refine .seq ?_;refine .block ?_;refine .seq ?_;refine .region ?_;obtain ⟨r2, hr2, h1⟩ := bnd_e h1;refine .call (c_slices_xorshift_Next hr2) ent100 rfl rfl rfl (fun _ w => w) ?_;rintro _ _ ⟨rfl, rfl⟩;refine .nm 2 rfl ?_;refine .b [0,1,6,7,8,9,10] rfl ?_;refine .seq ?_;obtain ⟨o2, hj1, h1⟩ := bnd_e h1
    refine .cutE (fun (e3 : Unit) => [(0, .slice A1 s1.1.length c1), (1, .int .i64 a_p1), (6, .int .i64 (IntKind.wrap .i64 (b_p2 - a_p1))), (7, .pointer (some ⟨g1, 0, none⟩)), (8, .int .u64 r1), (9, .int .i64 s1.2.1), (10, .int .i64 o2)]) (fun e3 => .res (Box g1 149 [.int .u64 r2.1]) :: .res (OwnL eu8 5 A1 c1 s1.1) :: R) ?_ ?_
    ·refine .ab [0,1,6,7,8,9,10,43] rfl ?_;refine .cb hj1 rfl (fun hj1 => ?_) (fun hj1 => ?_)
     ·refine .region ?_;cases hj1;refine .be rfl ?_;exact .hereE () (zb rfl) (fun _ w => w)
     cases hj1;refine .sk ?_;exact .hereE () (zb rfl) (fun _ w => w)
    rintro e3;obtain ⟨x1, hx1, h1⟩ := bnd_e h1;refine .openO (.tail _ (.head _)) hx1 fun g2 hA => ?_;subst hA
    refine .regionX (iL [(.fl, 0), (.fl, 1), (.fl, 2), (.fl, 3), (.fl, 4), (.fl, 5), (.fl, 6), (.fl, 7), (.fl, 8), (.fl, 9), (.fx, 10), (.fx, 11), (.fl, 12), (.fl, 13), (.fx, 14), (.fx, 15), (.fx, 16), (.ef, 17), (.fx, 18), (.ef, 19)] .nil) (.res (Box g1 149 [.int .u64 r2.1]) :: R) mixed (by kernel_rfl) (zl [0] 1 rfl) ?_;refine .xn 10 rfl ?_;obtain ⟨x2, hx2, h1⟩ := bnd_e h1
    refine .xfx (Rd.ixO (E := eu8) hx2 rfl rfl rfl rfl rfl rfl rfl) rfl ?_;refine .xfx (Rd.ldO 0 hx2 rfl (.tail _ (.head _)) rfl rfl) rfl ?_;refine .xn 2 rfl ?_;obtain ⟨x3, hx3, h1⟩ := bnd_e h1;refine .xfx (Rd.ixO (E := eu8) hx3 rfl rfl rfl rfl rfl rfl rfl) rfl ?_;refine .xfx (Rd.ldO 0 hx3 rfl (.tail _ (.head _)) rfl rfl) rfl ?_;obtain ⟨x4, hx4, h1⟩ := bnd_e h1
    refine .xfx (Rd.ixO (E := eu8) hx4 rfl rfl rfl rfl rfl rfl rfl) rfl ?_;refine .xef ?_;obtain ⟨l1, hl1, h1⟩ := bnd_e h1;refine .stO 0 hx4 hl1 rfl rfl (.s .z) rfl rfl rfl rfl rfl ?_;refine .ss 0 (sl_len hl1) ?_;refine .ss 47 (sl_len hl1) ?_;refine .ss 49 (sl_len hl1) ?_;refine .ss 53 (sl_len hl1) ?_;refine .ss 59 (sl_len hl1) ?_;refine .xk (zl [] 1 rfl) ?_;obtain ⟨x5, hx5, h1⟩ := bnd_e h1
    refine .xfx (Rd.ixO (E := eu8) hx5 rfl rfl rfl rfl rfl rfl rfl) rfl ?_;refine .xef ?_;obtain ⟨l2, hl2, h1⟩ := bnd_e h1;refine .stO 0 hx5 hl2 rfl rfl .z rfl rfl rfl rfl rfl ?_;refine .ss 0 (sl_len hl2) ?_;refine .ss 47 (sl_len hl2) ?_;refine .ss 49 (sl_len hl2) ?_;refine .ss 53 (sl_len hl2) ?_;refine .ss 59 (sl_len hl2) ?_;refine .xk (zl [] 1 rfl) ?_;refine .xdone ?_;refine .blkN ?_
    refine .thenN ?_;refine .pr [0,1,6,7,8,9] rfl ?_;refine .region ?_;cases h1;refine .be rfl ?_;exact .again _ () hm1 trivial (zb rfl) (zl [1] 0 rfl)
   refine .exit ?_;repeat (first | refine .thenX ?_ | refine .blkMiss rfl ?_)
   refine .blkHit ?_;cases h1;have ho := hd1 _ rfl;subst ho;refine .thenN ?_;exact .hereE () trivial (zl [] 1 rfl)
  rintro e2;cases h;exact .finN' Try.results89 .nil rfl _ ⟨rfl, rfl⟩ (fun _ w => w)
 refine .skip ?_;cases h;exact .finN' Try.results89 .nil rfl _ ⟨rfl, rfl⟩ (fun _ w => w)
theorem ent104 : Ent Try.prog 104 := ⟨_, Try.func104, by kernel_rfl, by kernel_rfl⟩
noncomputable def m_slices_order2Ordered_uint8 (data : (List Int)) (a_p1 : Int) (b_p2 : Int) (swaps : Int) : Option (Int × Int × Int) :=
  bnd (elt data b_p2) fun x1 => bnd (elt data a_p1) fun x2 => bnd (m_cmp_Less_uint8 x1 x2) fun r1 => bif r1 then (some (IntKind.wrap .i64 (swaps + 1), b_p2, a_p1)) else (some (swaps, a_p1, b_p2))
theorem c_slices_order2Ordered_uint8 {data : (List Int)} {a_p1 : Int} {b_p2 : Int} {swaps : Int} {A1 : Option Addr} {c1 : Nat} {gb1 : Nat} {r : (Int × Int × Int)} (h : m_slices_order2Ordered_uint8 data a_p1 b_p2 swaps = some r) :
    Fun Try.prog 104 [.slice A1 data.length c1, .int .i64 a_p1, .int .i64 b_p2, .pointer (some ⟨gb1, 0, none⟩)] [.ro (SlL eu8 A1 c1 data), .res (Box gb1 3 [.int .i64 swaps])] (fun v_ F_ => v_ = .tuple #[.int .i64 r.2.1, .int .i64 r.2.2] ∧ F_ = [.res (Box gb1 3 [.int .i64 r.1])]) := by
 unfold m_slices_order2Ordered_uint8 at h
 refine Fun.intro Try.func104 rfl rfl rfl fun w R => ?_;refine .ab [0,1,2,3] rfl ?_;refine .seq ?_;refine .seq ?_;refine .regionF mixed (by kernel_rfl) ?_;refine .n 2 rfl ?_;obtain ⟨x1, hx1, h⟩ := bnd_e h;refine .ixL hx1 rfl rfl rfl (.head _) rfl rfl rfl rfl rfl fun b1 ob1 => ?_;refine .load ob1 0 rfl rfl (.head _) rfl rfl ?_;refine .n 2 rfl ?_;obtain ⟨x2, hx2, h⟩ := bnd_e h
 refine .ixL hx2 rfl rfl rfl (.tail _ (.head _)) rfl rfl rfl rfl rfl fun b2 ob2 => ?_;refine .load ob2 0 rfl rfl (.head _) rfl rfl ?_;obtain ⟨r1, hr1, h⟩ := bnd_e h;refine .callV (c_cmp_Less_uint8 hr1) ent93 rfl rfl rfl rfl trivial ?_;refine .beq rfl ?_;refine .pf [1,2,3,18] [] 3 rfl rfl ?_;refine .cb h rfl (fun h => ?_) (fun h => ?_)
 ·refine .a 2 rfl ?_;refine .loadB 0 rfl rfl (.head _) rfl rfl ?_;refine .n 2 rfl ?_;refine .store 0 rfl rfl rfl rfl rfl rfl .z rfl ?_;refine .b [1,2] rfl ?_;refine .ab [8,9] rfl ?_;cases h;exact .rt rfl Try.results104 (.tmp rfl (.tmp rfl .nil)) rfl ⟨rfl, rfl⟩ (fun _ w => w)
 refine .sk ?_;refine .pr [1,2] rfl ?_;refine .ab [8,9] rfl ?_;cases h;exact .rt rfl Try.results104 (.tmp rfl (.tmp rfl .nil)) rfl ⟨rfl, rfl⟩ (fun _ w => w)
theorem ent102 : Ent Try.prog 102 := ⟨_, Try.func102, by kernel_rfl, by kernel_rfl⟩
noncomputable def m_slices_medianOrdered_uint8 (data : (List Int)) (a_p1 : Int) (b_p2 : Int) (c_p3 : Int) (swaps : Int) : Option (Int × Int) :=
  bnd (m_slices_order2Ordered_uint8 data a_p1 b_p2 swaps) fun r1 => bnd (m_slices_order2Ordered_uint8 data r1.2.2 c_p3 r1.1) fun r2 => bnd (m_slices_order2Ordered_uint8 data r1.2.1 r2.2.1 r2.1) fun r3 => some (r3.1, r3.2.2)
theorem c_slices_medianOrdered_uint8 {data : (List Int)} {a_p1 : Int} {b_p2 : Int} {c_p3 : Int} {swaps : Int} {A1 : Option Addr} {c1 : Nat} {gb1 : Nat} {r : (Int × Int)} (h : m_slices_medianOrdered_uint8 data a_p1 b_p2 c_p3 swaps = some r) :
    Fun Try.prog 102 [.slice A1 data.length c1, .int .i64 a_p1, .int .i64 b_p2, .int .i64 c_p3, .pointer (some ⟨gb1, 0, none⟩)] [.ro (SlL eu8 A1 c1 data), .res (Box gb1 3 [.int .i64 swaps])] (fun v_ F_ => v_ = .int .i64 r.2 ∧ F_ = [.res (Box gb1 3 [.int .i64 r.1])]) := by
 unfold m_slices_medianOrdered_uint8 at h
 refine Fun.intro Try.func102 rfl rfl rfl fun w R => ?_;refine .ab [0,1,2,3,4] rfl ?_;refine .a 4 rfl ?_;obtain ⟨r1, hr1, h⟩ := bnd_e h;refine .call (c_slices_order2Ordered_uint8 hr1) ent104 rfl rfl rfl (zd [1] [1] 0 rfl) ?_;rintro _ _ ⟨rfl, rfl⟩;refine .nm 2 rfl ?_;refine .b [0,1,2,3,4] rfl ?_;refine .a 4 rfl ?_;obtain ⟨r2, hr2, h⟩ := bnd_e h
 refine .call (c_slices_order2Ordered_uint8 hr2) ent104 rfl rfl rfl (zd [1] [] 0 rfl) ?_;rintro _ _ ⟨rfl, rfl⟩;refine .nm 2 rfl ?_;refine .b [0,1,2,4] rfl ?_;refine .a 4 rfl ?_;obtain ⟨r3, hr3, h⟩ := bnd_e h;refine .call (c_slices_order2Ordered_uint8 hr3) ent104 rfl rfl rfl (zd [1] [] 0 rfl) ?_;rintro _ _ ⟨rfl, rfl⟩;refine .nm 2 rfl ?_;refine .bf [2] [0] 1 rfl rfl ?_;refine .ab [10] rfl ?_;cases h
 exact .rt rfl Try.results102 (.tmp rfl .nil) rfl ⟨rfl, rfl⟩ (fun _ w => w)
theorem ent101 : Ent Try.prog 101 := ⟨_, Try.func101, by kernel_rfl, by kernel_rfl⟩
noncomputable def m_slices_medianAdjacentOrdered_uint8 (data : (List Int)) (a_p1 : Int) (swaps : Int) : Option (Int × Int) :=
  bnd (m_slices_medianOrdered_uint8 data (IntKind.wrap .i64 (a_p1 - 1)) a_p1 (IntKind.wrap .i64 (a_p1 + 1)) swaps) fun r1 => some (r1.1, r1.2)
theorem c_slices_medianAdjacentOrdered_uint8 {data : (List Int)} {a_p1 : Int} {swaps : Int} {A1 : Option Addr} {c1 : Nat} {gb1 : Nat} {r : (Int × Int)} (h : m_slices_medianAdjacentOrdered_uint8 data a_p1 swaps = some r) :
    Fun Try.prog 101 [.slice A1 data.length c1, .int .i64 a_p1, .pointer (some ⟨gb1, 0, none⟩)] [.ro (SlL eu8 A1 c1 data), .res (Box gb1 3 [.int .i64 swaps])] (fun v_ F_ => v_ = .int .i64 r.2 ∧ F_ = [.res (Box gb1 3 [.int .i64 r.1])]) := by
 unfold m_slices_medianAdjacentOrdered_uint8 at h
 refine Fun.intro Try.func101 rfl rfl rfl fun w R => ?_;refine .ab [0,1,2] rfl ?_;refine .a 7 rfl ?_;obtain ⟨r1, hr1, h⟩ := bnd_e h;refine .call (c_slices_medianOrdered_uint8 hr1) ent102 rfl rfl rfl (zd [1] [1] 0 rfl) ?_;rintro _ _ ⟨rfl, rfl⟩;refine .nm 2 rfl ?_;refine .bf [6] [0] 1 rfl rfl ?_;cases h;exact .rt rfl Try.results101 (.tmp rfl .nil) rfl ⟨rfl, rfl⟩ (fun _ w => w)
theorem ent90 : Ent Try.prog 90 := ⟨_, Try.func90, by kernel_rfl, by kernel_rfl⟩
noncomputable def m_slices_choosePivotOrdered_uint8 (data : (List Int)) (a_p1 : Int) (b_p2 : Int) : Option (Int × Int) :=
  bnd ((bif decide ((IntKind.wrap .i64 (b_p2 - a_p1)) ≥ 8) then (bif decide ((IntKind.wrap .i64 (b_p2 - a_p1)) ≥ 50) then (bnd (m_slices_medianAdjacentOrdered_uint8 data (IntKind.wrap .i64 (a_p1 + (IntKind.wrap .i64 ((IntKind.wrap .i64 ((IntKind.wrap .i64 (b_p2 - a_p1)).tdiv 4)) * 1)))) 0) fun r1 => bnd (m_slices_medianAdjacentOrdered_uint8 data (IntKind.wrap .i64 (a_p1 + (IntKind.wrap .i64 ((IntKind.wrap .i64 ((IntKind.wrap .i64 (b_p2 - a_p1)).tdiv 4)) * 2)))) r1.1) fun r2 => bnd (m_slices_medianAdjacentOrdered_uint8 data (IntKind.wrap .i64 (a_p1 + (IntKind.wrap .i64 ((IntKind.wrap .i64 ((IntKind.wrap .i64 (b_p2 - a_p1)).tdiv 4)) * 3)))) r2.1) fun r3 => bnd (m_slices_medianOrdered_uint8 data r1.2 r2.2 r3.2 r3.1) fun r4 => some (r4.2, r4.1)) else (bnd (m_slices_medianOrdered_uint8 data (IntKind.wrap .i64 (a_p1 + (IntKind.wrap .i64 ((IntKind.wrap .i64 ((IntKind.wrap .i64 (b_p2 - a_p1)).tdiv 4)) * 1)))) (IntKind.wrap .i64 (a_p1 + (IntKind.wrap .i64 ((IntKind.wrap .i64 ((IntKind.wrap .i64 (b_p2 - a_p1)).tdiv 4)) * 2)))) (IntKind.wrap .i64 (a_p1 + (IntKind.wrap .i64 ((IntKind.wrap .i64 ((IntKind.wrap .i64 (b_p2 - a_p1)).tdiv 4)) * 3)))) 0) fun r5 => some (r5.2, r5.1))) else (some (IntKind.wrap .i64 (a_p1 + (IntKind.wrap .i64 ((IntKind.wrap .i64 ((IntKind.wrap .i64 (b_p2 - a_p1)).tdiv 4)) * 2))), 0)) : Option (Int × Int))) fun o1 => bif (o1.2 == 0) then (some (o1.1, 1)) else (bif (o1.2 == 12) then (some (o1.1, 2)) else (some (o1.1, 0)))
theorem c_slices_choosePivotOrdered_uint8 {data : (List Int)} {a_p1 : Int} {b_p2 : Int} {A1 : Option Addr} {c1 : Nat} {r : (Int × Int)} (h : m_slices_choosePivotOrdered_uint8 data a_p1 b_p2 = some r) :
    Fun Try.prog 90 [.slice A1 data.length c1, .int .i64 a_p1, .int .i64 b_p2] [.ro (SlL eu8 A1 c1 data)] (Val (.tuple #[.int .i64 r.1, .int .i64 r.2])) := by
 unfold m_slices_choosePivotOrdered_uint8 at h
 refine Fun.intro Try.func90 rfl rfl rfl fun w R => ?_;refine .ab [0,1,2] rfl ?_;refine .ab [0,1,8] rfl ?_;refine .seq ?_;refine .region ?_;refine .alloc rfl rfl fun g1 => ?_;refine .done ?_;refine .thenN ?_;refine .ab [0,1,8,9,10] rfl ?_;refine .ab [0,1,8,9,10,11] rfl ?_;refine .ab [0,8,9,10,11,12] rfl ?_;refine .seq ?_;obtain ⟨o1, hj1, h⟩ := bnd_e h
 refine .cutE (fun (e1 : Unit) => [(9, .pointer (some ⟨g1, 0, none⟩)), (11, .int .i64 o1.1)]) (fun e1 => .res (Box g1 3 [.int .i64 o1.2]) :: R) ?_ ?_
 ·refine .ab [0,8,9,10,11,12,32] rfl ?_;refine .cb hj1 rfl (fun hj1 => ?_) (fun hj1 => ?_)
  ·refine .seq ?_;refine .ab [0,9,10,11,12,34] rfl ?_;refine .cb hj1 rfl (fun hj1 => ?_) (fun hj1 => ?_)
   ·refine .a 2 rfl ?_;obtain ⟨r1, hr1, hj1⟩ := bnd_e hj1;refine .call (c_slices_medianAdjacentOrdered_uint8 hr1) ent101 rfl rfl rfl (zd [1] [] 0 rfl) ?_;rintro _ _ ⟨rfl, rfl⟩;refine .nm 2 rfl ?_;refine .b [0,9,10,11,12] rfl ?_;refine .a 2 rfl ?_;obtain ⟨r2, hr2, hj1⟩ := bnd_e hj1;refine .call (c_slices_medianAdjacentOrdered_uint8 hr2) ent101 rfl rfl rfl (zd [1] [] 0 rfl) ?_;rintro _ _ ⟨rfl, rfl⟩
    refine .nm 2 rfl ?_;refine .b [0,9,10,11,12] rfl ?_;refine .region ?_;refine .n 2 rfl ?_;obtain ⟨r3, hr3, hj1⟩ := bnd_e hj1;refine .call (c_slices_medianAdjacentOrdered_uint8 hr3) ent101 rfl rfl rfl (zd [1] [] 0 rfl) ?_;rintro _ _ ⟨rfl, rfl⟩;refine .nm 2 rfl ?_;refine .b [0,9,10,11,12] rfl ?_;refine .region ?_;refine .n 4 rfl ?_;obtain ⟨r4, hr4, hj1⟩ := bnd_e hj1
    refine .call (c_slices_medianOrdered_uint8 hr4) ent102 rfl rfl rfl (zd [1] [] 0 rfl) ?_;rintro _ _ ⟨rfl, rfl⟩;refine .nm 2 rfl ?_;cases hj1;refine .be rfl ?_;exact .hereE () (zb rfl) (zl [0] 1 rfl)
   refine .sk ?_;refine .pr [0,9,10,11,12] rfl ?_;refine .region ?_;refine .n 4 rfl ?_;obtain ⟨r5, hr5, hj1⟩ := bnd_e hj1;refine .call (c_slices_medianOrdered_uint8 hr5) ent102 rfl rfl rfl (zd [1] [] 0 rfl) ?_;rintro _ _ ⟨rfl, rfl⟩;refine .nm 2 rfl ?_;cases hj1;refine .be rfl ?_;exact .hereE () (zb rfl) (zl [0] 1 rfl)
  cases hj1;refine .sk ?_;exact .hereE () (zb rfl) (zl [0] 1 rfl)
 rintro e1;refine .seq ?_;refine .region ?_;refine .loadB 0 rfl rfl (.head _) rfl rfl ?_;refine .bf [11,49] [] 1 rfl rfl ?_;refine .block ?_;refine .ab [11,49,51] rfl ?_;refine .cb h rfl (fun h => ?_) (fun h => ?_)
 ·refine .ab [6,7] rfl ?_;cases h;exact .rt rfl Try.results90 (.tmp rfl (.tmp rfl .nil)) rfl ⟨rfl, rfl⟩ (fun _ w => w)
 refine .ab [11,54] rfl ?_;refine .cb h rfl (fun h => ?_) (fun h => ?_)
 ·refine .ab [6,7] rfl ?_;cases h;exact .rt rfl Try.results90 (.tmp rfl (.tmp rfl .nil)) rfl ⟨rfl, rfl⟩ (fun _ w => w)
 refine .ab [6,7] rfl ?_;cases h;exact .rt rfl Try.results90 (.tmp rfl (.tmp rfl .nil)) rfl ⟨rfl, rfl⟩ (fun _ w => w)
theorem ent91 : Ent Try.prog 91 := ⟨_, Try.func91, by kernel_rfl, by kernel_rfl⟩
noncomputable def m_slices_reverseRangeOrdered_uint8 (data : (List Int)) (a_p1 : Int) (b_p2 : Int) : Option (List Int) :=
  bnd (loopM (τ := List Int) (fun (s1 : List Int × Int × Int) => bif decide (s1.2.1 < s1.2.2) then (bnd (elt s1.1 s1.2.2) fun x1 => bnd (elt s1.1 s1.2.2) fun x2 => bnd (elt s1.1 s1.2.1) fun x3 => bnd (elt s1.1 s1.2.1) fun x4 => bnd (setE s1.1 s1.2.1 x2) fun l1 => bnd (elt l1 s1.2.2) fun x5 => bnd (setE l1 s1.2.2 x3) fun l2 => some (.next (l2, IntKind.wrap .i64 (s1.2.1 + 1), IntKind.wrap .i64 (s1.2.2 - 1)))) else (some (.done s1.1))) (data, a_p1, IntKind.wrap .i64 (b_p2 - 1))) fun o1 => some o1
theorem c_slices_reverseRangeOrdered_uint8 {data : (List Int)} {a_p1 : Int} {b_p2 : Int} {A1 : Option Addr} {c1 : Nat} {r : (List Int)} (h : m_slices_reverseRangeOrdered_uint8 data a_p1 b_p2 = some r) :
    Fun Try.prog 91 [.slice A1 data.length c1, .int .i64 a_p1, .int .i64 b_p2] [.res (OwnL eu8 5 A1 c1 data)] (fun v_ F_ => v_ = .tuple #[] ∧ F_ = [.res (OwnL eu8 5 A1 c1 r)]) := by
 unfold m_slices_reverseRangeOrdered_uint8 at h
 refine Fun.intro Try.func91 rfl rfl rfl fun w R => ?_;refine .ab [0,2,6] rfl ?_;refine .ab [0,6,7] rfl ?_;obtain ⟨o1, hl1, h⟩ := bnd_e h;refine .selfThen ?_;refine .cutE (fun (e2 : Unit) => []) (fun e2 => .res (OwnL eu8 5 A1 c1 o1) :: R) ?_ ?_
 ·refine .block ?_;refine .loop hl1 (fun (s1 : List Int × Int × Int) (e1 : Unit) => [(0, .slice A1 s1.1.length c1), (6, .int .i64 s1.2.1), (7, .int .i64 s1.2.2)]) (fun s1 e1 => .res (OwnL eu8 5 A1 c1 s1.1) :: R) (fun _ _ => True) () trivial (zb rfl) (fun _ w => w) ?_;rintro s1 e1 - hit1;obtain ⟨st1, hm1, hd1⟩ := iter_e hit1;have h1 := hm1;refine .seq ?_;refine .ab [0,6,7,13] rfl ?_
  refine .cb h1 rfl (fun h1 => ?_) (fun h1 => ?_)
  ·refine .sk ?_;refine .pr [0,6,7] rfl ?_;refine .block ?_;refine .seq ?_;obtain ⟨x1, hx1, h1⟩ := bnd_e h1;refine .openO (.head _) hx1 fun g1 hA => ?_;subst hA;refine .regionX (iL [(.fl, 0), (.fl, 1), (.fl, 2), (.fl, 3), (.fl, 4), (.fl, 5), (.fx, 6), (.fx, 7), (.fl, 8), (.fl, 9), (.fx, 10), (.fx, 11), (.fx, 12), (.ef, 13), (.fx, 14), (.ef, 15)] .nil) (R) mixed (by kernel_rfl) (zl [] 1 rfl) ?_
   refine .xn 6 rfl ?_;obtain ⟨x2, hx2, h1⟩ := bnd_e h1;refine .xfx (Rd.ixO (E := eu8) hx2 rfl rfl rfl rfl rfl rfl rfl) rfl ?_;refine .xfx (Rd.ldO 0 hx2 rfl (.head _) rfl rfl) rfl ?_;refine .xn 2 rfl ?_;obtain ⟨x3, hx3, h1⟩ := bnd_e h1;refine .xfx (Rd.ixO (E := eu8) hx3 rfl rfl rfl rfl rfl rfl rfl) rfl ?_;refine .xfx (Rd.ldO 0 hx3 rfl (.head _) rfl rfl) rfl ?_;obtain ⟨x4, hx4, h1⟩ := bnd_e h1
   refine .xfx (Rd.ixO (E := eu8) hx4 rfl rfl rfl rfl rfl rfl rfl) rfl ?_;refine .xef ?_;obtain ⟨l1, hl1, h1⟩ := bnd_e h1;refine .stO 0 hx4 hl1 rfl rfl .z rfl rfl rfl rfl rfl ?_;refine .ss 0 (sl_len hl1) ?_;refine .ss 14 (sl_len hl1) ?_;refine .ss 16 (sl_len hl1) ?_;refine .ss 18 (sl_len hl1) ?_;refine .ss 22 (sl_len hl1) ?_;refine .xk (zl [] 1 rfl) ?_;obtain ⟨x5, hx5, h1⟩ := bnd_e h1
   refine .xfx (Rd.ixO (E := eu8) hx5 rfl rfl rfl rfl rfl rfl rfl) rfl ?_;refine .xef ?_;obtain ⟨l2, hl2, h1⟩ := bnd_e h1;refine .stO 0 hx5 hl2 rfl rfl .z rfl rfl rfl rfl rfl ?_;refine .ss 0 (sl_len hl2) ?_;refine .ss 14 (sl_len hl2) ?_;refine .ss 16 (sl_len hl2) ?_;refine .ss 18 (sl_len hl2) ?_;refine .ss 22 (sl_len hl2) ?_;refine .xk (zl [] 1 rfl) ?_;refine .xdone ?_;refine .thenN ?_
   refine .pr [0,6,7] rfl ?_;refine .ab [0,6,7] rfl ?_;refine .region ?_;refine .n 3 rfl ?_;refine .done ?_;refine .blkN ?_;cases h1;refine .thenN ?_;exact .again _ () hm1 trivial (zb rfl) (fun _ w => w)
  refine .exit ?_;repeat (first | refine .thenX ?_ | refine .blkMiss rfl ?_)
  refine .blkHit ?_;cases h1;have ho := hd1 _ rfl;subst ho;refine .thenN ?_;exact .hereE () trivial (fun _ w => w)
 rintro e2;cases h;exact .finN' Try.results91 .nil rfl _ ⟨rfl, rfl⟩ (fun _ w => w)
theorem ent92 : Ent Try.prog 92 := ⟨_, Try.func92, by kernel_rfl, by kernel_rfl⟩
noncomputable def m_slices_partialInsertionSortOrdered_uint8 (data : (List Int)) (a_p1 : Int) (b_p2 : Int) : Option ((List Int) × Bool) :=
  bnd (loopM (τ := ((List Int) × Bool) ⊕ List Int) (fun (s1 : List Int × Int × Int) => bif decide (s1.2.2 < 5) then (bnd (loopM (τ := Int) (fun (s2 : Int) => bnd ((bif decide (s2 < b_p2) then (bnd (elt s1.1 s2) fun x1 => bnd (elt s1.1 (IntKind.wrap .i64 (s2 - 1))) fun x2 => bnd (m_cmp_Less_uint8 x1 x2) fun r1 => some (!r1)) else (some false) : Option Bool)) fun o4 => bif o4 then (some (.next (IntKind.wrap .i64 (s2 + 1)))) else (some (.done s2))) s1.2.1) fun o3 => bif (o3 == b_p2) then (some (.done (.inl (s1.1, true)))) else (bif decide ((IntKind.wrap .i64 (b_p2 - a_p1)) < 50) then (some (.done (.inl (s1.1, false)))) else (bnd (elt s1.1 (IntKind.wrap .i64 (o3 - 1))) fun x3 => bnd (elt s1.1 (IntKind.wrap .i64 (o3 - 1))) fun x4 => bnd (elt s1.1 o3) fun x5 => bnd (elt s1.1 o3) fun x6 => bnd (setE s1.1 o3 x4) fun l1 => bnd (elt l1 (IntKind.wrap .i64 (o3 - 1))) fun x7 => bnd (setE l1 (IntKind.wrap .i64 (o3 - 1)) x5) fun l2 => bnd ((bif decide ((IntKind.wrap .i64 (o3 - a_p1)) ≥ 2) then (bnd (loopM (τ := List Int) (fun (s3 : List Int × Int) => bif decide (s3.2 ≥ 1) then (bnd (elt s3.1 s3.2) fun x8 => bnd (elt s3.1 (IntKind.wrap .i64 (s3.2 - 1))) fun x9 => bnd (m_cmp_Less_uint8 x8 x9) fun r2 => bif !r2 then (some (.done s3.1)) else (bnd (elt s3.1 (IntKind.wrap .i64 (s3.2 - 1))) fun x10 => bnd (elt s3.1 s3.2) fun x11 => bnd (elt s3.1 s3.2) fun x12 => bnd (setE s3.1 s3.2 x10) fun l3 => bnd (elt l3 (IntKind.wrap .i64 (s3.2 - 1))) fun x13 => bnd (setE l3 (IntKind.wrap .i64 (s3.2 - 1)) x11) fun l4 => some (.next (l4, IntKind.wrap .i64 (s3.2 - 1))))) else (some (.done s3.1))) (l2, IntKind.wrap .i64 (o3 - 1))) fun o6 => some o6) else (some l2) : Option (List Int))) fun o5 => bif decide ((IntKind.wrap .i64 (b_p2 - o3)) ≥ 2) then (bnd (loopM (τ := List Int) (fun (s4 : List Int × Int) => bif decide (s4.2 < b_p2) then (bnd (elt s4.1 s4.2) fun x14 => bnd (elt s4.1 (IntKind.wrap .i64 (s4.2 - 1))) fun x15 => bnd (m_cmp_Less_uint8 x14 x15) fun r3 => bif !r3 then (some (.done s4.1)) else (bnd (elt s4.1 (IntKind.wrap .i64 (s4.2 - 1))) fun x16 => bnd (elt s4.1 s4.2) fun x17 => bnd (elt s4.1 s4.2) fun x18 => bnd (setE s4.1 s4.2 x16) fun l5 => bnd (elt l5 (IntKind.wrap .i64 (s4.2 - 1))) fun x19 => bnd (setE l5 (IntKind.wrap .i64 (s4.2 - 1)) x17) fun l6 => some (.next (l6, IntKind.wrap .i64 (s4.2 + 1))))) else (some (.done s4.1))) (o5, IntKind.wrap .i64 (o3 + 1))) fun o7 => some (.next (o7, o3, IntKind.wrap .i64 (s1.2.2 + 1)))) else (some (.next (o5, o3, IntKind.wrap .i64 (s1.2.2 + 1))))))) else (some (.done (.inr s1.1)))) (data, IntKind.wrap .i64 (a_p1 + 1), 0)) fun o1 => retOr o1 fun o2 => some (o2, false)
set_option maxHeartbeats 4000000 in
theorem c_slices_partialInsertionSortOrdered_uint8 {data : (List Int)} {a_p1 : Int} {b_p2 : Int} {A1 : Option Addr} {c1 : Nat} {r : ((List Int) × Bool)} (h : m_slices_partialInsertionSortOrdered_uint8 data a_p1 b_p2 = some r) :
    Fun Try.prog 92 [.slice A1 data.length c1, .int .i64 a_p1, .int .i64 b_p2] [.res (OwnL eu8 5 A1 c1 data)] (fun v_ F_ => v_ = .bool r.2 ∧ F_ = [.res (OwnL eu8 5 A1 c1 r.1)]) := by
 unfold m_slices_partialInsertionSortOrdered_uint8 at h
 refine Fun.intro Try.func92 rfl rfl rfl fun w R => ?_;refine .ab [0,1,2] rfl ?_;refine .ab [0,1,2,7] rfl ?_;refine .seq ?_;refine .ae rfl ?_;obtain ⟨o1, hl1, h⟩ := bnd_e h;refine .cutI (fun (o2 : List Int) (e2 : Unit) => []) (fun o2 e2 => .res (OwnL eu8 5 A1 c1 o2) :: R) (fun o2 => o1 = .inr o2) ?_ ?_
 ·refine .block ?_;refine .loop hl1 (fun (s1 : List Int × Int × Int) (e1 : Unit) => [(0, .slice A1 s1.1.length c1), (1, .int .i64 a_p1), (2, .int .i64 b_p2), (7, .int .i64 s1.2.1), (8, .int .i64 s1.2.2)]) (fun s1 e1 => .res (OwnL eu8 5 A1 c1 s1.1) :: R) (fun _ _ => True) () trivial (zb rfl) (fun _ w => w) ?_;rintro s1 e1 - hit1;obtain ⟨st1, hm1, hd1⟩ := iter_e hit1;have h1 := hm1;refine .seq ?_
  refine .ab [0,1,2,7,8,14] rfl ?_;refine .cb h1 rfl (fun h1 => ?_) (fun h1 => ?_)
  ·refine .sk ?_;refine .pr [0,1,2,7,8] rfl ?_;refine .seq ?_;refine .block ?_;refine .seq ?_;obtain ⟨o3, hl2, h1⟩ := bnd_e h1;refine .cutE (fun (e4 : Unit) => [(0, .slice A1 s1.1.length c1), (1, .int .i64 a_p1), (2, .int .i64 b_p2), (7, .int .i64 o3), (8, .int .i64 s1.2.2)]) (fun e4 => .res (OwnL eu8 5 A1 c1 s1.1) :: R) ?_ ?_
   ·refine .block ?_;refine .loop hl2 (fun (s2 : Int) (e3 : Unit) => [(0, .slice A1 s1.1.length c1), (1, .int .i64 a_p1), (2, .int .i64 b_p2), (7, .int .i64 s2), (8, .int .i64 s1.2.2)]) (fun s2 e3 => .res (OwnL eu8 5 A1 c1 s1.1) :: R) (fun _ _ => True) () trivial (zb rfl) (fun _ w => w) ?_;rintro s2 e3 - hit2;obtain ⟨st2, hm2, hd2⟩ := iter_e hit2;have h2 := hm2;refine .seq ?_;refine .seq ?_
    obtain ⟨o4, hj1, h2⟩ := bnd_e h2;refine .cutE (fun (e5 : Unit) => [(0, .slice A1 s1.1.length c1), (1, .int .i64 a_p1), (2, .int .i64 b_p2), (7, .int .i64 s2), (8, .int .i64 s1.2.2), (32, .bool o4)]) (fun e5 => .res (OwnL eu8 5 A1 c1 s1.1) :: R) ?_ ?_
    ·refine .regionF mixed (by kernel_rfl) ?_;refine .n 4 rfl ?_;refine .gSplit (dj := 20) _ rfl (fun hb2 => ?_) (fun hb2 => ?_)
     ·replace hj1 := bif_t hb2 hj1;refine .n 2 rfl ?_;refine .gOn (dj := 20) rfl rfl ?_;obtain ⟨x1, hx1, hj1⟩ := bnd_e hj1;refine .ixO hx1 rfl rfl rfl (.head _) rfl rfl rfl rfl rfl fun g1 hA => ?_;subst hA;refine .gOn (dj := 20) rfl rfl ?_;refine .ldO 0 hx1 rfl rfl (.head _) rfl rfl ?_;refine .n 3 rfl ?_;refine .gOn (dj := 20) rfl rfl ?_;obtain ⟨x2, hx2, hj1⟩ := bnd_e hj1
      refine .ixO hx2 rfl rfl rfl (.head _) rfl rfl rfl rfl rfl fun g2 hA => ?_;cases hA;refine .gOn (dj := 20) rfl rfl ?_;refine .ldO 0 hx2 rfl rfl (.head _) rfl rfl ?_;refine .gOn (dj := 20) rfl rfl ?_;obtain ⟨r1, hr1, hj1⟩ := bnd_e hj1;refine .callV (c_cmp_Less_uint8 hr1) ent93 rfl rfl rfl rfl trivial ?_;cases hj1;refine .beq rfl ?_;exact .hereE () (zb rfl) (fun _ w => w)
     replace hj1 := bif_f hb2 hj1;cases hj1;refine .beq rfl ?_;exact .hereE () (zb rfl) (fun _ w => w)
    rintro e5;refine .cb h2 rfl (fun h2 => ?_) (fun h2 => ?_)
    ·refine .sk ?_;refine .pr [0,1,2,7,8] rfl ?_;refine .block ?_;refine .region ?_;refine .n 3 rfl ?_;refine .done ?_;refine .blkN ?_;cases h2;refine .thenN ?_;exact .again _ () hm2 trivial (zb rfl) (fun _ w => w)
    refine .exit ?_;repeat (first | refine .thenX ?_ | refine .blkMiss rfl ?_)
    refine .blkHit ?_;cases h2;have ho := hd2 _ rfl;subst ho;refine .thenN ?_;exact .hereE () (zb rfl) (fun _ w => w)
   rintro e4;refine .seq ?_;refine .ab [0,1,2,7,8,37] rfl ?_;refine .cb h1 rfl (fun h1 => ?_) (fun h1 => ?_)
   ·refine .ab [6] rfl ?_;refine .ret ?_;repeat (first | refine .thenR ?_ | refine .blkR ?_)
    cases h1;have ho := hd1 _ rfl;subst ho;have h : some _ = some _ := h;cases h;exact .finR Try.results92 (.tmp rfl .nil) rfl _ ⟨rfl, rfl⟩ (fun _ w => w)
   refine .sk ?_;refine .pr [0,1,2,7,8] rfl ?_;refine .seq ?_;refine .ab [0,1,2,7,8,41] rfl ?_;refine .cb h1 rfl (fun h1 => ?_) (fun h1 => ?_)
   ·refine .ab [6] rfl ?_;refine .ret ?_;repeat (first | refine .thenR ?_ | refine .blkR ?_)
    cases h1;have ho := hd1 _ rfl;subst ho;have h : some _ = some _ := h;cases h;exact .finR Try.results92 (.tmp rfl .nil) rfl _ ⟨rfl, rfl⟩ (fun _ w => w)
   refine .sk ?_;refine .pr [0,1,2,7,8] rfl ?_;refine .seq ?_;obtain ⟨x3, hx3, h1⟩ := bnd_e h1;refine .openO (.head _) hx3 fun g3 hA => ?_;subst hA
   refine .regionX (iL [(.fl, 0), (.fl, 1), (.fl, 2), (.fl, 3), (.fl, 4), (.fl, 5), (.fl, 6), (.fl, 7), (.fx, 8), (.fx, 9), (.fl, 10), (.fl, 11), (.fx, 12), (.fx, 13), (.fx, 14), (.ef, 15), (.fx, 16), (.ef, 17)] .nil) (R) mixed (by kernel_rfl) (zl [] 1 rfl) ?_;refine .xn 8 rfl ?_;obtain ⟨x4, hx4, h1⟩ := bnd_e h1;refine .xfx (Rd.ixO (E := eu8) hx4 rfl rfl rfl rfl rfl rfl rfl) rfl ?_
   refine .xfx (Rd.ldO 0 hx4 rfl (.head _) rfl rfl) rfl ?_;refine .xn 2 rfl ?_;obtain ⟨x5, hx5, h1⟩ := bnd_e h1;refine .xfx (Rd.ixO (E := eu8) hx5 rfl rfl rfl rfl rfl rfl rfl) rfl ?_;refine .xfx (Rd.ldO 0 hx5 rfl (.head _) rfl rfl) rfl ?_;obtain ⟨x6, hx6, h1⟩ := bnd_e h1;refine .xfx (Rd.ixO (E := eu8) hx6 rfl rfl rfl rfl rfl rfl rfl) rfl ?_;refine .xef ?_;obtain ⟨l1, hl1, h1⟩ := bnd_e h1
   refine .stO 0 hx6 hl1 rfl rfl .z rfl rfl rfl rfl rfl ?_;refine .ss 0 (sl_len hl1) ?_;refine .ss 42 (sl_len hl1) ?_;refine .ss 44 (sl_len hl1) ?_;refine .ss 47 (sl_len hl1) ?_;refine .ss 52 (sl_len hl1) ?_;refine .xk (zl [] 1 rfl) ?_;obtain ⟨x7, hx7, h1⟩ := bnd_e h1;refine .xfx (Rd.ixO (E := eu8) hx7 rfl rfl rfl rfl rfl rfl rfl) rfl ?_;refine .xef ?_;obtain ⟨l2, hl2, h1⟩ := bnd_e h1
   refine .stO 0 hx7 hl2 rfl rfl .z rfl rfl rfl rfl rfl ?_;refine .ss 0 (sl_len hl2) ?_;refine .ss 42 (sl_len hl2) ?_;refine .ss 44 (sl_len hl2) ?_;refine .ss 47 (sl_len hl2) ?_;refine .ss 52 (sl_len hl2) ?_;refine .xk (zl [] 1 rfl) ?_;refine .xdone ?_;refine .thenN ?_;refine .pr [0,1,2,7,8] rfl ?_;refine .seq ?_;obtain ⟨o5, hj2, h1⟩ := bnd_e h1
   refine .cutE (fun (e6 : Unit) => [(0, .slice (some ⟨g3, 0, none⟩) o5.length c1), (1, .int .i64 a_p1), (2, .int .i64 b_p2), (7, .int .i64 o3), (8, .int .i64 s1.2.2)]) (fun e6 => .res (OwnL eu8 5 (some ⟨g3, 0, none⟩) c1 o5) :: R) ?_ ?_
   ·refine .ab [0,1,2,7,8,61] rfl ?_;refine .cb hj2 rfl (fun hj2 => ?_) (fun hj2 => ?_)
    ·refine .ab [0,1,2,7,8,9] rfl ?_;obtain ⟨o6, hl3, hj2⟩ := bnd_e hj2;refine .cutE (fun (e8 : Unit) => [(0, .slice (some ⟨g3, 0, none⟩) o6.length c1), (1, .int .i64 a_p1), (2, .int .i64 b_p2), (7, .int .i64 o3), (8, .int .i64 s1.2.2)]) (fun e8 => .res (OwnL eu8 5 (some ⟨g3, 0, none⟩) c1 o6) :: R) ?_ ?_
     ·refine .block ?_;refine .loop hl3 (fun (s3 : List Int × Int) (e7 : Unit) => [(0, .slice (some ⟨g3, 0, none⟩) s3.1.length c1), (1, .int .i64 a_p1), (2, .int .i64 b_p2), (7, .int .i64 o3), (8, .int .i64 s1.2.2), (9, .int .i64 s3.2)]) (fun s3 e7 => .res (OwnL eu8 5 (some ⟨g3, 0, none⟩) c1 s3.1) :: R) (fun _ _ => True) () trivial (zb rfl) (fun _ w => w) ?_;rintro s3 e7 - hit3
      obtain ⟨st3, hm3, hd3⟩ := iter_e hit3;have h3 := hm3;refine .seq ?_;refine .ab [0,1,2,7,8,9,65] rfl ?_;refine .cb h3 rfl (fun h3 => ?_) (fun h3 => ?_)
      ·refine .sk ?_;refine .pr [0,1,2,7,8,9] rfl ?_;refine .seq ?_;refine .block ?_;refine .seq ?_;refine .seq ?_;refine .regionF mixed (by kernel_rfl) ?_;refine .n 2 rfl ?_;obtain ⟨x8, hx8, h3⟩ := bnd_e h3;refine .ixO hx8 rfl rfl rfl (.head _) rfl rfl rfl rfl rfl fun g8 hA => ?_;cases hA;refine .ldO 0 hx8 rfl rfl (.head _) rfl rfl ?_;refine .n 3 rfl ?_;obtain ⟨x9, hx9, h3⟩ := bnd_e h3
       refine .ixO hx9 rfl rfl rfl (.head _) rfl rfl rfl rfl rfl fun g9 hA => ?_;cases hA;refine .ldO 0 hx9 rfl rfl (.head _) rfl rfl ?_;obtain ⟨r2, hr2, h3⟩ := bnd_e h3;refine .callV (c_cmp_Less_uint8 hr2) ent93 rfl rfl rfl rfl trivial ?_;refine .bq [0,1,2,7,8,9,78] rfl ?_;refine .cb h3 rfl (fun h3 => ?_) (fun h3 => ?_)
       ·refine .exit ?_;repeat (first | refine .thenX ?_ | refine .blkMiss rfl ?_)
        refine .blkHit ?_;cases h3;have ho := hd3 _ rfl;subst ho;refine .thenN ?_;exact .hereE () (zb rfl) (fun _ w => w)
       refine .sk ?_;refine .pr [0,1,2,7,8,9] rfl ?_;refine .regionX (iL [(.fl, 0), (.fl, 1), (.fl, 2), (.fl, 3), (.fl, 4), (.fl, 5), (.fl, 6), (.fl, 7), (.fx, 8), (.fx, 9), (.fl, 10), (.fl, 11), (.fx, 12), (.fx, 13), (.fx, 14), (.ef, 15), (.fx, 16), (.ef, 17)] .nil) (R) mixed (by kernel_rfl) (zl [] 1 rfl) ?_;refine .xn 8 rfl ?_;obtain ⟨x10, hx10, h3⟩ := bnd_e h3
       refine .xfx (Rd.ixO (E := eu8) hx10 rfl rfl rfl rfl rfl rfl rfl) rfl ?_;refine .xfx (Rd.ldO 0 hx10 rfl (.head _) rfl rfl) rfl ?_;refine .xn 2 rfl ?_;obtain ⟨x11, hx11, h3⟩ := bnd_e h3;refine .xfx (Rd.ixO (E := eu8) hx11 rfl rfl rfl rfl rfl rfl rfl) rfl ?_;refine .xfx (Rd.ldO 0 hx11 rfl (.head _) rfl rfl) rfl ?_;obtain ⟨x12, hx12, h3⟩ := bnd_e h3
       refine .xfx (Rd.ixO (E := eu8) hx12 rfl rfl rfl rfl rfl rfl rfl) rfl ?_;refine .xef ?_;obtain ⟨l3, hl3, h3⟩ := bnd_e h3;refine .stO 0 hx12 hl3 rfl rfl .z rfl rfl rfl rfl rfl ?_;refine .ss 0 (sl_len hl3) ?_;refine .ss 79 (sl_len hl3) ?_;refine .ss 81 (sl_len hl3) ?_;refine .ss 84 (sl_len hl3) ?_;refine .ss 89 (sl_len hl3) ?_;refine .xk (zl [] 1 rfl) ?_;obtain ⟨x13, hx13, h3⟩ := bnd_e h3
       refine .xfx (Rd.ixO (E := eu8) hx13 rfl rfl rfl rfl rfl rfl rfl) rfl ?_;refine .xef ?_;obtain ⟨l4, hl4, h3⟩ := bnd_e h3;refine .stO 0 hx13 hl4 rfl rfl .z rfl rfl rfl rfl rfl ?_;refine .ss 0 (sl_len hl4) ?_;refine .ss 79 (sl_len hl4) ?_;refine .ss 81 (sl_len hl4) ?_;refine .ss 84 (sl_len hl4) ?_;refine .ss 89 (sl_len hl4) ?_;refine .xk (zl [] 1 rfl) ?_;refine .xdone ?_;refine .blkN ?_
       refine .thenN ?_;refine .pr [0,1,2,7,8,9] rfl ?_;refine .region ?_;cases h3;refine .be rfl ?_;exact .again _ () hm3 trivial (zb rfl) (fun _ w => w)
      refine .exit ?_;repeat (first | refine .thenX ?_ | refine .blkMiss rfl ?_)
      refine .blkHit ?_;cases h3;have ho := hd3 _ rfl;subst ho;refine .thenN ?_;exact .hereE () (zb rfl) (fun _ w => w)
     rintro e8;cases hj2;exact .hereE () (zb rfl) (fun _ w => w)
    cases hj2;refine .sk ?_;exact .hereE () (zb rfl) (fun _ w => w)
   rintro e6;refine .ab [0,1,2,7,8,98] rfl ?_;refine .cb h1 rfl (fun h1 => ?_) (fun h1 => ?_)
   ·refine .ab [0,1,2,7,8,10] rfl ?_;obtain ⟨o7, hl4, h1⟩ := bnd_e h1;refine .selfThen ?_;refine .cutE (fun (e10 : Unit) => [(0, .slice (some ⟨g3, 0, none⟩) o7.length c1), (1, .int .i64 a_p1), (2, .int .i64 b_p2), (7, .int .i64 o3), (8, .int .i64 s1.2.2)]) (fun e10 => .res (OwnL eu8 5 (some ⟨g3, 0, none⟩) c1 o7) :: R) ?_ ?_
    ·refine .block ?_;refine .loop hl4 (fun (s4 : List Int × Int) (e9 : Unit) => [(0, .slice (some ⟨g3, 0, none⟩) s4.1.length c1), (1, .int .i64 a_p1), (2, .int .i64 b_p2), (7, .int .i64 o3), (8, .int .i64 s1.2.2), (10, .int .i64 s4.2)]) (fun s4 e9 => .res (OwnL eu8 5 (some ⟨g3, 0, none⟩) c1 s4.1) :: R) (fun _ _ => True) () trivial (zb rfl) (fun _ w => w) ?_;rintro s4 e9 - hit4
     obtain ⟨st4, hm4, hd4⟩ := iter_e hit4;have h4 := hm4;refine .seq ?_;refine .ab [0,1,2,7,8,10,103] rfl ?_;refine .cb h4 rfl (fun h4 => ?_) (fun h4 => ?_)
     ·refine .sk ?_;refine .pr [0,1,2,7,8,10] rfl ?_;refine .seq ?_;refine .block ?_;refine .seq ?_;refine .seq ?_;refine .regionF mixed (by kernel_rfl) ?_;refine .n 2 rfl ?_;obtain ⟨x14, hx14, h4⟩ := bnd_e h4;refine .ixO hx14 rfl rfl rfl (.head _) rfl rfl rfl rfl rfl fun g14 hA => ?_;cases hA;refine .ldO 0 hx14 rfl rfl (.head _) rfl rfl ?_;refine .n 3 rfl ?_;obtain ⟨x15, hx15, h4⟩ := bnd_e h4
      refine .ixO hx15 rfl rfl rfl (.head _) rfl rfl rfl rfl rfl fun g15 hA => ?_;cases hA;refine .ldO 0 hx15 rfl rfl (.head _) rfl rfl ?_;obtain ⟨r3, hr3, h4⟩ := bnd_e h4;refine .callV (c_cmp_Less_uint8 hr3) ent93 rfl rfl rfl rfl trivial ?_;refine .bq [0,1,2,7,8,10,116] rfl ?_;refine .cb h4 rfl (fun h4 => ?_) (fun h4 => ?_)
      ·refine .exit ?_;repeat (first | refine .thenX ?_ | refine .blkMiss rfl ?_)
       refine .blkHit ?_;cases h4;have ho := hd4 _ rfl;subst ho;refine .thenN ?_;exact .hereE () (zb rfl) (fun _ w => w)
      refine .sk ?_;refine .pr [0,1,2,7,8,10] rfl ?_;refine .regionX (iL [(.fl, 0), (.fl, 1), (.fl, 2), (.fl, 3), (.fl, 4), (.fl, 5), (.fl, 6), (.fl, 7), (.fx, 8), (.fx, 9), (.fl, 10), (.fl, 11), (.fx, 12), (.fx, 13), (.fx, 14), (.ef, 15), (.fx, 16), (.ef, 17)] .nil) (R) mixed (by kernel_rfl) (zl [] 1 rfl) ?_;refine .xn 8 rfl ?_;obtain ⟨x16, hx16, h4⟩ := bnd_e h4
      refine .xfx (Rd.ixO (E := eu8) hx16 rfl rfl rfl rfl rfl rfl rfl) rfl ?_;refine .xfx (Rd.ldO 0 hx16 rfl (.head _) rfl rfl) rfl ?_;refine .xn 2 rfl ?_;obtain ⟨x17, hx17, h4⟩ := bnd_e h4;refine .xfx (Rd.ixO (E := eu8) hx17 rfl rfl rfl rfl rfl rfl rfl) rfl ?_;refine .xfx (Rd.ldO 0 hx17 rfl (.head _) rfl rfl) rfl ?_;obtain ⟨x18, hx18, h4⟩ := bnd_e h4
      refine .xfx (Rd.ixO (E := eu8) hx18 rfl rfl rfl rfl rfl rfl rfl) rfl ?_;refine .xef ?_;obtain ⟨l5, hl5, h4⟩ := bnd_e h4;refine .stO 0 hx18 hl5 rfl rfl .z rfl rfl rfl rfl rfl ?_;refine .ss 0 (sl_len hl5) ?_;refine .ss 117 (sl_len hl5) ?_;refine .ss 119 (sl_len hl5) ?_;refine .ss 122 (sl_len hl5) ?_;refine .ss 127 (sl_len hl5) ?_;refine .xk (zl [] 1 rfl) ?_;obtain ⟨x19, hx19, h4⟩ := bnd_e h4
      refine .xfx (Rd.ixO (E := eu8) hx19 rfl rfl rfl rfl rfl rfl rfl) rfl ?_;refine .xef ?_;obtain ⟨l6, hl6, h4⟩ := bnd_e h4;refine .stO 0 hx19 hl6 rfl rfl .z rfl rfl rfl rfl rfl ?_;refine .ss 0 (sl_len hl6) ?_;refine .ss 117 (sl_len hl6) ?_;refine .ss 119 (sl_len hl6) ?_;refine .ss 122 (sl_len hl6) ?_;refine .ss 127 (sl_len hl6) ?_;refine .xk (zl [] 1 rfl) ?_;refine .xdone ?_;refine .blkN ?_
      refine .thenN ?_;refine .pr [0,1,2,7,8,10] rfl ?_;refine .region ?_;cases h4;refine .be rfl ?_;exact .again _ () hm4 trivial (zb rfl) (fun _ w => w)
     refine .exit ?_;repeat (first | refine .thenX ?_ | refine .blkMiss rfl ?_)
     refine .blkHit ?_;cases h4;have ho := hd4 _ rfl;subst ho;refine .thenN ?_;exact .hereE () (zb rfl) (fun _ w => w)
    rintro e10;refine .blkN ?_;refine .thenN ?_;refine .region ?_;cases h1;refine .be rfl ?_;exact .again _ () hm1 trivial (zb rfl) (fun _ w => w)
   refine .skip ?_;refine .blkN ?_;refine .thenN ?_;refine .pr [0,1,2,7,8] rfl ?_;refine .region ?_;cases h1;refine .be rfl ?_;exact .again _ () hm1 trivial (zb rfl) (fun _ w => w)
  refine .exit ?_;repeat (first | refine .thenX ?_ | refine .blkMiss rfl ?_)
  refine .blkHit ?_;cases h1;have ho := hd1 _ rfl;subst ho;refine .thenN ?_;exact .hereI s1.1 () rfl trivial (fun _ w => w)
 rintro o2 e2 ho;subst ho;have h := unR h;refine .ae rfl ?_;cases h;exact .rt rfl Try.results92 (.tmp rfl .nil) rfl ⟨rfl, rfl⟩ (fun _ w => w)
theorem ent94 : Ent Try.prog 94 := ⟨_, Try.func94, by kernel_rfl, by kernel_rfl⟩
noncomputable def m_slices_partitionEqualOrdered_uint8 (data : (List Int)) (a_p1 : Int) (b_p2 : Int) (pivot : Int) : Option ((List Int) × Int) :=
  bnd (elt data pivot) fun x1 => bnd (elt data pivot) fun x2 => bnd (elt data a_p1) fun x3 => bnd (elt data a_p1) fun x4 => bnd (setE data a_p1 x2) fun l1 => bnd (elt l1 pivot) fun x5 => bnd (setE l1 pivot x3) fun l2 => bnd (loopM (τ := List Int × Int) (fun (s1 : List Int × Int × Int) => bnd (loopM (τ := Int) (fun (s2 : Int) => bnd ((bif decide (s2 ≤ s1.2.2) then (bnd (elt s1.1 a_p1) fun x6 => bnd (elt s1.1 s2) fun x7 => bnd (m_cmp_Less_uint8 x6 x7) fun r1 => some (!r1)) else (some false) : Option Bool)) fun o3 => bif o3 then (some (.next (IntKind.wrap .i64 (s2 + 1)))) else (some (.done s2))) s1.2.1) fun o2 => bnd (loopM (τ := Int) (fun (s3 : Int) => bnd ((bif decide (o2 ≤ s3) then (bnd (elt s1.1 a_p1) fun x8 => bnd (elt s1.1 s3) fun x9 => bnd (m_cmp_Less_uint8 x8 x9) fun r2 => some r2) else (some false) : Option Bool)) fun o5 => bif o5 then (some (.next (IntKind.wrap .i64 (s3 - 1)))) else (some (.done s3))) s1.2.2) fun o4 => bif decide (o2 > o4) then (some (.done (s1.1, o2))) else (bnd (elt s1.1 o4) fun x10 => bnd (elt s1.1 o2) fun x11 => bnd (elt s1.1 o2) fun x12 => bnd (setE s1.1 o2 x10) fun l3 => bnd (elt l3 o4) fun x13 => bnd (setE l3 o4 x11) fun l4 => some (.next (l4, IntKind.wrap .i64 (o2 + 1), IntKind.wrap .i64 (o4 - 1))))) (l2, IntKind.wrap .i64 (a_p1 + 1), IntKind.wrap .i64 (b_p2 - 1))) fun o1 => some (o1.1, o1.2)
set_option maxHeartbeats 4000000 in
theorem c_slices_partitionEqualOrdered_uint8 {data : (List Int)} {a_p1 : Int} {b_p2 : Int} {pivot : Int} {A1 : Option Addr} {c1 : Nat} {r : ((List Int) × Int)} (h : m_slices_partitionEqualOrdered_uint8 data a_p1 b_p2 pivot = some r) :
    Fun Try.prog 94 [.slice A1 data.length c1, .int .i64 a_p1, .int .i64 b_p2, .int .i64 pivot] [.res (OwnL eu8 5 A1 c1 data)] (fun v_ F_ => v_ = .int .i64 r.2 ∧ F_ = [.res (OwnL eu8 5 A1 c1 r.1)]) := by
 unfold m_slices_partitionEqualOrdered_uint8 at h
 refine Fun.intro Try.func94 rfl rfl rfl fun w R => ?_;refine .ab [0,1,2,3] rfl ?_;refine .seq ?_;obtain ⟨x1, hx1, h⟩ := bnd_e h;refine .openO (.head _) hx1 fun g1 hA => ?_;subst hA
 refine .regionX (iL [(.fl, 0), (.fl, 1), (.fl, 2), (.fl, 3), (.fl, 4), (.fl, 5), (.fx, 6), (.fx, 7), (.fl, 8), (.fl, 9), (.fx, 10), (.fx, 11), (.fx, 12), (.ef, 13), (.fx, 14), (.ef, 15)] .nil) (R) mixed (by kernel_rfl) (zl [] 1 rfl) ?_;refine .xn 6 rfl ?_;obtain ⟨x2, hx2, h⟩ := bnd_e h;refine .xfx (Rd.ixO (E := eu8) hx2 rfl rfl rfl rfl rfl rfl rfl) rfl ?_
 refine .xfx (Rd.ldO 0 hx2 rfl (.head _) rfl rfl) rfl ?_;refine .xn 2 rfl ?_;obtain ⟨x3, hx3, h⟩ := bnd_e h;refine .xfx (Rd.ixO (E := eu8) hx3 rfl rfl rfl rfl rfl rfl rfl) rfl ?_;refine .xfx (Rd.ldO 0 hx3 rfl (.head _) rfl rfl) rfl ?_;obtain ⟨x4, hx4, h⟩ := bnd_e h;refine .xfx (Rd.ixO (E := eu8) hx4 rfl rfl rfl rfl rfl rfl rfl) rfl ?_;refine .xef ?_;obtain ⟨l1, hl1, h⟩ := bnd_e h
 refine .stO 0 hx4 hl1 rfl rfl .z rfl rfl rfl rfl rfl ?_;refine .ss 0 (sl_len hl1) ?_;refine .ss 11 (sl_len hl1) ?_;refine .ss 13 (sl_len hl1) ?_;refine .ss 15 (sl_len hl1) ?_;refine .ss 19 (sl_len hl1) ?_;refine .xk (zl [] 1 rfl) ?_;obtain ⟨x5, hx5, h⟩ := bnd_e h;refine .xfx (Rd.ixO (E := eu8) hx5 rfl rfl rfl rfl rfl rfl rfl) rfl ?_;refine .xef ?_;obtain ⟨l2, hl2, h⟩ := bnd_e h
 refine .stO 0 hx5 hl2 rfl rfl .z rfl rfl rfl rfl rfl ?_;refine .ss 0 (sl_len hl2) ?_;refine .ss 11 (sl_len hl2) ?_;refine .ss 13 (sl_len hl2) ?_;refine .ss 15 (sl_len hl2) ?_;refine .ss 19 (sl_len hl2) ?_;refine .xk (zl [] 1 rfl) ?_;refine .xdone ?_;refine .thenN ?_;refine .pr [0,1,2] rfl ?_;refine .ab [0,1,9,10] rfl ?_;refine .seq ?_;obtain ⟨o1, hl1, h⟩ := bnd_e h
 refine .cutE (fun (e2 : Unit) => [(9, .int .i64 o1.2)]) (fun e2 => .res (OwnL eu8 5 (some ⟨g1, 0, none⟩) c1 o1.1) :: R) ?_ ?_
 ·refine .block ?_;refine .loop hl1 (fun (s1 : List Int × Int × Int) (e1 : Unit) => [(0, .slice (some ⟨g1, 0, none⟩) s1.1.length c1), (1, .int .i64 a_p1), (9, .int .i64 s1.2.1), (10, .int .i64 s1.2.2)]) (fun s1 e1 => .res (OwnL eu8 5 (some ⟨g1, 0, none⟩) c1 s1.1) :: R) (fun _ _ => True) () trivial (zb rfl) (fun _ w => w) ?_;rintro s1 e1 - hit1;obtain ⟨st1, hm1, hd1⟩ := iter_e hit1;have h1 := hm1
  refine .block ?_;refine .seq ?_;obtain ⟨o2, hl2, h1⟩ := bnd_e h1;refine .cutE (fun (e4 : Unit) => [(0, .slice (some ⟨g1, 0, none⟩) s1.1.length c1), (1, .int .i64 a_p1), (9, .int .i64 o2), (10, .int .i64 s1.2.2)]) (fun e4 => .res (OwnL eu8 5 (some ⟨g1, 0, none⟩) c1 s1.1) :: R) ?_ ?_
  ·refine .block ?_;refine .loop hl2 (fun (s2 : Int) (e3 : Unit) => [(0, .slice (some ⟨g1, 0, none⟩) s1.1.length c1), (1, .int .i64 a_p1), (9, .int .i64 s2), (10, .int .i64 s1.2.2)]) (fun s2 e3 => .res (OwnL eu8 5 (some ⟨g1, 0, none⟩) c1 s1.1) :: R) (fun _ _ => True) () trivial (zb rfl) (fun _ w => w) ?_;rintro s2 e3 - hit2;obtain ⟨st2, hm2, hd2⟩ := iter_e hit2;have h2 := hm2;refine .seq ?_
   refine .seq ?_;obtain ⟨o3, hj1, h2⟩ := bnd_e h2;refine .cutE (fun (e5 : Unit) => [(0, .slice (some ⟨g1, 0, none⟩) s1.1.length c1), (1, .int .i64 a_p1), (9, .int .i64 s2), (10, .int .i64 s1.2.2), (43, .bool o3)]) (fun e5 => .res (OwnL eu8 5 (some ⟨g1, 0, none⟩) c1 s1.1) :: R) ?_ ?_
   ·refine .regionF mixed (by kernel_rfl) ?_;refine .n 4 rfl ?_;refine .gSplit (dj := 32) _ rfl (fun hb1 => ?_) (fun hb1 => ?_)
    ·replace hj1 := bif_t hb1 hj1;refine .n 2 rfl ?_;refine .gOn (dj := 32) rfl rfl ?_;obtain ⟨x6, hx6, hj1⟩ := bnd_e hj1;refine .ixO hx6 rfl rfl rfl (.head _) rfl rfl rfl rfl rfl fun g6 hA => ?_;cases hA;refine .gOn (dj := 32) rfl rfl ?_;refine .ldO 0 hx6 rfl rfl (.head _) rfl rfl ?_;refine .n 2 rfl ?_;refine .gOn (dj := 32) rfl rfl ?_;obtain ⟨x7, hx7, hj1⟩ := bnd_e hj1
     refine .ixO hx7 rfl rfl rfl (.head _) rfl rfl rfl rfl rfl fun g7 hA => ?_;cases hA;refine .gOn (dj := 32) rfl rfl ?_;refine .ldO 0 hx7 rfl rfl (.head _) rfl rfl ?_;refine .gOn (dj := 32) rfl rfl ?_;obtain ⟨r1, hr1, hj1⟩ := bnd_e hj1;refine .callV (c_cmp_Less_uint8 hr1) ent93 rfl rfl rfl rfl trivial ?_;cases hj1;refine .beq rfl ?_;exact .hereE () (zb rfl) (fun _ w => w)
    replace hj1 := bif_f hb1 hj1;cases hj1;refine .beq rfl ?_;exact .hereE () (zb rfl) (fun _ w => w)
   rintro e5;refine .cb h2 rfl (fun h2 => ?_) (fun h2 => ?_)
   ·refine .sk ?_;refine .pr [0,1,9,10] rfl ?_;refine .block ?_;refine .region ?_;refine .n 3 rfl ?_;refine .done ?_;refine .blkN ?_;cases h2;refine .thenN ?_;exact .again _ () hm2 trivial (zb rfl) (fun _ w => w)
   refine .exit ?_;repeat (first | refine .thenX ?_ | refine .blkMiss rfl ?_)
   refine .blkHit ?_;cases h2;have ho := hd2 _ rfl;subst ho;refine .thenN ?_;exact .hereE () (zb rfl) (fun _ w => w)
  rintro e4;refine .seq ?_;obtain ⟨o4, hl3, h1⟩ := bnd_e h1;refine .cutE (fun (e7 : Unit) => [(0, .slice (some ⟨g1, 0, none⟩) s1.1.length c1), (1, .int .i64 a_p1), (9, .int .i64 o2), (10, .int .i64 o4)]) (fun e7 => .res (OwnL eu8 5 (some ⟨g1, 0, none⟩) c1 s1.1) :: R) ?_ ?_
  ·refine .block ?_;refine .loop hl3 (fun (s3 : Int) (e6 : Unit) => [(0, .slice (some ⟨g1, 0, none⟩) s1.1.length c1), (1, .int .i64 a_p1), (9, .int .i64 o2), (10, .int .i64 s3)]) (fun s3 e6 => .res (OwnL eu8 5 (some ⟨g1, 0, none⟩) c1 s1.1) :: R) (fun _ _ => True) () trivial (zb rfl) (fun _ w => w) ?_;rintro s3 e6 - hit3;obtain ⟨st3, hm3, hd3⟩ := iter_e hit3;have h3 := hm3;refine .seq ?_
   refine .seq ?_;obtain ⟨o5, hj2, h3⟩ := bnd_e h3;refine .cutE (fun (e8 : Unit) => [(0, .slice (some ⟨g1, 0, none⟩) s1.1.length c1), (1, .int .i64 a_p1), (9, .int .i64 o2), (10, .int .i64 s3), (59, .bool o5)]) (fun e8 => .res (OwnL eu8 5 (some ⟨g1, 0, none⟩) c1 s1.1) :: R) ?_ ?_
   ·refine .regionF mixed (by kernel_rfl) ?_;refine .n 4 rfl ?_;refine .gSplit (dj := 49) _ rfl (fun hb3 => ?_) (fun hb3 => ?_)
    ·replace hj2 := bif_t hb3 hj2;refine .n 2 rfl ?_;refine .gOn (dj := 49) rfl rfl ?_;obtain ⟨x8, hx8, hj2⟩ := bnd_e hj2;refine .ixO hx8 rfl rfl rfl (.head _) rfl rfl rfl rfl rfl fun g8 hA => ?_;cases hA;refine .gOn (dj := 49) rfl rfl ?_;refine .ldO 0 hx8 rfl rfl (.head _) rfl rfl ?_;refine .n 2 rfl ?_;refine .gOn (dj := 49) rfl rfl ?_;obtain ⟨x9, hx9, hj2⟩ := bnd_e hj2
     refine .ixO hx9 rfl rfl rfl (.head _) rfl rfl rfl rfl rfl fun g9 hA => ?_;cases hA;refine .gOn (dj := 49) rfl rfl ?_;refine .ldO 0 hx9 rfl rfl (.head _) rfl rfl ?_;refine .gOn (dj := 49) rfl rfl ?_;obtain ⟨r2, hr2, hj2⟩ := bnd_e hj2;refine .callV (c_cmp_Less_uint8 hr2) ent93 rfl rfl rfl rfl trivial ?_;cases hj2;refine .beq rfl ?_;exact .hereE () (zb rfl) (fun _ w => w)
    replace hj2 := bif_f hb3 hj2;cases hj2;refine .beq rfl ?_;exact .hereE () (zb rfl) (fun _ w => w)
   rintro e8;refine .cb h3 rfl (fun h3 => ?_) (fun h3 => ?_)
   ·refine .sk ?_;refine .pr [0,1,9,10] rfl ?_;refine .block ?_;refine .region ?_;refine .n 3 rfl ?_;refine .done ?_;refine .blkN ?_;cases h3;refine .thenN ?_;exact .again _ () hm3 trivial (zb rfl) (fun _ w => w)
   refine .exit ?_;repeat (first | refine .thenX ?_ | refine .blkMiss rfl ?_)
   refine .blkHit ?_;cases h3;have ho := hd3 _ rfl;subst ho;refine .thenN ?_;exact .hereE () (zb rfl) (fun _ w => w)
  rintro e7;refine .seq ?_;refine .ab [0,1,9,10,64] rfl ?_;refine .cb h1 rfl (fun h1 => ?_) (fun h1 => ?_)
  ·refine .exit ?_;repeat (first | refine .thenX ?_ | refine .blkMiss rfl ?_)
   refine .blkHit ?_;cases h1;have ho := hd1 _ rfl;subst ho;refine .thenN ?_;exact .hereE () (zb rfl) (fun _ w => w)
  refine .sk ?_;refine .pr [0,1,9,10] rfl ?_;refine .seq ?_;refine .regionX (iL [(.fl, 0), (.fl, 1), (.fl, 2), (.fl, 3), (.fl, 4), (.fl, 5), (.fx, 6), (.fx, 7), (.fl, 8), (.fl, 9), (.fx, 10), (.fx, 11), (.fx, 12), (.ef, 13), (.fx, 14), (.ef, 15)] .nil) (R) mixed (by kernel_rfl) (zl [] 1 rfl) ?_;refine .xn 6 rfl ?_;obtain ⟨x10, hx10, h1⟩ := bnd_e h1
  refine .xfx (Rd.ixO (E := eu8) hx10 rfl rfl rfl rfl rfl rfl rfl) rfl ?_;refine .xfx (Rd.ldO 0 hx10 rfl (.head _) rfl rfl) rfl ?_;refine .xn 2 rfl ?_;obtain ⟨x11, hx11, h1⟩ := bnd_e h1;refine .xfx (Rd.ixO (E := eu8) hx11 rfl rfl rfl rfl rfl rfl rfl) rfl ?_;refine .xfx (Rd.ldO 0 hx11 rfl (.head _) rfl rfl) rfl ?_;obtain ⟨x12, hx12, h1⟩ := bnd_e h1
  refine .xfx (Rd.ixO (E := eu8) hx12 rfl rfl rfl rfl rfl rfl rfl) rfl ?_;refine .xef ?_;obtain ⟨l3, hl3, h1⟩ := bnd_e h1;refine .stO 0 hx12 hl3 rfl rfl .z rfl rfl rfl rfl rfl ?_;refine .ss 0 (sl_len hl3) ?_;refine .ss 65 (sl_len hl3) ?_;refine .ss 67 (sl_len hl3) ?_;refine .ss 69 (sl_len hl3) ?_;refine .ss 73 (sl_len hl3) ?_;refine .xk (zl [] 1 rfl) ?_;obtain ⟨x13, hx13, h1⟩ := bnd_e h1
  refine .xfx (Rd.ixO (E := eu8) hx13 rfl rfl rfl rfl rfl rfl rfl) rfl ?_;refine .xef ?_;obtain ⟨l4, hl4, h1⟩ := bnd_e h1;refine .stO 0 hx13 hl4 rfl rfl .z rfl rfl rfl rfl rfl ?_;refine .ss 0 (sl_len hl4) ?_;refine .ss 65 (sl_len hl4) ?_;refine .ss 67 (sl_len hl4) ?_;refine .ss 69 (sl_len hl4) ?_;refine .ss 73 (sl_len hl4) ?_;refine .xk (zl [] 1 rfl) ?_;refine .xdone ?_;refine .thenN ?_
  refine .pr [0,1,9,10] rfl ?_;refine .ab [0,1,9,10] rfl ?_;refine .region ?_;refine .n 3 rfl ?_;refine .done ?_;refine .blkN ?_;cases h1;refine .thenN ?_;exact .again _ () hm1 trivial (zb rfl) (fun _ w => w)
 rintro e2;refine .ab [8] rfl ?_;cases h;exact .rt rfl Try.results94 (.tmp rfl .nil) rfl ⟨rfl, rfl⟩ (fun _ w => w)
theorem ent95 : Ent Try.prog 95 := ⟨_, Try.func95, by kernel_rfl, by kernel_rfl⟩
noncomputable def m_slices_partitionOrdered_uint8 (data : (List Int)) (a_p1 : Int) (b_p2 : Int) (pivot : Int) : Option ((List Int) × Int × Bool) :=
  bnd (elt data pivot) fun x1 => bnd (elt data pivot) fun x2 => bnd (elt data a_p1) fun x3 => bnd (elt data a_p1) fun x4 => bnd (setE data a_p1 x2) fun l1 => bnd (elt l1 pivot) fun x5 => bnd (setE l1 pivot x3) fun l2 => bnd (loopM (τ := Int) (fun (s1 : Int) => bnd ((bif decide (s1 ≤ (IntKind.wrap .i64 (b_p2 - 1))) then (bnd (elt l2 s1) fun x6 => bnd (elt l2 a_p1) fun x7 => bnd (m_cmp_Less_uint8 x6 x7) fun r1 => some r1) else (some false) : Option Bool)) fun o2 => bif o2 then (some (.next (IntKind.wrap .i64 (s1 + 1)))) else (some (.done s1))) (IntKind.wrap .i64 (a_p1 + 1))) fun o1 => bnd (loopM (τ := Int) (fun (s2 : Int) => bnd ((bif decide (o1 ≤ s2) then (bnd (elt l2 s2) fun x8 => bnd (elt l2 a_p1) fun x9 => bnd (m_cmp_Less_uint8 x8 x9) fun r2 => some (!r2)) else (some false) : Option Bool)) fun o4 => bif o4 then (some (.next (IntKind.wrap .i64 (s2 - 1)))) else (some (.done s2))) (IntKind.wrap .i64 (b_p2 - 1))) fun o3 => bif decide (o1 > o3) then (bnd (elt l2 a_p1) fun x10 => bnd (elt l2 o3) fun x11 => bnd (elt l2 o3) fun x12 => bnd (setE l2 o3 x10) fun l3 => bnd (elt l3 a_p1) fun x13 => bnd (setE l3 a_p1 x11) fun l4 => some (l4, o3, true)) else (bnd (elt l2 o3) fun x14 => bnd (elt l2 o1) fun x15 => bnd (elt l2 o1) fun x16 => bnd (setE l2 o1 x14) fun l5 => bnd (elt l5 o3) fun x17 => bnd (setE l5 o3 x15) fun l6 => bnd (loopM (τ := List Int × Int) (fun (s3 : List Int × Int × Int) => bnd (loopM (τ := Int) (fun (s4 : Int) => bnd ((bif decide (s4 ≤ s3.2.2) then (bnd (elt s3.1 s4) fun x18 => bnd (elt s3.1 a_p1) fun x19 => bnd (m_cmp_Less_uint8 x18 x19) fun r3 => some r3) else (some false) : Option Bool)) fun o7 => bif o7 then (some (.next (IntKind.wrap .i64 (s4 + 1)))) else (some (.done s4))) s3.2.1) fun o6 => bnd (loopM (τ := Int) (fun (s5 : Int) => bnd ((bif decide (o6 ≤ s5) then (bnd (elt s3.1 s5) fun x20 => bnd (elt s3.1 a_p1) fun x21 => bnd (m_cmp_Less_uint8 x20 x21) fun r4 => some (!r4)) else (some false) : Option Bool)) fun o9 => bif o9 then (some (.next (IntKind.wrap .i64 (s5 - 1)))) else (some (.done s5))) s3.2.2) fun o8 => bif decide (o6 > o8) then (some (.done (s3.1, o8))) else (bnd (elt s3.1 o8) fun x22 => bnd (elt s3.1 o6) fun x23 => bnd (elt s3.1 o6) fun x24 => bnd (setE s3.1 o6 x22) fun l7 => bnd (elt l7 o8) fun x25 => bnd (setE l7 o8 x23) fun l8 => some (.next (l8, IntKind.wrap .i64 (o6 + 1), IntKind.wrap .i64 (o8 - 1))))) (l6, IntKind.wrap .i64 (o1 + 1), IntKind.wrap .i64 (o3 - 1))) fun o5 => bnd (elt o5.1 a_p1) fun x26 => bnd (elt o5.1 o5.2) fun x27 => bnd (elt o5.1 o5.2) fun x28 => bnd (setE o5.1 o5.2 x26) fun l9 => bnd (elt l9 a_p1) fun x29 => bnd (setE l9 a_p1 x27) fun l10 => some (l10, o5.2, false))
set_option maxHeartbeats 4000000 in
theorem c_slices_partitionOrdered_uint8 {data : (List Int)} {a_p1 : Int} {b_p2 : Int} {pivot : Int} {A1 : Option Addr} {c1 : Nat} {r : ((List Int) × Int × Bool)} (h : m_slices_partitionOrdered_uint8 data a_p1 b_p2 pivot = some r) :
    Fun Try.prog 95 [.slice A1 data.length c1, .int .i64 a_p1, .int .i64 b_p2, .int .i64 pivot] [.res (OwnL eu8 5 A1 c1 data)] (fun v_ F_ => v_ = .tuple #[.int .i64 r.2.1, .bool r.2.2] ∧ F_ = [.res (OwnL eu8 5 A1 c1 r.1)]) := by
 unfold m_slices_partitionOrdered_uint8 at h
 refine Fun.intro Try.func95 rfl rfl rfl fun w R => ?_;refine .ab [0,1,2,3] rfl ?_;refine .seq ?_;obtain ⟨x1, hx1, h⟩ := bnd_e h;refine .openO (.head _) hx1 fun g1 hA => ?_;subst hA
 refine .regionX (iL [(.fl, 0), (.fl, 1), (.fl, 2), (.fl, 3), (.fl, 4), (.fl, 5), (.fx, 6), (.fx, 7), (.fl, 8), (.fl, 9), (.fx, 10), (.fx, 11), (.fx, 12), (.ef, 13), (.fx, 14), (.ef, 15)] .nil) (R) mixed (by kernel_rfl) (zl [] 1 rfl) ?_;refine .xn 6 rfl ?_;obtain ⟨x2, hx2, h⟩ := bnd_e h;refine .xfx (Rd.ixO (E := eu8) hx2 rfl rfl rfl rfl rfl rfl rfl) rfl ?_
 refine .xfx (Rd.ldO 0 hx2 rfl (.head _) rfl rfl) rfl ?_;refine .xn 2 rfl ?_;obtain ⟨x3, hx3, h⟩ := bnd_e h;refine .xfx (Rd.ixO (E := eu8) hx3 rfl rfl rfl rfl rfl rfl rfl) rfl ?_;refine .xfx (Rd.ldO 0 hx3 rfl (.head _) rfl rfl) rfl ?_;obtain ⟨x4, hx4, h⟩ := bnd_e h;refine .xfx (Rd.ixO (E := eu8) hx4 rfl rfl rfl rfl rfl rfl rfl) rfl ?_;refine .xef ?_;obtain ⟨l1, hl1, h⟩ := bnd_e h
 refine .stO 0 hx4 hl1 rfl rfl .z rfl rfl rfl rfl rfl ?_;refine .ss 0 (sl_len hl1) ?_;refine .ss 12 (sl_len hl1) ?_;refine .ss 14 (sl_len hl1) ?_;refine .ss 16 (sl_len hl1) ?_;refine .ss 20 (sl_len hl1) ?_;refine .xk (zl [] 1 rfl) ?_;obtain ⟨x5, hx5, h⟩ := bnd_e h;refine .xfx (Rd.ixO (E := eu8) hx5 rfl rfl rfl rfl rfl rfl rfl) rfl ?_;refine .xef ?_;obtain ⟨l2, hl2, h⟩ := bnd_e h
 refine .stO 0 hx5 hl2 rfl rfl .z rfl rfl rfl rfl rfl ?_;refine .ss 0 (sl_len hl2) ?_;refine .ss 12 (sl_len hl2) ?_;refine .ss 14 (sl_len hl2) ?_;refine .ss 16 (sl_len hl2) ?_;refine .ss 20 (sl_len hl2) ?_;refine .xk (zl [] 1 rfl) ?_;refine .xdone ?_;refine .thenN ?_;refine .pr [0,1,2] rfl ?_;refine .ab [0,1,10,11] rfl ?_;refine .seq ?_;obtain ⟨o1, hl1, h⟩ := bnd_e h
 refine .cutE (fun (e2 : Unit) => [(0, .slice (some ⟨g1, 0, none⟩) l2.length c1), (1, .int .i64 a_p1), (10, .int .i64 o1), (11, .int .i64 (IntKind.wrap .i64 (b_p2 - 1)))]) (fun e2 => .res (OwnL eu8 5 (some ⟨g1, 0, none⟩) c1 l2) :: R) ?_ ?_
 ·refine .block ?_;refine .loop hl1 (fun (s1 : Int) (e1 : Unit) => [(0, .slice (some ⟨g1, 0, none⟩) l2.length c1), (1, .int .i64 a_p1), (10, .int .i64 s1), (11, .int .i64 (IntKind.wrap .i64 (b_p2 - 1)))]) (fun s1 e1 => .res (OwnL eu8 5 (some ⟨g1, 0, none⟩) c1 l2) :: R) (fun _ _ => True) () trivial (zb rfl) (fun _ w => w) ?_;rintro s1 e1 - hit1;obtain ⟨st1, hm1, hd1⟩ := iter_e hit1;have h1 := hm1
  refine .seq ?_;refine .seq ?_;obtain ⟨o2, hj1, h1⟩ := bnd_e h1;refine .cutE (fun (e3 : Unit) => [(0, .slice (some ⟨g1, 0, none⟩) l2.length c1), (1, .int .i64 a_p1), (10, .int .i64 s1), (11, .int .i64 (IntKind.wrap .i64 (b_p2 - 1))), (43, .bool o2)]) (fun e3 => .res (OwnL eu8 5 (some ⟨g1, 0, none⟩) c1 l2) :: R) ?_ ?_
  ·refine .regionF mixed (by kernel_rfl) ?_;refine .n 4 rfl ?_;refine .gSplit (dj := 33) _ rfl (fun hb1 => ?_) (fun hb1 => ?_)
   ·replace hj1 := bif_t hb1 hj1;refine .n 2 rfl ?_;refine .gOn (dj := 33) rfl rfl ?_;obtain ⟨x6, hx6, hj1⟩ := bnd_e hj1;refine .ixO hx6 rfl rfl rfl (.head _) rfl rfl rfl rfl rfl fun g6 hA => ?_;cases hA;refine .gOn (dj := 33) rfl rfl ?_;refine .ldO 0 hx6 rfl rfl (.head _) rfl rfl ?_;refine .n 2 rfl ?_;refine .gOn (dj := 33) rfl rfl ?_;obtain ⟨x7, hx7, hj1⟩ := bnd_e hj1
    refine .ixO hx7 rfl rfl rfl (.head _) rfl rfl rfl rfl rfl fun g7 hA => ?_;cases hA;refine .gOn (dj := 33) rfl rfl ?_;refine .ldO 0 hx7 rfl rfl (.head _) rfl rfl ?_;refine .gOn (dj := 33) rfl rfl ?_;obtain ⟨r1, hr1, hj1⟩ := bnd_e hj1;refine .callV (c_cmp_Less_uint8 hr1) ent93 rfl rfl rfl rfl trivial ?_;cases hj1;refine .beq rfl ?_;exact .hereE () (zb rfl) (fun _ w => w)
   replace hj1 := bif_f hb1 hj1;cases hj1;refine .beq rfl ?_;exact .hereE () (zb rfl) (fun _ w => w)
  rintro e3;refine .cb h1 rfl (fun h1 => ?_) (fun h1 => ?_)
  ·refine .sk ?_;refine .pr [0,1,10,11] rfl ?_;refine .block ?_;refine .region ?_;refine .n 3 rfl ?_;refine .done ?_;refine .blkN ?_;cases h1;refine .thenN ?_;exact .again _ () hm1 trivial (zb rfl) (fun _ w => w)
  refine .exit ?_;repeat (first | refine .thenX ?_ | refine .blkMiss rfl ?_)
  refine .blkHit ?_;cases h1;have ho := hd1 _ rfl;subst ho;refine .thenN ?_;exact .hereE () (zb rfl) (fun _ w => w)
 rintro e2;refine .seq ?_;obtain ⟨o3, hl2, h⟩ := bnd_e h;refine .cutE (fun (e5 : Unit) => [(0, .slice (some ⟨g1, 0, none⟩) l2.length c1), (1, .int .i64 a_p1), (10, .int .i64 o1), (11, .int .i64 o3)]) (fun e5 => .res (OwnL eu8 5 (some ⟨g1, 0, none⟩) c1 l2) :: R) ?_ ?_
 ·refine .block ?_;refine .loop hl2 (fun (s2 : Int) (e4 : Unit) => [(0, .slice (some ⟨g1, 0, none⟩) l2.length c1), (1, .int .i64 a_p1), (10, .int .i64 o1), (11, .int .i64 s2)]) (fun s2 e4 => .res (OwnL eu8 5 (some ⟨g1, 0, none⟩) c1 l2) :: R) (fun _ _ => True) () trivial (zb rfl) (fun _ w => w) ?_;rintro s2 e4 - hit2;obtain ⟨st2, hm2, hd2⟩ := iter_e hit2;have h2 := hm2;refine .seq ?_;refine .seq ?_
  obtain ⟨o4, hj2, h2⟩ := bnd_e h2;refine .cutE (fun (e6 : Unit) => [(0, .slice (some ⟨g1, 0, none⟩) l2.length c1), (1, .int .i64 a_p1), (10, .int .i64 o1), (11, .int .i64 s2), (60, .bool o4)]) (fun e6 => .res (OwnL eu8 5 (some ⟨g1, 0, none⟩) c1 l2) :: R) ?_ ?_
  ·refine .regionF mixed (by kernel_rfl) ?_;refine .n 4 rfl ?_;refine .gSplit (dj := 49) _ rfl (fun hb3 => ?_) (fun hb3 => ?_)
   ·replace hj2 := bif_t hb3 hj2;refine .n 2 rfl ?_;refine .gOn (dj := 49) rfl rfl ?_;obtain ⟨x8, hx8, hj2⟩ := bnd_e hj2;refine .ixO hx8 rfl rfl rfl (.head _) rfl rfl rfl rfl rfl fun g8 hA => ?_;cases hA;refine .gOn (dj := 49) rfl rfl ?_;refine .ldO 0 hx8 rfl rfl (.head _) rfl rfl ?_;refine .n 2 rfl ?_;refine .gOn (dj := 49) rfl rfl ?_;obtain ⟨x9, hx9, hj2⟩ := bnd_e hj2
    refine .ixO hx9 rfl rfl rfl (.head _) rfl rfl rfl rfl rfl fun g9 hA => ?_;cases hA;refine .gOn (dj := 49) rfl rfl ?_;refine .ldO 0 hx9 rfl rfl (.head _) rfl rfl ?_;refine .gOn (dj := 49) rfl rfl ?_;obtain ⟨r2, hr2, hj2⟩ := bnd_e hj2;refine .callV (c_cmp_Less_uint8 hr2) ent93 rfl rfl rfl rfl trivial ?_;cases hj2;refine .beq rfl ?_;exact .hereE () (zb rfl) (fun _ w => w)
   replace hj2 := bif_f hb3 hj2;cases hj2;refine .beq rfl ?_;exact .hereE () (zb rfl) (fun _ w => w)
  rintro e6;refine .cb h2 rfl (fun h2 => ?_) (fun h2 => ?_)
  ·refine .sk ?_;refine .pr [0,1,10,11] rfl ?_;refine .block ?_;refine .region ?_;refine .n 3 rfl ?_;refine .done ?_;refine .blkN ?_;cases h2;refine .thenN ?_;exact .again _ () hm2 trivial (zb rfl) (fun _ w => w)
  refine .exit ?_;repeat (first | refine .thenX ?_ | refine .blkMiss rfl ?_)
  refine .blkHit ?_;cases h2;have ho := hd2 _ rfl;subst ho;refine .thenN ?_;exact .hereE () (zb rfl) (fun _ w => w)
 rintro e5;refine .seq ?_;refine .ab [0,1,10,11,65] rfl ?_;refine .cb h rfl (fun h => ?_) (fun h => ?_)
 ·refine .seq ?_;refine .regionX (iL [(.fl, 0), (.fl, 1), (.fl, 2), (.fl, 3), (.fl, 4), (.fl, 5), (.fx, 6), (.fx, 7), (.fl, 8), (.fl, 9), (.fx, 10), (.fx, 11), (.fx, 12), (.ef, 13), (.fx, 14), (.ef, 15)] .nil) (R) mixed (by kernel_rfl) (zl [] 1 rfl) ?_;refine .xn 6 rfl ?_;obtain ⟨x10, hx10, h⟩ := bnd_e h;refine .xfx (Rd.ixO (E := eu8) hx10 rfl rfl rfl rfl rfl rfl rfl) rfl ?_
  refine .xfx (Rd.ldO 0 hx10 rfl (.head _) rfl rfl) rfl ?_;refine .xn 2 rfl ?_;obtain ⟨x11, hx11, h⟩ := bnd_e h;refine .xfx (Rd.ixO (E := eu8) hx11 rfl rfl rfl rfl rfl rfl rfl) rfl ?_;refine .xfx (Rd.ldO 0 hx11 rfl (.head _) rfl rfl) rfl ?_;obtain ⟨x12, hx12, h⟩ := bnd_e h;refine .xfx (Rd.ixO (E := eu8) hx12 rfl rfl rfl rfl rfl rfl rfl) rfl ?_;refine .xef ?_;obtain ⟨l3, hl3, h⟩ := bnd_e h
  refine .stO 0 hx12 hl3 rfl rfl .z rfl rfl rfl rfl rfl ?_;refine .ss 0 (sl_len hl3) ?_;refine .ss 66 (sl_len hl3) ?_;refine .ss 68 (sl_len hl3) ?_;refine .ss 70 (sl_len hl3) ?_;refine .ss 74 (sl_len hl3) ?_;refine .xk (zl [] 1 rfl) ?_;obtain ⟨x13, hx13, h⟩ := bnd_e h;refine .xfx (Rd.ixO (E := eu8) hx13 rfl rfl rfl rfl rfl rfl rfl) rfl ?_;refine .xef ?_;obtain ⟨l4, hl4, h⟩ := bnd_e h
  refine .stO 0 hx13 hl4 rfl rfl .z rfl rfl rfl rfl rfl ?_;refine .ss 0 (sl_len hl4) ?_;refine .ss 66 (sl_len hl4) ?_;refine .ss 68 (sl_len hl4) ?_;refine .ss 70 (sl_len hl4) ?_;refine .ss 74 (sl_len hl4) ?_;refine .xk (zl [] 1 rfl) ?_;refine .xdone ?_;refine .thenN ?_;refine .pr [11] rfl ?_;refine .ab [8,9] rfl ?_;cases h
  exact .rt rfl Try.results95 (.tmp rfl (.tmp rfl .nil)) rfl ⟨rfl, rfl⟩ (fun _ w => w)
 refine .sk ?_;refine .pr [0,1,10,11] rfl ?_;refine .seq ?_;refine .regionX (iL [(.fl, 0), (.fl, 1), (.fl, 2), (.fl, 3), (.fl, 4), (.fl, 5), (.fx, 6), (.fx, 7), (.fl, 8), (.fl, 9), (.fx, 10), (.fx, 11), (.fx, 12), (.ef, 13), (.fx, 14), (.ef, 15)] .nil) (R) mixed (by kernel_rfl) (zl [] 1 rfl) ?_;refine .xn 6 rfl ?_;obtain ⟨x14, hx14, h⟩ := bnd_e h
 refine .xfx (Rd.ixO (E := eu8) hx14 rfl rfl rfl rfl rfl rfl rfl) rfl ?_;refine .xfx (Rd.ldO 0 hx14 rfl (.head _) rfl rfl) rfl ?_;refine .xn 2 rfl ?_;obtain ⟨x15, hx15, h⟩ := bnd_e h;refine .xfx (Rd.ixO (E := eu8) hx15 rfl rfl rfl rfl rfl rfl rfl) rfl ?_;refine .xfx (Rd.ldO 0 hx15 rfl (.head _) rfl rfl) rfl ?_;obtain ⟨x16, hx16, h⟩ := bnd_e h
 refine .xfx (Rd.ixO (E := eu8) hx16 rfl rfl rfl rfl rfl rfl rfl) rfl ?_;refine .xef ?_;obtain ⟨l5, hl5, h⟩ := bnd_e h;refine .stO 0 hx16 hl5 rfl rfl .z rfl rfl rfl rfl rfl ?_;refine .ss 0 (sl_len hl5) ?_;refine .ss 81 (sl_len hl5) ?_;refine .ss 83 (sl_len hl5) ?_;refine .ss 85 (sl_len hl5) ?_;refine .ss 89 (sl_len hl5) ?_;refine .xk (zl [] 1 rfl) ?_;obtain ⟨x17, hx17, h⟩ := bnd_e h
 refine .xfx (Rd.ixO (E := eu8) hx17 rfl rfl rfl rfl rfl rfl rfl) rfl ?_;refine .xef ?_;obtain ⟨l6, hl6, h⟩ := bnd_e h;refine .stO 0 hx17 hl6 rfl rfl .z rfl rfl rfl rfl rfl ?_;refine .ss 0 (sl_len hl6) ?_;refine .ss 81 (sl_len hl6) ?_;refine .ss 83 (sl_len hl6) ?_;refine .ss 85 (sl_len hl6) ?_;refine .ss 89 (sl_len hl6) ?_;refine .xk (zl [] 1 rfl) ?_;refine .xdone ?_;refine .thenN ?_
 refine .pr [0,1,10,11] rfl ?_;refine .ab [0,1,10,11] rfl ?_;refine .ab [0,1,10,11] rfl ?_;refine .seq ?_;obtain ⟨o5, hl3, h⟩ := bnd_e h;refine .cutE (fun (e8 : Unit) => [(0, .slice (some ⟨g1, 0, none⟩) o5.1.length c1), (1, .int .i64 a_p1), (11, .int .i64 o5.2)]) (fun e8 => .res (OwnL eu8 5 (some ⟨g1, 0, none⟩) c1 o5.1) :: R) ?_ ?_
 ·refine .block ?_;refine .loop hl3 (fun (s3 : List Int × Int × Int) (e7 : Unit) => [(0, .slice (some ⟨g1, 0, none⟩) s3.1.length c1), (1, .int .i64 a_p1), (10, .int .i64 s3.2.1), (11, .int .i64 s3.2.2)]) (fun s3 e7 => .res (OwnL eu8 5 (some ⟨g1, 0, none⟩) c1 s3.1) :: R) (fun _ _ => True) () trivial (zb rfl) (fun _ w => w) ?_;rintro s3 e7 - hit3;obtain ⟨st3, hm3, hd3⟩ := iter_e hit3;have h3 := hm3
  refine .block ?_;refine .seq ?_;obtain ⟨o6, hl4, h3⟩ := bnd_e h3;refine .cutE (fun (e10 : Unit) => [(0, .slice (some ⟨g1, 0, none⟩) s3.1.length c1), (1, .int .i64 a_p1), (10, .int .i64 o6), (11, .int .i64 s3.2.2)]) (fun e10 => .res (OwnL eu8 5 (some ⟨g1, 0, none⟩) c1 s3.1) :: R) ?_ ?_
  ·refine .block ?_;refine .loop hl4 (fun (s4 : Int) (e9 : Unit) => [(0, .slice (some ⟨g1, 0, none⟩) s3.1.length c1), (1, .int .i64 a_p1), (10, .int .i64 s4), (11, .int .i64 s3.2.2)]) (fun s4 e9 => .res (OwnL eu8 5 (some ⟨g1, 0, none⟩) c1 s3.1) :: R) (fun _ _ => True) () trivial (zb rfl) (fun _ w => w) ?_;rintro s4 e9 - hit4;obtain ⟨st4, hm4, hd4⟩ := iter_e hit4;have h4 := hm4;refine .seq ?_
   refine .seq ?_;obtain ⟨o7, hj3, h4⟩ := bnd_e h4;refine .cutE (fun (e11 : Unit) => [(0, .slice (some ⟨g1, 0, none⟩) s3.1.length c1), (1, .int .i64 a_p1), (10, .int .i64 s4), (11, .int .i64 s3.2.2), (112, .bool o7)]) (fun e11 => .res (OwnL eu8 5 (some ⟨g1, 0, none⟩) c1 s3.1) :: R) ?_ ?_
   ·refine .regionF mixed (by kernel_rfl) ?_;refine .n 4 rfl ?_;refine .gSplit (dj := 102) _ rfl (fun hb6 => ?_) (fun hb6 => ?_)
    ·replace hj3 := bif_t hb6 hj3;refine .n 2 rfl ?_;refine .gOn (dj := 102) rfl rfl ?_;obtain ⟨x18, hx18, hj3⟩ := bnd_e hj3;refine .ixO hx18 rfl rfl rfl (.head _) rfl rfl rfl rfl rfl fun g18 hA => ?_;cases hA;refine .gOn (dj := 102) rfl rfl ?_;refine .ldO 0 hx18 rfl rfl (.head _) rfl rfl ?_;refine .n 2 rfl ?_;refine .gOn (dj := 102) rfl rfl ?_;obtain ⟨x19, hx19, hj3⟩ := bnd_e hj3
     refine .ixO hx19 rfl rfl rfl (.head _) rfl rfl rfl rfl rfl fun g19 hA => ?_;cases hA;refine .gOn (dj := 102) rfl rfl ?_;refine .ldO 0 hx19 rfl rfl (.head _) rfl rfl ?_;refine .gOn (dj := 102) rfl rfl ?_;obtain ⟨r3, hr3, hj3⟩ := bnd_e hj3;refine .callV (c_cmp_Less_uint8 hr3) ent93 rfl rfl rfl rfl trivial ?_;cases hj3;refine .beq rfl ?_;exact .hereE () (zb rfl) (fun _ w => w)
    replace hj3 := bif_f hb6 hj3;cases hj3;refine .beq rfl ?_;exact .hereE () (zb rfl) (fun _ w => w)
   rintro e11;refine .cb h4 rfl (fun h4 => ?_) (fun h4 => ?_)
   ·refine .sk ?_;refine .pr [0,1,10,11] rfl ?_;refine .block ?_;refine .region ?_;refine .n 3 rfl ?_;refine .done ?_;refine .blkN ?_;cases h4;refine .thenN ?_;exact .again _ () hm4 trivial (zb rfl) (fun _ w => w)
   refine .exit ?_;repeat (first | refine .thenX ?_ | refine .blkMiss rfl ?_)
   refine .blkHit ?_;cases h4;have ho := hd4 _ rfl;subst ho;refine .thenN ?_;exact .hereE () (zb rfl) (fun _ w => w)
  rintro e10;refine .seq ?_;obtain ⟨o8, hl5, h3⟩ := bnd_e h3;refine .cutE (fun (e13 : Unit) => [(0, .slice (some ⟨g1, 0, none⟩) s3.1.length c1), (1, .int .i64 a_p1), (10, .int .i64 o6), (11, .int .i64 o8)]) (fun e13 => .res (OwnL eu8 5 (some ⟨g1, 0, none⟩) c1 s3.1) :: R) ?_ ?_
  ·refine .block ?_;refine .loop hl5 (fun (s5 : Int) (e12 : Unit) => [(0, .slice (some ⟨g1, 0, none⟩) s3.1.length c1), (1, .int .i64 a_p1), (10, .int .i64 o6), (11, .int .i64 s5)]) (fun s5 e12 => .res (OwnL eu8 5 (some ⟨g1, 0, none⟩) c1 s3.1) :: R) (fun _ _ => True) () trivial (zb rfl) (fun _ w => w) ?_;rintro s5 e12 - hit5;obtain ⟨st5, hm5, hd5⟩ := iter_e hit5;have h5 := hm5;refine .seq ?_
   refine .seq ?_;obtain ⟨o9, hj4, h5⟩ := bnd_e h5;refine .cutE (fun (e14 : Unit) => [(0, .slice (some ⟨g1, 0, none⟩) s3.1.length c1), (1, .int .i64 a_p1), (10, .int .i64 o6), (11, .int .i64 s5), (129, .bool o9)]) (fun e14 => .res (OwnL eu8 5 (some ⟨g1, 0, none⟩) c1 s3.1) :: R) ?_ ?_
   ·refine .regionF mixed (by kernel_rfl) ?_;refine .n 4 rfl ?_;refine .gSplit (dj := 118) _ rfl (fun hb8 => ?_) (fun hb8 => ?_)
    ·replace hj4 := bif_t hb8 hj4;refine .n 2 rfl ?_;refine .gOn (dj := 118) rfl rfl ?_;obtain ⟨x20, hx20, hj4⟩ := bnd_e hj4;refine .ixO hx20 rfl rfl rfl (.head _) rfl rfl rfl rfl rfl fun g20 hA => ?_;cases hA;refine .gOn (dj := 118) rfl rfl ?_;refine .ldO 0 hx20 rfl rfl (.head _) rfl rfl ?_;refine .n 2 rfl ?_;refine .gOn (dj := 118) rfl rfl ?_;obtain ⟨x21, hx21, hj4⟩ := bnd_e hj4
     refine .ixO hx21 rfl rfl rfl (.head _) rfl rfl rfl rfl rfl fun g21 hA => ?_;cases hA;refine .gOn (dj := 118) rfl rfl ?_;refine .ldO 0 hx21 rfl rfl (.head _) rfl rfl ?_;refine .gOn (dj := 118) rfl rfl ?_;obtain ⟨r4, hr4, hj4⟩ := bnd_e hj4;refine .callV (c_cmp_Less_uint8 hr4) ent93 rfl rfl rfl rfl trivial ?_;cases hj4;refine .beq rfl ?_;exact .hereE () (zb rfl) (fun _ w => w)
    replace hj4 := bif_f hb8 hj4;cases hj4;refine .beq rfl ?_;exact .hereE () (zb rfl) (fun _ w => w)
   rintro e14;refine .cb h5 rfl (fun h5 => ?_) (fun h5 => ?_)
   ·refine .sk ?_;refine .pr [0,1,10,11] rfl ?_;refine .block ?_;refine .region ?_;refine .n 3 rfl ?_;refine .done ?_;refine .blkN ?_;cases h5;refine .thenN ?_;exact .again _ () hm5 trivial (zb rfl) (fun _ w => w)
   refine .exit ?_;repeat (first | refine .thenX ?_ | refine .blkMiss rfl ?_)
   refine .blkHit ?_;cases h5;have ho := hd5 _ rfl;subst ho;refine .thenN ?_;exact .hereE () (zb rfl) (fun _ w => w)
  rintro e13;refine .seq ?_;refine .ab [0,1,10,11,134] rfl ?_;refine .cb h3 rfl (fun h3 => ?_) (fun h3 => ?_)
  ·refine .exit ?_;repeat (first | refine .thenX ?_ | refine .blkMiss rfl ?_)
   refine .blkHit ?_;cases h3;have ho := hd3 _ rfl;subst ho;refine .thenN ?_;exact .hereE () (zb rfl) (fun _ w => w)
  refine .sk ?_;refine .pr [0,1,10,11] rfl ?_;refine .seq ?_;refine .regionX (iL [(.fl, 0), (.fl, 1), (.fl, 2), (.fl, 3), (.fl, 4), (.fl, 5), (.fx, 6), (.fx, 7), (.fl, 8), (.fl, 9), (.fx, 10), (.fx, 11), (.fx, 12), (.ef, 13), (.fx, 14), (.ef, 15)] .nil) (R) mixed (by kernel_rfl) (zl [] 1 rfl) ?_;refine .xn 6 rfl ?_;obtain ⟨x22, hx22, h3⟩ := bnd_e h3
  refine .xfx (Rd.ixO (E := eu8) hx22 rfl rfl rfl rfl rfl rfl rfl) rfl ?_;refine .xfx (Rd.ldO 0 hx22 rfl (.head _) rfl rfl) rfl ?_;refine .xn 2 rfl ?_;obtain ⟨x23, hx23, h3⟩ := bnd_e h3;refine .xfx (Rd.ixO (E := eu8) hx23 rfl rfl rfl rfl rfl rfl rfl) rfl ?_;refine .xfx (Rd.ldO 0 hx23 rfl (.head _) rfl rfl) rfl ?_;obtain ⟨x24, hx24, h3⟩ := bnd_e h3
  refine .xfx (Rd.ixO (E := eu8) hx24 rfl rfl rfl rfl rfl rfl rfl) rfl ?_;refine .xef ?_;obtain ⟨l7, hl7, h3⟩ := bnd_e h3;refine .stO 0 hx24 hl7 rfl rfl .z rfl rfl rfl rfl rfl ?_;refine .ss 0 (sl_len hl7) ?_;refine .ss 135 (sl_len hl7) ?_;refine .ss 137 (sl_len hl7) ?_;refine .ss 139 (sl_len hl7) ?_;refine .ss 143 (sl_len hl7) ?_;refine .xk (zl [] 1 rfl) ?_;obtain ⟨x25, hx25, h3⟩ := bnd_e h3
  refine .xfx (Rd.ixO (E := eu8) hx25 rfl rfl rfl rfl rfl rfl rfl) rfl ?_;refine .xef ?_;obtain ⟨l8, hl8, h3⟩ := bnd_e h3;refine .stO 0 hx25 hl8 rfl rfl .z rfl rfl rfl rfl rfl ?_;refine .ss 0 (sl_len hl8) ?_;refine .ss 135 (sl_len hl8) ?_;refine .ss 137 (sl_len hl8) ?_;refine .ss 139 (sl_len hl8) ?_;refine .ss 143 (sl_len hl8) ?_;refine .xk (zl [] 1 rfl) ?_;refine .xdone ?_;refine .thenN ?_
  refine .pr [0,1,10,11] rfl ?_;refine .ab [0,1,10,11] rfl ?_;refine .region ?_;refine .n 3 rfl ?_;refine .done ?_;refine .blkN ?_;cases h3;refine .thenN ?_;exact .again _ () hm3 trivial (zb rfl) (fun _ w => w)
 rintro e8;refine .seq ?_;refine .regionX (iL [(.fl, 0), (.fl, 1), (.fl, 2), (.fl, 3), (.fl, 4), (.fl, 5), (.fx, 6), (.fx, 7), (.fl, 8), (.fl, 9), (.fx, 10), (.fx, 11), (.fx, 12), (.ef, 13), (.fx, 14), (.ef, 15)] .nil) (R) mixed (by kernel_rfl) (zl [] 1 rfl) ?_;refine .xn 6 rfl ?_;obtain ⟨x26, hx26, h⟩ := bnd_e h;refine .xfx (Rd.ixO (E := eu8) hx26 rfl rfl rfl rfl rfl rfl rfl) rfl ?_
 refine .xfx (Rd.ldO 0 hx26 rfl (.head _) rfl rfl) rfl ?_;refine .xn 2 rfl ?_;obtain ⟨x27, hx27, h⟩ := bnd_e h;refine .xfx (Rd.ixO (E := eu8) hx27 rfl rfl rfl rfl rfl rfl rfl) rfl ?_;refine .xfx (Rd.ldO 0 hx27 rfl (.head _) rfl rfl) rfl ?_;obtain ⟨x28, hx28, h⟩ := bnd_e h;refine .xfx (Rd.ixO (E := eu8) hx28 rfl rfl rfl rfl rfl rfl rfl) rfl ?_;refine .xef ?_;obtain ⟨l9, hl9, h⟩ := bnd_e h
 refine .stO 0 hx28 hl9 rfl rfl .z rfl rfl rfl rfl rfl ?_;refine .ss 0 (sl_len hl9) ?_;refine .ss 153 (sl_len hl9) ?_;refine .ss 155 (sl_len hl9) ?_;refine .ss 157 (sl_len hl9) ?_;refine .ss 161 (sl_len hl9) ?_;refine .xk (zl [] 1 rfl) ?_;obtain ⟨x29, hx29, h⟩ := bnd_e h;refine .xfx (Rd.ixO (E := eu8) hx29 rfl rfl rfl rfl rfl rfl rfl) rfl ?_;refine .xef ?_;obtain ⟨l10, hl10, h⟩ := bnd_e h
 refine .stO 0 hx29 hl10 rfl rfl .z rfl rfl rfl rfl rfl ?_;refine .ss 0 (sl_len hl10) ?_;refine .ss 153 (sl_len hl10) ?_;refine .ss 155 (sl_len hl10) ?_;refine .ss 157 (sl_len hl10) ?_;refine .ss 161 (sl_len hl10) ?_;refine .xk (zl [] 1 rfl) ?_;refine .xdone ?_;refine .thenN ?_;refine .pr [11] rfl ?_;refine .ab [8,9] rfl ?_;cases h
 exact .rt rfl Try.results95 (.tmp rfl (.tmp rfl .nil)) rfl ⟨rfl, rfl⟩ (fun _ w => w)
theorem ent83 : Ent Try.prog 83 := ⟨_, Try.func83, by kernel_rfl, by kernel_rfl⟩
noncomputable def m_slices_pdqsortOrdered_uint8_step (rec : List Int → Int → Int → Int → Option (List Int)) (data : (List Int)) (a_p1 : Int) (b_p2 : Int) (limit : Int) : Option (List Int) :=
  bnd (loopM (τ := (List Int) ⊕ Unit) (fun (s1 : List Int × Int × Int × Int × Bool × Bool) => bif decide ((IntKind.wrap .i64 (s1.2.2.1 - s1.2.1)) ≤ 12) then (bnd (m_slices_insertionSortOrdered_uint8 s1.1 s1.2.1 s1.2.2.1) fun r1 => bnd (chkLen s1.1.length r1) fun l1 => some (.done (.inl r1))) else (bif (s1.2.2.2.1 == 0) then (bnd (m_slices_heapSortOrdered_uint8 s1.1 s1.2.1 s1.2.2.1) fun r2 => bnd (chkLen s1.1.length r2) fun l2 => some (.done (.inl r2))) else (bnd ((bif !s1.2.2.2.2.1 then (bnd (m_slices_breakPatternsOrdered_uint8 s1.1 s1.2.1 s1.2.2.1) fun r3 => bnd (chkLen s1.1.length r3) fun l3 => some (r3, IntKind.wrap .i64 (s1.2.2.2.1 - 1))) else (some (s1.1, s1.2.2.2.1)) : Option (List Int × Int))) fun o3 => bnd (m_slices_choosePivotOrdered_uint8 o3.1 s1.2.1 s1.2.2.1) fun r4 => bnd ((bif (r4.2 == 2) then (bnd (m_slices_reverseRangeOrdered_uint8 o3.1 s1.2.1 s1.2.2.1) fun r5 => bnd (chkLen o3.1.length r5) fun l4 => some (r5, IntKind.wrap .i64 ((IntKind.wrap .i64 (s1.2.2.1 - 1)) - (IntKind.wrap .i64 (r4.1 - s1.2.1))), 1)) else (some (o3.1, r4.1, r4.2)) : Option (List Int × Int × Int))) fun o4 => bnd ((bnd ((bif s1.2.2.2.2.1 then (bif s1.2.2.2.2.2 then (some (o4.2.2 == 1)) else (some false)) else (some false) : Option Bool)) fun o7 => bif o7 then (bnd (m_slices_partialInsertionSortOrdered_uint8 o4.1 s1.2.1 s1.2.2.1) fun r6 => bnd (chkLen o4.1.length r6.1) fun l5 => bif r6.2 then (some (.inl r6.1)) else (some (.inr r6.1))) else (some (.inr o4.1)) : Option ((List Int) ⊕ List Int))) fun o5 => retOrW (fun r_ => (.done (.inl r_))) o5 fun o6 => bnd ((bif decide (s1.2.1 > 0) then (bnd (elt o6 (IntKind.wrap .i64 (s1.2.1 - 1))) fun x1 => bnd (elt o6 o4.2.1) fun x2 => bnd (m_cmp_Less_uint8 x1 x2) fun r7 => some (!r7)) else (some false) : Option Bool)) fun o8 => bif o8 then (bnd (m_slices_partitionEqualOrdered_uint8 o6 s1.2.1 s1.2.2.1 o4.2.1) fun r8 => bnd (chkLen o6.length r8.1) fun l6 => some (.next (r8.1, r8.2, s1.2.2.1, o3.2, s1.2.2.2.2.1, s1.2.2.2.2.2))) else (bnd (m_slices_partitionOrdered_uint8 o6 s1.2.1 s1.2.2.1 o4.2.1) fun r9 => bnd (chkLen o6.length r9.1) fun l7 => bif decide ((IntKind.wrap .i64 (r9.2.1 - s1.2.1)) < (IntKind.wrap .i64 (s1.2.2.1 - r9.2.1))) then (bnd (rec r9.1 s1.2.1 r9.2.1 o3.2) fun r10 => bnd (chkLen r9.1.length r10) fun l8 => some (.next (r10, IntKind.wrap .i64 (r9.2.1 + 1), s1.2.2.1, o3.2, decide ((IntKind.wrap .i64 (r9.2.1 - s1.2.1)) ≥ (IntKind.wrap .i64 ((IntKind.wrap .i64 (s1.2.2.1 - s1.2.1)).tdiv 8))), r9.2.2))) else (bnd (rec r9.1 (IntKind.wrap .i64 (r9.2.1 + 1)) s1.2.2.1 o3.2) fun r11 => bnd (chkLen r9.1.length r11) fun l9 => some (.next (r11, s1.2.1, r9.2.1, o3.2, decide ((IntKind.wrap .i64 (s1.2.2.1 - r9.2.1)) ≥ (IntKind.wrap .i64 ((IntKind.wrap .i64 (s1.2.2.1 - s1.2.1)).tdiv 8))), r9.2.2))))))) (data, a_p1, b_p2, limit, true, true)) fun o1 => retOr o1 fun o2 => none
end Go.Proofs.Ythdpagcklakahaa
end
