/-
  The core, third part: what is said of memory, and the rules for the operations that touch it; calls by contract; loops.
  Conditions: none.
-/
import Derived.Test.YthdpagcklakahaaCore2
namespace Go.Proofs.Ythdpagcklakahaa
open Go
set_option linter.unusedSectionVars false

/-! ## What is said of memory -/

def cellm (m : Hp) (b o : Nat) : Option Value := match m b with
  | some (.cells c _ _) => c[o]?
  | _ => none

theorem cellm_mono {m m' : Hp} (h : Hp.le m m') {b o : Nat} {v : Value} (hc : cellm m b o = some v) : cellm m' b o = some v := by
  unfold cellm at *
  cases hm : m b with
  | none => simp [hm] at hc
  | some x => rw [h b x hm]; simpa [hm] using hc

theorem cellm_hp (w : World) (b o : Nat) : cellm (hp w) b o = w.cell? ⟨b, o, none⟩ := by
  unfold cellm hp World.cell?
  cases w.heap[b]? with
  | none => rfl
  | some x => cases x <;> rfl

/-- The cells from an address on. -/
def Cells (b o : Nat) (cs : List Value) : Ro where
  p m := ∀ i u, cs[i]? = some u → cellm m b (o + i) = some u
  mono _ _ h hp i u hu := cellm_mono h (hp i u hu)

def isBlk (T : Nat) (cs : List Value) (o : Obj) : Prop := ∃ fr : Nat × Nat, o = .cells cs.toArray T fr ∧ ∀ i, i < cs.length → ¬(fr.1 ≤ i ∧ i < fr.2)

/-- A block of one's own that is known whole. -/
def Box (g T : Nat) (cs : List Value) : Res where
  gs := [g]
  p m := ∃ o, m g = some o ∧ isBlk T cs o
  loc _ _ h := fun ⟨o, ho, hb⟩ => ⟨o, (h g (by simp)).symm.trans ho, hb⟩

/-- How a value of a type reads as cells. -/
structure Cod (α : Type) where
  n : Nat
  rel : Hp → α → List Value → Prop
  len : ∀ m x cs, rel m x cs → cs.length = n
  one : ∀ m x cs, rel m x cs → ∀ u ∈ cs, u.oneCell' = true
  mono : ∀ m m' x cs, Hp.le m m' → rel m x cs → rel m' x cs

/-- A value whose cells hang on nothing else. -/
def Cod.flat {α : Type} (n : Nat) (enc : α → List Value) (hlen : ∀ x, (enc x).length = n) (hone : ∀ x, ∀ u ∈ enc x, u.oneCell' = true) : Cod α where
  n := n
  rel _ x cs := cs = enc x
  len _ x _ h := h ▸ hlen x
  one _ x _ h := h ▸ hone x
  mono _ _ _ _ _ h := h

def inK (k : IntKind) (x : Int) : Prop := k.min ≤ x ∧ x ≤ k.max

def eInt (k : IntKind) (x : Int) : List Value := [.int k x]
def eBool (x : Bool) : List Value := [.bool x]
def eStr (x : ByteArray) : List Value := [.string x]
def cInt (k : IntKind) : Cod Int := Cod.flat 1 (eInt k) (fun _ => rfl) (fun _ u hu => by simp [eInt] at hu; subst hu; rfl)
def cBool : Cod Bool := Cod.flat 1 eBool (fun _ => rfl) (fun _ u hu => by simp [eBool] at hu; subst hu; rfl)
def cStr : Cod ByteArray := Cod.flat 1 eStr (fun _ => rfl) (fun _ u hu => by simp [eStr] at hu; subst hu; rfl)

section
variable {α : Type}

def SlP (E : Cod α) (A : Option Addr) (c : Nat) (xs : List α) (m : Hp) : Prop :=
  xs.length ≤ c ∧ c ≤ maxLen ∧ (A = none → xs = []) ∧
    ∀ ad, A = some ad → ∀ j x, xs[j]? = some x → ad.spot = none ∧ ∃ cs, E.rel m x cs ∧ ∀ i u, cs[i]? = some u → cellm m ad.block (ad.off + j * E.n + i) = some u

/-- The slice value '.slice A xs.length c' reads as the list xs. -/
def Sl (E : Cod α) (A : Option Addr) (c : Nat) (xs : List α) : Ro where
  p := SlP E A c xs
  mono m m' h hp := ⟨hp.1, hp.2.1, hp.2.2.1, fun ad ha j x hx => by
    obtain ⟨h0, cs, h1, h2⟩ := hp.2.2.2 ad ha j x hx
    exact ⟨h0, cs, E.mono _ _ _ _ h h1, fun i u hu => cellm_mono h (h2 i u hu)⟩⟩

def cSl (E : Cod α) : Cod (List α) where
  n := 1
  rel m xs cs := ∃ A c, cs = [.slice A xs.length c] ∧ SlP E A c xs m
  len _ _ _ := fun ⟨_, _, h, _⟩ => h ▸ rfl
  one _ _ _ := fun ⟨_, _, h, _⟩ u hu => by subst h; simp at hu; subst hu; rfl
  mono m m' xs cs h := fun ⟨A, c, h1, h2⟩ => ⟨A, c, h1, (Sl E A c xs).mono _ _ h h2⟩

/-- What an index finds. -/
def elt (xs : List α) (i : Int) : Option α := if 0 ≤ i then xs[i.toNat]? else none

theorem elt_some {xs : List α} {i : Int} {x : α} (h : elt xs i = some x) : 0 ≤ i ∧ i < xs.length ∧ xs[i.toNat]? = some x := by
  unfold elt at h
  split at h
  · rename_i h0
    have := (List.getElem?_eq_some_iff.1 h).1
    exact ⟨h0, by omega, h⟩
  · cases h

/-- An element's cells, as a statement on memory. -/
def Rel (E : Cod α) (x : α) (cs : List Value) : Ro := ⟨fun m => E.rel m x cs, fun m m' h => E.mono m m' x cs h⟩
end

/-! ## The rules -/

section
variable {P : Program} [T : HasTT P] {w0 : World} {nt : Nat} {Γ : Env} {F F' : List As} {Q : Exit → Act → World → Prop} {ops : Array Oper} {rest : List Oper}
variable {d : Nat} {op : Op} {ty : Nat} {pos : String} {af : Array Edge} {X : List Oper → Act → World → Prop}

theorem wanted_none {o : Oper} (h : o.guard = none) (y : Nat → Option Bool) : Region.wanted o y = true := by simp [Region.wanted, h]

/-- An operation that only computes. -/
theorem St.p [W : Walk P ops X] {v : Value} (hd : Nat.blt d nt = true) (hv : pev T.tt Γ op = some v) (k : St w0 nt ((d, v) :: Γ) F (X rest)) : St w0 nt Γ F (X (⟨some d, op, ty, pos, af, none⟩ :: rest)) :=
  fun a w hs hdf ha hf hw => W.val _ _ _ _ v (wanted_none rfl _) (fun w' _ => pev_run T.ok ha (o := ⟨some d, op, ty, pos, af, none⟩) hv w')
    (k _ w (by simp [Act.put, hs]) hdf (ha.put (hs ▸ Nat.le_of_ble_eq_true hd)) hf hw)

def gdst (ops : Array Oper) (j : Nat) : Option Nat := (ops[j]?).bind (·.dst)

theorem yielded_of {j dj : Nat} {a : Act} {v : Value} (ha : At a Γ) (hj : gdst ops j = some dj) (hg : get Γ dj = some v) : yielded ops a.tmps j = match v with | .bool b => some b | _ => none := by
  have := ha dj v hg
  unfold gdst at hj
  simp only [yielded, hj, Option.bind_some, this]
  cases v <;> rfl

/-- A guarded operation: its guard says yes. -/
theorem St.gOn [W : Walk P ops X] {dst : Option Nat} {j dj : Nat} {b : Bool} (hj : gdst ops j = some dj) (hg : get Γ dj = some (.bool b)) (k : St w0 nt Γ F (X (⟨dst, op, ty, pos, af, none⟩ :: rest))) :
    St w0 nt Γ F (X (⟨dst, op, ty, pos, af, some (j, b)⟩ :: rest)) :=
  fun a w hs hdf ha hf hw => W.bare _ ⟨dst, op, ty, pos, af, none⟩ _ _ _ (by simp [Region.wanted, yielded_of ha hj hg]) (wanted_none rfl _) rfl rfl rfl (k a w hs hdf ha hf hw)

def saysNo (v : Value) (b : Bool) : Bool := match v with | .bool c => c != b | _ => true

/-- .. says no. -/
theorem St.gOff [W : Walk P ops X] {j dj : Nat} {b : Bool} {v : Value} (hd : Nat.blt d nt = true) (hj : gdst ops j = some dj) (hg : get Γ dj = some v) (hn : saysNo v b = true) (k : St w0 nt ((d, undef) :: Γ) F (X rest)) :
    St w0 nt Γ F (X (⟨some d, op, ty, pos, af, some (j, b)⟩ :: rest)) :=
  fun a w hs hdf ha hf hw => W.pass _ _ _ _ (by
      simp only [Region.wanted, yielded_of ha hj hg]
      cases v <;> simp_all [saysNo])
    (k _ w (by simp [Act.put, hs]) hdf (ha.put (hs ▸ Nat.le_of_ble_eq_true hd)) hf hw)

/-- .. is not decided yet. -/
theorem St.gSplit {dst : Option Nat} {j dj : Nat} {b : Bool} (c : Bool) (hg : get Γ dj = some (.bool c))
    (ht : c = true → St w0 nt ((dj, .bool true) :: Γ) F (X (⟨dst, op, ty, pos, af, some (j, b)⟩ :: rest))) (hff : c = false → St w0 nt ((dj, .bool false) :: Γ) F (X (⟨dst, op, ty, pos, af, some (j, b)⟩ :: rest))) :
    St w0 nt Γ F (X (⟨dst, op, ty, pos, af, some (j, b)⟩ :: rest)) :=
  fun a w hs hdf ha hf hw => by
    cases c
    · exact hff rfl a w hs hdf (At.cons (ha dj _ hg) ha) hf hw
    · exact ht rfl a w hs hdf (At.cons (ha dj _ hg) ha) hf hw

/-! ### New variables -/

theorem hp_alloc (w : World) (o : Obj) : hp (w.alloc o) w.heap.size = some o := heap_alloc_new w o

theorem isBlk_new (T : Nat) (cs : List Value) : isBlk T cs (.cells cs.toArray T) := ⟨(0, 0), rfl, fun i _ h => by omega⟩

theorem Sat.alloc {w : World} (h : Sat F w) (T : Nat) (cs : List Value) : Sat (.res (Box w.heap.size T cs) :: F) (w.alloc (.cells cs.toArray T)) :=
  h.add_res (Ext.alloc w _) _ (by simp [Box]) (fun k hk => by simp [Box] at hk; subst hk; simp) ⟨_, hp_alloc w _, isBlk_new T cs⟩

theorem St.alloc {t : Nat} {i : TI} (hd : Nat.blt d nt = true) (hi : tget T.tt t = some i) (k : ∀ g, St w0 nt ((d, .pointer (some ⟨g, 0, none⟩)) :: Γ) (.res (Box g t (zc i.zero)) :: F) (wpList P ops Q rest)) :
    St w0 nt Γ F (wpList P ops Q (⟨some d, .alloc t, ty, pos, af, none⟩ :: rest)) :=
  fun a w hs hdf ha hf hw => wpList_plain rfl fun K hK => by
    have hz := run_zeroValue_tt T.ok hi w
    unfold Oper.wp
    have hr : (execOp a.eval ⟨some d, .alloc t, ty, pos, af, none⟩).run P w = .ok (.value (.pointer (some ⟨w.heap.size, 0, none⟩))) (w.alloc (.cells (zc i.zero).toArray t)) := by
      simp [execOp, Instr.alloc, hz, newVar, newRow, zc_eq]
    rw [hr]
    exact hK _ _ (k _ _ _ (by simp [Act.put, hs]) hdf (ha.put (hs ▸ Nat.le_of_ble_eq_true hd)) (hf.alloc t _) (hw.trans (Ext.alloc w _).toSame))

/-- 'box': a new variable with a value. -/
theorem St.box {t : Nat} {x : Operand} {v : Value} (hd : Nat.blt d nt = true) (hx : ev Γ x = some v) (k : ∀ g, St w0 nt ((d, .pointer (some ⟨g, 0, none⟩)) :: Γ) (.res (Box g t (zc v)) :: F) (wpList P ops Q rest)) :
    St w0 nt Γ F (wpList P ops Q (⟨some d, .box t x, ty, pos, af, none⟩ :: rest)) :=
  fun a w hs hdf ha hf hw => wpList_plain rfl fun K hK => by
    unfold Oper.wp
    have hr : (execOp a.eval ⟨some d, .box t x, ty, pos, af, none⟩).run P w = .ok (.value (.pointer (some ⟨w.heap.size, 0, none⟩))) (w.alloc (.cells (zc v).toArray t)) := by
      simp [execOp, Instr.box, ha.eval hx, newVar, newRow, zc_eq]
    rw [hr]
    exact hK _ _ (k _ _ _ (by simp [Act.put, hs]) hdf (ha.put (hs ▸ Nat.le_of_ble_eq_true hd)) (hf.alloc t _) (hw.trans (Ext.alloc w _).toSame))

/-! ### Loads -/

/-- The part of some cells that a load of a type reads. -/
theorem run_loadVar_cells {tt : TT} (hk : TTok P tt) {t : Nat} {cs : List Value} {off : Nat} {v : Value} (h : ppart tt t cs off = some v) {w : World} {b o : Nat}
    (hc : ∀ i u, cs[i]? = some u → w.cell? ⟨b, o + i, none⟩ = some u) : (loadVar t ⟨b, o + off, none⟩).run P w = .ok v w := by
  unfold ppart at h
  split at h
  · rename_i i hi
    unfold loadVar
    rw [Sem.run_bind, run_isAgg_tt hk hi]
    split at h
    · rename_i ha
      obtain ⟨hlen, h⟩ := takeK_eq _ _ _ _ h
      injection h with h
      subst h
      simp only [Result.andThen_ok, ha, if_true, Sem.run_bind, run_sizeOf_tt hk hi]
      have hl : ((cs.drop off).take i.size).length = i.size := by rw [List.length_take]; omega
      have := run_loadCells_list (P := P) w ⟨b, o + off, none⟩ ((cs.drop off).take i.size) (fun j u hu => by
        rw [List.getElem?_take] at hu
        split at hu
        · rw [List.getElem?_drop] at hu
          have h2 := hc _ _ hu
          unfold Addr.add
          split
          · rename_i hj; subst hj; simpa [Nat.add_assoc] using h2
          · simpa [Nat.add_assoc] using h2
        · cases hu)
      rw [hl] at this
      simp [this]
    · rename_i ha
      rw [nth_eq] at h
      simp only [Result.andThen_ok, ha, Bool.false_eq_true, if_false, run_load, hc _ _ h]
  · cases h

theorem run_load_op {tt : TT} (hk : TTok P tt) {t : Nat} {x : Operand} {a : Act} {b o off : Nat} {cs : List Value} {v : Value} (hx : a.eval x = .pointer (some ⟨b, o + off, none⟩)) (h : ppart tt t cs off = some v) {w : World}
    (hc : ∀ i u, cs[i]? = some u → w.cell? ⟨b, o + i, none⟩ = some u) (dst : Option Nat) (g : Option (Nat × Bool)) : (execOp a.eval ⟨dst, .load t x, ty, pos, af, g⟩).run P w = .ok (.value v) w := by
  simp [execOp, Instr.loadAt, hx, Instr.sureAddr, run_loadVar_cells hk h hc]

/-- A load out of cells that stay. -/
theorem St.load [W : Walk P ops X] {t : Nat} {x : Operand} {b p : Nat} (o : Nat) (off : Nat) {cs : List Value} {v : Value} (hd : Nat.blt d nt = true) (hx : ev Γ x = some (.pointer (some ⟨b, p, none⟩))) (hm : As.ro (Cells b o cs) ∈ F) (hp : p = o + off)
    (hv : ppart T.tt t cs off = some v) (k : St w0 nt ((d, v) :: Γ) F (X rest)) : St w0 nt Γ F (X (⟨some d, .load t x, ty, pos, af, none⟩ :: rest)) :=
  fun a w hs hdf ha hf hw => W.val _ _ _ _ v (wanted_none rfl _) (fun w' he => run_load_op T.ok (by rw [ha.eval hx, hp]) hv (fun i u hu => by
      rw [← cellm_hp]
      exact (hf.ext he).ro_hp hm i u hu) _ _)
    (k _ w (by simp [Act.put, hs]) hdf (ha.put (hs ▸ Nat.le_of_ble_eq_true hd)) hf hw)

theorem Box.cell {g t : Nat} {cs : List Value} {w : World} (h : (Box g t cs).p (hp w)) {i : Nat} {u : Value} (hu : cs[i]? = some u) : w.cell? ⟨g, i, none⟩ = some u := by
  obtain ⟨o, ho, fr, rfl, _⟩ := h
  have ho' : w.heap[g]? = some (.cells cs.toArray t fr) := ho
  simp [World.cell?, ho', hu]

/-- A load out of a block of one's own. -/
theorem St.loadB [W : Walk P ops X] {t : Nat} {x : Operand} {g t' : Nat} (off : Nat) {p : Nat} {cs : List Value} {v : Value} (hd : Nat.blt d nt = true) (hx : ev Γ x = some (.pointer (some ⟨g, p, none⟩))) (hm : As.res (Box g t' cs) ∈ F) (hp : p = off)
    (hv : ppart T.tt t cs off = some v) (k : St w0 nt ((d, v) :: Γ) F (X rest)) : St w0 nt Γ F (X (⟨some d, .load t x, ty, pos, af, none⟩ :: rest)) :=
  fun a w hs hdf ha hf hw => W.val _ _ _ _ v (wanted_none rfl _) (fun w' he => run_load_op (o := 0) (off := off) T.ok (by rw [ha.eval hx, hp, Nat.zero_add]) hv (fun i u hu => by
      rw [Nat.zero_add]
      exact Box.cell ((hf.ext he).res hm) hu) _ _)
    (k _ w (by simp [Act.put, hs]) hdf (ha.put (hs ▸ Nat.le_of_ble_eq_true hd)) hf hw)

/-! ### Stores into a block of one's own -/

theorem setCells_blk {T g : Nat} : ∀ (vs : List Value) (cs : List Value) (n j : Nat) (w : World), (Box g T cs).p (hp w) → n + j + vs.length ≤ cs.length → (∀ u ∈ vs, u.oneCell' = true) →
    ∃ w', (storeCells ⟨g, n, none⟩ vs j).run P w = .ok () w' ∧ Wrote [g] w w' ∧ (Box g T (cs.take (n + j) ++ vs ++ cs.drop (n + j + vs.length))).p (hp w')
  | [], cs, n, j, w, h, _, _ => ⟨w, by simp [storeCells], Wrote.of_ext (Ext.refl w), by simpa using h⟩
  | v :: vs, cs, n, j, w, h, hl, h1 => by
    obtain ⟨o, ho, fr, rfl, hfr⟩ := h
    have ho' : w.heap[g]? = some (.cells cs.toArray T fr) := ho
    have hl' : n + j < cs.length := by simp at hl; omega
    have hadd : (⟨g, n, none⟩ : Addr).add j = ⟨g, n + j, none⟩ := by unfold Addr.add; split <;> simp_all
    have hcell : w.cell? ⟨g, n + j, none⟩ = some cs[n + j] := by simp [World.cell?, ho', hl']
    have hfz : w.frozen? ⟨g, n + j, none⟩ = false := by
      have := hfr (n + j) hl'
      simp only [World.frozen?, ho']
      simpa using this
    have hst : (store ⟨g, n + j, none⟩ v).run P w = .ok () (w.setCell ⟨g, n + j, none⟩ v) := by
      rw [run_store P w _ v .plain (h1 v (by simp)), hcell]
      simp [hfz]
    have hbox : (Box g T (cs.set (n + j) v)).p (hp (w.setCell ⟨g, n + j, none⟩ v)) := by
      refine ⟨.cells (cs.set (n + j) v).toArray T fr, ?_, fr, rfl, fun i hi => hfr i (by simpa using hi)⟩
      simp [hp, World.setCell, Array.getElem?_modify, ho']
    obtain ⟨w', hr, hw, hb⟩ := setCells_blk vs (cs.set (n + j) v) n (j + 1) (w.setCell ⟨g, n + j, none⟩ v) hbox (by simp at hl ⊢; omega) (fun u hu => h1 u (by simp [hu]))
    refine ⟨w', by simp [storeCells, hadd, hst, hr], (Wrote.setCell w ⟨g, n + j, none⟩ v).trans hw, ?_⟩
    have e : (cs.set (n + j) v).take (n + (j + 1)) ++ vs ++ (cs.set (n + j) v).drop (n + (j + 1) + vs.length) = cs.take (n + j) ++ v :: vs ++ cs.drop (n + j + (v :: vs).length) := by
      apply List.ext_getElem?
      intro i
      simp only [List.length_cons]
      rw [List.getElem?_append, List.getElem?_append, List.getElem?_append, List.getElem?_append]
      simp only [List.length_append, List.length_take, List.length_set, List.length_cons, List.getElem?_take, List.getElem?_drop, List.getElem?_set]
      have m1 : min (n + (j + 1)) cs.length = n + j + 1 := by omega
      have m2 : min (n + j) cs.length = n + j := by omega
      rw [m1, m2]
      by_cases c1 : i < n + j
      · simp only [show i < n + j + 1 + vs.length by omega, show i < n + j + 1 by omega, show i < n + (j + 1) by omega, show i < n + j + (vs.length + 1) by omega, c1, if_true]
        rw [if_neg (by omega)]
      · by_cases c2 : i = n + j
        · subst c2
          simp only [show n + j < n + j + 1 + vs.length by omega, show n + j < n + j + 1 by omega, show n + j < n + (j + 1) by omega, show n + j < n + j + (vs.length + 1) by omega, Nat.lt_irrefl, if_true, if_false, Nat.sub_self]
          simp [hl']
        · by_cases c3 : i < n + j + 1 + vs.length
          · simp only [c3, if_true, show ¬ i < n + j + 1 by omega, show i < n + j + (vs.length + 1) by omega, if_false, c1]
            rw [show i - (n + j) = (i - (n + j + 1)) + 1 by omega, List.getElem?_cons_succ]
          · simp only [c3, if_false, show ¬ i < n + j + (vs.length + 1) by omega]
            rw [if_neg (by omega)]
            congr 1
            omega
    rw [← e]
    exact hb

theorem run_store_box {tt : TT} (hk : TTok P tt) {t g t' off : Nat} {i : TI} (hi : tget tt t = some i) {cs cs' : List Value} {v : Value} (hsz : Nat.beq (zc v).length i.size = true) (h1 : ((zc v).all fun u => u.oneCell') = true)
    (hs : spliceK cs off (zc v) some = some cs') {w : World} (h : (Box g t' cs).p (hp w)) :
    ∃ w', (storeVar t ⟨g, off, none⟩ v).run P w = .ok () w' ∧ Wrote [g] w w' ∧ (Box g t' cs').p (hp w') := by
  obtain ⟨hl, he⟩ := spliceK_eq _ _ _ _ _ hs
  injection he with he
  subst he
  obtain ⟨w', hr, hw, hb⟩ := setCells_blk (P := P) (zc v) cs off 0 w h (by omega) (fun u hu => by simpa using List.all_eq_true.1 h1 u hu)
  refine ⟨w', ?_, hw, by simpa using hb⟩
  have hz : v.cells.size = i.size := by rw [← zc_eq]; simpa using Nat.eq_of_beq_eq_true hsz
  have hzl : v.cells.toList = zc v := by rw [← zc_eq]
  simp [storeVar, run_sizeOf_tt hk hi, hz, hzl, hr]

/-- A store into a block of one's own. -/
theorem St.store {t : Nat} {x y : Operand} {g t' p : Nat} (off : Nat) {i : TI} {cs cs' : List Value} {v : Value} {G : List As} (hx : ev Γ x = some (.pointer (some ⟨g, p, none⟩))) (hy : ev Γ y = some v) (hp : p = off) (hi : tget T.tt t = some i)
    (hsz : Nat.beq (zc v).length i.size = true) (h1 : ((zc v).all fun u => u.oneCell') = true) (hD : Del F (.res (Box g t' cs)) G) (hs : spliceK cs off (zc v) some = some cs')
    (k : St w0 nt Γ (.res (Box g t' cs') :: G) (wpList P ops Q rest)) : St w0 nt Γ F (wpList P ops Q (⟨none, .store t x y, ty, pos, af, none⟩ :: rest)) :=
  fun a w hs' hdf ha hf hw => wpList_plain rfl fun K hK => by
    have hf' := hf.front hD
    obtain ⟨w', hr, hwr, hb⟩ := run_store_box (P := P) T.ok hi hsz h1 hs (hf'.all _ (List.mem_cons_self ..)).2.1
    unfold Oper.wp
    have hr2 : (execOp a.eval ⟨none, .store t x y, ty, pos, af, none⟩).run P w = .ok .skip w' := by
      subst hp
      simp [execOp, Instr.storeAt, ha.eval hx, ha.eval hy, Instr.sureAddr, hr]
    rw [hr2]
    refine hK _ _ (k _ _ hs' hdf ha.put_none (hf'.exchange hwr (by simp [Box]) (fun j hj => ?_) hb) (hw.trans hwr.toSame))
    simp only [Box, List.mem_singleton] at hj
    subst hj
    refine ⟨Nat.lt_of_lt_of_le (hf'.lt (by simp [blocks, As.gs, Box])) hwr.size, .inl (by simp [Box])⟩

/-! ### Indices into slices that stay -/

theorem run_index_op {α : Type} {E : Cod α} {tt : TT} (hk : TTok P tt) {t e : Nat} {i j : TI} (hi : tget tt t = some i) (hdesc : i.desc = .slice e) (hj : tget tt e = some j) (hn : j.size = E.n) {a : Act} {x ix : Operand} {ad : Addr} {n c : Nat} {kk : IntKind} {q : Int}
    (hx : a.eval x = .slice (some ad) n c) (hq : a.eval ix = .int kk q) (h0 : 0 ≤ q) (h1 : q < n) (w : World) (dst : Option Nat) (g : Option (Nat × Bool)) :
    (execOp a.eval ⟨dst, .indexAddr t x ix, ty, pos, af, g⟩).run P w = .ok (.value (.pointer (some (ad.add (q.toNat * E.n))))) w := by
  obtain ⟨dd, hu, hdd⟩ := hk.desc hi
  simp [execOp, Instr.indexAt, hx, hq, asIntOf, run_underlying hu, TD.of_slice (hdd.trans hdesc), run_sizeOf_tt hk hj, hn, h0, h1]

/-- The address of an element of a slice that stays. -/
theorem St.idx [W : Walk P ops X] {α : Type} (E : Cod α) {t e : Nat} {i j : TI} {x ix : Operand} {A : Option Addr} {n c : Nat} {kk : IntKind} {q : Int} {xs : List α} {y : α} (hd : Nat.blt d nt = true) (hx : ev Γ x = some (.slice A n c)) (hq : ev Γ ix = some (.int kk q))
    (hm : As.ro (Sl E A c xs) ∈ F) (hlen : n = xs.length) (hy : elt xs q = some y) (hi : tget T.tt t = some i) (hdesc : i.desc = .slice e) (hj : tget T.tt e = some j) (hn : j.size = E.n)
    (k : ∀ b o cs, St w0 nt ((d, .pointer (some ⟨b, o, none⟩)) :: Γ) (.ro (Cells b o cs) :: .ro (Rel E y cs) :: F) (X rest)) : St w0 nt Γ F (X (⟨some d, .indexAddr t x ix, ty, pos, af, none⟩ :: rest)) :=
  fun a w hs hdf ha hf hw => by
    obtain ⟨h0, h1, h2⟩ := elt_some hy
    obtain ⟨g1, g2, g3, g4⟩ := hf.ro hm
    cases A with
    | none => rw [g3 rfl] at h2; simp at h2
    | some ad =>
      obtain ⟨hsp, cs, hc1, hc2⟩ := g4 ad rfl _ _ h2
      have hadd : ad.add (q.toNat * E.n) = ⟨ad.block, ad.off + q.toNat * E.n, none⟩ := by
        unfold Addr.add
        split
        · rename_i h; cases ad; simp_all
        · rfl
      refine W.val _ _ _ _ _ (wanted_none rfl _) (fun w' he => run_index_op (E := E) T.ok hi hdesc hj hn (ha.eval hx) (ha.eval hq) h0 (hlen ▸ h1) w' _ _) ?_
      rw [hadd]
      have hf2 : Sat (.ro (Cells ad.block (ad.off + q.toNat * E.n) cs) :: .ro (Rel E y cs) :: F) w :=
        (hf.add_ro (Rel E y cs) hc1).add_ro (Cells _ _ cs) (fun i u hu => by simpa [blocks, As.gs] using hc2 i u hu)
      exact k _ _ cs _ w (by simp [Act.put, hs]) hdf (ha.put (hs ▸ Nat.le_of_ble_eq_true hd)) hf2 hw

/-- .. where an element's cells are known by its value. -/
theorem St.idxF [W : Walk P ops X] {α : Type} {sz : Nat} {enc : α → List Value} {hlen' : ∀ x, (enc x).length = sz} {hone : ∀ x, ∀ u ∈ enc x, u.oneCell' = true} {t e : Nat} {i j : TI} {x ix : Operand} {A : Option Addr} {n c : Nat} {kk : IntKind} {q : Int} {xs : List α} {y : α} (hd : Nat.blt d nt = true) (hx : ev Γ x = some (.slice A n c)) (hq : ev Γ ix = some (.int kk q))
    (hm : As.ro (Sl (Cod.flat sz enc hlen' hone) A c xs) ∈ F) (hlen : n = xs.length) (hy : elt xs q = some y) (hi : tget T.tt t = some i) (hdesc : i.desc = .slice e) (hj : tget T.tt e = some j) (hn : j.size = sz)
    (k : ∀ b o, St w0 nt ((d, .pointer (some ⟨b, o, none⟩)) :: Γ) (.ro (Cells b o (enc y)) :: F) (X rest)) : St w0 nt Γ F (X (⟨some d, .indexAddr t x ix, ty, pos, af, none⟩ :: rest)) :=
  St.idx (Cod.flat sz enc hlen' hone) hd hx hq hm hlen hy hi hdesc hj hn fun b o cs a w hs hdf ha hf hw => by
    have : cs = enc y := hf.ro (r := Rel (Cod.flat sz enc hlen' hone) y cs) (by simp)
    subst this
    refine k b o a w hs hdf ha (hf.of_mem ?_ ?_) hw
    · simpa [blocks, As.gs] using hf.nodup
    · intro z hz
      simp only [List.mem_cons] at hz ⊢
      rcases hz with hz | hz
      · exact .inl hz
      · exact .inr (.inr hz)

end
end Go.Proofs.Ythdpagcklakahaa
