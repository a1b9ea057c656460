/-
  The core, ninth part: maps, closures, rounds of a loop one by one, arrays by an index that is not written out.
  Conditions: none.
-/
import Derived.Test.YthdpagcklakahaaCore8
import Derived.LoopN
namespace Go.Proofs.Ythdpagcklakahaa
open Go
set_option linter.unusedSectionVars false

/-! ## Maps -/

def mget {α β : Type} (eq : α → α → Bool) : List (α × β) → α → Option β
  | [], _ => none
  | x :: r, k => bif eq k x.1 then some x.2 else mget eq r k

def mset {α β : Type} (eq : α → α → Bool) : List (α × β) → α → β → List (α × β)
  | [], k, v => [(k, v)]
  | x :: r, k, v => bif eq k x.1 then (k, v) :: r else x :: mset eq r k v

/-- How the keys of a type of maps are laid. -/
structure KeyC (α : Type) where
  v : α → Value
  eq : α → α → Bool
  td : TD
  same : ∀ (d : TypeDesc) (a b : α), TD.of d = td → Instr.sameNow d (v a) (v b) = some (eq a b)
  stay : ∀ a b, eq a b = true → Instr.sameBits 10000 (v b) (v a) = true
  plain : ∀ (P : Program) (t : Nat) (d : TypeDesc) (e : Bool) (a : α) (w : World), P.underlying t = some d → TD.of d = td → (Instr.checkKey e 10000 t (v a)).run P w = .ok () w

theorem bytes_eq {a b : ByteArray} (h : (a == b) = true) : a = b := by
  obtain ⟨x⟩ := a
  obtain ⟨y⟩ := b
  have : (x == y) = true := h
  rw [eq_of_beq this]
theorem bytes_refl (a : ByteArray) : (a == a) = true := by
  obtain ⟨x⟩ := a
  show (x == x) = true
  exact beq_self_eq_true x
theorem same_str (n : Nat) {a b : ByteArray} (h : a = b) : Instr.sameBits (n + 1) (.string a) (.string b) = true := by
  subst h
  simp only [Instr.sameBits]
  exact bytes_refl a
theorem same_int (n : Nat) (k : IntKind) {a b : Int} (h : a = b) : Instr.sameBits (n + 1) (.int k a) (.int k b) = true := by
  subst h
  simp [Instr.sameBits]
theorem check_str (e : Bool) (n : Nat) {P : Program} {t : Nat} (h : P.underlying t = some .string) (a : ByteArray) (w : World) : (Instr.checkKey e (n + 1) t (.string a)).run P w = .ok () w := by
  simp [Instr.checkKey, run_underlying h]
theorem check_int (e : Bool) (n : Nat) {P : Program} {t : Nat} {k : IntKind} (h : P.underlying t = some (.int k)) (a : Int) (w : World) : (Instr.checkKey e (n + 1) t (.int k a)).run P w = .ok () w := by
  simp [Instr.checkKey, run_underlying h]
theorem run_getMap {P : Program} {w : World} {r : Nat} {es : Array MapEntry} {clock : Nat} (hb : w.heap[r]? = some (.map es clock)) : (getObj r).run P w = .ok (.map es clock) w := by
  simp [getObj, Sem.run, hb]
theorem run_setMap {P : Program} {w : World} {r : Nat} {es : Array MapEntry} {clock : Nat} (o : Obj) (hb : w.heap[r]? = some (.map es clock)) : (setObj r o).run P w = .ok () { w with heap := w.heap.setIfInBounds r o } := by
  simp [setObj, Sem.run, hb]
theorem run_mkMap {P : Program} (t : TypeId) (w : World) : (Instr.makeMap t none).run P w = .ok (.map (some w.heap.size)) (w.alloc (.map #[] 0)) := rfl

def kstr : KeyC ByteArray where
  v := .string
  eq a b := a == b
  td := .string
  same d a b h := by rw [TD.of_string h]; rfl
  stay a b h := by
    exact same_str 9999 (bytes_eq h).symm
  plain P t d e a w h hd := by
    have := TD.of_string hd
    subst this
    exact check_str e 9999 h a w

def kint (k : IntKind) : KeyC Int where
  v := .int k
  eq a b := a == b
  td := .int k
  same d a b h := by rw [TD.of_int h]; simp [Instr.sameNow]
  stay a b h := by
    exact same_int 9999 k (eq_of_beq h).symm
  plain P t d e a w h hd := by
    have := TD.of_int hd
    subst this
    exact check_int e 9999 h a w

def ents {α β : Type} (K : KeyC α) (vv : β → Value) (m : List (α × β)) : List (Value × Value) := m.map fun x => (K.v x.1, vv x.2)

/-- A map of one's own. -/
def MapB {α β : Type} (K : KeyC α) (vv : β → Value) (g : Nat) (m : List (α × β)) : Res where
  gs := [g]
  p h := ∃ es clock, h g = some (.map es clock) ∧ es.toList.map (fun e => (e.key, e.val)) = ents K vv m
  loc _ _ h := fun ⟨es, cl, ho, hb⟩ => ⟨es, cl, (h g (by simp)).symm.trans ho, hb⟩

theorem find_spec {α β : Type} (K : KeyC α) (vv : β → Value) {d : TypeDesc} (hd : TD.of d = K.td) (k : α) : ∀ (m : List (α × β)) (es : List MapEntry) (n : Nat), es.map (fun e => (e.key, e.val)) = ents K vv m →
    (mget K.eq m k = none ∧ Instr.findNow d (K.v k) es n = some none ∧ ∀ v, mset K.eq m k v = m ++ [(k, v)]) ∨
    ∃ i b, mget K.eq m k = some b ∧ Instr.findNow d (K.v k) es n = some (some (n + i, vv b)) ∧ (∃ e, es[i]? = some e ∧ Instr.sameBits 10000 e.key (K.v k) = true) ∧
      ∀ v, (es.modify i fun e => { e with key := K.v k, val := vv v }).map (fun e => (e.key, e.val)) = ents K vv (mset K.eq m k v)
  | [], es, n, h => by
    simp [ents] at h
    subst h
    exact .inl ⟨rfl, rfl, fun _ => rfl⟩
  | x :: m, [], n, h => by simp [ents] at h
  | x :: m, e :: es, n, h => by
    simp only [ents, List.map_cons, List.cons.injEq] at h
    obtain ⟨h1, h2⟩ := h
    have hk : e.key = K.v x.1 := congrArg Prod.fst h1
    have hv : e.val = vv x.2 := congrArg Prod.snd h1
    have hs := K.same d k x.1 hd
    cases hc : K.eq k x.1
    · rw [hc] at hs
      rcases find_spec K vv hd k m es (n + 1) h2 with ⟨g1, g2, g3⟩ | ⟨i, b, g1, g2, g3, g4⟩
      · refine .inl ⟨by simp [mget, hc, g1], by simp [Instr.findNow, hk, hs, g2], fun v => by simp [mset, hc, g3]⟩
      · refine .inr ⟨i + 1, b, by simp [mget, hc, g1], by simp [Instr.findNow, hk, hs, g2]; omega, by simpa using g3, fun v => ?_⟩
        have := g4 v
        simp only [ents, mset, hc, cond_false, List.map_cons, List.modify_succ_cons, hk, hv] at this ⊢
        rw [this]
    · rw [hc] at hs
      refine .inr ⟨0, x.2, by simp [mget, hc], by simp [Instr.findNow, hk, hs, hv], ⟨e, rfl, by rw [hk]; exact K.stay _ _ hc⟩, fun v => ?_⟩
      simp only [ents, mset, hc, cond_true, List.map_cons, List.modify_zero_cons]
      exact congrArg _ h2

section
variable {P : Program} [T : HasTT P] {w0 : World} {nt : Nat} {Γ Γ' : Env} {F F' G R : List As} {Q : Exit → Act → World → Prop} {ops : Array Oper} {rest : List Oper}
variable {d : Nat} {op : Op} {ty : Nat} {pos : String} {af : Array Edge} {X : List Oper → Act → World → Prop} {Post : Value → List As → Prop}

theorem St.makeMap {α β : Type} {K : KeyC α} {vv : β → Value} {t : Nat} (hd : Nat.blt d nt = true) (k : ∀ g, St w0 nt ((d, .map (some g)) :: Γ) (.res (MapB K vv g []) :: F) (wpList P ops Q rest)) :
    St w0 nt Γ F (wpList P ops Q (⟨some d, .makeMap t none, ty, pos, af, none⟩ :: rest)) :=
  fun a w hs hdf ha hf hw => wpList_plain rfl fun K' hK => by
    unfold Oper.wp
    have hr : (execOp a.eval ⟨some d, .makeMap t none, ty, pos, af, none⟩).run P w = .ok (.value (.map (some w.heap.size))) (w.alloc (.map #[] 0)) := by
      simp [execOp, run_mkMap]
    rw [hr]
    refine hK _ _ (k _ _ _ (by simp [Act.put, hs]) hdf (ha.put (hs ▸ Nat.le_of_ble_eq_true hd)) (hf.add_res (Ext.alloc w _) _ (by simp [MapB]) (fun k hk => by simp [MapB] at hk; subst hk; simp) ⟨_, _, hp_alloc w _, rfl⟩) (hw.trans (Ext.alloc w _).toSame))

def mapV {β : Type} (vv : β → Value) (z : β) (o : Option β) (comma : Bool) : Value := if comma then .tuple #[vv (o.getD z), .bool o.isSome] else vv (o.getD z)

theorem run_lookup_own {α β : Type} {K : KeyC α} {vv : β → Value} {t kt e : Nat} {i j l : TI} {g : Nat} {m : List (α × β)} (z : β) (comma : Bool) (hi : tget T.tt t = some i) (hdesc : i.desc = .map kt e) (hj : tget T.tt kt = some j) (hjd : j.desc = K.td) (hl : tget T.tt e = some l) (hz : l.zero = vv z)
    (k : α) {w : World} (h : (MapB K vv g m).p (hp w)) : (Instr.lookup t (.map (some g)) (K.v k) comma).run P w = .ok (mapV vv z (mget K.eq m k) comma) w := by
  obtain ⟨es, cl, ho, hb⟩ := h
  obtain ⟨d1, hu1, hd1⟩ := T.ok.desc hi
  obtain ⟨d2, hu2, hd2⟩ := T.ok.desc hj
  have h1 := TD.of_map (hd1.trans hdesc)
  subst h1
  have h2 := K.plain P kt d2 es.isEmpty k w hu2 (hd2.trans hjd)
  have ho' : w.heap[g]? = some (.map es cl) := ho
  have hz0 := run_zeroValue_tt T.ok hl w
  have hg : (getObj g).run P w = .ok (.map es cl) w := run_getMap ho'
  rcases find_spec K vv (hd2.trans hjd) k m es.toList 0 hb with ⟨g1, g2, _⟩ | ⟨i, b, g1, g2, _⟩
  · simp [Instr.lookup, run_underlying hu1, hg, h2, Instr.findKey, run_underlying hu2, g2, g1, hz0, hz, mapV]
  · simp [Instr.lookup, run_underlying hu1, hg, h2, Instr.findKey, run_underlying hu2, g2, g1, mapV]

theorem St.lookup [W : Walk P ops X] {α β : Type} {K : KeyC α} {vv : β → Value} {t kt e : Nat} {i j l : TI} {g : Nat} {m : List (α × β)} {x y : Operand} {comma : Bool} {u : Value} (z : β) (k : α) (hd : Nat.blt d nt = true) (hx : ev Γ x = some (.map (some g))) (hy : ev Γ y = some (K.v k)) (hm : As.res (MapB K vv g m) ∈ F)
    (hi : tget T.tt t = some i) (hdesc : i.desc = .map kt e) (hj : tget T.tt kt = some j) (hjd : j.desc = K.td) (hl : tget T.tt e = some l) (hz : l.zero = vv z) (hu : mapV vv z (mget K.eq m k) comma = u)
    (c : St w0 nt ((d, u) :: Γ) F (X rest)) : St w0 nt Γ F (X (⟨some d, .lookup t x y comma, ty, pos, af, none⟩ :: rest)) :=
  fun a w hs hdf ha hf hw => by
    subst hu
    refine W.val _ _ _ _ _ (wanted_none rfl _) (fun w' he => ?_) (c _ w (by simp [Act.put, hs]) hdf (ha.put (hs ▸ Nat.le_of_ble_eq_true hd)) hf hw)
    have := run_lookup_own (P := P) z comma hi hdesc hj hjd hl hz k ((hf.ext he).res hm)
    simp [execOp, ha.eval hx, ha.eval hy, this]

theorem run_update_own {α β : Type} {K : KeyC α} {vv : β → Value} {t kt e : Nat} {i j : TI} {g : Nat} {m : List (α × β)} (hi : tget T.tt t = some i) (hdesc : i.desc = .map kt e) (hj : tget T.tt kt = some j) (hjd : j.desc = K.td)
    (k : α) (v : β) {w : World} (h : (MapB K vv g m).p (hp w)) : ∃ w', (Instr.mapUpdate t (.map (some g)) (K.v k) (vv v)).run P w = .ok () w' ∧ Wrote [g] w w' ∧ (MapB K vv g (mset K.eq m k v)).p (hp w') := by
  obtain ⟨es, cl, ho, hb⟩ := h
  obtain ⟨d1, hu1, hd1⟩ := T.ok.desc hi
  obtain ⟨d2, hu2, hd2⟩ := T.ok.desc hj
  have h1 := TD.of_map (hd1.trans hdesc)
  subst h1
  have h2 := K.plain P kt d2 false k w hu2 (hd2.trans hjd)
  have ho' : w.heap[g]? = some (.map es cl) := ho
  have hlt := (Array.getElem?_eq_some_iff.1 ho').1
  have hg : (getObj g).run P w = .ok (.map es cl) w := run_getMap ho'
  have hset : ∀ o : Obj, ∃ w', (setObj g o).run P w = .ok () w' ∧ Wrote [g] w w' ∧ hp w' g = some o := fun o => by
    refine ⟨{ w with heap := w.heap.setIfInBounds g o }, run_setMap o ho', ⟨⟨rfl, rfl, rfl, by simp⟩, fun i hi hn => ?_⟩, ?_⟩
    · simp only [List.mem_singleton] at hn
      show (w.heap.setIfInBounds g o)[i]? = w.heap[i]?
      rw [Array.getElem?_setIfInBounds_ne (fun h => hn h.symm)]
    · show (w.heap.setIfInBounds g o)[g]? = some o
      simp [hlt]
  rcases find_spec K vv (hd2.trans hjd) k m es.toList 0 hb with ⟨g1, g2, g3⟩ | ⟨i, b, g1, g2, ⟨e0, he0, hsb⟩, g4⟩
  · obtain ⟨w', hr, hw, hh⟩ := hset (.map (es.push ⟨K.v k, vv v, cl⟩) (cl + 1))
    refine ⟨w', ?_, hw, _, _, hh, ?_⟩
    · simp [Instr.mapUpdate, run_underlying hu1, hg, h2, Instr.findKey, run_underlying hu2, g2, hr]
    · simp [hb, ents, g3 v]
  · have hmod : (es.modify i fun e => { e with key := K.v k, val := vv v }).toList = es.toList.modify i fun e => { e with key := K.v k, val := vv v } := Array.toList_modify
    obtain ⟨w', hr, hw, hh⟩ := hset (.map (es.modify i fun e => { e with key := K.v k, val := vv v }) cl)
    refine ⟨w', ?_, hw, _, _, hh, ?_⟩
    · have he1 : es[i]? = some e0 := by simpa using he0
      simp only [Nat.zero_add] at g2
      simp [Instr.mapUpdate, run_underlying hu1, hg, h2, Instr.findKey, run_underlying hu2, g2, he1, Instr.keyThatStays, hsb, hr]
    · rw [hmod]; exact g4 v

theorem St.mapUpdate {α β : Type} {K : KeyC α} {vv : β → Value} {t kt e : Nat} {i j : TI} {g : Nat} {m : List (α × β)} {x y z : Operand} (k : α) (v : β) (hx : ev Γ x = some (.map (some g))) (hy : ev Γ y = some (K.v k)) (hz : ev Γ z = some (vv v)) (hD : Del F (.res (MapB K vv g m)) G)
    (hi : tget T.tt t = some i) (hdesc : i.desc = .map kt e) (hj : tget T.tt kt = some j) (hjd : j.desc = K.td)
    (c : St w0 nt Γ (.res (MapB K vv g (mset K.eq m k v)) :: G) (wpList P ops Q rest)) : St w0 nt Γ F (wpList P ops Q (⟨none, .mapUpdate t x y z, ty, pos, af, none⟩ :: rest)) :=
  fun a w hs hdf ha hf hw => wpList_plain rfl fun K' hK => by
    have hf' := hf.front hD
    have h1 : (MapB K vv g m).p (hp w) := hf.res hD.mem
    obtain ⟨w', hr, hwr, hq⟩ := run_update_own (P := P) hi hdesc hj hjd k v h1
    unfold Oper.wp
    have hrun : (execOp a.eval ⟨none, .mapUpdate t x y z, ty, pos, af, none⟩).run P w = .ok .skip w' := by
      simp [execOp, ha.eval hx, ha.eval hy, ha.eval hz, hr]
    rw [hrun]
    have hlt : g < w.heap.size := hf.lt (mem_blocks.2 ⟨_, hD.mem, by simp [As.gs, MapB]⟩)
    refine hK _ _ (c _ _ (by simpa [Act.put] using hs) hdf (ha.put_none) (hf'.exchange hwr (by simp [MapB]) (fun k hk => ?_) hq) (hw.trans hwr.toSame))
    simp [MapB] at hk
    subst hk
    exact ⟨Nat.lt_of_lt_of_le hlt hwr.size, .inl (by simp [MapB])⟩

/-! ## Closures -/

/-! ## A loop round by round -/

theorem St.rounds {c : Code} (n : Nat) (h : St w0 nt Γ F (Code.rounds P c Q n)) : St w0 nt Γ F ((Code.loop c).wp P Q) :=
  fun a w hs hd ha hf hw => wp_loop_rounds n (h a w hs hd ha hf hw)
theorem St.round {c : Code} {n : Nat} (h : St w0 nt Γ F (c.wp P (Exit.then (Code.rounds P c Q n) Q))) : St w0 nt Γ F (Code.rounds P c Q (n + 1)) := h

/-! ## Arrays by an index that is not written out -/

theorem St.ixA [W : Walk P ops X] {α : Type} {t e g len sz : Nat} {i j : TI} {x ix : Operand} {kk : IntKind} {q : Int} {ys : List α} {y : α} (hy : elt ys q = some y) (hd : Nat.blt d nt = true) (hx : ev Γ x = some (.pointer (some ⟨g, 0, none⟩))) (hq : ev Γ ix = some (.int kk q))
    (hlen : len = ys.length) (hi : tget T.tt t = some i) (hdesc : i.desc = .array len e) (hj : tget T.tt e = some j) (hn : j.size = sz)
    (k : St w0 nt ((d, .pointer (some ⟨g, q.toNat * sz, none⟩)) :: Γ) F (X rest)) : St w0 nt Γ F (X (⟨some d, .indexAddr t x ix, ty, pos, af, none⟩ :: rest)) :=
  fun a w hs hdf ha hf hw => by
    subst hn; subst hlen
    have hv : pindexAddr T.tt t (.pointer (some ⟨g, 0, none⟩)) (.int kk q) = some (.pointer (some ⟨g, q.toNat * j.size, none⟩)) := by
      obtain ⟨h0, h1, _⟩ := elt_some hy
      have : addO ⟨g, 0, none⟩ (q.toNat * j.size) = ⟨g, q.toNat * j.size, none⟩ := by
        unfold addO
        split <;> simp_all
      simp [pindexAddr, hi, hdesc, hj, h0, h1, this]
    refine W.val _ _ _ _ _ (wanted_none rfl _) (fun w' he => ?_) (k _ w (by simp [Act.put, hs]) hdf (ha.put (hs ▸ Nat.le_of_ble_eq_true hd)) hf hw)
    simp [execOp, ha.eval hx, ha.eval hq, pindexAddr_run T.ok hv]

theorem sl_len {α : Type} {xs zs : List α} {q : Int} {v : α} {A : Option Addr} {c : Nat} (h : setE xs q v = some zs) : some (Value.slice A xs.length c) = some (Value.slice A zs.length c) := by
  unfold setE at h
  split at h
  · injection h with h
    subst h
    simp
  · cases h

/-- bytes of a string -/
def s2bM (b : ByteArray) : Option (List Int) := if b.size ≤ 9223372036854775806 then some (bytesOf b) else none

end
end Go.Proofs.Ythdpagcklakahaa
