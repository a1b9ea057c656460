/-
  The core: maps whose values are slices that stay, or nil; pointers that may be nil.
  Conditions: none.
-/
import Derived.Test.YthdpagcklakahaaCoreP
namespace Go.Proofs.Ythdpagcklakahaa
open Go
set_option linter.unusedSectionVars false
set_option linter.unusedVariables false

/-! ## Pointers that may be nil -/

def optA (b : Bool) (g : Nat) : Option Addr := bif b then some ⟨g, 0, none⟩ else none
def chkB (b : Bool) : Option Bool := bif b then some true else none
theorem chkB_e {b x : Bool} (h : chkB b = some x) : b = true := by
  cases b
  · cases h
  · rfl
theorem optA_t {b : Bool} {g : Nat} (h : b = true) : optA b g = some ⟨g, 0, none⟩ := by subst h; rfl
theorem optA_v {b x : Bool} {g : Nat} (h : chkB b = some x) : some (Value.pointer (optA b g)) = some (Value.pointer (some ⟨g, 0, none⟩)) := by rw [optA_t (chkB_e h)]
theorem SlP.none0 {α : Type} {E : Cod α} (m : Hp) : SlP E none 0 [] m := ⟨Nat.le_refl _, by simp [maxLen], fun _ => rfl, fun ad h => by cases h⟩

/-! ## Maps -/

def mdel {α β : Type} (eq : α → α → Bool) : List (α × β) → α → List (α × β)
  | [], _ => []
  | x :: r, k => bif eq k x.1 then r else x :: mdel eq r k

def EntsP {α β : Type} (K : KeyC α) (E : Cod β) (z : Hp) : List (α × List β) → List MapEntry → Prop
  | [], [] => True
  | x :: m, e :: es => e.key = K.v x.1 ∧ (∃ A c, e.val = .slice A x.2.length c ∧ SlP E A c x.2 z) ∧ EntsP K E z m es
  | _, _ => False

theorem EntsP.mono {α β : Type} {K : KeyC α} {E : Cod β} {z z' : Hp} (hz : Hp.le z z') : ∀ {m : List (α × List β)} {es : List MapEntry}, EntsP K E z m es → EntsP K E z' m es
  | [], [], _ => trivial
  | x :: m, e :: es, h => by
    obtain ⟨h1, ⟨A, c, h2, h3⟩, h4⟩ := h
    exact ⟨h1, ⟨A, c, h2, (Sl E A c x.2).mono _ _ hz h3⟩, EntsP.mono hz h4⟩
  | [], _ :: _, h => h.elim
  | _ :: _, [], h => h.elim

theorem EntsP.len {α β : Type} {K : KeyC α} {E : Cod β} {z : Hp} : ∀ {m : List (α × List β)} {es : List MapEntry}, EntsP K E z m es → es.length = m.length
  | [], [], _ => rfl
  | _ :: _, _ :: _, h => by simp [EntsP.len h.2.2]
  | [], _ :: _, h => h.elim
  | _ :: _, [], h => h.elim

theorem EntsP.snoc {α β : Type} {K : KeyC α} {E : Cod β} {z : Hp} {k : α} {v : List β} {e : MapEntry} (hk : e.key = K.v k) (hv : ∃ A c, e.val = .slice A v.length c ∧ SlP E A c v z) : ∀ {m : List (α × List β)} {es : List MapEntry}, EntsP K E z m es → EntsP K E z (m ++ [(k, v)]) (es ++ [e])
  | [], [], _ => ⟨hk, hv, trivial⟩
  | _ :: _, _ :: _, h => ⟨h.1, h.2.1, EntsP.snoc hk hv h.2.2⟩
  | [], _ :: _, h => h.elim
  | _ :: _, [], h => h.elim

/-- The entries bear stamps of their own, older than the clock. -/
def Stm (es : List MapEntry) (cl : Nat) : Prop := (∀ x ∈ es, x.born < cl) ∧ (es.map (·.born)).Nodup
theorem Stm.nil (cl : Nat) : Stm [] cl := ⟨(fun x h => by cases h), List.nodup_nil⟩
theorem Stm.push {es : List MapEntry} {cl : Nat} (h : Stm es cl) (k v : Value) : Stm (es ++ [⟨k, v, cl⟩]) (cl + 1) := by
  refine ⟨fun x hx => ?_, ?_⟩
  · rcases List.mem_append.1 hx with hx | hx
    · have := h.1 x hx; omega
    · rw [List.mem_singleton] at hx; subst hx; exact Nat.lt_succ_self _
  · rw [List.map_append]
    refine List.nodup_append.2 ⟨h.2, by simp, fun a ha b hb => ?_⟩
    obtain ⟨x, hx, rfl⟩ := List.mem_map.1 ha
    have := h.1 x hx
    simp only [List.map_cons, List.map_nil, List.mem_singleton] at hb
    omega
theorem Stm.modify {f : MapEntry → MapEntry} (hb : ∀ e, (f e).born = e.born) : ∀ {es : List MapEntry} {cl : Nat} (i : Nat), Stm es cl → Stm (es.modify i f) cl := fun {es cl} i h => by
  have e : ∀ (l : List MapEntry) (i : Nat), (l.modify i f).map (·.born) = l.map (·.born) := fun l => by
    induction l with
    | nil => intro i; cases i <;> rfl
    | cons x r ih =>
      intro i
      cases i with
      | zero => simp [hb]
      | succ i => simp [ih]
  refine ⟨fun x hx => ?_, by rw [e]; exact h.2⟩
  have : x.born ∈ (es.modify i f).map (·.born) := List.mem_map_of_mem hx
  rw [e] at this
  obtain ⟨y, hy, hyb⟩ := List.mem_map.1 this
  rw [← hyb]
  exact h.1 y hy
theorem Stm.erase {es : List MapEntry} {cl : Nat} (h : Stm es cl) (i : Nat) : Stm (es.eraseIdx i) cl :=
  ⟨fun x hx => h.1 x ((List.eraseIdx_sublist es i).mem hx), List.Nodup.sublist ((List.eraseIdx_sublist es i).map _) h.2⟩

/-- A map of one's own, or nil. -/
def MapV {α β : Type} (K : KeyC α) (E : Cod β) (A : Option Nat) (m : Option (List (α × List β))) : Res where
  gs := A.toList
  p _ := True
  loc _ _ _ h := h
  q h z := match A, m with
    | none, none => True
    | some g, some m => ∃ es clock, h g = some (.map es clock) ∧ EntsP K E z m es.toList ∧ Stm es.toList clock
    | _, _ => False
  qloc m m' z z' hm hz h := by
    rename_i mm
    cases A with
    | none =>
      cases mm with
      | none => exact h
      | some x => exact h
    | some g =>
      cases mm with
      | none => exact h
      | some x =>
        obtain ⟨es, cl, h1, h2, h3⟩ := h
        exact ⟨es, cl, (hm g (by simp)).symm.trans h1, h2.mono hz, h3⟩

theorem MapV.get {α β : Type} {K : KeyC α} {E : Cod β} {A : Option Nat} {m : Option (List (α × List β))} {h z : Hp} (hq : (MapV K E A m).q h z) :
    (A = none ∧ m = none) ∨ ∃ g l es cl, A = some g ∧ m = some l ∧ h g = some (.map es cl) ∧ EntsP K E z l es.toList := by
  cases A with
  | none =>
    cases m with
    | none => exact .inl ⟨rfl, rfl⟩
    | some x => exact False.elim hq
  | some g =>
    cases m with
    | none => exact False.elim hq
    | some x =>
      obtain ⟨es, cl, h1, h2, _⟩ := hq
      exact .inr ⟨g, x, es, cl, rfl, rfl, h1, h2⟩
theorem MapV.stm {α β : Type} {K : KeyC α} {E : Cod β} {g : Nat} {m : Option (List (α × List β))} {es : Array MapEntry} {cl : Nat} {h z : Hp} (hq : (MapV K E (some g) m).q h z) (ho : h g = some (.map es cl)) : Stm es.toList cl := by
  cases m with
  | none => exact False.elim hq
  | some x =>
    obtain ⟨es', cl', h1, _, h3⟩ := hq
    rw [ho] at h1
    injection h1 with h1
    injection h1 with h4 h5
    subst h4; subst h5
    exact h3

theorem findV {α β : Type} (K : KeyC α) (E : Cod β) {d : TypeDesc} (hd : TD.of d = K.td) (k : α) (z : Hp) : ∀ (m : List (α × List β)) (es : List MapEntry) (n : Nat), EntsP K E z m es →
    (mget K.eq m k = none ∧ Instr.findNow d (K.v k) es n = some none ∧ (∀ v, mset K.eq m k v = m ++ [(k, v)]) ∧ mdel K.eq m k = m) ∨
    ∃ i b e, mget K.eq m k = some b ∧ Instr.findNow d (K.v k) es n = some (some (n + i, e.val)) ∧ es[i]? = some e ∧ Instr.sameBits 10000 e.key (K.v k) = true ∧ (∃ A c, e.val = .slice A b.length c ∧ SlP E A c b z) ∧
      (∀ v u, (∃ A c, u = .slice A v.length c ∧ SlP E A c v z) → EntsP K E z (mset K.eq m k v) (es.modify i fun e => { e with key := K.v k, val := u })) ∧ EntsP K E z (mdel K.eq m k) (es.eraseIdx i)
  | [], [], n, h => .inl ⟨rfl, rfl, fun _ => rfl, rfl⟩
  | [], _ :: _, _, h => h.elim
  | _ :: _, [], _, h => h.elim
  | x :: m, e :: es, n, h => by
    obtain ⟨h1, h2, h3⟩ := h
    have hs := K.same d k x.1 hd
    cases hc : K.eq k x.1
    · rw [hc] at hs
      rcases findV K E hd k z m es (n + 1) h3 with ⟨g1, g2, g3, g4⟩ | ⟨i, b, e', g1, g2, g3, g4, g5, g6, g7⟩
      · exact .inl ⟨by simp [mget, hc, g1], by simp [Instr.findNow, h1, hs, g2], fun v => by simp [mset, hc, g3], by simp [mdel, hc, g4]⟩
      · refine .inr ⟨i + 1, b, e', by simp [mget, hc, g1], by simp [Instr.findNow, h1, hs, g2]; omega, by simpa using g3, g4, g5, fun v u hu => ?_, ?_⟩
        · have := g6 v u hu
          simp only [mset, hc, cond_false, List.modify_succ_cons]
          exact ⟨h1, h2, this⟩
        · simp only [mdel, hc, cond_false, List.eraseIdx_cons_succ]
          exact ⟨h1, h2, g7⟩
    · rw [hc] at hs
      refine .inr ⟨0, x.2, e, by simp [mget, hc], by simp [Instr.findNow, h1, hs], rfl, by rw [h1]; exact K.stay _ _ hc, h2, fun v u hu => ?_, ?_⟩
      · simp only [mset, hc, cond_true, List.modify_zero_cons]
        exact ⟨rfl, hu, h3⟩
      · simp only [mdel, hc, cond_true, List.eraseIdx_cons_zero]
        exact h3

theorem Sat.nilV {α β : Type} {F : List As} {w : World} (h : Sat F w) (K : KeyC α) (E : Cod β) : Sat (.res (MapV K E none none) :: F) w :=
  h.add_res (Ext.refl w) (MapV K E none none) (by simp [MapV]) (fun k hk => by simp [MapV] at hk) trivial trivial

theorem run_checkKey {α : Type} {K : KeyC α} {P : Program} {t : Nat} {d : TypeDesc} (e : Bool) (k : α) (w : World) (hu : P.underlying t = some d) (hd : TD.of d = K.td) : (Instr.checkKey e 10000 t (K.v k)).run P w = .ok () w := K.plain P t d e k w hu hd

section
variable {P : Program} [T : HasTT P] {w0 : World} {nt : Nat} {Γ Γ' : Env} {F F' G R : List As} {Q : Exit → Act → World → Prop} {ops : Array Oper} {rest : List Oper}
variable {d : Nat} {op : Op} {ty : Nat} {pos : String} {af : Array Edge} {X : List Oper → Act → World → Prop} {Post : Value → List As → Prop}

theorem St.makeMapV {α β : Type} {K : KeyC α} {E : Cod β} {t : Nat} (hd : Nat.blt d nt = true) (k : ∀ g, St w0 nt ((d, .map (some g)) :: Γ) (.res (MapV K E (some g) (some [])) :: F) (wpList P ops Q rest)) :
    St w0 nt Γ F (wpList P ops Q (⟨some d, .makeMap t none, ty, pos, af, none⟩ :: rest)) :=
  fun a w hs hdf ha hf hw => wpList_plain rfl fun K' hK => by
    unfold Oper.wp
    have hr : (execOp a.eval ⟨some d, .makeMap t none, ty, pos, af, none⟩).run P w = .ok (.value (.map (some w.heap.size))) (w.alloc (.map #[] 0)) := by
      simp [execOp, run_mkMap]
    rw [hr]
    refine hK _ _ (k _ _ _ (by simp [Act.put, hs]) hdf (ha.put (hs ▸ Nat.le_of_ble_eq_true hd)) (hf.add_res (Ext.alloc w _) _ (by simp [MapV]) (fun k hk => by simp [MapV] at hk; subst hk; simp) trivial ⟨_, _, hp_alloc w _, trivial, Stm.nil _⟩) (hw.trans (Ext.alloc w _).toSame))

/-- A lookup: the value, and whether it is there. -/
theorem St.lookupV {α β : Type} {K : KeyC α} {E : Cod β} {t kt e : Nat} {i j l : TI} {A : Option Nat} {m : Option (List (α × List β))} {x y : Operand} {comma : Bool} (k : α) (hd : Nat.blt d nt = true) (hx : ev Γ x = some (.map A)) (hy : ev Γ y = some (K.v k)) (hm : As.res (MapV K E A m) ∈ F)
    (hi : tget T.tt t = some i) (hdesc : i.desc = .map kt e) (hj : tget T.tt kt = some j) (hjd : j.desc = K.td) (hl : tget T.tt e = some l) (hz : l.zero = .slice none 0 0)
    (c : ∀ B c, St w0 nt ((d, if comma then .tuple #[.slice B ((mget K.eq (m.getD []) k).getD []).length c, .bool (mget K.eq (m.getD []) k).isSome] else .slice B ((mget K.eq (m.getD []) k).getD []).length c) :: Γ) (.ro (Sl E B c ((mget K.eq (m.getD []) k).getD [])) :: F) (wpList P ops Q rest)) :
    St w0 nt Γ F (wpList P ops Q (⟨some d, .lookup t x y comma, ty, pos, af, none⟩ :: rest)) :=
  fun a w hs hdf ha hf hw => wpList_plain rfl fun K' hK => by
    obtain ⟨d1, hu1, hd1⟩ := T.ok.desc hi
    obtain ⟨d2, hu2, hd2⟩ := T.ok.desc hj
    have h1 := TD.of_map (hd1.trans hdesc)
    subst h1
    have hz0 := run_zeroValue_tt T.ok hl w
    have go : ∃ B c, (execOp a.eval ⟨some d, .lookup t x y comma, ty, pos, af, none⟩).run P w = .ok (.value (if comma then .tuple #[.slice B ((mget K.eq (m.getD []) k).getD []).length c, .bool (mget K.eq (m.getD []) k).isSome] else .slice B ((mget K.eq (m.getD []) k).getD []).length c)) w ∧ (Sl E B c ((mget K.eq (m.getD []) k).getD [])).p (frz (blocks F) w) := by
      rcases MapV.get (hf.resq hm) with ⟨rfl, rfl⟩ | ⟨g, l', es, cl, rfl, rfl, ho, hE⟩
      · have h2 := run_checkKey true k w hu2 (hd2.trans hjd)
        refine ⟨none, 0, ?_, SlP.none0 _⟩
        cases comma <;> simp [execOp, ha.eval hx, ha.eval hy, Instr.lookup, run_underlying hu1, h2, Instr.findKey, Instr.findNow, run_underlying hu2, hz0, hz, mget]
      · have ho' : w.heap[g]? = some (.map es cl) := ho
        have hg : (getObj g).run P w = .ok (.map es cl) w := run_getMap ho'
        have h2 := run_checkKey es.isEmpty k w hu2 (hd2.trans hjd)
        rcases findV K E (hd2.trans hjd) k _ l' es.toList 0 hE with ⟨g1, g2, _⟩ | ⟨i', b, e', g1, g2, _, _, ⟨B, c, g3, g4⟩, _⟩
        · refine ⟨none, 0, ?_, by simp only [Option.getD_some, g1, Option.getD_none]; exact SlP.none0 _⟩
          cases comma <;> simp [execOp, ha.eval hx, ha.eval hy, Instr.lookup, run_underlying hu1, hg, h2, Instr.findKey, run_underlying hu2, g2, hz0, hz, g1]
        · refine ⟨B, c, ?_, by simp only [Option.getD_some, g1]; exact g4⟩
          cases comma <;> simp [execOp, ha.eval hx, ha.eval hy, Instr.lookup, run_underlying hu1, hg, h2, Instr.findKey, run_underlying hu2, g2, g1, g3]
    obtain ⟨B, cc, hr, hsl⟩ := go
    unfold Oper.wp
    rw [hr]
    exact hK _ _ (c B cc _ w (by simp [Act.put, hs]) hdf (ha.put (hs ▸ Nat.le_of_ble_eq_true hd)) (hf.add_ro _ hsl) hw)

theorem set_map {P : Program} {w : World} {g : Nat} {es : Array MapEntry} {cl : Nat} (ho : w.heap[g]? = some (.map es cl)) (o : Obj) : ∃ w', (setObj g o).run P w = .ok () w' ∧ Wrote [g] w w' ∧ hp w' g = some o := by
  have hlt := (Array.getElem?_eq_some_iff.1 ho).1
  refine ⟨{ w with heap := w.heap.setIfInBounds g o }, run_setMap o ho, ⟨⟨rfl, rfl, rfl, by simp⟩, fun i hi hn => ?_⟩, ?_⟩
  · simp only [List.mem_singleton] at hn
    show (w.heap.setIfInBounds g o)[i]? = w.heap[i]?
    rw [Array.getElem?_setIfInBounds_ne (fun h => hn h.symm)]
  · show (w.heap.setIfInBounds g o)[g]? = some o
    simp [hlt]

/-- The map is there. -/
def mapM {α : Type} (m : Option α) : Option α := m

theorem MapV.turn {α β : Type} {K : KeyC α} {E : Cod β} {g : Nat} {l l' : List (α × List β)} {w w' : World} {es : Array MapEntry} {cl : Nat} (hf : Sat (.res (MapV K E (some g) (some l)) :: G) w) (hwr : Wrote [g] w w') (hh : hp w' g = some (.map es cl))
    (hE : EntsP K E (frz (blocks (.res (MapV K E (some g) (some l)) :: G)) w) l' es.toList) (hS : Stm es.toList cl) : Sat (.res (MapV K E (some g) (some l')) :: G) w' := by
  have hlt : g < w.heap.size := hf.lt (by simp [blocks, As.gs, MapV])
  refine hf.exchange hwr (by simp [MapV]) (fun k hk => ?_) trivial ?_
  · simp [MapV] at hk
    subst hk
    exact ⟨Nat.lt_of_lt_of_le hlt hwr.size, .inl (by simp [MapV])⟩
  · refine ⟨es, cl, hh, hE.mono ?_, hS⟩
    intro k o hk
    unfold frz at *
    split at hk
    · cases hk
    · rename_i hn
      have hn' : k ∉ (MapV K E (some g) (some l')).gs ++ blocks G := by simpa [blocks, As.gs, MapV] using hn
      rw [if_neg hn']
      have hkg : k ∉ [g] := by simp [blocks, As.gs, MapV] at hn; simp; exact hn.1
      rw [hwr.block k (Array.getElem?_eq_some_iff.1 hk).1 hkg]
      exact hk

theorem St.mapUpdateV {α β : Type} {K : KeyC α} {E : Cod β} {t kt e n cc : Nat} {i j : TI} {A B : Option _} {m : Option (List (α × List β))} {l : List (α × List β)} {x y z : Operand} (hl : mapM m = some l) (k : α) {v : List β} (hx : ev Γ x = some (.map A)) (hy : ev Γ y = some (K.v k)) (hz : ev Γ z = some (.slice B n cc)) (hn : n = v.length)
    (hD : Del F (.res (MapV K E A m)) G) (hv : As.ro (Sl E B cc v) ∈ F)
    (hi : tget T.tt t = some i) (hdesc : i.desc = .map kt e) (hj : tget T.tt kt = some j) (hjd : j.desc = K.td)
    (c : St w0 nt Γ (.res (MapV K E A (some (mset K.eq l k v))) :: G) (wpList P ops Q rest)) : St w0 nt Γ F (wpList P ops Q (⟨none, .mapUpdate t x y z, ty, pos, af, none⟩ :: rest)) :=
  fun a w hs hdf ha hf hw => wpList_plain rfl fun K' hK => by
    unfold mapM at hl
    subst hl; subst hn
    have hf' := hf.front hD
    have hvz : SlP E B cc v (frz (blocks (.res (MapV K E A (some l)) :: G)) w) := hf'.ro (r := Sl E B cc v) (hD.perm.mem_iff.1 hv)
    rcases MapV.get (hf'.resq (List.mem_cons_self ..)) with ⟨_, h⟩ | ⟨g, l', es, cl, rfl, h, ho, hE⟩
    · cases h
    injection h with h
    subst h
    obtain ⟨d1, hu1, hd1⟩ := T.ok.desc hi
    obtain ⟨d2, hu2, hd2⟩ := T.ok.desc hj
    have h1 := TD.of_map (hd1.trans hdesc)
    subst h1
    have h2 := run_checkKey false k w hu2 (hd2.trans hjd)
    have ho' : w.heap[g]? = some (.map es cl) := ho
    have hst := MapV.stm (hf'.resq (List.mem_cons_self ..)) ho
    have hg : (getObj g).run P w = .ok (.map es cl) w := run_getMap ho'
    have go : ∃ w', (execOp a.eval ⟨none, .mapUpdate t x y z, ty, pos, af, none⟩).run P w = .ok .skip w' ∧ Wrote [g] w w' ∧ Sat (.res (MapV K E (some g) (some (mset K.eq l k v))) :: G) w' := by
      rcases findV K E (hd2.trans hjd) k _ l es.toList 0 hE with ⟨g1, g2, g3, _⟩ | ⟨i', b, e0, g1, g2, g3, g4, _, g6, _⟩
      · obtain ⟨w', hr, hwr, hh⟩ := set_map (P := P) ho' (.map (es.push ⟨K.v k, .slice B v.length cc, cl⟩) (cl + 1))
        refine ⟨w', ?_, hwr, MapV.turn hf' hwr hh ?_ (by rw [Array.toList_push]; exact hst.push _ _)⟩
        · simp [execOp, ha.eval hx, ha.eval hy, ha.eval hz, Instr.mapUpdate, run_underlying hu1, hg, h2, Instr.findKey, run_underlying hu2, g2, hr]
        · rw [g3, Array.toList_push]
          exact hE.snoc rfl ⟨B, cc, rfl, hvz⟩
      · have hmod : (es.modify i' fun e => { e with key := K.v k, val := .slice B v.length cc }).toList = es.toList.modify i' fun e => { e with key := K.v k, val := .slice B v.length cc } := Array.toList_modify
        obtain ⟨w', hr, hwr, hh⟩ := set_map (P := P) ho' (.map (es.modify i' fun e => { e with key := K.v k, val := .slice B v.length cc }) cl)
        refine ⟨w', ?_, hwr, MapV.turn hf' hwr hh ?_ (by rw [hmod]; exact hst.modify (f := fun e => { e with key := K.v k, val := .slice B v.length cc }) (fun _ => rfl) _)⟩
        · have he1 : es[i']? = some e0 := by simpa using g3
          simp only [Nat.zero_add] at g2
          simp [execOp, ha.eval hx, ha.eval hy, ha.eval hz, Instr.mapUpdate, run_underlying hu1, hg, h2, Instr.findKey, run_underlying hu2, g2, he1, Instr.keyThatStays, g4, hr]
        · rw [hmod]
          exact g6 v _ ⟨B, cc, rfl, hvz⟩
    obtain ⟨w', hrun, hwr, hsat⟩ := go
    unfold Oper.wp
    rw [hrun]
    exact hK _ _ (c _ _ (by simpa [Act.put] using hs) hdf (ha.put_none) hsat (hw.trans hwr.toSame))

/-- delete(m, k) -/
theorem St.mapDeleteVN {α β : Type} {K : KeyC α} {E : Cod β} {t kt e : Nat} {ts : Array Nat} {i j : TI} {A : Option Nat} {m : Option (List (α × List β))} {x y : Operand} (k : α) (hx : ev Γ x = some (.map A)) (hy : ev Γ y = some (K.v k)) (hD : Del F (.res (MapV K E A m)) G)
    (hts : ts[0]? = some t) (hi : tget T.tt t = some i) (hdesc : i.desc = .map kt e) (hj : tget T.tt kt = some j) (hjd : j.desc = K.td)
    (c : St w0 nt Γ (.res (MapV K E A (m.map fun l => mdel K.eq l k)) :: G) (wpList P ops Q rest)) : St w0 nt Γ F (wpList P ops Q (⟨none, .call { callee := .builtin .delete, args := #[x, y], argTypes := ts }, ty, pos, af, none⟩ :: rest)) :=
  fun a w hs hdf ha hf hw => wpList_plain rfl fun K' hK => by
    have hf' := hf.front hD
    obtain ⟨d1, hu1, hd1⟩ := T.ok.desc hi
    obtain ⟨d2, hu2, hd2⟩ := T.ok.desc hj
    have h1 := TD.of_map (hd1.trans hdesc)
    subst h1
    have go : ∃ w', (execOp a.eval ⟨none, .call { callee := .builtin .delete, args := #[x, y], argTypes := ts }, ty, pos, af, none⟩).run P w = .ok (.value (.tuple #[])) w' ∧ Same w w' ∧ Sat (.res (MapV K E A (m.map fun l => mdel K.eq l k)) :: G) w' := by
      rcases MapV.get (hf'.resq (List.mem_cons_self ..)) with ⟨rfl, rfl⟩ | ⟨g, l', es, cl, rfl, rfl, ho, hE⟩
      · have h2 := run_checkKey true k w hu2 (hd2.trans hjd)
        refine ⟨w, ?_, Same.refl w, hf'⟩
        simp [execOp, resolve, invoke, ha.eval hx, ha.eval hy, builtin, Builtin.delete_, hts, run_underlying hu1, h2]
      · have ho' : w.heap[g]? = some (.map es cl) := ho
        have hg : (getObj g).run P w = .ok (.map es cl) w := run_getMap ho'
        have h2 := run_checkKey es.isEmpty k w hu2 (hd2.trans hjd)
        have hst := MapV.stm (hf'.resq (List.mem_cons_self ..)) ho
        rcases findV K E (hd2.trans hjd) k _ l' es.toList 0 hE with ⟨g1, g2, g3, g4⟩ | ⟨i', b, e0, g1, g2, g3, _, _, _, g7⟩
        · obtain ⟨w', hr, hwr, hh⟩ := set_map (P := P) ho' (.map es cl)
          refine ⟨w', ?_, hwr.toSame, MapV.turn hf' hwr hh (by show EntsP K E _ (mdel K.eq l' k) _; rw [g4]; exact hE) hst⟩
          simp [execOp, resolve, invoke, ha.eval hx, ha.eval hy, builtin, Builtin.delete_, hts, run_underlying hu1, h2, hg, Instr.findKey, run_underlying hu2, g2, hr]
        · obtain ⟨w', hr, hwr, hh⟩ := set_map (P := P) ho' (.map (es.eraseIdxIfInBounds i') cl)
          have hi' : i' < es.size := by have := (List.getElem?_eq_some_iff.1 g3).1; simpa using this
          have hel : (es.eraseIdxIfInBounds i').toList = es.toList.eraseIdx i' := by
            unfold Array.eraseIdxIfInBounds
            rw [dif_pos hi', Array.toList_eraseIdx]
          refine ⟨w', ?_, hwr.toSame, MapV.turn hf' hwr hh ?_ (by rw [hel]; exact hst.erase _)⟩
          · simp only [Nat.zero_add] at g2
            simp [execOp, resolve, invoke, ha.eval hx, ha.eval hy, builtin, Builtin.delete_, hts, run_underlying hu1, h2, hg, Instr.findKey, run_underlying hu2, g2, hr]
          · have : (es.eraseIdxIfInBounds i').toList = es.toList.eraseIdx i' := by
              unfold Array.eraseIdxIfInBounds
              rw [dif_pos hi', Array.toList_eraseIdx]
            rw [this]
            exact g7
    obtain ⟨w', hrun, hsame, hsat⟩ := go
    unfold Oper.wp
    rw [hrun]
    exact hK _ _ (c _ _ (by simpa [Act.put] using hs) hdf ha.put_none hsat (hw.trans hsame))

/-- len(m) -/
theorem St.mapLenV {α β : Type} {K : KeyC α} {E : Cod β} {t kt e : Nat} {ts : Array Nat} {i : TI} {A : Option Nat} {m : Option (List (α × List β))} {x : Operand} (hd : Nat.blt d nt = true) (hx : ev Γ x = some (.map A)) (hm : As.res (MapV K E A m) ∈ F)
    (hts : ts[0]? = some t) (hi : tget T.tt t = some i) (hdesc : i.desc = .map kt e)
    (c : St w0 nt ((d, .int .i64 (((m.getD []).length : Nat) : Int)) :: Γ) F (wpList P ops Q rest)) : St w0 nt Γ F (wpList P ops Q (⟨some d, .call { callee := .builtin .len, args := #[x], argTypes := ts }, ty, pos, af, none⟩ :: rest)) :=
  fun a w hs hdf ha hf hw => wpList_plain rfl fun K' hK => by
    obtain ⟨d1, hu1, hd1⟩ := T.ok.desc hi
    have h1 := TD.of_map (hd1.trans hdesc)
    subst h1
    have go : (execOp a.eval ⟨some d, .call { callee := .builtin .len, args := #[x], argTypes := ts }, ty, pos, af, none⟩).run P w = .ok (.value (.int .i64 (((m.getD []).length : Nat) : Int))) w := by
      rcases MapV.get (hf.resq hm) with ⟨rfl, rfl⟩ | ⟨g, l', es, cl, rfl, rfl, ho, hE⟩
      · simp [execOp, resolve, invoke, ha.eval hx, builtin, Builtin.len_, hts, run_underlying hu1, goInt]
      · have ho' : w.heap[g]? = some (.map es cl) := ho
        have hg : (getObj g).run P w = .ok (.map es cl) w := run_getMap ho'
        have := hE.len
        simp [execOp, resolve, invoke, ha.eval hx, builtin, Builtin.len_, hts, run_underlying hu1, hg, goInt]
        simpa using congrArg Int.ofNat this
    unfold Oper.wp
    rw [go]
    exact hK _ _ (c _ w (by simp [Act.put, hs]) hdf (ha.put (hs ▸ Nat.le_of_ble_eq_true hd)) hf hw)

end
end Go.Proofs.Ythdpagcklakahaa
