/-
  Several texts in one.
  Conditions: none.
-/
import Derived.Test.YthdpagcklakahaaCoreK
import Derived.Maps.RangeRun
import Derived.RangeFuncSeq
import Derived.RangeFuncIn
import Derived.RangeFuncRecord
import Derived.RangeFuncLeaves
import Derived.Test.YthdpagcklakahaaTypes
namespace Go.Proofs.Ythdpagcklakahaa
open Go
open Go.ChangeMaps (setBlock)
set_option linter.unusedSectionVars false
set_option linter.unusedVariables false
set_option maxRecDepth 10000

/-- A map with an iterator under way: these keys have come. -/
def MapIt {α β : Type} (K : KeyC α) (E : Cod β) (A : Option Nat) (m : Option (List (α × List β))) (it : Nat) (done : List α) : Res where
  gs := it :: A.toList
  p _ := True
  loc _ _ _ h := h
  q h z := match A, m with
    | none, none => h it = some (.mapIter none 0 #[] 0) ∧ done = []
    | some g, some m => ∃ (es : Array MapEntry) (cl : Nat) (ds : List MapEntry), h g = some (.map es cl) ∧ EntsP K E z m es.toList ∧ Stm es.toList cl ∧ h it = some (.mapIter (some g) cl (ds.map (·.born)).toArray cl) ∧ (∀ x ∈ ds, x ∈ es.toList) ∧ (ds.map (·.born)).Nodup ∧ done.map K.v = ds.map (·.key)
    | _, _ => False
  qloc a a' z z' hm hz h := by
    cases A with
    | none =>
      cases m with
      | none => exact ⟨(hm it (by simp)).symm.trans h.1, h.2⟩
      | some x => exact h
    | some g =>
      cases m with
      | none => exact h
      | some x =>
        obtain ⟨es, cl, ds, h1, h2, h3, h4, h5⟩ := h
        exact ⟨es, cl, ds, (hm g (by simp)).symm.trans h1, h2.mono hz, h3, (hm it (by simp)).symm.trans h4, h5⟩
theorem MapIt.get {α β : Type} {K : KeyC α} {E : Cod β} {A : Option Nat} {m : Option (List (α × List β))} {it : Nat} {done : List α} {h z : Hp} (hq : (MapIt K E A m it done).q h z) :
    (A = none ∧ m = none ∧ h it = some (.mapIter none 0 #[] 0) ∧ done = []) ∨ ∃ (g : Nat) (l : List (α × List β)) (es : Array MapEntry) (cl : Nat) (ds : List MapEntry), A = some g ∧ m = some l ∧ h g = some (.map es cl) ∧ EntsP K E z l es.toList ∧ Stm es.toList cl ∧ h it = some (.mapIter (some g) cl (ds.map (·.born)).toArray cl) ∧ (∀ x ∈ ds, x ∈ es.toList) ∧ (ds.map (·.born)).Nodup ∧ done.map K.v = ds.map (·.key) := by
  cases A with
  | none =>
    cases m with
    | none => exact .inl ⟨rfl, rfl, hq⟩
    | some x => exact False.elim hq
  | some g =>
    cases m with
    | none => exact False.elim hq
    | some x =>
      obtain ⟨es, cl, ds, h1⟩ := hq
      exact .inr ⟨g, x, es, cl, ds, rfl, rfl, h1⟩
theorem EntsP.keys {α β : Type} {K : KeyC α} {E : Cod β} {z : Hp} : ∀ {m : List (α × List β)} {es : List MapEntry}, EntsP K E z m es → es.map (·.key) = m.map fun x => K.v x.1
  | [], [], _ => rfl
  | x :: m, e :: es, h => by simp only [List.map_cons]; rw [h.1, EntsP.keys h.2.2]
  | [], _ :: _, h => h.elim
  | _ :: _, [], h => h.elim
theorem EntsP.memE {α β : Type} {K : KeyC α} {E : Cod β} {z : Hp} {e : MapEntry} : ∀ {m : List (α × List β)} {es : List MapEntry}, EntsP K E z m es → e ∈ es → ∃ k, e.key = K.v k ∧ ∃ v, (k, v) ∈ m
  | x :: m, y :: es, h, he => by
    rcases List.mem_cons.1 he with rfl | he
    · exact ⟨x.1, h.1, x.2, by simp⟩
    · obtain ⟨k, h1, v, h2⟩ := EntsP.memE h.2.2 he
      exact ⟨k, h1, v, by simp [h2]⟩
  | [], [], _, he => by cases he
  | [], _ :: _, h, _ => h.elim
  | _ :: _, [], h, _ => h.elim
theorem born_inj {es : List MapEntry} (hn : (es.map (·.born)).Nodup) {x y : MapEntry} (hx : x ∈ es) (hy : y ∈ es) (h : x.born = y.born) : x = y := by
  induction es with
  | nil => cases hx
  | cons e r ih =>
    rw [List.map_cons] at hn
    have h2 := List.nodup_cons.1 hn
    rcases List.mem_cons.1 hx with hx1 | hx1
    · rcases List.mem_cons.1 hy with hy1 | hy1
      · rw [hx1, hy1]
      · exact absurd (show e.born ∈ r.map (·.born) from List.mem_map.2 ⟨y, hy1, by rw [← hx1, h]⟩) h2.1
    · rcases List.mem_cons.1 hy with hy1 | hy1
      · exact absurd (show e.born ∈ r.map (·.born) from List.mem_map.2 ⟨x, hx1, by rw [← hy1, h]⟩) h2.1
      · exact ih h2.2 hx1 hy1
theorem nodup_len : ∀ {l m : List Nat}, l.Nodup → (∀ x ∈ l, x ∈ m) → l.length ≤ m.length
  | [], _, _, _ => Nat.zero_le _
  | x :: l, m, h, hs => by
    have h2 := List.nodup_cons.1 h
    have hx := hs x (by simp)
    have := nodup_len (m := m.erase x) h2.2 fun y hy => (List.mem_erase_of_ne (a := y) (b := x) (fun e => h2.1 (by rw [← e]; exact hy))).2 (hs y (by simp [hy]))
    rw [List.length_erase_of_mem hx] at this
    have := List.length_pos_of_mem hx
    simp only [List.length_cons]
    omega
theorem nodup_of_map {α β : Type} {f : α → β} {l : List α} (h : (l.map f).Nodup) : l.Nodup := by
  induction l with
  | nil => exact List.nodup_nil
  | cons x r ih =>
    rw [List.map_cons] at h
    have h2 := List.nodup_cons.1 h
    exact List.nodup_cons.2 ⟨fun hx => h2.1 (List.mem_map_of_mem hx), ih h2.2⟩

section
variable {P : Program} [T : HasTT P] {w0 : World} {nt : Nat} {Γ Γ' : Env} {F F' G R : List As} {Q : Exit → Act → World → Prop} {ops : Array Oper} {rest : List Oper}
variable {d : Nat} {op : Op} {ty : Nat} {pos : String} {af : Array Edge} {X : List Oper → Act → World → Prop} {Post : Value → List As → Prop}

theorem St.rangeV {α β : Type} {K : KeyC α} {E : Cod β} {t kt e : Nat} {i : TI} {A : Option Nat} {m : Option (List (α × List β))} {x : Operand} (hd : Nat.blt d nt = true) (hx : ev Γ x = some (.map A)) (hD : Del F (.res (MapV K E A m)) G)
    (hi : tget T.tt t = some i) (hdesc : i.desc = .map kt e)
    (c : ∀ it, St w0 nt ((d, .pointer (some ⟨it, 0, none⟩)) :: Γ) (.res (MapIt K E A m it []) :: G) (wpList P ops Q rest)) : St w0 nt Γ F (wpList P ops Q (⟨some d, .range t x, ty, pos, af, none⟩ :: rest)) :=
  fun a w hs hdf ha hf hw => wpList_plain rfl fun K' hK => by
    have hf' := hf.front hD
    obtain ⟨d1, hu1, hd1⟩ := T.ok.desc hi
    have h1 := TD.of_map (hd1.trans hdesc)
    subst h1
    have go : ∃ o : Obj, (execOp a.eval ⟨some d, .range t x, ty, pos, af, none⟩).run P w = .ok (.value (.pointer (some ⟨w.heap.size, 0, none⟩))) (w.alloc o) ∧ Sat (.res (MapIt K E A m w.heap.size []) :: G) (w.alloc o) := by
      have hb := hf'.nodup
      rcases MapV.get (hf'.resq (List.mem_cons_self ..)) with ⟨rfl, rfl⟩ | ⟨g, l, es, cl, rfl, rfl, ho, hE⟩
      · refine ⟨.mapIter none 0 #[] 0, ?_, ?_⟩
        · simp [execOp, ha.eval hx, run_range_nilMap w t kt e hu1]
        · refine hf'.exchange (r' := MapIt K E none none w.heap.size []) ⟨(Ext.alloc w _).toSame, fun k hk _ => (Ext.alloc w _).block k hk⟩ (by simp [MapIt]) (fun k hk => ?_) trivial ⟨hp_alloc w _, rfl⟩
          simp [MapIt] at hk
          subst hk
          exact ⟨by simp, .inr (Nat.le_refl _)⟩
      · have ho' : w.heap[g]? = some (.map es cl) := ho
        have hlt : g < w.heap.size := hf'.lt (by simp [blocks, As.gs, MapV])
        have hst := MapV.stm (hf'.resq (List.mem_cons_self ..)) ho
        refine ⟨.mapIter (some g) cl #[] cl, ?_, ?_⟩
        · simp [execOp, ha.eval hx, run_range_map w t kt e g es cl hu1 ho']
        · refine hf'.exchange (r' := MapIt K E (some g) (some l) w.heap.size []) ⟨(Ext.alloc w _).toSame, fun k hk _ => (Ext.alloc w _).block k hk⟩ (by simp [MapIt]; omega) (fun k hk => ?_) trivial ?_
          · simp [MapIt] at hk
            rcases hk with rfl | rfl
            · exact ⟨by simp, .inr (Nat.le_refl _)⟩
            · exact ⟨by simp; omega, .inl (by simp [MapV])⟩
          · refine ⟨es, cl, [], ((Ext.alloc w _).block g hlt).trans ho', hE.mono ?_, hst, hp_alloc w _, (fun x hx => by cases hx), List.nodup_nil, rfl⟩
            intro k o hk
            unfold frz at *
            split at hk
            · cases hk
            · rename_i hn
              have hlt2 := (Array.getElem?_eq_some_iff.1 hk).1
              rw [if_neg (fun hm => by
                rcases List.mem_append.1 hm with hm | hm
                · simp [MapIt] at hm
                  rcases hm with rfl | rfl
                  · omega
                  · exact hn (by simp [blocks, As.gs, MapV])
                · exact hn (by simp [blocks, hm])), (Ext.alloc w _).block k hlt2]
              exact hk
    obtain ⟨o, hrun, hsat⟩ := go
    unfold Oper.wp
    rw [hrun]
    exact hK _ _ (c _ _ _ (by simp [Act.put, hs]) hdf (ha.put (hs ▸ Nat.le_of_ble_eq_true hd)) hsat (hw.trans (Ext.alloc w _).toSame))

/-- The keys of a map, as they lie in it. -/
def keysOf {α β : Type} (m : Option (List (α × List β))) : List α := (m.getD []).map (·.1)
/-- THE STEP: nothing is left, and all keys have come; or one more key comes. -/
theorem St.nextV {α β : Type} {K : KeyC α} {E : Cod β} {A : Option Nat} {m : Option (List (α × List β))} {x : Operand} {it : Nat} {done : List α} {G : List As} (hd : Nat.blt d nt = true) (hx : ev Γ x = some (.pointer (some ⟨it, 0, none⟩))) (hD : Del F (.res (MapIt K E A m it done)) G)
    (c0 : (done.map K.v).Perm ((keysOf m).map K.v) → St w0 nt ((d, .tuple #[.bool false]) :: Γ) (.res (MapIt K E A m it done) :: G) (wpList P ops Q rest))
    (c1 : ∀ k v, done.length < (keysOf m).length → St w0 nt ((d, .tuple #[.bool true, K.v k, v]) :: Γ) (.res (MapIt K E A m it (done ++ [k])) :: G) (wpList P ops Q rest)) :
    St w0 nt Γ F (wpList P ops Q (⟨some d, .next x false, ty, pos, af, none⟩ :: rest)) :=
  fun a w hs hdf ha hf hw => wpList_plain rfl fun K' hK => by
    have hf' := hf.front hD
    unfold Oper.wp
    rcases MapIt.get (hf'.resq (List.mem_cons_self ..)) with ⟨rfl, rfl, hit, rfl⟩ | ⟨g, l, es, cl, ds, rfl, rfl, ho, hE, hst, hit, hds, hdn, hk⟩
    · have hit' : w.heap[it]? = some (.mapIter none 0 #[] 0) := hit
      have hr : (execOp a.eval ⟨some d, .next x false, ty, pos, af, none⟩).run P w = .ok (.value (.tuple #[.bool false])) w := by
        simp [execOp, ha.eval hx, Instr.next, getObj, Sem.run, hit', Result.andThen]
      rw [hr]
      exact hK _ _ (c0 (by simp [keysOf]) _ w (by simp [Act.put, hs]) hdf (ha.put (hs ▸ Nat.le_of_ble_eq_true hd)) hf' hw)
    · have hit' : w.heap[it]? = some (.mapIter (some g) cl (ds.map (·.born)).toArray cl) := hit
      have ho' : w.heap[g]? = some (.map es cl) := ho
      have hne : it ≠ g := fun e => by rw [e, ho'] at hit'; cases hit'
      have hlt : it < w.heap.size := hf'.lt (by simp [blocks, As.gs, MapIt])
      have hltg : g < w.heap.size := hf'.lt (by simp [blocks, As.gs, MapIt])
      have hdp : ds.Nodup := nodup_of_map hdn
      have hep : es.toList.Nodup := nodup_of_map hst.2
      have hks : (keysOf (some l)).map K.v = es.toList.map (·.key) := by
        rw [hE.keys]; simp [keysOf, List.map_map]
      rcases run_next_at (P := P) w ty it g cl cl (ds.map (·.born)).toArray es cl hit' ho' hst.1 (Nat.le_refl _) with ⟨h0, hrun⟩ | ⟨e, he, w1, hw1, hrun⟩
      · have hr : (execOp a.eval ⟨some d, .next x false, ty, pos, af, none⟩).run P w = .ok (.value (.tuple #[.bool false])) w := by
          simp [execOp, ha.eval hx, hrun]
        rw [hr]
        refine hK _ _ (c0 ?_ _ w (by simp [Act.put, hs]) hdf (ha.put (hs ▸ Nat.le_of_ble_eq_true hd)) hf' hw)
        rw [hk, hks]
        refine List.Perm.map _ ((List.perm_ext_iff_of_nodup hdp hep).2 fun y => ⟨hds y, fun hy => ?_⟩)
        have := all_seen es _ h0 y hy
        simp at this
        obtain ⟨z, hz, hzb⟩ := this
        rw [← born_inj hst.2 (hds z hz) hy hzb]
        exact hz
      · obtain ⟨hem, hes⟩ := mem_left he
        obtain ⟨k, hek, v0, hkv⟩ := hE.memE hem
        have hr : (execOp a.eval ⟨some d, .next x false, ty, pos, af, none⟩).run P w = .ok (.value (.tuple #[.bool true, K.v k, e.val])) (setBlock w1 it (.mapIter (some g) cl ((ds.map (·.born)).toArray.push e.born) cl)) := by
          simp [execOp, ha.eval hx, hrun, hek]
        rw [hr]
        have hnot : e ∉ ds := fun hed => by
          have : (ds.map (·.born)).toArray.contains e.born = true := by simp; exact ⟨e, hed, rfl⟩
          rw [this] at hes; cases hes
        have hlen : done.length < (keysOf (some l)).length := by
          have e1 : done.length = ds.length := by have := congrArg List.length hk; simpa using this
          have e2 : (keysOf (some l)).length = es.toList.length := by have := congrArg List.length hks; simpa using this
          have hnb : e.born ∉ ds.map (·.born) := fun h => by
            obtain ⟨y, hy, hyb⟩ := List.mem_map.1 h
            exact hnot (born_inj hst.2 (hds y hy) hem hyb ▸ hy)
          have := nodup_len (l := e.born :: ds.map (·.born)) (m := es.toList.map (·.born)) (List.nodup_cons.2 ⟨hnb, hdn⟩) fun y hy => by
            rcases List.mem_cons.1 hy with rfl | hy
            · exact List.mem_map_of_mem hem
            · obtain ⟨z, hz, rfl⟩ := List.mem_map.1 hy
              exact List.mem_map_of_mem (hds z hz)
          simp only [List.length_cons, List.length_map] at this
          omega
        have hsz : w1.heap = w.heap := by rcases hw1 with rfl | rfl <;> rfl
        have hext : Wrote [it] w (setBlock w1 it (.mapIter (some g) cl ((ds.map (·.born)).toArray.push e.born) cl)) := by
          refine ⟨?_, fun i hi hn => ?_⟩
          · rcases hw1 with rfl | rfl
            · exact ⟨rfl, rfl, rfl, by simp [setBlock]⟩
            · exact ⟨rfl, rfl, rfl, by show w.heap.size ≤ (w.heap.setIfInBounds it _).size; simp⟩
          · simp only [List.mem_singleton] at hn
            show (w1.heap.setIfInBounds it _)[i]? = w.heap[i]?
            rw [hsz, Array.getElem?_setIfInBounds_ne (fun h => hn h.symm)]
        have hwr : Wrote (MapIt K E (some g) (some l) it done).gs w (setBlock w1 it (.mapIter (some g) cl ((ds.map (·.born)).toArray.push e.born) cl)) := ⟨hext.toSame, fun i hi hn => hext.block i hi (fun hm => hn (by simp only [List.mem_singleton] at hm; subst hm; simp [MapIt]))⟩
        refine hK _ _ (c1 k e.val hlen _ _ (by simp [Act.put, hs]) hdf (ha.put (hs ▸ Nat.le_of_ble_eq_true hd)) ?_ (hw.trans hext.toSame))
        refine hf'.exchange (r' := MapIt K E (some g) (some l) it (done ++ [k])) hwr (by simp [MapIt]; exact hne) (fun i hi => ?_) trivial ?_
        · exact ⟨Nat.lt_of_lt_of_le (by simp [MapIt] at hi; rcases hi with rfl | rfl <;> assumption) hext.size, .inl hi⟩
        · refine ⟨es, cl, ds ++ [e], (hext.block g hltg (by simp; exact fun h => hne h.symm)).trans ho', hE.mono ?_, hst, ?_, fun y hy => ?_, ?_, ?_⟩
          · intro i o hio
            unfold frz at *
            split at hio
            · cases hio
            · rename_i hn
              have hlt2 := (Array.getElem?_eq_some_iff.1 hio).1
              rw [if_neg (fun hm => hn (by simpa [blocks, As.gs, MapIt] using hm)), hext.block i hlt2 (fun hm => hn (by simp only [List.mem_singleton] at hm; subst hm; simp [blocks, As.gs, MapIt]))]
              exact hio
          · show (w1.heap.setIfInBounds it _)[it]? = _
            rw [hsz]
            simp [hlt]
          · rcases List.mem_append.1 hy with hy | hy
            · exact hds y hy
            · simp only [List.mem_singleton] at hy; subst hy; exact hem
          · rw [List.map_append]
            refine List.nodup_append.2 ⟨hdn, by simp, fun p hp q hq => ?_⟩
            simp only [List.map_cons, List.map_nil, List.mem_singleton] at hq
            subst hq
            intro h
            subst h
            obtain ⟨y, hy, hyb⟩ := List.mem_map.1 hp
            exact hnot (born_inj hst.2 (hds y hy) hem hyb ▸ hy)
          · rw [List.map_append, List.map_append, hk, List.map_cons, List.map_nil, List.map_cons, List.map_nil, hek]
/-- .. and its entry. -/
theorem St.entryV {α β : Type} {K : KeyC α} {E : Cod β} {A : Option Nat} {m : Option (List (α × List β))} {x : Operand} {it : Nat} {done : List α} {k : α} (hd : Nat.blt d nt = true) (hx : ev Γ x = some (.pointer (some ⟨it, 0, none⟩))) (hm : As.res (MapIt K E A m it (done ++ [k])) ∈ F)
    (c : ∀ v, St w0 nt ((d, .tuple #[K.v k, v]) :: Γ) F (wpList P ops Q rest)) :
    St w0 nt Γ F (wpList P ops Q (⟨some d, .entry x, ty, pos, af, none⟩ :: rest)) :=
  fun a w hs hdf ha hf hw => wpList_plain rfl fun K' hK => by
    unfold Oper.wp
    rcases MapIt.get (hf.resq hm) with ⟨rfl, rfl, hit, h⟩ | ⟨g, l, es, cl, ds, rfl, rfl, ho, hE, hst, hit, hds, hdn, hk⟩
    · simp at h
    · have hit' : w.heap[it]? = some (.mapIter (some g) cl (ds.map (·.born)).toArray cl) := hit
      have ho' : w.heap[g]? = some (.map es cl) := ho
      have hsp : ∃ ds' e, ds = ds' ++ [e] ∧ e.key = K.v k := by
        rcases List.eq_nil_or_concat ds with rfl | ⟨ds', e, rfl⟩
        · simp at hk
        · refine ⟨ds', e, by simp, ?_⟩
          simp only [List.map_append, List.map_cons, List.map_nil, List.concat_eq_append] at hk
          exact (List.append_inj' hk rfl).2 |> fun h => by simpa using h.symm
      obtain ⟨ds', e, rfl, hek⟩ := hsp
      have hit2 : w.heap[it]? = some (.mapIter (some g) cl ((ds'.map (·.born)).toArray.push e.born) cl) := by
        rw [hit']; simp
      have hr : (execOp a.eval ⟨some d, .entry x, ty, pos, af, none⟩).run P w = .ok (.value (.tuple #[K.v k, e.val])) w := by
        have := run_entry_at (P := P) w it g cl (ds'.map (·.born)).toArray es cl e hit2 ho' (hds e (by simp)) hst.2
        simp [execOp, ha.eval hx, this, hek]
      rw [hr]
      exact hK _ _ (c _ _ w (by simp [Act.put, hs]) hdf (ha.put (hs ▸ Nat.le_of_ble_eq_true hd)) hf hw)
/-- The iterator is let go. -/
theorem Sat.itV {α β : Type} {K : KeyC α} {E : Cod β} {A : Option Nat} {m : Option (List (α × List β))} {it : Nat} {done : List α} {F : List As} {w : World} (h : Sat (.res (MapIt K E A m it done) :: F) w) : Sat (.res (MapV K E A m) :: F) w := by
  refine h.exchange (r' := MapV K E A m) ⟨Same.refl w, fun _ _ _ => rfl⟩ (by cases A <;> simp [MapV]) (fun k hk => ⟨h.lt ?_, .inl ?_⟩) trivial ?_
  · simp only [MapV] at hk
    simp [blocks, As.gs, MapIt]
    cases A with
    | none => simp at hk
    | some g => simp at hk; subst hk; simp
  · simp only [MapV] at hk
    simp only [MapIt]
    exact List.mem_cons_of_mem _ hk
  · rcases MapIt.get (h.resq (List.mem_cons_self ..)) with ⟨rfl, rfl, _⟩ | ⟨g, l, es, cl, ds, rfl, rfl, ho, hE, hst, _⟩
    · trivial
    · refine ⟨es, cl, ho, hE.mono (frz_anti w fun k hk => ?_), hst⟩
      rcases List.mem_append.1 hk with hk | hk
      · simp [MapV] at hk; subst hk; simp [blocks, As.gs, MapIt]
      · simp [blocks, hk]
end
end Go.Proofs.Ythdpagcklakahaa
namespace Go.Proofs.Ythdpagcklakahaa
open Go
set_option linter.unusedSectionVars false
set_option linter.unusedVariables false
set_option maxRecDepth 10000

/-- What only goes on. -/
def okRes : Result Next → Prop
  | .ok (.value _) _ => True
  | .ok .skip _ => True
  | .halt _ _ => True
  | _ => False
def PlainO (o : Oper) : Prop := (o.guard = none ∧ ∀ c, o.op ≠ .defer c) ∧ ∀ (P : Program) (ev : Operand → Value) (w : World), okRes ((execOp ev o).run P w)
theorem okRes_v {P : Program} {w : World} (x : Sem Value) : okRes ((do pure (Next.value (← x)) : Sem Next).run P w) := by
  rw [Sem.run_bind]
  cases x.run P w with
  | ok v w' => simp [Result.andThen, okRes]
  | halt h w' => simp [Result.andThen, okRes]
theorem okRes_u {P : Program} {w : World} (x : Sem Unit) : okRes ((do x; pure Next.skip : Sem Next).run P w) := by
  rw [Sem.run_bind]
  cases x.run P w with
  | ok v w' => simp [Result.andThen, okRes]
  | halt h w' => simp [Result.andThen, okRes]
theorem plain_move {d ty pos af x} : PlainO ⟨some d, .move x, ty, pos, af, none⟩ := ⟨⟨rfl, fun c h => by cases h⟩, fun P ev w => by simp [execOp, okRes]⟩
theorem plain_assign {d ty pos af x} : PlainO ⟨some d, .assign x, ty, pos, af, none⟩ := ⟨⟨rfl, fun c h => by cases h⟩, fun P ev w => by simp [execOp, okRes]⟩
theorem plain_load {d ty pos af t x} : PlainO ⟨some d, .load t x, ty, pos, af, none⟩ := ⟨⟨rfl, fun c h => by cases h⟩, fun P ev w => by unfold execOp; exact okRes_v _⟩
theorem plain_build {d ty pos af t n ps} : PlainO ⟨some d, .buildSlice t n ps, ty, pos, af, none⟩ := ⟨⟨rfl, fun c h => by cases h⟩, fun P ev w => by unfold execOp; exact okRes_v _⟩
theorem plain_store {ty pos af t x y} : PlainO ⟨none, .store t x y, ty, pos, af, none⟩ := ⟨⟨rfl, fun c h => by cases h⟩, fun P ev w => by unfold execOp; exact okRes_u _⟩
theorem plain_append {d ty pos af xs ts} : PlainO ⟨some d, .call { callee := .builtin .append, args := xs, argTypes := ts }, ty, pos, af, none⟩ := ⟨⟨rfl, fun c h => by cases h⟩, fun P ev w => by
  simp only [execOp, resolve, Sem.run_bind, Sem.run_pure, Result.andThen_ok, invoke, builtin]
  generalize Sem.run P (Builtin.append_ ts ty (Array.map ev xs)) w = r
  cases r <;> simp [Result.andThen, okRes]⟩

theorem wpList_in {Fn : Fence} {n : Nat} {P : Program} {ops : Array Oper} {Qx Q : Exit → Act → World → Prop} (hF : ∀ f, Fn.fn f) (hq : ∀ e a w, Qx e a w → e = .normal ∧ Q .normal a w) : ∀ (l : List Oper) (a : Act) (w : World), (∀ o ∈ l, PlainO o) → wpList P ops Qx l a w → wpListIn Fn n P ops Q l a w
  | [], a, w, _, h => (hq _ _ _ h).2
  | o :: l, a, w, ho, h => by
    obtain ⟨⟨hg, hnd⟩, hr⟩ := ho o (by simp)
    have hw : Region.wanted o (yielded ops a.tmps) = true := by simp [Region.wanted, hg]
    unfold wpList at h
    rw [if_pos hw] at h
    unfold wpListIn
    rw [if_pos hw]
    rcases h with h | ⟨_, a', w', h⟩
    · unfold Oper.wp at h
      unfold Oper.wpIn
      refine ⟨fun f _ => hF f, ?_⟩
      rw [Oper.semAt_eq _ _ _ hnd]
      have hok := hr P a.eval w
      revert h hok
      generalize (execOp a.eval o).run P w = r
      intro h hok
      cases r with
      | ok nx w' =>
        cases nx with
        | value v => exact wpList_in hF hq l _ _ (fun o' h' => ho o' (by simp [h'])) h
        | skip => exact wpList_in hF hq l _ _ (fun o' h' => ho o' (by simp [h'])) h
        | _ => exact hok.elim
      | halt hh w' =>
        cases hh with
        | panic v => have := (hq _ _ _ h).1; cases this
        | _ => exact False.elim h
    · have := (hq _ _ _ h).1
      cases this

instance (P : Program) (ops : Array Oper) (Q : Exit → Act → World → Prop) : Walk P ops (wpListIn Fence.wide 0 P ops Q) where
  val o rest a w v hw hr hx := by
    unfold wpListIn
    rw [if_pos hw]
    unfold Oper.wpIn
    refine ⟨fun _ _ => trivial, ?_⟩
    rw [Fence.wide_round, Oper.semAt_none, hr w (Ext.refl w)]
    exact hx
  pass o rest a w hw hx := by
    unfold wpListIn
    rw [if_neg (by simp [hw])]
    exact ⟨fun _ _ => trivial, hx⟩
  bare o o' rest a w hw hw' hd ho ht hx := by
    unfold wpListIn at hx ⊢
    rw [if_pos hw'] at hx
    rw [if_pos hw]
    have : execOp a.eval o = execOp a.eval o' := by unfold execOp; rw [ho, ht]
    unfold Oper.wpIn at hx ⊢
    refine ⟨fun _ _ => trivial, ?_⟩
    have hx2 := hx.2
    rw [Fence.wide_round, Oper.semAt_none] at hx2 ⊢
    rw [this]
    revert hx2
    unfold Oper.uponIn
    rw [hd]
    exact id
  call o rest a w f args v hw hr hc hx := by
    unfold wpListIn
    rw [if_pos hw]
    unfold Oper.wpIn
    refine ⟨fun _ _ => trivial, ?_⟩
    rw [Fence.wide_round, Oper.semAt_none, hr w (Ext.refl w)]
    refine ⟨fun h => by simp [Fence.wide] at h, callsIn_wide.2 ((hc w (Ext.refl w)).mono ?_)⟩
    rintro e w' ⟨rfl, hw'⟩
    exact hx w' hw'

/-- A call of yield: the round is run. -/
def YFun {ε : Type} (P : Program) (l : Nat) (N : Nat) (Y : ε → List Int → List As) : Prop := ∀ (e : ε) (pre : List Int) (x : Int) (w : World) (R : List As), pre.length < N → Sat (Y e pre ++ R) w →
  YieldAt Fence.wide 0 P l #[.int .u8 x] w fun o w' => o = .returned (.bool true) ∧ ∃ e', Sat (Y e' (pre ++ [x]) ++ R) w' ∧ Same w w'

section
variable {P : Program} [T : HasTT P] {w0 : World} {nt : Nat} {Γ Γ' : Env} {F F' G R : List As} {Q : Exit → Act → World → Prop} {ops : Array Oper} {rest : List Oper}
variable {d : Nat} {op : Op} {ty : Nat} {pos : String} {af : Array Edge} {X : List Oper → Act → World → Prop} {Post : Value → List As → Prop}

theorem St.regionI {id : Nat} {l : List Oper} (h : St w0 nt Γ F (wpListIn Fence.wide 0 P l.toArray Q l)) : St w0 nt Γ F ((Code.region id l.toArray false).wp P Q) :=
  fun a w hs hd ha hf hw => wpIn_wide.1 (wpIn_region_lit (h a w hs hd ha hf hw))
theorem St.doneI (h : St w0 nt Γ F (Q .normal)) : St w0 nt Γ F (wpListIn Fence.wide 0 P ops Q []) := fun a w hs hd ha hf hw => wpListIn_nil (h a w hs hd ha hf hw)
theorem St.yield {ε : Type} {l N : Nat} {Y : ε → List Int → List As} (h : YFun P l N Y) {e : ε} {pre : List Int} {k : Int} {x y : Operand} {ts : Array Nat} (hl : pre.length < N) (hd : Nat.blt d nt = true) (hx : ev Γ x = some (.func (.yield l) #[] #[])) (hy : ev Γ y = some (.int .u8 k))
    (hF : ∀ w, Sat F w → Sat (Y e pre ++ R) w) (c : ∀ e', St w0 nt ((d, .bool true) :: Γ) (Y e' (pre ++ [k]) ++ R) (wpListIn Fence.wide 0 P ops Q rest)) :
    St w0 nt Γ F (wpListIn Fence.wide 0 P ops Q (⟨some d, .call { callee := .value x, args := #[y], argTypes := ts }, ty, pos, af, none⟩ :: rest)) :=
  fun a w hs hdf ha hf hw => wpListIn_plain rfl fun K hK => by
    obtain ⟨fn, tmps, assign, body, hy1, hR⟩ := h e pre k w R hl (hF w hf)
    have hr : (execOp a.eval ⟨some d, .call { callee := .value x, args := #[y], argTypes := ts }, ty, pos, af, none⟩).run P w = .ok (.round l fn tmps assign body) w := by
      simp [execOp, resolve, ha.eval hx, ha.eval hy, Deferred.ofValue, invoke, hy1]
    unfold Oper.wpIn
    refine ⟨fun _ _ => trivial, ?_⟩
    rw [Fence.wide_round, Oper.semAt_none, hr]
    refine ⟨fun h => by simp [Fence.wide] at h, hR.mono ?_⟩
    rintro o w' ⟨rfl, e', hsat, hsame⟩
    exact hK _ _ (c e' _ _ (by simp [Act.put, hs]) hdf (ha.put (hs ▸ Nat.le_of_ble_eq_true hd)) hsat (hw.trans hsame))
end

/-- So many rounds. -/
def mCount : Nat → Option (Step Nat Unit) := fun k => some (if k = 0 then .done () else .next (k - 1))
theorem mCount_ok : ∀ n, loopM mCount n = some ()
  | 0 => loopM_some.2 ⟨1, rfl⟩
  | n + 1 => by
    obtain ⟨k, hk⟩ := loopM_some.1 (mCount_ok n)
    exact loopM_some.2 ⟨k + 1, by simp [iter, mCount]; exact hk⟩
end Go.Proofs.Ythdpagcklakahaa
namespace Go.Proofs.Ythdpagcklakahaa
open Go
set_option linter.unusedSectionVars false
set_option linter.unusedVariables false
set_option maxRecDepth 10000

theorem c_keys1 {ε : Type} {l N : Nat} {Y : ε → List Int → List As} (hY : YFun Try.prog l N Y) {g : Nat} {A : Option Nat} {m : Option (List (Int × List Int))} (hN : (keysOf m).length ≤ N) (e0 : ε) :
    Fun Try.prog 77 [.func (.yield l) #[] #[], .pointer (some ⟨g, 0, none⟩)] (.res (Box g 71 [.map A]) :: .res (MapV (kint .u8) (cod eu8) A m) :: Y e0 [])
      (fun v F' => ∃ e ss, (ss.map (kint .u8).v).Perm ((keysOf m).map (kint .u8).v) ∧ F' = .res (Box g 71 [.map A]) :: .res (MapV (kint .u8) (cod eu8) A m) :: Y e ss) := by
  refine Fun.intro Try.func77 rfl rfl rfl fun w R => ?_
  refine St.seq ?_
  refine St.region ?_
  refine St.loadB 0 rfl rfl (.head _) rfl rfl ?_
  refine St.rangeV rfl rfl (.s .z) rfl rfl fun it => ?_
  refine St.done ?_
  refine St.thenN ?_
  refine St.slots (Γ' := [(0, .func (.yield l) #[] #[]), (1, .pointer (some ⟨g, 0, none⟩)), (5, .pointer (some ⟨it, 0, none⟩))]) ⟨rfl, rfl, rfl, trivial⟩ ?_
  refine St.block ?_
  refine St.loop (mCount_ok (keysOf m).length) (fun (_ : Nat) (_ : List Int × ε) => [(0, .func (.yield l) #[] #[]), (1, .pointer (some ⟨g, 0, none⟩)), (5, .pointer (some ⟨it, 0, none⟩))]) (fun _ e => .res (MapIt (kint .u8) (cod eu8) A m it e.1) :: .res (Box g 71 [.map A]) :: (Y e.2 e.1 ++ R)) (fun k e => e.1.length + k = (keysOf m).length) ([], e0) (by simp) ⟨rfl, rfl, rfl, trivial⟩ (fun _ w => w) ?_
  rintro k ⟨done, e⟩ hk -
  replace hk : done.length + k = (keysOf m).length := hk
  refine St.seq ?_
  refine St.region ?_
  refine St.nextV rfl rfl .z (fun hp => ?_) (fun x v hlt => ?_)
  · refine St.p rfl rfl ?_
    refine St.done ?_
    refine St.thenN ?_
    refine St.seq ?_
    refine St.condF rfl ?_
    refine St.exit ?_
    repeat (first | refine St.thenX ?_ | refine St.blkMiss rfl ?_)
    refine St.blkHit ?_
    exact St.finN (rs := []) rfl rfl (.res (Box g 71 [.map A]) :: .res (MapV (kint .u8) (cod eu8) A m) :: Y e done) ⟨e, done, hp, rfl⟩ (fun _ w => (w.itV).front (.s .z))
  · replace hlt : done.length < (keysOf m).length := hlt
    refine St.p rfl rfl ?_
    refine St.done ?_
    refine St.thenN ?_
    refine St.seq ?_
    refine St.condT rfl ?_
    refine St.skip ?_
    refine St.thenN ?_
    refine St.slots (Γ' := [(0, .func (.yield l) #[] #[]), (1, .pointer (some ⟨g, 0, none⟩)), (5, .pointer (some ⟨it, 0, none⟩))]) ⟨rfl, rfl, rfl, trivial⟩ ?_
    refine St.block ?_
    refine St.seq ?_
    refine St.region ?_
    refine St.entryV rfl rfl (.head _) fun v2 => ?_
    iterate 2 refine St.p rfl rfl ?_
    refine St.done ?_
    refine St.thenN ?_
    refine St.seq ?_
    refine St.regionI ?_
    iterate 2 refine St.p rfl rfl ?_
    refine St.yield hY (e := e) (pre := done) (R := .res (MapIt (kint .u8) (cod eu8) A m it (done ++ [x])) :: .res (Box g 71 [.map A]) :: R) (by omega) rfl rfl rfl (fun _ w => w.perm ?_) fun e' => ?_
    · exact ((List.perm_middle (l₁ := Y e done)).trans (List.Perm.cons _ (List.perm_middle (l₁ := Y e done)))).symm
    refine St.p rfl rfl ?_
    refine St.doneI ?_
    refine St.thenN ?_
    refine St.condF rfl ?_
    refine St.skip ?_
    refine St.blkN ?_
    refine St.thenN ?_
    exact St.again (k - 1) (done ++ [x], e') (by simp only [mCount]; rw [if_neg (by omega)]) (by show (done ++ [x]).length + (k - 1) = _; rw [List.length_append, List.length_singleton]; omega) ⟨rfl, rfl, rfl, trivial⟩ (fun _ w => w.perm ((List.perm_middle (l₁ := Y e' (done ++ [x]))).trans (List.Perm.cons _ (List.perm_middle (l₁ := Y e' (done ++ [x]))))))
end Go.Proofs.Ythdpagcklakahaa
namespace Go.Proofs.Ythdpagcklakahaa
open Go
set_option linter.unusedSectionVars false
set_option linter.unusedVariables false
set_option maxRecDepth 10000

/-- A loop's record. -/
def LoopR (l : Nat) (r : Loop) : Res where
  gs := [l]
  p h := h l = some (.loop r)
  loc m m' h k := (h l (by simp)).symm.trans k
/-- The block for the deferred calls of rounds. -/
def DefR (b : Nat) : Res where
  gs := [b]
  p h := h b = some (.deferred (some []))
  loc m m' h k := (h b (by simp)).symm.trans k
theorem put_wrote {w : World} {l : Nat} {o : Obj} : Wrote [l] w (w.putObj l o) := ⟨⟨rfl, rfl, rfl, by show w.heap.size ≤ (w.heap.setIfInBounds l o).size; simp⟩, fun k _ hn => World.putObj_heap_other (by simpa using hn)⟩
theorem Sat.loopR {l : Nat} {r r' : Loop} {F : List As} {w : World} (h : Sat (.res (LoopR l r) :: F) w) : Sat (.res (LoopR l r') :: F) (w.putObj l (.loop r')) := by
  have hlt : l < w.heap.size := h.lt (by simp [blocks, As.gs, LoopR])
  refine h.exchange (r' := LoopR l r') put_wrote (by simp [LoopR]) (fun k hk => ⟨Nat.lt_of_lt_of_le (by simp [LoopR] at hk; subst hk; exact hlt) put_wrote.size, .inl hk⟩) (World.putObj_heap_same hlt) trivial

/-- Deferred calls are looked at at the end only. -/
theorem wpList_df {P : Program} {ops : Array Oper} {D : List Deferred} {Qx Q : Exit → Act → World → Prop} (hq : ∀ e a w, Qx e a w → e = .normal ∧ Q .normal { a with defers := D } w) : ∀ (l : List Oper) (a : Act) (w : World), (∀ o ∈ l, PlainO o) → wpList P ops Qx l a w → wpList P ops Q l { a with defers := D } w
  | [], a, w, _, h => (hq _ _ _ h).2
  | o :: l, a, w, ho, h => by
    obtain ⟨⟨hg, hnd⟩, hr⟩ := ho o (by simp)
    have hw : Region.wanted o (yielded ops a.tmps) = true := by simp [Region.wanted, hg]
    unfold wpList at h
    rw [if_pos hw] at h
    refine wpList_plain hg fun K hK => ?_
    have hput : ∀ v, ({ a with defers := D } : Act).put o.dst v = { (a.put o.dst v) with defers := D } := fun v => by
      unfold Act.put
      cases o.dst <;> rfl
    rcases h with h | ⟨_, a', w', h⟩
    · unfold Oper.wp at h ⊢
      have hok := hr P a.eval w
      have hev : ({ a with defers := D } : Act).eval = a.eval := by
        funext x; cases x <;> rfl
      rw [hev]
      revert h hok
      generalize (execOp a.eval o).run P w = r
      intro h hok
      cases r with
      | ok nx w' =>
        cases nx with
        | value v => exact hK _ _ (by rw [hput]; exact wpList_df hq l _ _ (fun o' h' => ho o' (by simp [h'])) h)
        | skip => exact hK _ _ (by rw [hput]; exact wpList_df hq l _ _ (fun o' h' => ho o' (by simp [h'])) h)
        | _ => exact hok.elim
      | halt hh w' =>
        cases hh with
        | panic v => have := (hq _ _ _ h).1; cases this
        | _ => exact False.elim h
    · have := (hq _ _ _ h).1
      cases this

section
variable {P : Program} [T : HasTT P] {w0 : World} {nt : Nat} {Γ Γ' : Env} {F F' G R : List As} {Q : Exit → Act → World → Prop} {ops : Array Oper} {rest : List Oper}

/-- How a list of operations ends. -/
def Ends (w0 : World) (nt : Nat) (Γ : Env) (F : List As) : Exit → Act → World → Prop := fun e a w => e = .normal ∧ a.tmps.size = nt ∧ a.defers = [] ∧ At a Γ ∧ Sat F w ∧ Same w0 w
theorem St.ends : St w0 nt Γ F (Ends w0 nt Γ F .normal) := fun a w hs hd ha hf hw => ⟨rfl, hs, hd, ha, hf, hw⟩
/-- A round: yield's argument comes into the loop's variable; the body goes. -/
theorem round_ok {ε : Type} {l N p q i1 i2 i3 fn b : Nat} {la lb : List Oper} {tmps : Array Value} {Y0 : ε → List Int → List As}
    (hs : tmps.size = nt) (hΓ : At { tmps := tmps, defers := [] } Γ) (hp : Nat.blt p nt = true)
    (pa : ∀ o ∈ la, PlainO o) (pb : ∀ o ∈ lb, PlainO o)
    (hA : ∀ (x : Int) (F : List As) (w1 : World), St w1 nt ((p, .int .u8 x) :: Γ) F (wpList P la.toArray (Ends w1 nt ((q, .int .u8 x) :: Γ) F) la))
    (hB : ∀ (e : ε) (pre : List Int) (x : Int) (R : List As) (w1 : World), pre.length < N → St w1 nt ((q, .int .u8 x) :: Γ) (Y0 e pre ++ R) (wpList P lb.toArray (fun o a w => o = .normal ∧ ∃ e', Sat (Y0 e' (pre ++ [x]) ++ R) w ∧ Same w1 w) lb)) :
    YFun P l N (fun e pre => .res (LoopR l { state := .ready, pending := none, fn := fn, tmps := tmps, params := #[p], assign := Code.region i1 la.toArray false, body := Code.block i2 (Code.region i3 lb.toArray false), defers := b }) :: Y0 e pre) := by
  intro e pre x w R hl hsat
  generalize hrec : ({ state := .ready, pending := none, fn := fn, tmps := tmps, params := #[p], assign := Code.region i1 la.toArray false, body := Code.block i2 (Code.region i3 lb.toArray false), defers := b } : Loop) = r at hsat ⊢
  have hL : w.heap[l]? = some (.loop r) := hsat.res (List.mem_cons_self ..)
  have hy := run_yield (P := P) (args := #[.int .u8 x]) hL (by rw [← hrec]; rfl)
  refine ⟨_, _, _, _, hy, roundIn_of_wpIn trivial ?_⟩
  have htm : (r.params.zip #[.int .u8 x]).foldl (fun tmps (t, a) => tmps.setIfInBounds t a) r.tmps = tmps.setIfInBounds p (.int .u8 x) := by
    rw [← hrec]; simp
  rw [htm]
  have hra : r.assign = Code.region i1 la.toArray false := by rw [← hrec]
  have hrb : r.body = Code.block i2 (Code.region i3 lb.toArray false) := by rw [← hrec]
  have hrs : r.state = .ready := by rw [← hrec]
  have hrp : r.pending = none := by rw [← hrec]
  rw [hra]
  have hple : p < nt := Nat.le_of_ble_eq_true hp
  have ha0 : At { tmps := tmps.setIfInBounds p (.int .u8 x), defers := [] } ((p, .int .u8 x) :: Γ) := At.put (a := { tmps := tmps, defers := [] }) hΓ (by show p < tmps.size; omega)
  refine wpIn_region_lit (wpList_in (fun _ => trivial) ?_ _ _ _ pa (hA x _ w _ w (by simp [hs]) rfl ha0 hsat (Same.refl w)))
  rintro o a1 w1 ⟨rfl, h1, h2, h3, h4, h5⟩
  refine ⟨rfl, ?_⟩
  have hL1 : w1.heap[l]? = some (.loop r) := h4.res (List.mem_cons_self ..)
  refine ⟨_, run_beginRound hL1 hrs, ?_⟩
  have h6 := h4.loopR (r' := { r with state := .busy })
  have hsm : Same w1 (w1.putObj l (.loop { r with state := .busy })) := (put_wrote (w := w1) (l := l)).toSame
  revert h6 hsm
  generalize w1.putObj l (.loop { r with state := .busy }) = wB
  intro h6 hsm
  rw [hrb]
  refine wpIn_block (wpIn_region_lit (wpList_in (fun _ => trivial) ?_ _ _ _ pb (hB e pre x (.res (LoopR l { r with state := .busy }) :: R) _ hl a1 _ h1 h2 h3 (h6.perm (List.perm_middle (l₁ := Y0 e pre)).symm) (Same.refl _))))
  rintro o a2 w2 ⟨rfl, e', h7, h8⟩
  refine ⟨rfl, ?_⟩
  have h9 := h7.perm (List.perm_middle (l₁ := Y0 e' (pre ++ [x])))
  have hL2 : w2.heap[l]? = some (.loop { r with state := .busy }) := h9.res (List.mem_cons_self ..)
  refine ⟨_, _, run_endRound none hL2, rfl, e', ?_, ?_⟩
  · have h10 := h9.loopR (r' := r)
    have er : ({ ({ r with state := .busy } : Loop) with state := if (none : Option Code).isNone then .ready else .done, pending := none } : Loop) = r := by
      rw [← hrec]; rfl
    rw [er]
    exact h10
  · exact h5.trans (hsm.trans (h8.trans (put_wrote (w := w2) (l := l)).toSame))
end

theorem Fun.introM {P : Program} {f : FuncId} {fn : Func} {c : Code} {args : List Value} {F : List As} {Post : Value → List As → Prop} {nt : Nat} (hf : P.funcs[f]? = some fn) (hb : fn.body = some c) (hn : fn.ntmps = nt) (hl : Nat.ble args.length nt = true)
    (h : ∀ w R, St w nt (envFrom 0 args) (F ++ R) (c.wp P (bodyPostM Fence.wide 0 P fn (Out w R Post)))) : Fun P f args F Post := by
  intro w R hs
  have hl' := Nat.le_of_ble_eq_true hl
  refine (callsIn_wide (n := 0)).1 (callsIn_of_wp_marks hf hb trivial (wpIn_wide.2 (h w R _ w ?_ rfl ?_ hs (Same.refl w))) rfl)
  · simp [hn]; omega
  · refine At.envFrom _ _ args 0 fun i v hv => ?_
    rw [Nat.zero_add]
    have hi := (List.getElem?_eq_some_iff.1 hv).1
    rw [Array.getElem?_append_left (by simpa using hi)]
    simpa using hv
theorem run_callFunc {P : Program} {f : FuncId} (he : Ent P f) (args : Array Value) (w : World) : (callFunc f args).run P w = .ok (.enter f args) w := by
  obtain ⟨fn, h1, h2, h3⟩ := he
  unfold callFunc
  rw [Sem.run_bind, run_program]
  simp only [Result.andThen_ok, h1, h2, h3, Bool.false_eq_true, if_false, Sem.run_pure]
/-- A block is turned and let go. -/
theorem Sat.letgo {r : Res} {F : List As} {w w' : World} (h : Sat (.res r :: F) w) (hw : Wrote r.gs w w') : Sat F w' :=
  (h.exchange (r' := ⟨r.gs, fun _ => True, fun _ _ _ _ => trivial, fun _ _ => True, fun _ _ _ _ _ _ _ => trivial⟩) hw (List.nodup_append.1 h.nodup).1 (fun k hk => ⟨Nat.lt_of_lt_of_le (h.lt (by simp only [blocks, As.gs]; exact List.mem_append_left _ hk)) hw.size, .inl hk⟩) trivial trivial).tail
/-- THE STATEMENT. -/
theorem St.rangeFn {P : Program} [T : HasTT P] {w0 : World} {nt : Nat} {Γ : Env} {F G R : List As} {Q : Exit → Act → World → Prop} {ε : Type} {N p q i1 i2 i3 f : Nat} {la lb : List Oper} {x : Operand} {caps : List Value} {Y0 : ε → List Int → List As} {S : List Int → Prop} (e0 : ε)
    (hx : ev Γ x = some (.func (.func f) #[] caps.toArray)) (he : Ent P f) (hp : Nat.blt p nt = true) (hF : ∀ w, Sat F w → Sat (G ++ (Y0 e0 [] ++ R)) w)
    (hcall : ∀ (l : Nat) (Y : ε → List Int → List As), YFun P l N Y → Fun P f (.func (.yield l) #[] #[] :: caps) (G ++ Y e0 []) (fun v F' => ∃ e ss, S ss ∧ F' = G ++ Y e ss))
    (pa : ∀ o ∈ la, PlainO o) (pb : ∀ o ∈ lb, PlainO o)
    (hA : ∀ (x : Int) (F : List As) (w1 : World), St w1 nt ((p, .int .u8 x) :: Γ) F (wpList P la.toArray (Ends w1 nt ((q, .int .u8 x) :: Γ) F) la))
    (hB : ∀ (e : ε) (pre : List Int) (x : Int) (R : List As) (w1 : World), pre.length < N → St w1 nt ((q, .int .u8 x) :: Γ) (Y0 e pre ++ R) (wpList P lb.toArray (fun o a w => o = .normal ∧ ∃ e', Sat (Y0 e' (pre ++ [x]) ++ R) w ∧ Same w1 w) lb))
    (k : ∀ (b : Nat) (e : ε) (ss : List Int), S ss → ∀ a w, a.tmps.size = nt → a.defers = [] → At a Γ → Sat (.res (DefR b) :: (G ++ (Y0 e ss ++ R))) w → Same w0 w → Q .normal { a with defers := [{ target := .collected b, args := #[] }] } w) :
    St w0 nt Γ F ((Code.rangeFunc x #[p] (Code.region i1 la.toArray false) (Code.block i2 (Code.region i3 lb.toArray false))).wp P Q) := by
  intro a w1 hs hdf ha hf hw
  refine (wpIn_wide (n := 0)).1 (wpIn_rangeFunc fun fn _ => ?_)
  have hf2 := (hF w1 hf).add_res (Ext.alloc w1 (.deferred (some []))) (DefR w1.heap.size) (by simp [DefR]) (fun k hk => by simp [DefR] at hk; subst hk; simp) (hp_alloc w1 _) trivial
  have hs2 : (w1.alloc (.deferred (some []))).heap.size = w1.heap.size + 1 := by simp
  have hround := round_ok (P := P) (l := w1.heap.size + 1) (N := N) (p := p) (q := q) (i1 := i1) (i2 := i2) (i3 := i3) (fn := fn) (b := w1.heap.size) (tmps := a.tmps) (Y0 := Y0) hs (fun i v hv => ha i v hv) hp pa pb hA hB
  generalize hrec : ({ state := .ready, pending := none, fn := fn, tmps := a.tmps, params := #[p], assign := Code.region i1 la.toArray false, body := Code.block i2 (Code.region i3 lb.toArray false), defers := w1.heap.size } : Loop) = rec at hround
  have hf3 := hf2.add_res (Ext.alloc _ (.loop rec)) (LoopR (w1.heap.size + 1) rec) (by simp [LoopR]) (fun k hk => by simp [LoopR] at hk; subst hk; simp) (by have := hp_alloc (w1.alloc (.deferred (some []))) (.loop rec); rwa [hs2] at this) trivial
  have hsm : Same w1 ((w1.alloc (.deferred (some []))).alloc (.loop rec)) := (Ext.alloc w1 _).toSame.trans (Ext.alloc _ _).toSame
  have henter := run_enterLoop_outer (P := P) (w := w1) fn a.tmps #[p] (Code.region i1 la.toArray false) (Code.block i2 (Code.region i3 lb.toArray false))
  rw [hrec] at henter
  revert hf3 hsm henter
  generalize (w1.alloc (.deferred (some []))).alloc (.loop rec) = w3
  intro hf3 hsm henter
  refine ⟨w1.heap.size + 1, _, w3, { target := .fn (.func f) caps.toArray, args := #[.func (.yield (w1.heap.size + 1)) #[] #[]] }, w3, f, (Value.func (.yield (w1.heap.size + 1)) #[] #[] :: caps).toArray, w3, henter, ?_, fun _ _ => trivial, ?_, fun h => by simp [Fence.wide] at h, callsIn_wide.2 ?_⟩
  · have hev : Act.eval { tmps := a.tmps, defers := a.defers } x = .func (.func f) #[] caps.toArray := ha.eval hx
    simp [resolve, ha.eval hx, Deferred.ofValue]
    try rfl
  · simp only [invoke]
    have := run_callFunc he (#[Value.func (.yield (w1.heap.size + 1)) #[] #[]] ++ caps.toArray) w3
    rw [this]
    congr 2
    simp
  · have hmid : ∀ (Y R : List As) (X : As), (G ++ (Y ++ X :: R)).Perm (X :: (G ++ (Y ++ R))) := fun Y R X => by
      rw [← List.append_assoc, ← List.append_assoc]
      exact List.perm_middle
    have hc := hcall _ _ hround w3 (.res (DefR w1.heap.size) :: R) (hf3.perm ?_)
    · refine hc.mono ?_
      rintro o w4 ⟨v, F', rfl, ⟨e, ss, hS, rfl⟩, hsat, hsame⟩
      have hsat2 := hsat.perm (G := .res (LoopR (w1.heap.size + 1) rec) :: .res (DefR w1.heap.size) :: (G ++ (Y0 e ss ++ R))) (by
        rw [List.append_assoc]
        exact (List.perm_middle (l₁ := G)).trans (List.Perm.cons _ (hmid _ _ _)))
      have hL : w4.heap[w1.heap.size + 1]? = some (.loop rec) := hsat2.res (List.mem_cons_self ..)
      have hend := run_endLoop (P := P) hL (by rw [← hrec]; simp)
      have hpn : rec.pending = none := by rw [← hrec]
      have hwr : Wrote (LoopR (w1.heap.size + 1) rec).gs w4 (w4.putObj (w1.heap.size + 1) (.loop { rec with state := .exhausted })) := put_wrote
      revert hend hwr
      generalize w4.putObj (w1.heap.size + 1) (.loop { rec with state := .exhausted }) = w5
      intro hend hwr
      rw [hpn] at hend
      refine ⟨none, w5, hend, ?_⟩
      have h5 := hsat2.letgo hwr
      have := k w1.heap.size e ss hS a w5 hs hdf ha h5 (hw.trans (hsm.trans (hsame.trans hwr.toSame)))
      rw [hdf]
      exact this
    · rw [List.append_assoc]
      exact (List.Perm.cons _ (hmid _ _ _).symm).trans (List.perm_middle (l₁ := G)).symm
end Go.Proofs.Ythdpagcklakahaa
namespace Go.Proofs.Ythdpagcklakahaa
open Go
set_option linter.unusedSectionVars false
set_option linter.unusedVariables false
set_option maxRecDepth 10000

def colY (bs : Nat) (e : Option Addr × Nat) (pre : List Int) : List As := [.res (Box bs 37 [.slice e.1 pre.length e.2]), .res (OwnL eu8 5 e.1 e.2 pre)]
theorem entKeys1 : Ent Try.prog 77 := ⟨_, Try.func77, by kernel_rfl, by kernel_rfl⟩
theorem c_appendSeq {g : Nat} {A : Option Nat} {m : Option (List (Int × List Int))} (hm : (keysOf m).length ≤ 1000) :
    Fun Try.prog 82 [.slice none 0 0, .func (.func 77) #[] #[.pointer (some ⟨g, 0, none⟩)]] [.res (Box g 71 [.map A]), .res (MapV (kint .u8) (cod eu8) A m)]
      (fun v F' => ∃ B c ss, (ss.map (kint .u8).v).Perm ((keysOf m).map (kint .u8).v) ∧ v = .slice B ss.length c ∧ F' = [.res (Box g 71 [.map A]), .res (MapV (kint .u8) (cod eu8) A m), .res (OwnL eu8 5 B c ss)]) := by
  refine Fun.introM Try.func82 rfl rfl rfl fun w R => ?_
  refine St.seq ?_
  refine St.region ?_
  refine St.box rfl rfl fun bs => ?_
  refine St.p rfl rfl ?_
  refine St.done ?_
  refine St.thenN ?_
  refine St.seq ?_
  refine St.seq ?_
  refine St.region ?_
  refine St.p rfl rfl ?_
  refine St.done ?_
  refine St.thenN ?_
  refine St.slots (Γ' := [(2, .pointer (some ⟨bs, 0, none⟩)), (6, .func (.func 77) #[] #[.pointer (some ⟨g, 0, none⟩)])]) ⟨rfl, rfl, trivial⟩ ?_
  refine St.block ?_
  refine St.rangeFn (N := 1000) (q := 5) (caps := [.pointer (some ⟨g, 0, none⟩)]) (Y0 := colY bs) (S := fun ss => (ss.map (kint .u8).v).Perm ((keysOf m).map (kint .u8).v)) (G := [.res (Box g 71 [.map A]), .res (MapV (kint .u8) (cod eu8) A m)]) (R := R) (none, 0) rfl entKeys1 rfl (fun w h => (((h.nilL eu8 5).front (.s .z)).front (.s (.s (.s .z)))).front (.s (.s (.s .z)))) (fun l Y hY => c_keys1 hY hm _) ?_ ?_ (fun x F w1 => ?_) (fun e pre x R w1 hl => ?_) ?_
  · intro o ho
    simp only [List.mem_cons, List.not_mem_nil, or_false] at ho
    subst ho
    exact plain_assign
  · intro o ho
    simp only [List.mem_cons, List.not_mem_nil, or_false] at ho
    rcases ho with rfl | rfl | rfl | rfl | rfl
    · exact plain_load
    · exact plain_move
    · exact plain_build
    · exact plain_append
    · exact plain_store
  · refine St.p rfl rfl ?_
    refine St.done ?_
    refine St.slots (Γ' := [(5, .int .u8 x), (2, .pointer (some ⟨bs, 0, none⟩)), (6, .func (.func 77) #[] #[.pointer (some ⟨g, 0, none⟩)])]) ⟨rfl, rfl, rfl, trivial⟩ ?_
    exact St.ends
  · have happ : app 1 pre [x] = some (pre ++ [x]) := by
      unfold app
      rw [if_pos (by simp; omega)]
    refine St.loadB 0 rfl rfl (.head _) rfl rfl ?_
    refine St.p rfl rfl ?_
    refine St.buildSlice rfl rfl rfl rfl rfl rfl rfl rfl fun g1 => ?_
    refine St.app (E := eu8) happ rfl rfl rfl (.s (.s .z)) rfl rfl rfl rfl rfl rfl rfl rfl (srcB (.head _) rfl rfl) rfl rfl fun A4 c4 => ?_
    refine St.store 0 rfl rfl rfl rfl rfl rfl (.s (.s .z)) rfl ?_
    refine St.done ?_
    intro a w hs hdf ha hf hw
    exact ⟨rfl, (A4, c4), ((.k (.k (.d .z))) : Keep _ _).sat hf, hw⟩
  · intro b e ss hS a w1 hs hdf ha hf hw
    have hst : ∀ {X : Act → World → Prop}, St w _ [(2, .pointer (some ⟨bs, 0, none⟩)), (6, .func (.func 77) #[] #[.pointer (some ⟨g, 0, none⟩)])] (.res (DefR b) :: ([.res (Box g 71 [.map A]), .res (MapV (kint .u8) (cod eu8) A m)] ++ (colY bs e ss ++ R))) X → X a w1 := fun h => h a w1 hs hdf ha hf hw
    refine wp_seq ?_
    refine wp_region_lit (wpList_df (Qx := Ends w Try.f82.ntmps [(4, .slice e.1 ss.length e.2)] (.res (DefR b) :: ([.res (Box g 71 [.map A]), .res (MapV (kint .u8) (cod eu8) A m)] ++ (colY bs e ss ++ R)))) ?_ _ a w1 ?_ (hst ?_))
    · rintro o a2 w2 ⟨rfl, h1, h2, h3, h4, h5⟩
      refine ⟨rfl, ?_⟩
      refine wp_ret ?_
      have hD : w2.heap[b]? = some (.deferred (some [])) := h4.res (List.mem_cons_self ..)
      have hwr : Wrote (DefR b).gs w2 (w2.putObj b (.deferred none)) := put_wrote
      have h6 := h4.letgo hwr
      refine ⟨by simp, .inl ⟨b, _, rfl, run_takeDeferred hD, .slice e.1 ss.length e.2, results_run h3 (rs := [.tmp 4]) rfl rfl, ?_⟩⟩
      refine ⟨_, _, rfl, ⟨e.1, e.2, ss, hS, rfl, rfl⟩, ?_, h5.trans hwr.toSame⟩
      exact ((.k (.k (.d (.k .z)))) : Keep _ _).sat h6
    · intro o ho
      simp only [List.mem_cons, List.not_mem_nil, or_false] at ho
      rcases ho with rfl | rfl
      · exact plain_load
      · exact plain_assign
    · refine St.loadB 0 rfl rfl (.tail _ (.tail _ (.tail _ (.head _)))) rfl rfl ?_
      refine St.p rfl rfl ?_
      refine St.done ?_
      refine St.slots (Γ' := [(4, .slice e.1 ss.length e.2)]) ⟨rfl, trivial⟩ ?_
      exact St.ends
end Go.Proofs.Ythdpagcklakahaa
