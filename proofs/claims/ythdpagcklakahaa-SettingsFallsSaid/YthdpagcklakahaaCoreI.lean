/-
  The core: append of a make onto a slice of one's own.
  Conditions: none.
-/
import Derived.Test.YthdpagcklakahaaCoreG
namespace Go.Proofs.Ythdpagcklakahaa
open Go
set_option linter.unusedSectionVars false
set_option linter.unusedVariables false

theorem zeroCells_list {z : Value} {sz : Nat} (hz : z.cells.size = sz) (hp : 0 < sz) (k : Nat) : Builtin.zeroCells z.cells k = ((List.replicate k (zc z)).flatten).toArray := by
  unfold Builtin.zeroCells
  have := zeros_eq z.cells k (by omega)
  rw [this, ← zc_eq, repl_eq]

theorem run_append_z {P : Program} [T : HasTT P] {t tn ty e sz by_ : Nat} {kn kq : IntKind} {z : Value} {info : TypeInfo} (ht : P.underlying t = some (.slice e)) (htn : P.underlying tn = some (.int kn)) (hi : P.info? e = some info) (hsz : info.size = sz) (hby : info.bytes = by_) (hz : info.zero = some z) (hzs : z.cells.size = sz) (hpz : 0 < sz) (h1 : ∀ u ∈ zc z, u.oneCell' = true)
    {A : Option Addr} {n c k : Nat} {rows : List (List Value)} {w : World} (h : OwnP sz e A n c rows (hp w)) (hlen : n + k ≤ maxLen) (hbytes : (n + k) * by_ ≤ 140737488355328) :
    ∃ A' c' w', (Builtin.append_ #[t, tn] ty #[.slice A n c, .int kq (k : Int)]).run P w = .ok (.slice A' (n + k) c') w' ∧ Wrote (blkOf A c) w w' ∧ OwnP sz e A' (n + k) c' (rows ++ List.replicate k (zc z)) (hp w') ∧
      (∀ q, q ∈ blkOf A' c' → q < w'.heap.size ∧ (q ∈ blkOf A c ∨ w.heap.size ≤ q)) := by
  have hzl : (zc z).length = sz := by rw [← hzs, ← zc_eq]; simp
  have hnews : (List.replicate k (zc z)).flatten.length = k * sz := by
    rw [List.length_flatten]
    simp [hzl]
  have hrowz : ∀ r ∈ List.replicate k (zc z), r.length = sz ∧ ∀ u ∈ r, u.oneCell' = true := fun r hr => by
    rw [List.eq_of_mem_replicate hr]
    exact ⟨hzl, h1⟩
  have hone : ∀ u ∈ (List.replicate k (zc z)).flatten, u.oneCell' = true := fun u hu => by
    obtain ⟨r, hr, hur⟩ := List.mem_flatten.1 hu
    exact (hrowz r hr).2 u hur
  have hrows : ∀ r ∈ rows ++ List.replicate k (zc z), r.length = sz ∧ ∀ u ∈ r, u.oneCell' = true := fun r hr => by
    rcases List.mem_append.1 hr with hr | hr
    · exact h.2.1 r hr
    · exact hrowz r hr
  have hrl : (rows ++ List.replicate k (zc z)).length = n + k := by simp [h.1]
  have hfl : (rows ++ List.replicate k (zc z)).flatten = rows.flatten ++ (List.replicate k (zc z)).flatten := by simp
  have hsmall : n + k ≤ 9223372036854775807 := by simp only [maxLen] at hlen; omega
  have ht1 : (underlying t).run P w = .ok (.slice e) w := run_underlying ht w
  have ht2 : (underlying tn).run P w = .ok (.int kn) w := run_underlying htn w
  have hs1 : ∀ w', (sizeOf e).run P w' = .ok sz w' := fun w' => by simp [sizeOf, typeInfo, hi, hsz]
  have hti : ∀ w', (typeInfo e).run P w' = .ok info w' := fun w' => by simp [typeInfo, hi]
  have hzv : ∀ w', (zeroValue e).run P w' = .ok z w' := fun w' => by simp [zeroValue, typeInfo, hi, hz]
  have hw : IntKind.i64.wrap (k : Int) = k := by rw [IntKind.wrap_i64]; omega
  have hneg : ¬ ((k : Int) < 0) := by omega
  have hkb : k * by_ ≤ 140737488355328 := by
    have : k * by_ ≤ (n + k) * by_ := Nat.mul_le_mul_right _ (by omega)
    omega
  have h48 : ¬ (281474976710656 < (k : Int) * (by_ : Int)) := by
    rw [← Int.natCast_mul]
    omega
  have happ : ∀ w', (if k * sz = 0 then (pure #[] : Sem (Array Value)) else do pure (Builtin.zeroCells (← zeroValue e).cells k)).run P w' = .ok (List.replicate k (zc z)).flatten.toArray w' := fun w' => by
    by_cases h0 : k * sz = 0
    · rw [if_pos h0]
      have : (List.replicate k (zc z)).flatten = [] := List.eq_nil_of_length_eq_zero (by omega)
      rw [this]
      rfl
    · rw [if_neg h0]
      simp only [Sem.run_bind, hzv, Result.andThen_ok, Sem.run_pure]
      rw [zeroCells_list hzs hpz]
  by_cases hroom : n + k ≤ c
  · -- room
    rcases h.2.2 with ⟨h0, hc0⟩ | ⟨g, cur, fr, hpos, hA, hg, hcs, hn, hc, htk, hfz⟩
    · have hm0 : k = 0 := by omega
      subst h0; subst hm0; subst hc0
      refine ⟨A, 0, w, ?_, Wrote.of_ext (Ext.refl w), ?_, fun k hk => absurd (mem_blkOf.1 hk).1 (by omega)⟩
      · have hw0 : IntKind.i64.wrap 0 = 0 := by rw [IntKind.wrap_i64]; omega
        cases A with
        | none => simp [Builtin.append_, ht1, ht2, hs1, hti, asInt, asIntOf, hw0]
        | some ad => simp [Builtin.append_, ht1, ht2, hs1, hti, asInt, asIntOf, hw0, storeCells]
      · simpa using h
    · subst hA
      have hg' : w.heap[g]? = some (.cells cur e fr) := hg
      have hnm : (n + k) * sz ≤ c * sz := Nat.mul_le_mul_right _ hroom
      have hbox : (Box g e cur.toList).p (hp w) := ⟨_, hg, fr, by simp, fun i hi => hfz i (by simpa using hi)⟩
      have hle : n * sz + 0 + (List.replicate k (zc z)).flatten.length ≤ cur.toList.length := by
        rw [hnews]; simp only [Array.length_toList, hcs]; rw [Nat.add_mul] at hnm; omega
      obtain ⟨w', hr, hw', hb⟩ := setCells_blk (P := P) (List.replicate k (zc z)).flatten cur.toList (n * sz) 0 w hbox hle hone
      have hbk : blkOf (some ⟨g, 0, none⟩) c = [g] := blkOf_some hpos
      refine ⟨some ⟨g, 0, none⟩, c, w', ?_, hbk ▸ hw', ⟨hrl, hrows, .inr ?_⟩, ?_⟩
      · by_cases h0 : k = 0
        · subst h0
          have hw0 : IntKind.i64.wrap 0 = 0 := by rw [IntKind.wrap_i64]; omega
          simp [storeCells] at hr
          subst hr
          have hroom' : n ≤ c := hn
          simp [Builtin.append_, ht1, ht2, hs1, hti, asInt, asIntOf, hw0, storeCells, hroom']
        · have hns : ¬ (k * sz = 0) := Nat.mul_ne_zero h0 (by omega)
          simp [Builtin.append_, ht1, ht2, hs1, hti, hzv, asInt, asIntOf, hw, hneg, hby, h48, hroom, hns, zeroCells_list hzs hpz, add_zero_off, hr]
      · obtain ⟨o, ho, fr', rfl, hfz'⟩ := hb
        refine ⟨g, _, fr', hpos, rfl, ho, ?_, hroom, hc, ?_, fun i hi => hfz' i (by simpa using hi)⟩
        · simp only [List.size_toArray, List.length_append, List.length_take, List.length_drop, Array.length_toList, hcs, hnews]
          rw [Nat.add_mul] at hnm
          omega
        · simp only [Nat.add_zero, htk, hfl]
          have hl2 : (rows.flatten ++ (List.replicate k (zc z)).flatten).length = (n + k) * sz := by rw [List.length_append, h.flat, hnews, Nat.add_mul]
          rw [← hl2]
          exact List.take_left
      · intro q hq
        refine ⟨?_, .inl hq⟩
        rw [hbk] at hq
        simp at hq
        subst hq
        exact Nat.lt_of_lt_of_le (Array.getElem?_eq_some_iff.1 hg').1 hw'.size
  · -- it grows
    have hfit := growslice_fits (need := n + k) (old := c) (by omega) hbytes
    have hold : (Builtin.firstCells info.size n (.slice A n c)).run P w.drew = .ok rows.flatten.toArray w.drew := by
      rw [hsz]
      rcases h.2.2 with ⟨h0, _⟩ | ⟨g, cur, fr, _, hA, hg, _⟩
      · have := h.flat
        rw [h0, Nat.zero_mul] at this
        rw [List.eq_nil_of_length_eq_zero this, h0]
        cases A with
        | none => rfl
        | some ad => simp [Builtin.firstCells]; rfl
      · subst hA
        refine run_firstCells_of h.flat fun j u hu => ?_
        obtain ⟨g', hA', hc⟩ := h.cell hu
        injection hA' with hA'
        injection hA' with hA'
        subst hA'
        rw [add_zero_off]
        rw [← hc]
        rfl
    have hk0 : 0 < k := by
      rcases Nat.eq_zero_or_pos k with h0 | h0
      · subst h0
        exfalso
        rcases h.2.2 with ⟨_, _⟩ | ⟨_, _, _, _, _, _, _, hn, _⟩ <;> omega
      · exact h0
    have hrun := Lib.run_append_grow_zeros (P := P) w t tn ty e info z kq kn ht htn hi hz A n c rows.flatten hold k hk0 (by omega) (by omega) (by omega) (by rw [hby]; omega) (by rw [hby]; omega)
    have hge : n + k ≤ grownCap w (n + k) c e := grownCap_ge w (n + k) c e
    have hcm : grownCap w (n + k) c e ≤ maxLen := grownCap_le_maxLen w (n + k) c e hlen
    refine ⟨_, _, _, hrun, Wrote.of_ext ((Ext.drew w).trans (Ext.alloc _ _)), ⟨hrl, hrows, .inr ⟨w.heap.size, _, (0, 0), by omega, rfl, hp_alloc w.drew _, ?_, hge, hcm, ?_, fun i _ hh => by omega⟩⟩, ?_⟩
    · simp only [Array.size_append, List.size_toArray, size_zeroCells, hzs, h.flat, ← Nat.add_mul]
      congr 1
      omega
    · simp only [Array.toList_append, hfl, zeroCells_list hzs hpz k]
      have hl2 : (rows.flatten ++ (List.replicate k (zc z)).flatten).length = (n + k) * sz := by rw [List.length_append, h.flat, hnews, Nat.add_mul]
      rw [← hl2]
      exact List.take_left
    · intro q hq
      obtain ⟨_, a, ha, hq⟩ := mem_blkOf.1 hq
      injection ha with ha
      subst ha
      subst hq
      exact ⟨by simp, .inr (Nat.le_refl _)⟩

/-- append of a make: the model. -/
def appZ {α : Type} (b : Nat) (xs : List α) (v : Int) (z : α) : Option (List α) :=
  if 0 ≤ v ∧ (xs.length + v.toNat) * b ≤ 140737488355328 ∧ xs.length + v.toNat ≤ maxLen then some (xs ++ List.replicate v.toNat z) else none
theorem appZ_some {α : Type} {b : Nat} {xs zs : List α} {v : Int} {z : α} (h : appZ b xs v z = some zs) : ∃ k : Nat, v = (k : Int) ∧ (xs.length + k) * b ≤ 140737488355328 ∧ xs.length + k ≤ maxLen ∧ zs = xs ++ List.replicate k z := by
  unfold appZ at h
  split at h
  · rename_i hc
    injection h with h
    exact ⟨v.toNat, by omega, hc.2.1, hc.2.2, h.symm⟩
  · cases h

section
variable {P : Program} [T : HasTT P] {w0 : World} {nt : Nat} {Γ Γ' : Env} {F F' G R : List As} {Q : Exit → Act → World → Prop} {ops : Array Oper} {rest : List Oper}
variable {d : Nat} {op : Op} {ty : Nat} {pos : String} {af : Array Edge}

theorem St.appZ {α : Type} {E : Enc α} {t t2 e c n : Nat} {i i2 j : TI} {s x : Operand} {A : Option Addr} {kq kn : IntKind} {v : Int} {b : Nat} {xs zs : List α} {z : α} (hz : Go.Proofs.Ythdpagcklakahaa.appZ b xs v z = some zs) (hd : Nat.blt d nt = true) (hs : ev Γ s = some (.slice A n c)) (hx : ev Γ x = some (.int kq v))
    (hD : Del F (.res (OwnL E e A c xs)) G) (hlen : n = xs.length) (hi : tget T.tt t = some i) (hdesc : i.desc = .slice e) (hj : tget T.tt e = some j) (hsz : j.size = E.sz) (hby : j.bytes = b) (hpos : Nat.blt 0 E.sz = true) (hzz : E.enc z = zc j.zero)
    (hi2 : tget T.tt t2 = some i2) (hd2 : i2.desc = .int kn)
    (k : ∀ A' c', St w0 nt ((d, .slice A' zs.length c') :: Γ) (.res (OwnL E e A' c' zs) :: G) (wpList P ops Q rest)) :
    St w0 nt Γ F (wpList P ops Q (⟨some d, .call { callee := .builtin .append, args := #[s, x], argTypes := #[t, t2] }, ty, pos, af, none⟩ :: rest)) :=
  fun a w hs' hdf ha hf hw => wpList_plain rfl fun K hK => by
    obtain ⟨m, rfl, h2, h3, rfl⟩ := appZ_some hz
    subst hlen; subst hby
    obtain ⟨dd, hu, hdd⟩ := T.ok.desc hi
    obtain ⟨d2, hu2, hdd2⟩ := T.ok.desc hi2
    have hinf := (T.ok.get hj).2.1
    cases hi' : P.info? e with
    | none => simp [hi'] at hinf
    | some info =>
      simp [hi'] at hinf
      have hzl : (zc j.zero).length = E.sz := by rw [← hzz]; exact E.len z
      have hzc : j.zero.cells.size = E.sz := by rw [← zc_eq]; simpa using hzl
      have hone : ∀ u ∈ zc j.zero, u.oneCell' = true := by rw [← hzz]; exact E.one z
      have hint : P.underlying t2 = some (.int kn) := TD.of_int (hdd2.trans hd2) ▸ hu2
      obtain ⟨A', c', w', hr, hwr, hown, hbl⟩ := run_append_z (P := P) (ty := ty) (kq := kq) (TD.of_slice (hdd.trans hdesc) ▸ hu) hint hi' (hinf.1.trans hsz) hinf.2.1 hinf.2.2 hzc (Nat.le_of_ble_eq_true hpos) hone (hf.del_own hD) h3 h2
      unfold Oper.wp
      have hr2 : (execOp a.eval ⟨some d, .call { callee := .builtin .append, args := #[s, x], argTypes := #[t, t2] }, ty, pos, af, none⟩).run P w = .ok (.value (.slice A' (xs.length + m) c')) w' := by
        simp [execOp, resolve, invoke, builtin, ha.eval hs, ha.eval hx, hr]
      rw [hr2]
      have hown' : (OwnL E e A' c' (xs ++ List.replicate m z)).p (hp w') := by
        show OwnP E.sz e A' (xs ++ List.replicate m z).length c' ((xs ++ List.replicate m z).map E.enc) (hp w')
        rw [List.length_append, List.length_replicate, List.map_append, List.map_replicate, hzz]
        exact hown
      have hk := k A' c'
      rw [List.length_append, List.length_replicate] at hk
      exact hK _ _ (hk _ _ (by simp [Act.put, hs']) hdf (ha.put (hs' ▸ Nat.le_of_ble_eq_true hd)) ((hf.front hD).exchange hwr (blkOf_nodup A' c') hbl hown') (hw.trans hwr.toSame))
/-- A part of a slice of one's own, for a call that only reads. -/
theorem St.view {X : List Oper → Act → World → Prop} [W : Walk P ops X] {α : Type} {E : Enc α} {t e e' : Nat} {i j : TI} {A : Option Addr} {n c : Nat} {xs ys : List α} {lo hi : Option Operand} {l h : Int} {ox : Operand} (hd : Nat.blt d nt = true) (hx : ev Γ ox = some (.slice A n c)) (hm : As.res (OwnL E e' A c xs) ∈ F) (hlen : n = xs.length)
    (hl : boundOf Γ 0 lo = some l) (hh : boundOf Γ (n : Int) hi = some h) (hi' : tget T.tt t = some i) (hdesc : i.desc = .slice e) (hj : tget T.tt e = some j) (hn : j.size = E.sz) (hz : Go.Proofs.Ythdpagcklakahaa.sub xs l h = some ys)
    (k : ∀ A' c', (∀ w, Sat F w → (SlL E A' c' ys).p (hp w)) → St w0 nt ((d, .slice A' ys.length c') :: Γ) F (X rest)) : St w0 nt Γ F (X (⟨some d, .slice t ox lo hi none, ty, pos, af, none⟩ :: rest)) :=
  fun a w hs hdf ha hf hw => by
    obtain ⟨h0, h1, h2, _⟩ := sub_some hz
    have hyl := sub_len hz
    have hsl : SlP (cod E) A c xs (hp w) := OwnL.sl hf hm
    have hcap := hsl.1
    subst hlen
    have hyl2 : ys.length = h.toNat - l.toNat := by omega
    refine St.val (F := F) hd (v := .slice (if c = l.toNat then A else A.map (·.add (l.toNat * (cod E).n))) ys.length (c - l.toNat)) (fun a w' ha _ => ?_)
      (fun a w hs hdf ha hf hw => k _ _ (fun w2 h2 => SlP.sub (OwnL.sl h2 hm) hz) a w hs hdf ha hf hw) a w hs hdf ha hf hw
    obtain ⟨dd, hu, hdd⟩ := T.ok.desc hi'
    have hb := run_bounds (P := P) true ha hl hh h0 h1 h2 hcap w'
    have hn' : j.size = (cod E).n := hn
    simp [execOp, Instr.sliceAt, Instr.slice, ha.eval hx, run_underlying hu, TD.of_slice (hdd.trans hdesc), hb, run_sizeOf_tt T.ok hj, hn', hyl2]
theorem Asks.view {r : Ro} (hV : ∀ w, Sat F w → r.p (hp w)) (h : Asks G F) : Asks (.ro r :: G) F := fun w hw r' hr => by
  cases hr with
  | head => exact hV w hw
  | tail _ hr => exact h w hw r' hr
theorem sl_chk {α : Type} {xs ys zs : List α} {A : Option Addr} {c : Nat} (h : chkLen xs.length ys = some zs) : some (Value.slice A xs.length c) = some (Value.slice A ys.length c) := by rw [chkLen_n h]
end

end Go.Proofs.Ythdpagcklakahaa
