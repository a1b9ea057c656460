/-
  The core, sixth part: make, literals of slices, elements of slices of one's own, slice expressions, strings and bytes.
  Conditions: none.
-/
import Derived.Test.YthdpagcklakahaaCore5
namespace Go.Proofs.Ythdpagcklakahaa
open Go
set_option linter.unusedSectionVars false

def repl : Nat → List Value → List Value
  | 0, _ => []
  | n + 1, zs => zs ++ repl n zs

theorem repl_eq (zs : List Value) : ∀ n, repl n zs = (List.replicate n zs).flatten
  | 0 => rfl
  | n + 1 => by simp [repl, List.replicate_succ, repl_eq zs n]

theorem repl_length (zs : List Value) (n : Nat) : (repl n zs).length = n * zs.length := by
  induction n with
  | zero => simp [repl]
  | succ n ih => simp [repl, ih, Nat.add_mul, Nat.add_comm]

theorem repl_get (zs : List Value) : ∀ (n i : Nat), i < n * zs.length → (repl n zs)[i]? = zs[i % zs.length]?
  | 0, i, h => by simp at h
  | n + 1, i, h => by
    simp only [repl]
    by_cases hi : i < zs.length
    · rw [List.getElem?_append_left hi, Nat.mod_eq_of_lt hi]
    · rw [List.getElem?_append_right (by omega), repl_get zs n (i - zs.length) (by rw [Nat.add_mul] at h; omega)]
      congr 1
      exact (Nat.mod_eq_sub_mod (by omega)).symm

theorem zeros_eq (z : Array Value) (n : Nat) (h : 0 < z.size) : ((Array.range (n * z.size)).map fun i => z[i % z.size]!) = (repl n z.toList).toArray := by
  apply Array.ext'
  apply List.ext_getElem?
  intro i
  simp only [Array.toList_map, Array.toList_range, List.getElem?_map]
  by_cases hi : i < n * z.size
  · rw [List.getElem?_range hi, repl_get z.toList n i (by simpa using hi)]
    have hm := Nat.mod_lt i h
    simp [hm]
  · rw [List.getElem?_eq_none (by simpa using hi), List.getElem?_eq_none (by rw [repl_length]; simpa using hi)]
    rfl

section
variable {P : Program} [T : HasTT P] {w0 : World} {nt : Nat} {Γ : Env} {F F' G R : List As} {Q : Exit → Act → World → Prop} {ops : Array Oper} {rest : List Oper}
variable {d : Nat} {op : Op} {ty : Nat} {pos : String} {af : Array Edge} {X : List Oper → Act → World → Prop}

theorem zsize {j : TI} {sz : Nat} (h : Nat.beq (zc j.zero).length sz = true) : j.zero.cells.size = sz := by rw [← zc_eq]; simpa using Nat.eq_of_beq_eq_true h

/-- A literal of a slice: a new block. -/
theorem St.buildSlice {t e n : Nat} {i j : TI} {ps : Array (Nat × Operand)} {cs : List Value} (hd : Nat.blt d nt = true) (hi : tget T.tt t = some i) (hdesc : i.desc = .slice e) (hj : tget T.tt e = some j) (hz : Nat.beq (zc j.zero).length j.size = true) (hpos : Nat.blt 0 j.size = true)
    (hps : pfill Γ (fun i => some (i * j.size, j.size)) (repl n (zc j.zero)) ps.toList = some cs) (hsmall : Nat.ble (n * j.size) 16777216 = true) (k : ∀ g, St w0 nt ((d, .slice (some ⟨g, 0, none⟩) n n) :: Γ) (.res (Box g e cs) :: F) (wpList P ops Q rest)) :
    St w0 nt Γ F (wpList P ops Q (⟨some d, .buildSlice t n ps, ty, pos, af, none⟩ :: rest)) :=
  fun a w hs hdf ha hf hw => wpList_plain rfl fun K hK => by
    obtain ⟨dd, hu, hdd⟩ := T.ok.desc hi
    have hzs := zsize hz
    have hp0 : 0 < j.size := Nat.le_of_ble_eq_true hpos
    have hf2 := pfill_run ha _ _ _ hps
    have hz2 : ((Array.range (n * j.size)).map fun i => (if n * j.size = 0 then #[] else j.zero.cells : Array Value)[i % (if n * j.size = 0 then #[] else j.zero.cells : Array Value).size]!) = (repl n (zc j.zero)).toArray := by
      by_cases h0 : n * j.size = 0
      · have hn0 : n = 0 := by
          rcases Nat.mul_eq_zero.1 h0 with h | h
          · exact h
          · omega
        subst hn0
        simp [repl]
      · simp only [h0, if_false]
        have := zeros_eq j.zero.cells n (by omega)
        rw [hzs] at this ⊢
        rw [this, ← zc_eq]
    have hps2 : (ps.map fun x => (x.1, a.eval x.2)).toList = ps.toList.map fun x => (x.1, a.eval x.2) := by simp
    unfold Oper.wp
    have hr : (execOp a.eval ⟨some d, .buildSlice t n ps, ty, pos, af, none⟩).run P w = .ok (.value (.slice (some ⟨w.heap.size, 0, none⟩) n n)) (w.alloc (.cells cs.toArray e)) := by
      have hsm : ¬ (n * j.size > 2 ^ 24) := by have := Nat.le_of_ble_eq_true hsmall; omega
      simp only [execOp, Instr.buildSlice, Sem.run_bind, run_underlying hu, TD.of_slice (hdd.trans hdesc), Result.andThen_ok, run_sizeOf_tt T.ok hj, if_neg hsm, Sem.run_pure]
      by_cases h0 : n * j.size = 0
      · simp only [h0, if_true] at hz2
        simp only [h0, if_true, Sem.run_bind, Sem.run_pure, Result.andThen_ok]
        rw [hz2, hps2, hf2]
        rfl
      · simp only [h0, if_false] at hz2
        simp only [h0, if_false, Sem.run_bind, run_zeroValue_tt T.ok hj, Sem.run_pure, Result.andThen_ok]
        rw [hz2, hps2, hf2]
        rfl
    rw [hr]
    exact hK _ _ (k _ _ _ (by simp [Act.put, hs]) hdf (ha.put (hs ▸ Nat.le_of_ble_eq_true hd)) (hf.alloc e _) (hw.trans (Ext.alloc w _).toSame))

/-- A block of one's own as a slice of one's own. -/
theorem Sat.box_own {g e sz n : Nat} {cs : List Value} {rows : List (List Value)} {w : World} (hf : rows.flatten = cs) (hn : rows.length = n) (hr : ∀ r ∈ rows, r.length = sz ∧ ∀ u ∈ r, u.oneCell' = true) (hm : n ≤ maxLen) (h : Sat (.res (Box g e cs) :: F) w) :
    Sat (.res (Own sz e (some ⟨g, 0, none⟩) n n rows) :: F) w := by
  refine h.exchange (Wrote.of_ext (Ext.refl w)) (blkOf_nodup _ _) (fun k hk => by
    obtain ⟨_, a, ha, rfl⟩ := mem_blkOf.1 hk
    injection ha with ha
    subst ha
    exact ⟨h.lt (by simp [blocks, As.gs, Box]), .inl (by simp [Box])⟩) ?_
  obtain ⟨o, ho, fr, rfl, hfr⟩ := (h.all _ (List.mem_cons_self ..)).2.1
  subst hf
  by_cases hn0 : n = 0
  · exact ⟨hn, hr, .inl ⟨hn0, hn0⟩⟩
  refine ⟨hn, hr, .inr ⟨g, _, fr, by omega, rfl, ho, ?_, Nat.le_refl _, hm, ?_, fun i hi => hfr i (by simpa using hi)⟩⟩
  · rw [List.size_toArray, length_flatten_rows hr, hn]
  · rw [← hn, ← length_flatten_rows hr]; exact List.take_length

/-- make. -/
theorem St.makeSlice {t e : Nat} {i j : TI} {x y : Operand} {l c : Int} (hd : Nat.blt d nt = true) (hx : ev Γ x = some (.int .i64 l)) (hy : ev Γ y = some (.int .i64 c)) (hi : tget T.tt t = some i) (hdesc : i.desc = .slice e) (hj : tget T.tt e = some j)
    (hz : Nat.beq (zc j.zero).length j.size = true) (hpos : Nat.blt 0 j.size = true) (h1 : (zc j.zero).all (fun u => u.oneCell') = true) (h0 : 0 ≤ l) (hlc : l ≤ c) (hc : c * j.bytes ≤ 281474976710656) (hm : c ≤ 9223372036854775807)
    (k : ∀ g, St w0 nt ((d, .slice (some ⟨g, 0, none⟩) l.toNat c.toNat) :: Γ) (.res (Own j.size e (some ⟨g, 0, none⟩) l.toNat c.toNat (List.replicate l.toNat (zc j.zero))) :: F) (wpList P ops Q rest)) :
    St w0 nt Γ F (wpList P ops Q (⟨some d, .makeSlice t x y, ty, pos, af, none⟩ :: rest)) :=
  fun a w hs hdf ha hf hw => wpList_plain rfl fun K hK => by
    obtain ⟨dd, hu, hdd⟩ := T.ok.desc hi
    have hzs := zsize hz
    have hp0 : 0 < j.size := Nat.le_of_ble_eq_true hpos
    have hinf := (T.ok.get hj).2.1
    cases hi' : P.info? e with
    | none => simp [hi'] at hinf
    | some info =>
    simp [hi'] at hinf
    have hwl : IntKind.i64.wrap l = l := by simp only [IntKind.wrap, IntKind.bits, IntKind.signed]; simp; omega
    have hwc : IntKind.i64.wrap c = c := by simp only [IntKind.wrap, IntKind.bits, IntKind.signed]; simp; omega
    have hcells : ((Array.range (c.toNat * j.size)).map fun i => (if c.toNat * j.size = 0 then #[] else j.zero.cells : Array Value)[i % (if c.toNat * j.size = 0 then #[] else j.zero.cells : Array Value).size]!) = (repl c.toNat (zc j.zero)).toArray := by
      by_cases h0 : c.toNat * j.size = 0
      · have hn0 : c.toNat = 0 := by
          rcases Nat.mul_eq_zero.1 h0 with h | h
          · exact h
          · omega
        rw [hn0]
        simp [repl]
      · simp only [h0, if_false]
        have := zeros_eq j.zero.cells c.toNat (by omega)
        rw [hzs] at this ⊢
        rw [this, ← zc_eq]
    unfold Oper.wp
    have hr : (execOp a.eval ⟨some d, .makeSlice t x y, ty, pos, af, none⟩).run P w = .ok (.value (.slice (some ⟨w.heap.size, 0, none⟩) l.toNat c.toNat)) (w.alloc (.cells (repl c.toNat (zc j.zero)).toArray e)) := by
      have hti : (typeInfo e).run P w = .ok info w := by simp [typeInfo, hi']
      have hcond : (decide (c < 0) || decide ((info.bytes : Int) * c > 2 ^ 48) || decide (l < 0) || decide (l > c)) = false := by
        rw [hinf.2.1]
        simp only [Bool.or_eq_false_iff, decide_eq_false_iff_not]
        refine ⟨⟨⟨by omega, ?_⟩, by omega⟩, by omega⟩
        rw [Int.mul_comm]
        omega
      simp only [execOp, Instr.makeSlice, Sem.run_bind, run_underlying hu, TD.of_slice (hdd.trans hdesc), Result.andThen_ok, ha.eval hx, ha.eval hy, asInt, asIntOf, Sem.run_pure, hti, hwl, hwc, hcond, Bool.false_eq_true, if_false, run_askRoom, run_sizeOf_tt T.ok hj]
      by_cases h0 : c.toNat * j.size = 0
      · simp only [h0, if_true] at hcells
        simp only [h0, if_true, Sem.run_bind, Sem.run_pure, Result.andThen_ok]
        rw [hcells]
        rfl
      · simp only [h0, if_false] at hcells
        simp only [h0, if_false, Sem.run_bind, run_zeroValue_tt T.ok hj, Sem.run_pure, Result.andThen_ok]
        rw [hcells]
        rfl
    rw [hr]
    have hzl : (zc j.zero).length = j.size := Nat.eq_of_beq_eq_true hz
    refine hK _ _ (k w.heap.size _ _ (by simp [Act.put, hs]) hdf (ha.put (hs ▸ Nat.le_of_ble_eq_true hd)) (hf.add_res (Ext.alloc w _) _ (blkOf_nodup _ _) (fun k hk => ?_) ?_) (hw.trans (Ext.alloc w _).toSame))
    · obtain ⟨_, a, ha, rfl⟩ := mem_blkOf.1 hk
      injection ha with ha
      subst ha
      simp
    · have hrows : ∀ r ∈ List.replicate l.toNat (zc j.zero), r.length = j.size ∧ ∀ u ∈ r, u.oneCell' = true := fun r hr => by
        obtain ⟨_, rfl⟩ := List.mem_replicate.1 hr
        exact ⟨hzl, fun u hu => by simpa using List.all_eq_true.1 h1 u hu⟩
      by_cases hc0 : c = 0
      · exact ⟨by simp, hrows, .inl ⟨by omega, by omega⟩⟩
      refine ⟨by simp, hrows, .inr ⟨w.heap.size, _, (0, 0), by omega, rfl, hp_alloc w _, ?_, by omega, by simp only [maxLen]; omega, ?_, fun i _ h => by omega⟩⟩
      · simp [repl_length, hzl]
      · simp only [repl_eq]
        rw [← hzl]
        have : c.toNat = l.toNat + (c.toNat - l.toNat) := by omega
        rw [this, ← List.replicate_append_replicate, List.flatten_append]
        have e : l.toNat * (zc j.zero).length = ((List.replicate l.toNat (zc j.zero)).flatten).length := by simp
        rw [e]
        exact List.take_left

/-! ### Elements of a slice of one's own -/

/-- The address of an element. -/
theorem St.idxO [W : Walk P ops X] {t e sz : Nat} {i j : TI} {x ix : Operand} {A : Option Addr} {n c e' : Nat} {kk : IntKind} {q : Int} {rows : List (List Value)} (hd : Nat.blt d nt = true) (hx : ev Γ x = some (.slice A n c)) (hq : ev Γ ix = some (.int kk q))
    (hm : As.res (Own sz e' A n c rows) ∈ F) (h0 : 0 ≤ q) (h1 : q < n) (hi : tget T.tt t = some i) (hdesc : i.desc = .slice e) (hj : tget T.tt e = some j) (hn : j.size = sz)
    (k : ∀ g, A = some ⟨g, 0, none⟩ → St w0 nt ((d, .pointer (some ⟨g, q.toNat * sz, none⟩)) :: Γ) F (X rest)) : St w0 nt Γ F (X (⟨some d, .indexAddr t x ix, ty, pos, af, none⟩ :: rest)) :=
  fun a w hs hdf ha hf hw => by
    have hown : OwnP sz e' A n c rows (hp w) := hf.res hm
    rcases hown.2.2 with ⟨h, _⟩ | ⟨g, cur, fr, _, hA, _⟩
    · omega
    · subst hA
      obtain ⟨dd, hu, hdd⟩ := T.ok.desc hi
      have hadd : (⟨g, 0, none⟩ : Addr).add (q.toNat * sz) = ⟨g, q.toNat * sz, none⟩ := add_zero_off g _
      refine W.val _ _ _ _ _ (wanted_none rfl _) (fun w' he => ?_) (k g rfl _ w (by simp [Act.put, hs]) hdf (ha.put (hs ▸ Nat.le_of_ble_eq_true hd)) hf hw)
      simp [execOp, Instr.indexAt, ha.eval hx, ha.eval hq, asIntOf, run_underlying hu, TD.of_slice (hdd.trans hdesc), run_sizeOf_tt T.ok hj, hn, h0, h1, hadd]

theorem own_row_cells {sz e n c g q : Nat} {rows : List (List Value)} {row : List Value} {w : World} (h : OwnP sz e (some ⟨g, 0, none⟩) n c rows (hp w)) (hr : rows[q]? = some row) : ∀ i u, row[i]? = some u → w.cell? ⟨g, q * sz + i, none⟩ = some u := by
  intro i u hu
  obtain ⟨g', hA, hc⟩ := h.cell (flat_row h.2.1 q row hr i u hu)
  injection hA with hA
  injection hA with hA
  subst hA
  exact hc

/-- A load of (a part of) an element. -/
theorem St.loadO [W : Walk P ops X] {t sz e n c g p q : Nat} {x : Operand} (off : Nat) {rows : List (List Value)} {row : List Value} {v : Value} (hd : Nat.blt d nt = true) (hx : ev Γ x = some (.pointer (some ⟨g, p, none⟩))) (hm : As.res (Own sz e (some ⟨g, 0, none⟩) n c rows) ∈ F)
    (hr : rows[q]? = some row) (hpp : p = q * sz + off) (hv : ppart T.tt t row off = some v) (k : St w0 nt ((d, v) :: Γ) F (X rest)) : St w0 nt Γ F (X (⟨some d, .load t x, ty, pos, af, none⟩ :: rest)) :=
  fun a w hs hdf ha hf hw => W.val _ _ _ _ v (wanted_none rfl _) (fun w' he => run_load_op T.ok (by rw [ha.eval hx, hpp]) hv (own_row_cells ((hf.ext he).res (r := Own sz e (some ⟨g, 0, none⟩) n c rows) hm) hr) _ _)
    (k _ w (by simp [Act.put, hs]) hdf (ha.put (hs ▸ Nat.le_of_ble_eq_true hd)) hf hw)

theorem flatten_set {sz : Nat} : ∀ (rows : List (List Value)) (q : Nat) (row row' : List Value), (∀ r ∈ rows, r.length = sz) → rows[q]? = some row → row'.length = sz →
    (rows.set q row').flatten = rows.flatten.take (q * sz) ++ row' ++ rows.flatten.drop (q * sz + sz)
  | [], q, _, _, _, h, _ => by simp at h
  | r :: rs, 0, row, row', hl, h, h' => by
    simp at h
    subst h
    have := hl r (by simp)
    simp [← this]
  | r :: rs, q + 1, row, row', hl, h, h' => by
    have h1 := hl r (by simp)
    have ih := flatten_set rs q row row' (fun x hx => hl x (by simp [hx])) (by simpa using h) h'
    simp only [List.set_cons_succ, List.flatten_cons, ih]
    have e1 : (q + 1) * sz = r.length + q * sz := by rw [h1, Nat.add_mul]; omega
    have e2 : (q + 1) * sz + sz = r.length + (q * sz + sz) := by rw [e1]; omega
    rw [e1, show r.length + q * sz + sz = r.length + (q * sz + sz) by omega, List.take_append, List.drop_append]
    simp [List.take_of_length_le, List.drop_eq_nil_of_le]

/-- A store into (a part of) an element. -/
theorem St.storeO {t sz e n c g p q : Nat} {x y : Operand} (off : Nat) {i : TI} {rows : List (List Value)} {row row' : List Value} {v : Value} (hx : ev Γ x = some (.pointer (some ⟨g, p, none⟩))) (hy : ev Γ y = some v) (hD : Del F (.res (Own sz e (some ⟨g, 0, none⟩) n c rows)) G)
    (hr : rows[q]? = some row) (hpp : p = q * sz + off) (hi : tget T.tt t = some i) (hsz : Nat.beq (zc v).length i.size = true) (h1 : ((zc v).all fun u => u.oneCell') = true) (hs : spliceK row off (zc v) some = some row')
    (k : St w0 nt Γ (.res (Own sz e (some ⟨g, 0, none⟩) n c (rows.set q row')) :: G) (wpList P ops Q rest)) : St w0 nt Γ F (wpList P ops Q (⟨none, .store t x y, ty, pos, af, none⟩ :: rest)) :=
  fun a w hs' hdf ha hf hw => wpList_plain rfl fun K hK => by
    have hf' := hf.front hD
    have hown : OwnP sz e (some ⟨g, 0, none⟩) n c rows (hp w) := hf.del_own hD
    obtain ⟨o1, o2, o3⟩ := hown
    rcases o3 with ⟨h, _⟩ | ⟨g', cur, fr, hpos, hA, hg, hcs, hnc, hc, htk, hfz⟩
    · have := (List.getElem?_eq_some_iff.1 hr).1
      omega
    injection hA with hA
    injection hA with hA
    subst hA
    obtain ⟨hl, he⟩ := spliceK_eq _ _ _ _ _ hs
    injection he with he
    have hrow := o2 row (List.mem_of_getElem? hr)
    have hqn : q < n := o1 ▸ (List.getElem?_eq_some_iff.1 hr).1
    have hqs : q * sz + sz ≤ c * sz := by
      have : (q + 1) * sz ≤ c * sz := Nat.mul_le_mul_right _ (by omega)
      rw [Nat.add_mul] at this
      omega
    have hbox : (Box g e cur.toList).p (hp w) := ⟨_, hg, fr, by simp, fun i hi => hfz i (by simpa using hi)⟩
    obtain ⟨w', hrr, hwr, hb⟩ := setCells_blk (P := P) (zc v) cur.toList p 0 w hbox (by simp only [Array.length_toList, hcs]; omega) (fun u hu => by simpa using List.all_eq_true.1 h1 u hu)
    have hz : v.cells.size = i.size := by rw [← zc_eq]; simpa using Nat.eq_of_beq_eq_true hsz
    have hzl : v.cells.toList = zc v := by rw [← zc_eq]
    unfold Oper.wp
    have hr2 : (execOp a.eval ⟨none, .store t x y, ty, pos, af, none⟩).run P w = .ok .skip w' := by
      simp [execOp, Instr.storeAt, ha.eval hx, ha.eval hy, Instr.sureAddr, storeVar, run_sizeOf_tt T.ok hi, hz, hzl, hrr]
    rw [hr2]
    have hbk : [g] = (Own sz e (some ⟨g, 0, none⟩) n c rows).gs := (blkOf_some hpos).symm
    refine hK _ _ (k _ _ hs' hdf ha.put_none (hf'.exchange (hbk ▸ hwr) (blkOf_nodup _ _) (fun j hj => ?_) ?_) (hw.trans hwr.toSame))
    · exact ⟨Nat.lt_of_lt_of_le (hf'.lt (by simp only [blocks, As.gs, List.mem_append]; exact .inl hj)) hwr.size, .inl hj⟩
    · have hrow' : row'.length = sz := by
        rw [← he]
        simp only [List.length_append, List.length_take, List.length_drop, hrow.1] at hl ⊢
        omega
      obtain ⟨o, ho, fr', rfl, hfz'⟩ := hb
      refine ⟨by simp [o1], fun r hr' => ?_, .inr ⟨g, _, fr', hpos, rfl, ho, ?_, hnc, hc, ?_, fun i hi => hfz' i (by simpa using hi)⟩⟩
      · rcases List.mem_or_eq_of_mem_set hr' with h | h
        · exact o2 r h
        · subst h
          refine ⟨hrow', fun u hu => ?_⟩
          rw [← he] at hu
          simp only [List.mem_append] at hu
          rcases hu with (hu | hu) | hu
          · exact hrow.2 u (List.mem_of_mem_take hu)
          · simpa using List.all_eq_true.1 h1 u hu
          · exact hrow.2 u (List.mem_of_mem_drop hu)
      · simp only [List.size_toArray, List.length_append, List.length_take, List.length_drop, Array.length_toList, hcs]
        omega
      · rw [flatten_set rows q row row' (fun r hr' => (o2 r hr').1) hr hrow', ← htk]
        simp only [Nat.add_zero]
        have hrc : ∀ k u, row[k]? = some u → cur.toList[q * sz + k]? = some u := fun k u hu => by
          have h3 := flat_row o2 q row hr k u hu
          rw [← htk, List.getElem?_take] at h3
          split at h3
          · exact h3
          · cases h3
        have hqn2 : q * sz + sz ≤ n * sz := by
          have : (q + 1) * sz ≤ n * sz := Nat.mul_le_mul_right _ (by omega)
          rw [Nat.add_mul] at this
          omega
        have hnc2 : n * sz ≤ c * sz := Nat.mul_le_mul_right _ hnc
        apply List.ext_getElem?
        intro k
        rw [← he, hpp]
        simp only [List.getElem?_take, List.getElem?_append, List.length_append, List.length_take, List.length_drop, Array.length_toList, hcs, hrow.1, List.getElem?_drop]
        have e1 : min (q * sz + off) (c * sz) = q * sz + off := by omega
        have e2 : min (q * sz) (min (n * sz) (c * sz)) = q * sz := by omega
        have e3 : min off sz = off := by omega
        rw [e1, e2, e3]
        by_cases k1 : k < q * sz
        · simp only [show k < n * sz by omega, show k < q * sz + off + (zc v).length by omega, show k < q * sz + off by omega, show k < q * sz + (off + (zc v).length + (sz - (off + (zc v).length))) by omega, k1, if_true]
        · by_cases k2 : k < q * sz + off
          · simp only [show k < n * sz by omega, show k < q * sz + off + (zc v).length by omega, k2, show k < q * sz + (off + (zc v).length + (sz - (off + (zc v).length))) by omega, k1, show k - q * sz < off + (zc v).length by omega, show k - q * sz < off by omega, if_true, if_false]
            have hk2 : k - q * sz < row.length := by omega
            have := hrc (k - q * sz) _ (List.getElem?_eq_getElem hk2)
            rw [show q * sz + (k - q * sz) = k by omega] at this
            rw [this, List.getElem?_eq_getElem hk2]
          · by_cases k3 : k < q * sz + off + (zc v).length
            · simp only [show k < n * sz by omega, k3, k2, show k < q * sz + (off + (zc v).length + (sz - (off + (zc v).length))) by omega, k1, show k - q * sz < off + (zc v).length by omega, show ¬ (k - q * sz < off) by omega, if_true, if_false]
              congr 1
              omega
            · by_cases k4 : k < q * sz + sz
              · simp only [show k < n * sz by omega, k3, k2, show k < q * sz + (off + (zc v).length + (sz - (off + (zc v).length))) by omega, k1, show ¬ (k - q * sz < off + (zc v).length) by omega, if_true, if_false]
                have hk4 : off + (zc v).length + (k - q * sz - (off + (zc v).length)) < row.length := by omega
                have := hrc _ _ (List.getElem?_eq_getElem hk4)
                rw [List.getElem?_eq_getElem hk4, ← this]
                congr 1
                omega
              · simp only [k3, show ¬ (k < q * sz + (off + (zc v).length + (sz - (off + (zc v).length)))) by omega, if_false]
                by_cases k5 : k < n * sz
                · simp only [k5, if_true]
                  rw [if_pos (by omega)]
                  congr 1
                  omega
                · simp only [k5, if_false]
                  rw [if_neg (by omega)]

end
end Go.Proofs.Ythdpagcklakahaa
