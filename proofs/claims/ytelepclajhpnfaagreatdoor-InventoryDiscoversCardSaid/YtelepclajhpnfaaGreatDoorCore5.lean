/-
 The core, fifth part: slices that the call itself made: append, make, index, store; slice expressions; bytes and strings.
 Conditions: none.
-/
import Derived.Test.YtelepclajhpnfaaGreatDoorCoreF
namespace Go.Proofs.YtelepclajhpnfaaGreatDoor
open Go
set_option linter.unusedSectionVars false
def OwnP (sz e : Nat) (A : Option Addr) (n c : Nat) (rows : List (List Value)) (m : Hp) : Prop :=
 rows.length = n ∧ (∀ r ∈ rows, r.length = sz ∧ ∀ u ∈ r, u.oneCell' = true) ∧
  ((n = 0 ∧ c = 0) ∨ ∃ (g : Nat) (cur : Array Value) (fr : Nat × Nat), 0 < c ∧ A = some ⟨g, 0, none⟩ ∧ m g = some (.cells cur e fr) ∧ cur.size = c * sz ∧ n ≤ c ∧ c ≤ maxLen ∧
   cur.toList.take (n * sz) = rows.flatten ∧ ∀ i, i < cur.size → ¬(fr.1 ≤ i ∧ i < fr.2))
def blk1 : Option Addr → List Nat
 | some a => [a.block]
 | none => []
def blkOf (A : Option Addr) (c : Nat) : List Nat := if c = 0 then [] else blk1 A
theorem blkOf_nodup (A : Option Addr) (c : Nat) : (blkOf A c).Nodup := by
 unfold blkOf
 split
 ·simp
 ·cases A <;> simp [blk1]
theorem mem_blkOf {A : Option Addr} {c k : Nat} : k ∈ blkOf A c ↔ 0 < c ∧ ∃ a, A = some a ∧ k = a.block := by
 unfold blkOf
 split
 ·rename_i h; simp [h]
 ·rename_i h
  cases A with
  | none => simp [blk1]
  | some a => simp [blk1]; omega
theorem blkOf_some {g : Nat} {c : Nat} (h : 0 < c) : blkOf (some ⟨g, 0, none⟩) c = [g] := by
 unfold blkOf
 rw [if_neg (by omega)]
 rfl
def Own (sz e : Nat) (A : Option Addr) (n c : Nat) (rows : List (List Value)) : Res where
 gs := blkOf A c
 p := OwnP sz e A n c rows
 loc m m' h hp := by
  obtain ⟨h1, h2, h3⟩ := hp
  refine ⟨h1, h2, ?_⟩
  rcases h3 with h3 | ⟨g, cur, fr, h0, hA, hm, rest⟩
  ·exact .inl h3
  ·refine .inr ⟨g, cur, fr, h0, hA, ?_, rest⟩
   rw [← h g (mem_blkOf.2 ⟨h0, _, hA, rfl⟩), hm]
theorem length_flatten_rows {sz : Nat} : ∀ {rows : List (List Value)}, (∀ r ∈ rows, r.length = sz ∧ ∀ u ∈ r, u.oneCell' = true) → rows.flatten.length = rows.length * sz
 | [], _ => by simp
 | r :: rs, h => by
  have h1 := (h r (by simp)).1
  have h2 := length_flatten_rows (rows := rs) fun x hx => h x (by simp [hx])
  simp [h1, h2, Nat.add_mul, Nat.add_comm]
theorem OwnP.flat {sz e n c : Nat} {A : Option Addr} {rows : List (List Value)} {m : Hp} (h : OwnP sz e A n c rows m) : rows.flatten.length = n * sz := by rw [length_flatten_rows h.2.1, h.1]
theorem OwnP.one {sz e n c : Nat} {A : Option Addr} {rows : List (List Value)} {m : Hp} (h : OwnP sz e A n c rows m) : ∀ u ∈ rows.flatten, u.oneCell' = true := by
 intro u hu
 obtain ⟨r, hr, hur⟩ := List.mem_flatten.1 hu
 exact (h.2.1 r hr).2 u hur
theorem OwnP.nil (sz e : Nat) (m : Hp) : OwnP sz e none 0 0 [] m := ⟨rfl, by simp, .inl ⟨rfl, rfl⟩⟩
theorem Sat.own_nil {F : List As} {w : World} (h : Sat F w) (sz e : Nat) : Sat (.res (Own sz e none 0 0 []) :: F) w :=
 h.add_res (Ext.refl w) _ (by simp [Own, blkOf]) (by simp [Own, blkOf]) (OwnP.nil sz e _)
section
variable {P : Program} [T : HasTT P] {w0 : World} {nt : Nat} {Γ : Env} {F F' G R : List As} {Q : Exit → Act → World → Prop} {ops : Array Oper} {rest : List Oper}
variable {d : Nat} {op : Op} {ty : Nat} {pos : String} {af : Array Edge} {X : List Oper → Act → World → Prop}
theorem flat_row {sz : Nat} : ∀ {rows : List (List Value)}, (∀ r ∈ rows, r.length = sz ∧ ∀ u ∈ r, u.oneCell' = true) → ∀ (q : Nat) (row : List Value), rows[q]? = some row → ∀ i u, row[i]? = some u → rows.flatten[q * sz + i]? = some u
 | [], _, q, row, hq, _, _, _ => by simp at hq
 | r :: rs, h, 0, row, hq, i, u, hu => by
  simp at hq
  subst hq
  have hi := (List.getElem?_eq_some_iff.1 hu).1
  simp only [List.flatten_cons, Nat.zero_mul, Nat.zero_add]
  rw [List.getElem?_append_left hi, hu]
 | r :: rs, h, q + 1, row, hq, i, u, hu => by
  have h1 := (h r (by simp)).1
  have := flat_row (rows := rs) (fun x hx => h x (by simp [hx])) q row (by simpa using hq) i u hu
  simp only [List.flatten_cons]
  rw [List.getElem?_append_right (by rw [h1, Nat.add_mul]; omega), ← this]
  congr 1
  rw [h1, Nat.add_mul]
  omega
theorem OwnP.cell {sz e n c : Nat} {A : Option Addr} {rows : List (List Value)} {w : World} (h : OwnP sz e A n c rows (hp w)) {j : Nat} {u : Value} (hu : rows.flatten[j]? = some u) :
  ∃ g, A = some ⟨g, 0, none⟩ ∧ w.cell? ⟨g, j, none⟩ = some u := by
 rcases h.2.2 with ⟨h0, _⟩ | ⟨g, cur, fr, _, hA, hm, hs, hn, hc, ht, _⟩
 ·have := h.flat
  rw [h0, Nat.zero_mul] at this
  have := List.eq_nil_of_length_eq_zero this
  rw [this] at hu
  simp at hu
 ·refine ⟨g, hA, ?_⟩
  have hm' : w.heap[g]? = some (.cells cur e fr) := hm
  rw [← ht, List.getElem?_take] at hu
  split at hu
  ·simp [World.cell?, hm']; simpa using hu
  ·cases hu
theorem OwnP.sl {α : Type} {E : Cod α} {e n c : Nat} {A : Option Addr} {rows : List (List Value)} {m : Hp} (h : OwnP E.n e A n c rows m) (xs : List α) (hx : xs.length = n) (m' : Hp) (hm : ∀ k, k ∈ blkOf A c → m k = m' k)
  (hr : ∀ (j : Nat) (x : α), xs[j]? = some x → ∃ r, rows[j]? = some r ∧ E.rel m' x r) : SlP E A c xs m' := by
 have h3 := h.2.2
 rcases h3 with ⟨h0, hc0⟩ | ⟨g, cur, fr, hpos, hA, hg, hs, hn, hc, ht, _⟩
 ·have : xs = [] := List.eq_nil_of_length_eq_zero (hx.trans h0)
  subst this; subst hc0
  exact ⟨by simp, by simp [maxLen], fun _ => rfl, fun ad _ j x hj => by simp at hj⟩
 ·subst hA
  refine ⟨by omega, hc, (fun h => by cases h), fun ad had j x hj => ?_⟩
  injection had with had
  subst had
  obtain ⟨r, hr1, hr2⟩ := hr j x hj
  refine ⟨rfl, r, hr2, fun i u hu => ?_⟩
  have hf := flat_row h.2.1 j r hr1 i u hu
  rw [← ht, List.getElem?_take] at hf
  split at hf
  ·have hgm : m' g = some (.cells cur e fr) := by rw [← hm g (mem_blkOf.2 ⟨hpos, _, rfl, rfl⟩)]; exact hg
   simp only [cellm, hgm, Nat.zero_add]
   simpa using hf
  ·cases hf
def SrcP (P : Program) (sz : Nat) (x : Value) (m : Nat) (news : List Value) (w : World) : Prop :=
 (∀ w', (Builtin.lenOf x).run P w' = .ok m w') ∧ news.length = m * sz ∧ (∀ u ∈ news, u.oneCell' = true) ∧ ∀ w', w'.heap = w.heap → (Builtin.firstCells sz m x).run P w' = .ok news.toArray w'
theorem run_firstCells_of {sz m c : Nat} {ad : Addr} {news : List Value} {w : World} (hl : news.length = m * sz) (hc : ∀ j u, news[j]? = some u → w.cell? (ad.add j) = some u) : (Builtin.firstCells sz m (.slice (some ad) m c)).run P w = .ok news.toArray w := by
 have := run_loadCells_list (P := P) w ad news hc
 rw [hl] at this
 simpa [Builtin.firstCells] using this
theorem add_zero_off (g j : Nat) : (⟨g, 0, none⟩ : Addr).add j = ⟨g, j, none⟩ := by unfold Addr.add; split <;> simp_all
def notInt : TD → Bool
 | .int _ => false
 | _ => true
theorem append_ty {t t2 ty e : Nat} {d2 : TypeDesc} (ht : P.underlying t = some (.slice e)) (ht2 : P.underlying t2 = some d2) (hd2 : notInt (TD.of d2) = true) (x y : Value) (w : World) : (Builtin.append_ #[t, t2] ty #[x, y]).run P w = (Builtin.append_ #[t, t] ty #[x, y]).run P w := by
 have h1 := fun w => run_underlying (P := P) ht w
 have h2 := fun w => run_underlying (P := P) ht2 w
 have g0 : ∀ a b : Nat, (#[a, b] : Array Nat)[0]? = some a := fun _ _ => rfl
 have g1 : ∀ a b : Nat, (#[a, b] : Array Nat)[1]? = some b := fun _ _ => rfl
 have g2 : ∀ a b : Value, (#[a, b] : Array Value)[0]? = some a := fun _ _ => rfl
 have g3 : ∀ a b : Value, (#[a, b] : Array Value)[1]? = some b := fun _ _ => rfl
 unfold Builtin.append_
 simp only [g0, g1, g2, g3, Sem.run_bind, h1, Result.andThen_ok]
 cases x <;> try rfl
 simp only [Sem.run_bind, h1, h2, Result.andThen_ok, Sem.run_pure]
 cases d2 <;> first | rfl | (simp [notInt, TD.of] at hd2)
theorem run_append' {t ty e sz by_ : Nat} {z : Value} {info : TypeInfo} (ht : P.underlying t = some (.slice e)) (hi : P.info? e = some info) (hsz : info.size = sz) (hby : info.bytes = by_) (hz : info.zero = some z) (hzs : z.cells.size = sz)
  {A : Option Addr} {n c m : Nat} {rows : List (List Value)} {x : Value} {news : List Value} {w : World} (h : OwnP sz e A n c rows (hp w)) {ts : Array Nat} (hts : ts = #[t, t]) (hx : SrcP P sz x m news w) (hlen : n + m ≤ maxLen) (hbytes : (n + m) * by_ ≤ 140737488355328)
  (news' : List (List Value)) (hnews : news'.flatten = news) (hn' : news'.length = m) (hrow : ∀ r ∈ news', r.length = sz ∧ ∀ u ∈ r, u.oneCell' = true) :
  ∃ A' c' w', (Builtin.append_ ts ty #[.slice A n c, x]).run P w = .ok (.slice A' (n + m) c') w' ∧ Wrote (blkOf A c) w w' ∧ OwnP sz e A' (n + m) c' (rows ++ news') (hp w') ∧
   (∀ k, k ∈ blkOf A' c' → k < w'.heap.size ∧ (k ∈ blkOf A c ∨ w.heap.size ≤ k)) ∧ ((A' = A ∧ c' = c) ∨ (Ext w w' ∧ ∀ k, k ∈ blkOf A' c' → w.heap.size ≤ k)) := by
 obtain ⟨hx1, hx2, hx3, hx4⟩ := hx
 subst hts
 have hrows : ∀ r ∈ rows ++ news', r.length = sz ∧ ∀ u ∈ r, u.oneCell' = true := fun r hr => by
  rcases List.mem_append.1 hr with hr | hr
  ·exact h.2.1 r hr
  ·exact hrow r hr
 have hrl : (rows ++ news').length = n + m := by simp [h.1, hn']
 have hfl : (rows ++ news').flatten = rows.flatten ++ news := by simp [hnews]
 have hsmall : n + m ≤ 9223372036854775807 := by simp only [maxLen] at hlen; omega
 have ht1 : (underlying t).run P w = .ok (.slice e) w := run_underlying ht w
 have hs1 : ∀ w', (sizeOf e).run P w' = .ok sz w' := fun w' => by simp [sizeOf, typeInfo, hi, hsz]
 have hti : ∀ w', (typeInfo e).run P w' = .ok info w' := fun w' => by simp [typeInfo, hi]
 have hzv : ∀ w', (zeroValue e).run P w' = .ok z w' := fun w' => by simp [zeroValue, typeInfo, hi, hz]
 by_cases hroom : n + m ≤ c
 ·
  rcases h.2.2 with ⟨h0, hc0⟩ | ⟨g, cur, fr, hpos, hA, hg, hcs, hn, hc, htk, hfz⟩
  ·have hm0 : m = 0 := by omega
   subst h0; subst hm0; subst hc0
   have : news = [] := List.eq_nil_of_length_eq_zero (by simpa using hx2)
   subst this
   have : news' = [] := List.eq_nil_of_length_eq_zero hn'
   subst this
   refine ⟨A, 0, w, ?_, Wrote.of_ext (Ext.refl w), ?_, fun k hk => absurd (mem_blkOf.1 hk).1 (by omega), .inl ⟨rfl, rfl⟩⟩
   ·cases A with
    | none => simp [Builtin.append_, ht1, hs1, hx1, hx4 w rfl]
    | some ad => simp [Builtin.append_, ht1, hs1, hx1, hx4 w rfl, storeCells]
   ·simpa using h
  ·subst hA
   have hg' : w.heap[g]? = some (.cells cur e fr) := hg
   have hnm : (n + m) * sz ≤ c * sz := Nat.mul_le_mul_right _ hroom
   have hbox : (Box g e cur.toList).p (hp w) := ⟨_, hg, fr, by simp, fun i hi => hfz i (by simpa using hi)⟩
   have hle : n * sz + 0 + news.length ≤ cur.toList.length := by
    rw [hx2]; simp only [Array.length_toList, hcs]; rw [Nat.add_mul] at hnm; omega
   obtain ⟨w', hr, hw, hb⟩ := setCells_blk (P := P) news cur.toList (n * sz) 0 w hbox hle hx3
   have hbk : blkOf (some ⟨g, 0, none⟩) c = [g] := blkOf_some hpos
   refine ⟨some ⟨g, 0, none⟩, c, w', ?_, hbk ▸ hw, ⟨hrl, hrows, .inr ?_⟩, ?_, .inl ⟨rfl, rfl⟩⟩
   ·simp [Builtin.append_, ht1, hs1, hx1, hroom, hx4 w rfl, add_zero_off, hr]
   ·obtain ⟨o, ho, fr', rfl, hfz'⟩ := hb
    refine ⟨g, _, fr', hpos, rfl, ho, ?_, hroom, hc, ?_, fun i hi => hfz' i (by simpa using hi)⟩
    ·simp only [List.size_toArray, List.length_append, List.length_take, List.length_drop, Array.length_toList, hcs, hx2]
     rw [Nat.add_mul] at hnm
     omega
    ·simp only [Nat.add_zero, htk, hfl]
     have hl2 : (rows.flatten ++ news).length = (n + m) * sz := by rw [List.length_append, h.flat, hx2, Nat.add_mul]
     rw [← hl2]
     exact List.take_left
   ·intro k hk
    refine ⟨?_, .inl hk⟩
    rw [hbk] at hk
    simp at hk
    subst hk
    exact Nat.lt_of_lt_of_le (Array.getElem?_eq_some_iff.1 hg').1 hw.size
 ·
  have hfit := growslice_fits (need := n + m) (old := c) (by omega) hbytes
  have hold : ∀ w', w'.heap = w.heap → (Builtin.firstCells sz n (.slice A n c)).run P w' = .ok rows.flatten.toArray w' := fun w' hw' => by
   rcases h.2.2 with ⟨h0, _⟩ | ⟨g, cur, fr, _, hA, hg, _⟩
   ·have := h.flat
    rw [h0, Nat.zero_mul] at this
    rw [List.eq_nil_of_length_eq_zero this, h0]
    cases A with
    | none => rfl
    | some ad => simp [Builtin.firstCells]; rfl
   ·subst hA
    refine run_firstCells_of h.flat fun j u hu => ?_
    obtain ⟨g', hA', hc⟩ := h.cell hu
    injection hA' with hA'
    injection hA' with hA'
    subst hA'
    rw [add_zero_off]
    rw [← hc]
    simp [World.cell?, hw']
  let nc := grownCap w (n + m) c e
  have hge : n + m ≤ nc := grownCap_ge w (n + m) c e
  have hcm : nc ≤ maxLen := grownCap_le_maxLen w (n + m) c e hlen
  let cells : Array Value := rows.flatten.toArray ++ news.toArray ++ Builtin.zeroCells z.cells (nc - (n + m))
  refine ⟨some ⟨w.heap.size, 0, none⟩, nc, w.drew.alloc (.cells cells e), ?_, Wrote.of_ext ((Ext.drew w).trans (Ext.alloc _ _)), ⟨hrl, hrows, .inr ⟨w.heap.size, cells, (0, 0), by omega, rfl, hp_alloc w.drew _, ?_, hge, hcm, ?_, fun i _ hh => by omega⟩⟩, ?_, .inr ⟨(Ext.drew w).trans (Ext.alloc _ _), ?_⟩⟩
  ·have hcond : ¬ ((((n + m : Nat) : Int) > IntKind.i64.max) ∧ ((false = true) ∨ info.bytes = 0)) := by
    intro hh; have : ((n + m : Nat) : Int) ≤ IntKind.i64.max := by simp only [IntKind.max, IntKind.signed, IntKind.bits]; omega
    omega
   have hcond2 : ¬ (Builtin.nextslicecap (n + m) c * info.bytes > 2 ^ 48) := by rw [hby]; omega
   have hmax : ((n : Int) + (m : Int)) ≤ IntKind.i64.max := by simp only [IntKind.max, IntKind.signed, IntKind.bits]; simp; omega
   simp [Builtin.append_, ht1, hs1, hx1, hroom, hti, hzv, hby]
   have h2 : ¬ (281474976710656 < Builtin.nextslicecap (n + m) c * by_) := by omega
   have h3 : ¬ (9223372036854775807 < (n : Int) + (m : Int)) := by omega
   simp [h2, h3, hold w.drew rfl, hx4 w.drew rfl, Question.forced, newRow]
   simp only [cells, nc, grownCap, Array.append_assoc]
   exact ⟨trivial, trivial⟩
  ·show cells.size = nc * sz
   simp only [cells, Array.size_append, List.size_toArray, size_zeroCells, hzs, h.flat, hx2, ← Nat.add_mul]
   congr 1
   omega
  ·show cells.toList.take ((n + m) * sz) = _
   simp only [cells, Array.toList_append, hfl]
   have hl2 : (rows.flatten ++ news).length = (n + m) * sz := by rw [List.length_append, h.flat, hx2, Nat.add_mul]
   rw [← hl2]
   exact List.take_left
  ·intro k hk
   obtain ⟨_, a, ha, hk⟩ := mem_blkOf.1 hk
   injection ha with ha
   subst ha
   subst hk
   exact ⟨by simp, .inr (Nat.le_refl _)⟩
  ·intro k hk
   obtain ⟨_, a, ha, hk⟩ := mem_blkOf.1 hk
   injection ha with ha
   subst ha
   subst hk
   exact Nat.le_refl _
theorem run_append {t ty e sz by_ : Nat} {z : Value} {info : TypeInfo} (ht : P.underlying t = some (.slice e)) (hi : P.info? e = some info) (hsz : info.size = sz) (hby : info.bytes = by_) (hz : info.zero = some z) (hzs : z.cells.size = sz)
  {A : Option Addr} {n c m : Nat} {rows : List (List Value)} {x : Value} {news : List Value} {w : World} (h : OwnP sz e A n c rows (hp w)) {ts : Array Nat} (hts : ts = #[t, t]) (hx : SrcP P sz x m news w) (hlen : n + m ≤ maxLen) (hbytes : (n + m) * by_ ≤ 140737488355328)
  (news' : List (List Value)) (hnews : news'.flatten = news) (hn' : news'.length = m) (hrow : ∀ r ∈ news', r.length = sz ∧ ∀ u ∈ r, u.oneCell' = true) :
  ∃ A' c' w', (Builtin.append_ ts ty #[.slice A n c, x]).run P w = .ok (.slice A' (n + m) c') w' ∧ Wrote (blkOf A c) w w' ∧ OwnP sz e A' (n + m) c' (rows ++ news') (hp w') ∧
   (∀ k, k ∈ blkOf A' c' → k < w'.heap.size ∧ (k ∈ blkOf A c ∨ w.heap.size ≤ k)) := by
 obtain ⟨A', c', w', h1, h2, h3, h4, _⟩ := run_append' (ty := ty) ht hi hsz hby hz hzs h hts hx hlen hbytes news' hnews hn' hrow
 exact ⟨A', c', w', h1, h2, h3, h4⟩
theorem Sat.del_own {A : Option Addr} {n c sz e : Nat} {rows : List (List Value)} {w : World} (h : Sat F w) (hD : Del F (.res (Own sz e A n c rows)) G) : OwnP sz e A n c rows (hp w) := h.res (r := Own sz e A n c rows) hD.mem
theorem append_at {t t2 e sz m c n : Nat} {i i2 j : TI} {s x : Operand} {A : Option Addr} {xv : Value} {rows : List (List Value)} {news : List Value} (news' : List (List Value)) {a : Act} {w : World} (hs' : a.tmps.size = nt) (hdf : a.defers = []) (ha : At a Γ) (hf : Sat F w) (hw : Same w0 w) (hd : Nat.blt d nt = true) (hs : ev Γ s = some (.slice A n c)) (hx : ev Γ x = some xv)
  (hD : Del F (.res (Own sz e A n c rows)) G) (hi : tget T.tt t = some i) (hdesc : i.desc = .slice e) (hj : tget T.tt e = some j) (hsz : j.size = sz) (hzs : Nat.beq (zc j.zero).length sz = true)
  (hsrc : SrcP P sz xv m news w) (hnews : news'.flatten = news) (hn' : news'.length = m) (hrow : ∀ r ∈ news', r.length = sz ∧ ∀ u ∈ r, u.oneCell' = true)
  (hlen : n + m ≤ maxLen) (hbytes : (n + m) * j.bytes ≤ 140737488355328) (hi2 : tget T.tt t2 = some i2) (hd2 : notInt i2.desc = true)
  (k : ∀ A' c', St w0 nt ((d, .slice A' (n + m) c') :: Γ) (.res (Own sz e A' (n + m) c' (rows ++ news')) :: G) (wpList P ops Q rest)) :
  wpList P ops Q (⟨some d, .call { callee := .builtin .append, args := #[s, x], argTypes := #[t, t2] }, ty, pos, af, none⟩ :: rest) a w :=
 wpList_plain rfl fun K hK => by
  obtain ⟨dd, hu, hdd⟩ := T.ok.desc hi
  obtain ⟨d2, hu2, hdd2⟩ := T.ok.desc hi2
  have hinf := (T.ok.get hj).2.1
  cases hi' : P.info? e with
  | none => simp [hi'] at hinf
  | some info =>
   simp [hi'] at hinf
   have hz : j.zero.cells.size = sz := by rw [← zc_eq]; simpa using Nat.eq_of_beq_eq_true hzs
   obtain ⟨A', c', w', hr, hwr, hown, hbl⟩ := run_append (P := P) (ty := ty) (TD.of_slice (hdd.trans hdesc) ▸ hu) hi' (hinf.1.trans hsz) hinf.2.1 hinf.2.2 hz (hf.del_own hD) rfl hsrc hlen hbytes news' hnews hn' hrow
   unfold Oper.wp
   have hr2 : (execOp a.eval ⟨some d, .call { callee := .builtin .append, args := #[s, x], argTypes := #[t, t2] }, ty, pos, af, none⟩).run P w = .ok (.value (.slice A' (n + m) c')) w' := by
    simp [execOp, resolve, invoke, builtin, ha.eval hs, ha.eval hx, append_ty (P := P) (TD.of_slice (hdd.trans hdesc) ▸ hu) hu2 (hdd2 ▸ hd2), hr]
   rw [hr2]
   refine hK _ _ (k A' c' _ _ (by simp [Act.put, hs']) hdf (ha.put (hs' ▸ Nat.le_of_ble_eq_true hd)) ((hf.front hD).exchange hwr ?_ hbl hown) (hw.trans hwr.toSame))
   exact blkOf_nodup A' c'
theorem St.append {t t2 e sz m c n : Nat} {i i2 j : TI} {s x : Operand} {A : Option Addr} {xv : Value} {rows : List (List Value)} {news : List Value} (news' : List (List Value)) (hd : Nat.blt d nt = true) (hs : ev Γ s = some (.slice A n c)) (hx : ev Γ x = some xv)
  (hD : Del F (.res (Own sz e A n c rows)) G) (hi : tget T.tt t = some i) (hdesc : i.desc = .slice e) (hj : tget T.tt e = some j) (hsz : j.size = sz) (hzs : Nat.beq (zc j.zero).length sz = true)
  (hsrc : ∀ w, Sat F w → SrcP P sz xv m news w) (hnews : news'.flatten = news) (hn' : news'.length = m) (hrow : ∀ r ∈ news', r.length = sz ∧ ∀ u ∈ r, u.oneCell' = true)
  (hlen : n + m ≤ maxLen) (hbytes : (n + m) * j.bytes ≤ 140737488355328) (hi2 : tget T.tt t2 = some i2) (hd2 : notInt i2.desc = true)
  (k : ∀ A' c', St w0 nt ((d, .slice A' (n + m) c') :: Γ) (.res (Own sz e A' (n + m) c' (rows ++ news')) :: G) (wpList P ops Q rest)) :
  St w0 nt Γ F (wpList P ops Q (⟨some d, .call { callee := .builtin .append, args := #[s, x], argTypes := #[t, t2] }, ty, pos, af, none⟩ :: rest)) :=
 fun _ w hs' hdf ha hf hw => append_at news' hs' hdf ha hf hw hd hs hx hD hi hdesc hj hsz hzs (hsrc w hf) hnews hn' hrow hlen hbytes hi2 hd2 k
theorem src_box {g e sz m c : Nat} {cs : List Value} (hm : As.res (Box g e cs) ∈ F) (hl : cs.length = m * sz) (h1 : (cs.all fun u => u.oneCell') = true) : ∀ w, Sat F w → SrcP P sz (.slice (some ⟨g, 0, none⟩) m c) m cs w := by
 intro w hf
 refine ⟨fun _ => rfl, hl, fun u hu => by simpa using List.all_eq_true.1 h1 u hu, fun w' hw' => run_firstCells_of hl fun j u hu => ?_⟩
 rw [add_zero_off]
 have := Box.cell (hf.res hm) hu
 simpa [World.cell?, hw'] using this
def RelsP {α : Type} (E : Cod α) (xs : List α) (rows : List (List Value)) (m : Hp) : Prop := rows.length = xs.length ∧ ∀ (j : Nat) (x : α) (r : List Value), xs[j]? = some x → rows[j]? = some r → E.rel m x r
def Rels {α : Type} (E : Cod α) (xs : List α) (rows : List (List Value)) : Ro := ⟨RelsP E xs rows, fun m m' h hp => ⟨hp.1, fun j x r h1 h2 => E.mono m m' x r h (hp.2 j x r h1 h2)⟩⟩
theorem choose_list {α β : Type} {R : Nat → α → β → Prop} : ∀ (xs : List α), (∀ (j : Nat) (x : α), xs[j]? = some x → ∃ r, R j x r) → ∃ rows : List β, rows.length = xs.length ∧ ∀ (j : Nat) (x : α) (r : β), xs[j]? = some x → rows[j]? = some r → R j x r
 | [], _ => ⟨[], rfl, fun j x r h _ => by simp at h⟩
 | x :: xs, h => by
  obtain ⟨r, hr⟩ := h 0 x rfl
  obtain ⟨rows, h1, h2⟩ := choose_list (R := fun j x r => R (j + 1) x r) xs fun j y hy => h (j + 1) y (by simpa using hy)
  refine ⟨r :: rows, by simp [h1], fun j y s hy hs => ?_⟩
  cases j with
  | zero => simp at hy hs; subst hy; subst hs; exact hr
  | succ j => exact h2 j y s (by simpa using hy) (by simpa using hs)
theorem rows_cells {sz b o : Nat} {m : Hp} : ∀ (rows : List (List Value)), (∀ r ∈ rows, r.length = sz) → (∀ (j : Nat) (r : List Value), rows[j]? = some r → ∀ i u, r[i]? = some u → cellm m b (o + j * sz + i) = some u) →
  ∀ i u, rows.flatten[i]? = some u → cellm m b (o + i) = some u
 | [], _, _, i, u, h => by simp at h
 | r :: rs, hl, hc, i, u, h => by
  simp only [List.flatten_cons] at h
  have hrl := hl r (by simp)
  by_cases hi : i < r.length
  ·rw [List.getElem?_append_left hi] at h
   simpa using hc 0 r rfl i u h
  ·rw [List.getElem?_append_right (by omega)] at h
   have := rows_cells (o := o + sz) rs (fun x hx => hl x (by simp [hx])) (fun j x hx k v hv => by
    have h2 := hc (j + 1) x (by simpa using hx) k v hv
    rw [← h2]
    congr 1
    rw [Nat.add_mul]
    omega) _ u h
   rw [← this]
   congr 1
   omega
theorem SlP.rows {α : Type} {E : Cod α} {A : Option Addr} {c : Nat} {xs : List α} {m : Hp} (h : SlP E A c xs m) : ∃ rows : List (List Value), RelsP E xs rows m ∧
  (∀ r ∈ rows, r.length = E.n ∧ ∀ u ∈ r, u.oneCell' = true) ∧ ∀ ad, A = some ad → xs ≠ [] → ad.spot = none ∧ ∀ i u, rows.flatten[i]? = some u → cellm m ad.block (ad.off + i) = some u := by
 cases A with
 | none =>
  have := h.2.2.1 rfl
  subst this
  exact ⟨[], ⟨rfl, fun j x r h => by simp at h⟩, by simp, fun ad h => by cases h⟩
 | some ad =>
  obtain ⟨rows, h1, h2⟩ := choose_list (R := fun j x cs => ad.spot = none ∧ E.rel m x cs ∧ ∀ i u, cs[i]? = some u → cellm m ad.block (ad.off + j * E.n + i) = some u) xs fun j x hx => by
   obtain ⟨g1, cs, g2, g3⟩ := h.2.2.2 ad rfl j x hx
   exact ⟨cs, g1, g2, g3⟩
  have hr : ∀ r ∈ rows, ∃ j x, xs[j]? = some x ∧ rows[j]? = some r := fun r hr => by
   obtain ⟨j, hj⟩ := List.getElem?_of_mem hr
   have hjl := (List.getElem?_eq_some_iff.1 hj).1
   exact ⟨j, xs[j]'(by omega), List.getElem?_eq_getElem (by omega), hj⟩
  refine ⟨rows, ⟨h1, fun j x r hx hr => (h2 j x r hx hr).2.1⟩, fun r hrm => ?_, fun ad' had hne => ?_⟩
  ·obtain ⟨j, x, hx, hj⟩ := hr r hrm
   have := (h2 j x r hx hj).2.1
   exact ⟨E.len _ _ _ this, E.one _ _ _ this⟩
  ·injection had with had
   subst had
   constructor
   ·cases xs with
    | nil => exact absurd rfl hne
    | cons x xs =>
     cases rows with
     | nil => simp at h1
     | cons r rows => exact (h2 0 x r rfl rfl).1
   ·refine rows_cells (sz := E.n) rows (fun r hrm => ?_) fun j r hj i u hu => ?_
    ·obtain ⟨j, x, hx, hj⟩ := hr r hrm
     exact E.len _ _ _ (h2 j x r hx hj).2.1
    ·have hjl := (List.getElem?_eq_some_iff.1 hj).1
     exact (h2 j (xs[j]'(by omega)) r (List.getElem?_eq_getElem (by omega)) hj).2.2 i u hu
theorem SlP.src {α : Type} {E : Cod α} {A : Option Addr} {c : Nat} {xs : List α} {w : World} {rows : List (List Value)} (hr : ∀ r ∈ rows, r.length = E.n ∧ ∀ u ∈ r, u.oneCell' = true) (hl : rows.length = xs.length)
  (hA : A = none → xs = []) (hc : ∀ ad, A = some ad → xs ≠ [] → ad.spot = none ∧ ∀ i u, rows.flatten[i]? = some u → cellm (hp w) ad.block (ad.off + i) = some u) : SrcP P E.n (.slice A xs.length c) xs.length rows.flatten w := by
 have hfl : rows.flatten.length = xs.length * E.n := by rw [length_flatten_rows hr, hl]
 refine ⟨fun _ => rfl, hfl, fun u hu => ?_, fun w' hw' => ?_⟩
 ·obtain ⟨r, hrm, hur⟩ := List.mem_flatten.1 hu
  exact (hr r hrm).2 u hur
 ·cases A with
  | none =>
   have := hA rfl
   subst this
   have : rows = [] := List.eq_nil_of_length_eq_zero (by simpa using hl)
   subst this
   rfl
  | some ad =>
   refine run_firstCells_of hfl fun j u hu => ?_
   have hne : xs ≠ [] := fun h => by
    subst h
    have : rows = [] := List.eq_nil_of_length_eq_zero (by simpa using hl)
    subst this
    simp at hu
   obtain ⟨hsp, hcell⟩ := hc ad rfl hne
   have := hcell j u hu
   rw [cellm_hp] at this
   have hadd : ad.add j = ⟨ad.block, ad.off + j, none⟩ := by unfold Addr.add; split <;> (cases ad; simp_all)
   rw [hadd]
   simpa [World.cell?, hw'] using this
theorem src_sl {α : Type} {sz : Nat} {enc : α → List Value} {hlen : ∀ x, (enc x).length = sz} {hone : ∀ x, ∀ u ∈ enc x, u.oneCell' = true} {A : Option Addr} {c : Nat} {xs : List α} (hm : As.ro (Sl (Cod.flat sz enc hlen hone) A c xs) ∈ F) :
  ∀ w, Sat F w → SrcP P sz (.slice A xs.length c) xs.length (xs.map enc).flatten w := by
 intro w hf
 have h : SlP (Cod.flat sz enc hlen hone) A c xs (hp w) := hf.ro_hp hm
 obtain ⟨rows, h1, h2, h3⟩ := h.rows
 have : rows = xs.map enc := by
  apply List.ext_getElem (by simp [h1.1])
  intro j hj hj'
  simp only [List.length_map] at hj'
  have e : rows[j] = enc xs[j] := h1.2 j xs[j] rows[j] (List.getElem?_eq_getElem _) (List.getElem?_eq_getElem _)
  simpa using e
 subst this
 exact SlP.src (E := Cod.flat sz enc hlen hone) h2 (by simp) h.2.2.1 h3
end
end Go.Proofs.YtelepclajhpnfaaGreatDoor
