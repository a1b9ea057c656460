/-
  The core: slices.Sort of ints by the shelf's contract; an append that keeps the old slice.
  Conditions: none.
-/
import Derived.Test.YteaoblglgcpdnaaCoreT
import Derived.Shelf.Sort.Plain
namespace Go.Proofs.Yteaoblglgcpdnaa
open Go
set_option linter.unusedSectionVars false
set_option linter.unusedVariables false
set_option linter.unusedSimpArgs false

def sortM (xs : List Int) : Option (List Int) := if 0 < xs.length ∧ xs.length < 4611686018427387904 then some (xs.mergeSort fun x y => decide (x ≤ y)) else none

theorem sort_fun {P : Program} {ρ : Shelf.Ren} (L : Lays.n189 P ρ) {e c : Nat} {A : Option Addr} {xs ys : List Int} (h : sortM xs = some ys) :
    Fun P (ρ.f 189) [.slice A xs.length c] [.res (OwnL ei64 e A c xs)] (fun v F' => v = .tuple #[] ∧ F' = [.res (OwnL ei64 e A c ys)]) := by
  unfold sortM at h
  split at h
  · rename_i hlen
    injection h with h
    subst h
    intro w R hs
    have hO : OwnP 1 e A xs.length c (xs.map ei64.enc) (hp w) := hs.res (r := OwnL ei64 e A c xs) (List.mem_cons_self ..)
    rcases hO.2.2 with ⟨h0, _⟩ | ⟨g, cur, fr, hpos, rfl, hg, hsz, hn, hc, ht, hfr⟩
    · omega
    · have hg' : w.heap[g]? = some (.cells cur e fr) := hg
      have hgl := (Array.getElem?_eq_some_iff.1 hg').1
      have hfl : ∀ zs : List Int, (zs.map ei64.enc).flatten = zs.map (Value.int .i64) := fun zs => by
        induction zs with
        | nil => rfl
        | cons z zs ih => simp only [List.map_cons, List.flatten_cons, ih]; rfl
      rw [hfl, Nat.mul_one] at ht
      rw [Nat.mul_one] at hsz
      have hcell : ∀ j, j < xs.length → cur[j]? = some (Value.int .i64 xs.toArray[j]!) := fun j hj => by
        have : (cur.toList.take xs.length)[j]? = (xs.map (Value.int .i64))[j]? := by rw [ht]
        rw [List.getElem?_take, if_pos hj] at this
        simp only [Array.getElem?_toList, List.getElem?_map] at this
        rw [this]
        simp [hj]
      have hH : Sort.Holds (Value.int .i64) w g 0 xs.toArray := by
        intro j hj
        have hj' : j < xs.length := by simpa using hj
        refine ⟨?_, ?_⟩
        · simp only [World.cell?, hg', Nat.zero_add]
          exact hcell j hj'
        · have := hfr j (by omega)
          simp only [World.frozen?, hg', Nat.zero_add]
          simpa using this
      refine (Any.slices_Sort_int L g 0 c xs w hH hgl hlen.2).mono ?_
      rintro e' w' ⟨rfl, n, os, rfl⟩
      have hperm : (xs.mergeSort fun x y => decide (x ≤ y)).length = xs.length := by simp
      generalize hys : (xs.mergeSort fun x y => decide (x ≤ y)) = ys at hperm
      have hblk : (Sort.grow (Sort.putRow (Value.int .i64) (Sort.ahead w n) g 0 ys.toArray) os).heap[g]? = some (.cells (Sort.putCells (Value.int .i64) 0 ys.toArray cur) e fr) := by
        rw [Sort.heap_grow_old _ _ (by simpa using hgl)]
        simp only [Sort.putRow, Sort.mapBlock, Sort.ahead]
        rw [Array.getElem?_modify, if_pos rfl, hg']
        rfl
      refine ⟨_, _, rfl, ⟨rfl, rfl⟩, ?_, ?_⟩
      · refine Sat.exchange (r := OwnL ei64 e (some ⟨g, 0, none⟩) c xs) hs ?_ (blkOf_nodup _ _) ?_ ?_
        · have hb : (OwnL ei64 e (some ⟨g, 0, none⟩) c xs).gs = [g] := blkOf_some hpos
          rw [hb]
          refine ⟨⟨rfl, rfl, rfl, by simp⟩, fun k hk hn => ?_⟩
          simp only [List.mem_singleton] at hn
          rw [Sort.heap_grow_old _ _ (by simpa using hk)]
          simp only [Sort.putRow, Sort.mapBlock, Sort.ahead]
          rw [Array.getElem?_modify, if_neg (fun h => hn h.symm)]
        · intro k hk
          refine ⟨?_, .inl hk⟩
          obtain ⟨_, a, ha, hk⟩ := mem_blkOf.1 hk
          injection ha with ha
          subst ha
          subst hk
          simp
          omega
        · refine ⟨by simp, rows_ok ei64.len ei64.one ys, .inr ⟨g, _, fr, hpos, rfl, hblk, ?_, by omega, hc, ?_, ?_⟩⟩
          · simp [Sort.putCells, hsz]; exact (Nat.mul_one c).symm
          · rw [hfl]
            show ((Sort.putCells (Value.int .i64) 0 ys.toArray cur).toList.take (ys.length * 1)) = _
            rw [Nat.mul_one]
            apply List.ext_getElem?
            intro i
            rw [List.getElem?_take]
            by_cases hi : i < ys.length
            · have hic : i < cur.size := by omega
              simp [Sort.putCells, hi, hic]
            · rw [if_neg hi, List.getElem?_eq_none (by simpa using hi)]
          · intro i hi
            exact hfr i (by simpa [Sort.putCells] using hi)
      · exact ⟨rfl, rfl, rfl, by simp⟩
  · cases h

section
variable {P : Program} [T : HasTT P] {w0 : World} {nt : Nat} {Γ Γ' : Env} {F F' G R : List As} {Q : Exit → Act → World → Prop} {ops : Array Oper} {rest : List Oper}
variable {d : Nat} {op : Op} {ty : Nat} {pos : String} {af : Array Edge}

/-- The beginning of a slice of one's own. -/
theorem Sat.shrink {α : Type} {E : Enc α} {e c : Nat} {A : Option Addr} {xs ys : List α} {w : World} (h : Sat (.res (OwnL E e A c (xs ++ ys)) :: F) w) : Sat (.res (OwnL E e A c xs) :: F) w := by
  have hO : OwnP E.sz e A (xs ++ ys).length c ((xs ++ ys).map E.enc) (hp w) := h.res (r := OwnL E e A c (xs ++ ys)) (List.mem_cons_self ..)
  refine Sat.exchange (r := OwnL E e A c (xs ++ ys)) h (Wrote.of_ext (Ext.refl w)) (blkOf_nodup _ _) (fun k hk => ⟨h.lt (mem_blocks.2 ⟨_, List.mem_cons_self .., hk⟩), .inl hk⟩) ?_
  refine ⟨by simp, rows_ok E.len E.one xs, ?_⟩
  rcases hO.2.2 with ⟨h0, hc⟩ | ⟨g, cur, fr, hpos, hA, hg, hsz, hn, hc, ht, hfr⟩
  · simp at h0
    exact .inl ⟨by simp [h0.1], hc⟩
  · refine .inr ⟨g, cur, fr, hpos, hA, hg, hsz, by simp at hn; omega, hc, ?_, hfr⟩
    have hl : (xs.map E.enc).flatten.length = xs.length * E.sz := flat_length E xs
    have : (cur.toList.take ((xs ++ ys).length * E.sz)).take (xs.length * E.sz) = (((xs ++ ys).map E.enc).flatten).take (xs.length * E.sz) := by rw [ht]
    rw [List.take_take, Nat.min_eq_left (by simp [Nat.add_mul])] at this
    rw [this, List.map_append, List.flatten_append, ← hl, List.take_left]

/-- append onto a slice of one's own that is kept: it is written behind its end, or copied. -/
theorem St.appK {α : Type} {E : Enc α} {t t2 e m c n : Nat} {i i2 j : TI} {s x : Operand} {A : Option Addr} {xv : Value} {b : Nat} {xs ys zs : List α} (hz : Go.Proofs.Yteaoblglgcpdnaa.app b xs ys = some zs) (hd : Nat.blt d nt = true) (hs : ev Γ s = some (.slice A n c)) (hx : ev Γ x = some xv)
    (hD : Del F (.res (OwnL E e A c xs)) G) (hlen : n = xs.length) (hi : tget T.tt t = some i) (hdesc : i.desc = .slice e) (hj : tget T.tt e = some j) (hsz : j.size = E.sz) (hby : j.bytes = b) (hzs : Nat.beq (zc j.zero).length E.sz = true)
    (hm : m = ys.length) (hsrc : ∀ w, Sat F w → SrcP P E.sz xv m (ys.map E.enc).flatten w) (hi2 : tget T.tt t2 = some i2) (hd2 : notInt i2.desc = true)
    (k1 : St w0 nt ((d, .slice A zs.length c) :: Γ) (.res (OwnL E e A c zs) :: G) (wpList P ops Q rest))
    (k2 : ∀ A' c', St w0 nt ((d, .slice A' zs.length c') :: Γ) (.res (OwnL E e A' c' zs) :: .res (OwnL E e A c xs) :: G) (wpList P ops Q rest)) :
    St w0 nt Γ F (wpList P ops Q (⟨some d, .call { callee := .builtin .append, args := #[s, x], argTypes := #[t, t2] }, ty, pos, af, none⟩ :: rest)) := by
  obtain ⟨rfl, hb2, hb3⟩ := app_some hz
  subst hlen; subst hm; subst hby
  intro a w hs' hdf ha hf hw
  refine wpList_plain rfl fun K hK => ?_
  obtain ⟨dd, hu, hdd⟩ := T.ok.desc hi
  obtain ⟨d2, hu2, hdd2⟩ := T.ok.desc hi2
  have hinf := (T.ok.get hj).2.1
  cases hi' : P.info? e with
  | none => simp [hi'] at hinf
  | some info =>
    simp [hi'] at hinf
    have hzz : j.zero.cells.size = E.sz := by rw [← zc_eq]; simpa using Nat.eq_of_beq_eq_true hzs
    have hf' := hf.front hD
    have hO : OwnP E.sz e A xs.length c (xs.map E.enc) (hp w) := hf.del_own hD
    obtain ⟨A', c', w', hr, hwr, hown, hbl, hcase⟩ := run_append' (P := P) (ty := ty) (TD.of_slice (hdd.trans hdesc) ▸ hu) hi' (hinf.1.trans hsz) hinf.2.1 hinf.2.2 hzz hO rfl (hsrc w hf) (by simpa [maxLen] using hb3) hb2 (ys.map E.enc) rfl (by simp) (rows_ok E.len E.one ys)
    unfold Oper.wp
    have hr2 : (execOp a.eval ⟨some d, .call { callee := .builtin .append, args := #[s, x], argTypes := #[t, t2] }, ty, pos, af, none⟩).run P w = .ok (.value (.slice A' (xs.length + ys.length) c')) w' := by
      simp [execOp, resolve, invoke, builtin, ha.eval hs, ha.eval hx, append_ty (P := P) (TD.of_slice (hdd.trans hdesc) ▸ hu) hu2 (hdd2 ▸ hd2), hr]
    rw [hr2]
    have hown' : (OwnL E e A' c' (xs ++ ys)).p (hp w') := by
      show OwnP E.sz e A' (xs ++ ys).length c' ((xs ++ ys).map E.enc) (hp w')
      simpa using hown
    have hl : (Value.slice A' (xs.length + ys.length) c') = .slice A' (xs ++ ys).length c' := by simp
    rw [hl]
    rcases hcase with ⟨rfl, rfl⟩ | ⟨hext, hnew⟩
    · exact hK _ _ (k1 _ _ (by simp [Act.put, hs']) hdf (ha.put (hs' ▸ Nat.le_of_ble_eq_true hd)) (hf'.exchange hwr (blkOf_nodup _ _) hbl hown') (hw.trans hwr.toSame))
    · exact hK _ _ (k2 A' c' _ _ (by simp [Act.put, hs']) hdf (ha.put (hs' ▸ Nat.le_of_ble_eq_true hd)) (hf'.add_res hext _ (blkOf_nodup _ _) (fun k hk => ⟨hnew k hk, (hbl k hk).1⟩) hown') (hw.trans hwr.toSame))
end
end Go.Proofs.Yteaoblglgcpdnaa
