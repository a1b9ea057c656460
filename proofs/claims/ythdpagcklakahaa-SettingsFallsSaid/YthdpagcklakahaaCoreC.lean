/-
  The core: the builtin copy into a slice of one's own, or a part of one.
  Conditions: none.
-/
import Derived.Test.YthdpagcklakahaaCoreP
namespace Go.Proofs.Ythdpagcklakahaa
open Go
set_option linter.unusedSectionVars false
set_option linter.unusedVariables false
set_option linter.unusedSimpArgs false

/-- What copy leaves: into xs from lo on, n elements of room. -/
def copyM {α : Type} (xs : List α) (lo n : Nat) (ys : List α) : Option (List α) := if lo + n ≤ xs.length then some (xs.take lo ++ ys.take n ++ xs.drop (lo + min ys.length n)) else none

theorem copyM_e {α : Type} {xs ys zs : List α} {lo n : Nat} (h : copyM xs lo n ys = some zs) : lo + n ≤ xs.length ∧ zs = xs.take lo ++ ys.take (min ys.length n) ++ xs.drop (lo + min ys.length n) := by
  unfold copyM at h
  split at h
  · rename_i hh
    injection h with h
    refine ⟨hh, ?_⟩
    rw [← h]
    congr 2
    rcases Nat.le_total ys.length n with h1 | h1
    · rw [Nat.min_eq_left h1, List.take_of_length_le h1, List.take_of_length_le (Nat.le_refl _)]
    · rw [Nat.min_eq_right h1]
  · cases h
theorem copyM_len {α : Type} {xs ys zs : List α} {lo n : Nat} (h : copyM xs lo n ys = some zs) : zs.length = xs.length := by
  obtain ⟨h1, rfl⟩ := copyM_e h
  simp only [List.length_append, List.length_take, List.length_drop]
  omega

theorem copyM_sl {α : Type} {xs ys zs : List α} {lo n : Nat} {A : Option Addr} {c : Nat} (h : copyM xs lo n ys = some zs) : some (Value.slice A xs.length c) = some (Value.slice A zs.length c) := by rw [copyM_len h]

theorem SlP.take {α : Type} {E : Cod α} {A : Option Addr} {c : Nat} {xs : List α} {m : Hp} (h : SlP E A c xs m) (k : Nat) : SlP E A c (xs.take k) m := by
  refine ⟨?_, h.2.1, fun hA => by rw [h.2.2.1 hA]; simp, fun ad hA j x hx => h.2.2.2 ad hA j x ?_⟩
  · have := h.1; simp only [List.length_take]; omega
  · rw [List.getElem?_take] at hx
    split at hx
    · exact hx
    · cases hx

theorem SlP.cells {α : Type} {E : Enc α} {A : Option Addr} {c : Nat} {xs : List α} {P : Program} [HasTT P] {w : World} (h : SlP (cod E) A c xs (hp w)) : SrcP P E.sz (.slice A xs.length c) xs.length (xs.map E.enc).flatten w := by
  obtain ⟨rows, h1, h2, h3⟩ := h.rows
  have : rows = xs.map E.enc := by
    apply List.ext_getElem (by simp [h1.1])
    intro j hj hj'
    simp only [List.length_map] at hj'
    have e : rows[j] = E.enc xs[j] := h1.2 j xs[j] rows[j] (List.getElem?_eq_getElem _) (List.getElem?_eq_getElem _)
    simpa using e
  subst this
  exact SlP.src (E := cod E) h2 (by simp) h.2.2.1 h3

theorem SlP.first {α : Type} {E : Enc α} {A : Option Addr} {c n : Nat} {xs : List α} {P : Program} [HasTT P] {w : World} (h : SlP (cod E) A c xs (hp w)) (k : Nat) (hk : k ≤ xs.length) : (Builtin.firstCells E.sz k (.slice A n c)).run P w = .ok ((xs.take k).map E.enc).flatten.toArray w := by
  have h1 := (SlP.cells (P := P) (h.take k)).2.2.2 w rfl
  have : (xs.take k).length = k := by simp; omega
  rw [this] at h1
  cases A <;> exact h1

section
variable {P : Program} [T : HasTT P] {w0 : World} {nt : Nat} {Γ Γ' : Env} {F F' G R : List As} {Q : Exit → Act → World → Prop} {ops : Array Oper} {rest : List Oper}
variable {d : Nat} {op : Op} {ty : Nat} {pos : String} {af : Array Edge} {X : List Oper → Act → World → Prop} {Post : Value → List As → Prop}

theorem flat_take {α : Type} (E : Enc α) : ∀ (xs : List α) (k : Nat), (xs.map E.enc).flatten.take (k * E.sz) = ((xs.take k).map E.enc).flatten
  | [], k => by simp
  | x :: xs, 0 => by simp
  | x :: xs, k + 1 => by
    have := flat_take E xs k
    have hl := E.len x
    simp only [List.map_cons, List.flatten_cons, List.take_succ_cons]
    rw [Nat.add_mul, Nat.one_mul, Nat.add_comm, List.take_append, hl, Nat.add_sub_cancel_left, this, List.take_of_length_le (by omega)]
theorem flat_drop {α : Type} (E : Enc α) : ∀ (xs : List α) (k : Nat), (xs.map E.enc).flatten.drop (k * E.sz) = ((xs.drop k).map E.enc).flatten
  | [], k => by simp
  | x :: xs, 0 => by simp
  | x :: xs, k + 1 => by
    have := flat_drop E xs k
    have hl := E.len x
    simp only [List.map_cons, List.flatten_cons, List.drop_succ_cons]
    rw [Nat.add_mul, Nat.one_mul, Nat.add_comm, List.drop_append, hl, Nat.add_sub_cancel_left, this, List.drop_eq_nil_of_le (by omega), List.nil_append]

/-- copy: k elements go into xs from lo on. -/
theorem St.copyG {α : Type} {E : Enc α} {t t2 e e' lo n c cd m cs : Nat} {i j : TI} {x y : Operand} {A B S : Option Addr} {xs ys zs : List α} (hz : copyM xs lo n ys = some zs) (hd : Nat.blt d nt = true) (hx : ev Γ x = some (.slice B n cd)) (hy : ev Γ y = some (.slice S m cs)) (hm : m = ys.length)
    (hB : ∀ ad, A = some ad → 0 < n → lo < c → B = some (ad.add (lo * E.sz))) (hD : Del F (.res (OwnL E e' A c xs)) G) (hsrc : ∀ w, Sat F w → SlP (cod E) S cs ys (hp w)) (hi : tget T.tt t = some i) (hdesc : i.desc = .slice e) (hj : tget T.tt e = some j) (hn : j.size = E.sz)
    (k : St w0 nt ((d, .int .i64 ((min ys.length n : Nat) : Int)) :: Γ) (.res (OwnL E e' A c zs) :: G) (wpList P ops Q rest)) :
    St w0 nt Γ F (wpList P ops Q (⟨some d, .call { callee := .builtin .copy, args := #[x, y], argTypes := #[t, t2] }, ty, pos, af, none⟩ :: rest)) :=
  fun a w hs hdf ha hf hw => wpList_plain rfl fun K hK => by
    obtain ⟨hle, rfl⟩ := copyM_e hz
    subst hm
    have hf' := hf.front hD
    have hown : OwnP E.sz e' A xs.length c (xs.map E.enc) (hp w) := hf.del_own hD
    obtain ⟨dd, hu, hdd⟩ := T.ok.desc hi
    have hu' := hu.trans (congrArg some (TD.of_slice (hdd.trans hdesc)))
    have hsz := run_sizeOf_tt T.ok hj
    have hfc := (hsrc w hf).first (P := P) (n := ys.length) (min ys.length n) (by omega)
    have hnm : Nat.min ys.length n = min ys.length n := rfl
    have hbk : ∀ g, A = some ⟨g, 0, none⟩ → 0 < c → [g] = (OwnL E e' A c xs).gs := fun g hA hc => by subst hA; exact (blkOf_some hc).symm
    have go : ∃ w', (execOp a.eval ⟨some d, .call { callee := .builtin .copy, args := #[x, y], argTypes := #[t, t2] }, ty, pos, af, none⟩).run P w = .ok (.value (.int .i64 ((min ys.length n : Nat) : Int))) w' ∧ Same w w' ∧ Sat (.res (OwnL E e' A c (xs.take lo ++ ys.take (min ys.length n) ++ xs.drop (lo + min ys.length n))) :: G) w' := by
      by_cases hk0 : min ys.length n = 0
      · refine ⟨w, ?_, Same.refl w, ?_⟩
        · rw [hk0] at hfc
          cases B with
          | none => simp [execOp, resolve, invoke, builtin, Builtin.copy_, ha.eval hx, ha.eval hy, run_underlying hu', Builtin.lenOf, hsz, hn, hnm, hk0, hfc, goInt]
          | some b => simp [execOp, resolve, invoke, builtin, Builtin.copy_, ha.eval hx, ha.eval hy, run_underlying hu', Builtin.lenOf, hsz, hn, hnm, hk0, hfc, goInt, storeCells]
        · rw [hk0]
          simpa using hf'
      · obtain ⟨o1, o2, o3⟩ := hown
        rcases o3 with ⟨h, _⟩ | ⟨g, cur, fr, hpos, hA, hg, hcs, hnc, hc, htk, hfz⟩
        · omega
        have hBs := hB _ hA (by omega) (by omega)
        rw [add_zero_off] at hBs
        subst hBs
        have hbox : (Box g e' cur.toList).p (hp w) := ⟨_, hg, fr, by simp, fun i hi => hfz i (by simpa using hi)⟩
        have hvl : ((ys.take (min ys.length n)).map E.enc).flatten.length = min ys.length n * E.sz := by
          rw [flat_length]; simp
        have hroom : lo * E.sz + min ys.length n * E.sz ≤ xs.length * E.sz := by
          rw [← Nat.add_mul]; exact Nat.mul_le_mul_right _ (by omega)
        have hroom2 : xs.length * E.sz ≤ c * E.sz := Nat.mul_le_mul_right _ hnc
        obtain ⟨w', hrr, hwr, hb⟩ := setCells_blk (P := P) ((ys.take (min ys.length n)).map E.enc).flatten cur.toList (lo * E.sz) 0 w hbox (by simp only [Array.length_toList, hcs, hvl]; omega) (flat_one E _)
        have hbk := hbk g hA hpos
        have hrr' := hrr
        rw [List.map_take] at hrr'
        refine ⟨w', ?_, hwr.toSame, hf'.exchange (hbk ▸ hwr) (blkOf_nodup _ _) (fun j hj => ?_) ?_⟩
        · simp [execOp, resolve, invoke, builtin, Builtin.copy_, ha.eval hx, ha.eval hy, run_underlying hu', Builtin.lenOf, hsz, hn, hnm, hfc, goInt, hrr']
        · exact ⟨Nat.lt_of_lt_of_le (hf'.lt (by simp only [blocks, As.gs, List.mem_append]; exact .inl hj)) hwr.size, .inl hj⟩
        · have hlen : (xs.take lo ++ ys.take (min ys.length n) ++ xs.drop (lo + min ys.length n)).length = xs.length := by
            simp only [List.length_append, List.length_take, List.length_drop]; omega
          obtain ⟨o, ho, fr', rfl, hfz'⟩ := hb
          refine ⟨by simp, rows_ok E.len E.one _, .inr ⟨g, _, fr', hpos, hA, ho, ?_, by omega, hc, ?_, fun i hi => hfz' i (by simpa using hi)⟩⟩
          · simp only [List.size_toArray, List.length_append, List.length_take, List.length_drop, Array.length_toList, hcs, hvl]
            omega
          · rw [hlen]
            have hcur : cur.toList.take (xs.length * E.sz) = (xs.map E.enc).flatten := htk
            have hcl : cur.toList.length = c * E.sz := by simp [hcs]
            simp only [List.map_append, List.flatten_append, Nat.add_zero]
            rw [← flat_take E xs lo, ← flat_drop E xs, ← hcur, hvl, Nat.add_mul]
            generalize hvs : ((ys.take (min ys.length n)).map E.enc).flatten = vs at hvl ⊢
            generalize hP : lo * E.sz = p at *
            generalize hKK : min ys.length n * E.sz = q at *
            generalize hX : xs.length * E.sz = X at *
            apply List.ext_getElem?
            intro z
            simp only [List.getElem?_take, List.getElem?_append, List.length_append, List.length_take, List.length_drop, List.getElem?_drop, hcl, hvl]
            have e1 : min p (c * E.sz) = p := by omega
            have e2 : min p (min X (c * E.sz)) = p := by omega
            rw [e1, e2]
            by_cases c1 : z < p
            · simp only [c1, show z < X by omega, show z < p + q by omega, if_true]
            · by_cases c2 : z < p + q
              · simp only [c1, c2, show z < X by omega, if_true, if_false]
              · by_cases c3 : z < X
                · simp only [c1, c2, c3, if_true, if_false]
                  rw [if_pos (by omega)]
                · simp only [c1, c2, c3, if_false]
                  rw [if_neg (by omega)]
    obtain ⟨w', hrun, hsame, hsat⟩ := go
    unfold Oper.wp
    rw [hrun]
    exact hK _ _ (k _ _ (by simp [Act.put, hs]) hdf (ha.put (hs ▸ Nat.le_of_ble_eq_true hd)) hsat (hw.trans hsame))

theorem copy_whole {A : Option Addr} {n c sz : Nat} (h0 : ∀ ad, A = some ad → ad.add 0 = ad) : ∀ ad, A = some ad → 0 < n → 0 < c → A = some (ad.add (0 * sz)) := fun ad hA _ _ => by rw [Nat.zero_mul, h0 ad hA]; exact hA
theorem copy_part {A AE : Option Addr} {n c cc lo sz : Nat} (hp : PartOk AE cc A c lo sz) : ∀ ad, A = some ad → 0 < n → lo < c → AE = some (ad.add (lo * sz)) := fun ad hA _ hlt => by
  rw [hp.2 hlt, hA]
  rfl

/-- .. into the whole of a slice. -/
theorem St.copyW {α : Type} {E : Enc α} {t t2 e e' n c m cs : Nat} {i j : TI} {x y : Operand} {A S : Option Addr} {xs ys zs : List α} (hz : copyM xs 0 xs.length ys = some zs) (hd : Nat.blt d nt = true) (hx : ev Γ x = some (.slice A n c)) (hy : ev Γ y = some (.slice S m cs)) (hm : m = ys.length) (hnx : n = xs.length)
    (hD : Del F (.res (OwnL E e' A c xs)) G) (hsrc : ∀ w, Sat F w → SlP (cod E) S cs ys (hp w)) (hi : tget T.tt t = some i) (hdesc : i.desc = .slice e) (hj : tget T.tt e = some j) (hn : j.size = E.sz)
    (k : St w0 nt ((d, .int .i64 ((min ys.length xs.length : Nat) : Int)) :: Γ) (.res (OwnL E e' A c zs) :: G) (wpList P ops Q rest)) :
    St w0 nt Γ F (wpList P ops Q (⟨some d, .call { callee := .builtin .copy, args := #[x, y], argTypes := #[t, t2] }, ty, pos, af, none⟩ :: rest)) := by
  subst hnx
  refine St.copyG hz hd hx hy hm (copy_whole fun ad hA => ?_) hD hsrc hi hdesc hj hn k
  unfold Addr.add
  simp

/-- .. into a part of one. -/
theorem St.copyP {α : Type} {E : Enc α} {t t2 e e' lo n c cc m cs : Nat} {i j : TI} {x y : Operand} {A AE S : Option Addr} {xs ys zs : List α} (hp : PartOk AE cc A c lo E.sz) (hz : copyM xs lo n ys = some zs) (hd : Nat.blt d nt = true) (hx : ev Γ x = some (.slice AE n cc)) (hy : ev Γ y = some (.slice S m cs)) (hm : m = ys.length)
    (hD : Del F (.res (OwnL E e' A c xs)) G) (hsrc : ∀ w, Sat F w → SlP (cod E) S cs ys (Go.Proofs.Ythdpagcklakahaa.hp w)) (hi : tget T.tt t = some i) (hdesc : i.desc = .slice e) (hj : tget T.tt e = some j) (hn : j.size = E.sz)
    (k : St w0 nt ((d, .int .i64 ((min ys.length n : Nat) : Int)) :: Γ) (.res (OwnL E e' A c zs) :: G) (wpList P ops Q rest)) :
    St w0 nt Γ F (wpList P ops Q (⟨some d, .call { callee := .builtin .copy, args := #[x, y], argTypes := #[t, t2] }, ty, pos, af, none⟩ :: rest)) :=
  St.copyG hz hd hx hy hm (copy_part hp) hD hsrc hi hdesc hj hn k

theorem csrc_sl {α : Type} {E : Enc α} {A : Option Addr} {c : Nat} {ys : List α} (hm : As.ro (SlL E A c ys) ∈ F) : ∀ w, Sat F w → SlP (cod E) A c ys (hp w) := fun w h => h.ro_hp hm
theorem csrc_part {α : Type} {E : Enc α} {A AE : Option Addr} {c cc e lo n : Nat} {xs ys : List α} (hp : PartOk AE cc A c lo E.sz) (hz : sub xs (lo : Int) ((lo + n : Nat) : Int) = some ys) (hm : As.res (OwnL E e A c xs) ∈ F) : ∀ w, Sat F w → SlP (cod E) AE cc ys (Go.Proofs.Ythdpagcklakahaa.hp w) := fun w h => slP_partL hp hz hm h
theorem part_n {α : Type} {xs ys : List α} {lo n : Nat} (hz : sub xs (lo : Int) ((lo + n : Nat) : Int) = some ys) : n = ys.length := by have := sub_len hz; omega

end
end Go.Proofs.Ythdpagcklakahaa
