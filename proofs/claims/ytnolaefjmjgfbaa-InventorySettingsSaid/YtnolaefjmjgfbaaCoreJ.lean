/-
  The core: a slice of one's own that lies in an element of a slice of one's own, and is written there.
  Conditions: none.
-/
import Derived.Test.YtnolaefjmjgfbaaCoreT
namespace Go.Proofs.Ytnolaefjmjgfbaa
open Go
set_option linter.unusedSectionVars false
set_option linter.unusedVariables false

/-- A slice of one's own whose elements have slices that stay, but for one of them. -/
def OwnH {α : Type} (ls : List (LC α)) (e : Nat) (A : Option Addr) (c : Nat) (xs : List α) (i : Int) (j : Nat) (u : Value) : Res where
  gs := blkOf A c
  p _ := True
  loc _ _ _ h := h
  q m z := ∃ rows, OwnP ls.length e A xs.length c (rows.set i.toNat ((rows.getD i.toNat []).set j u)) m ∧ RelsP (codL ls) xs rows z
  qloc m m' z z' hm hz h := by
    obtain ⟨rows, h1, h2⟩ := h
    exact ⟨rows, (Own ls.length e A xs.length c _).loc m m' hm h1, (Rels (codL ls) xs rows).mono _ _ hz h2⟩

section
variable {P : Program} [T : HasTT P] {w0 : World} {nt : Nat} {Γ Γ' : Env} {F F' G R : List As} {Q : Exit → Act → World → Prop} {ops : Array Oper} {rest : List Oper}
variable {d : Nat} {op : Op} {ty : Nat} {pos : String} {af : Array Edge} {X : List Oper → Act → World → Prop}

theorem Sat.openH {α : Type} {ls : List (LC α)} {e c j : Nat} {A : Option Addr} {xs : List α} {i : Int} {u : Value} {w : World} (h : Sat (.res (OwnH ls e A c xs i j u) :: F) w) :
    ∃ rows, RelsP (codL ls) xs rows (frz (blocks (.res (OwnH ls e A c xs i j u) :: F)) w) ∧ Sat (.res (Own ls.length e A xs.length c (rows.set i.toNat ((rows.getD i.toNat []).set j u))) :: F) w := by
  obtain ⟨rows, h1, h2⟩ := h.resq (r := OwnH ls e A c xs i j u) (List.mem_cons_self ..)
  refine ⟨rows, h2, h.nodup, fun x hx => ?_⟩
  cases hx with
  | head => exact ⟨(h.all _ (List.mem_cons_self ..)).1, h1, trivial⟩
  | tail _ hx => exact h.all _ (List.mem_cons_of_mem _ hx)

theorem Sat.closeH {α : Type} {ls : List (LC α)} {e c j : Nat} {A : Option Addr} {xs : List α} {i : Int} {u : Value} {rows : List (List Value)} {w : World}
    (h : Sat (.res (Own ls.length e A xs.length c (rows.set i.toNat ((rows.getD i.toNat []).set j u))) :: F) w) (hr : RelsP (codL ls) xs rows (frz (blocks (.res (Own ls.length e A xs.length c (rows.set i.toNat ((rows.getD i.toNat []).set j u))) :: F)) w)) :
    Sat (.res (OwnH ls e A c xs i j u) :: F) w := by
  refine ⟨h.nodup, fun x hx => ?_⟩
  cases hx with
  | head => exact ⟨(h.all _ (List.mem_cons_self ..)).1, trivial, rows, (h.all _ (List.mem_cons_self ..)).2.1, hr⟩
  | tail _ hx => exact h.all _ (List.mem_cons_of_mem _ hx)

theorem getD_of {rows : List (List Value)} {n : Nat} {row : List Value} (h : rows[n]? = some row) : rows.getD n [] = row := by simp [List.getD, h]

/-- The slice is put into the element. -/
theorem St.stH {α : Type} {ls : List (LC α)} {t e c g p : Nat} {x y : Operand} {q : Int} {u : α} (off : Nat) {i : TI} {xs : List α} {v : Value} (hu : elt xs q = some u) (hx : ev Γ x = some (.pointer (some ⟨g, p, none⟩))) (hy : ev Γ y = some v)
    (hD : Del F (.res (OwnC (codL ls) e (some ⟨g, 0, none⟩) c xs)) G) (hpp : p = q.toNat * ls.length + off) (hi : tget T.tt t = some i) (hsz : Nat.beq (zc v).length i.size = true) (h1 : ((zc v).all fun u => u.oneCell') = true)
    (hs : ∀ ex, spliceK (valsL u ls ex) off (zc v) some = some ((valsL u ls ex).set off v))
    (k : St w0 nt Γ (.res (OwnH ls e (some ⟨g, 0, none⟩) c xs q off v) :: G) (wpList P ops Q rest)) : St w0 nt Γ F (wpList P ops Q (⟨none, .store t x y, ty, pos, af, none⟩ :: rest)) :=
  fun a w hs' hdf ha hf hw => by
    obtain ⟨rows, hrel, hf2⟩ := (hf.front hD).openC
    obtain ⟨row, hr, hrow⟩ := rels_row hrel hu
    obtain ⟨ex, rfl, hex⟩ := openL hrow
    have hf4 : Sat (.ro (Rels (codL ls) xs rows) :: .res (Own (codL ls).n e (some ⟨g, 0, none⟩) xs.length c rows) :: G) w := hf2.add_ro (Rels (codL ls) xs rows) hrel
    refine St.storeO (F := .ro (Rels (codL ls) xs rows) :: .res (Own ls.length e (some ⟨g, 0, none⟩) xs.length c rows) :: G) (G := .ro (Rels (codL ls) xs rows) :: G) off hx hy (.s .z) hr hpp hi hsz h1 (hs ex) ?_ a w hs' hdf ha hf4 hw
    intro a2 w2 hs2 hdf2 ha2 hf5 hw2
    refine k a2 w2 hs2 hdf2 ha2 ?_ hw2
    rw [← getD_of hr] at hf5
    have hR := hf5.ro (r := Rels (codL ls) xs rows) (by simp)
    exact (Keep.k (Keep.d Keep.z)).sat (Sat.closeH hf5 hR)

/-- It is read there. -/
theorem Rd.ldH {α : Type} {ls : List (LC α)} {t e c g p : Nat} {x : Operand} {q : Int} {y : α} (off : Nat) {xs : List α} {v : Value} (hy : elt xs q = some y) (hx : ev Γ x = some (.pointer (some ⟨g, p, none⟩)))
    (hm : As.res (OwnH ls e (some ⟨g, 0, none⟩) c xs q off v) ∈ F) (hpp : p = q.toNat * ls.length + off) (hv : ∀ ex, ppart T.tt t ((valsL y ls ex).set off v) off = some v) : Rd P F Γ (.load t x) v :=
  fun a w d ty pos af gg ha hf => by
    obtain ⟨rows, hown, hrel⟩ := hf.resq hm
    obtain ⟨row, hr, hrow⟩ := rels_row hrel hy
    obtain ⟨ex, rfl, hex⟩ := openL hrow
    have hlt : q.toNat < rows.length := by
      rcases Nat.lt_or_ge q.toNat rows.length with h | h
      · exact h
      · rw [List.getElem?_eq_none h] at hr; cases hr
    have hr2 : (rows.set q.toNat ((rows.getD q.toNat []).set off v))[q.toNat]? = some ((valsL y ls ex).set off v) := by
      rw [getD_of hr, List.getElem?_set, if_pos rfl, if_pos hlt]
    exact run_load_op (P := P) (a := a) (x := x) (b := g) (o := q.toNat * ls.length) (off := off) T.ok (by rw [ha.eval hx, hpp]) (hv ex) (w := w) (fun i u hu => own_row_cells hown hr2 i u hu) _ _

/-- It stays there from now on. -/
theorem Sat.shutH {α : Type} {ls : List (LC α)} {e c j : Nat} {A : Option Addr} {xs zs : List α} {q : Int} {u : Value} {y u' : α} {w : World} (hy : elt xs q = some y) (hz : setE xs q u' = some zs) (ex' : ExL ls → ExL ls)
    (hs : ∀ ex, (valsL y ls ex).set j u = valsL u' ls (ex' ex)) (hin : ∀ ex, AllIn (factsL u' ls (ex' ex)) (factsL y ls ex ++ G)) (h : Sat (.res (OwnH ls e A c xs q j u) :: G) w) : Sat (.res (OwnC (codL ls) e A c zs) :: G) w := by
  obtain ⟨rows, hrel, h2⟩ := h.openH
  obtain ⟨row, hr, hrow⟩ := rels_row hrel hy
  obtain ⟨ex, rfl, hex⟩ := openL hrow
  rw [getD_of hr, hs ex] at h2
  have h3 : Sat (factsL y ls ex ++ (.res (Own ls.length e A xs.length c (rows.set q.toNat (valsL u' ls (ex' ex)))) :: G)) w := Sat.add_ros _ (factsL_ro ls ex) (fun r hr => hex r hr) h2
  have hb : blocks (factsL y ls ex ++ (.res (Own ls.length e A xs.length c (rows.set q.toNat (valsL u' ls (ex' ex)))) :: G)) = blocks (.res (Own ls.length e A xs.length c (rows.set q.toNat (valsL u' ls (ex' ex)))) :: G) := blocks_addro (factsL_ro ls ex)
  unfold setE at hz
  split at hz
  · injection hz with hz
    subst hz
    refine Sat.shutC (E := codL ls) h2 (by simp) ⟨by simp [hrel.1], fun i x r hx hr2 => ?_⟩
    rw [List.getElem?_set] at hx hr2
    by_cases hj : q.toNat = i
    · subst hj
      rw [if_pos rfl] at hx hr2
      split at hx
      · split at hr2
        · injection hx with hx
          injection hr2 with hr2
          subst hx
          subst hr2
          refine shutL (ex' ex) fun r hrm => ?_
          have hmem : As.ro r ∈ factsL y ls ex ++ (.res (Own ls.length e A xs.length c (rows.set q.toNat (valsL u' ls (ex' ex)))) :: G) := by
            rcases List.mem_append.1 ((hin ex).mem _ hrm) with hm | hm
            · exact List.mem_append_left _ hm
            · exact List.mem_append_right _ (List.mem_cons_of_mem _ hm)
          have hh := h3.ro hmem
          rw [hb] at hh
          exact hh
        · cases hr2
      · cases hx
    · rw [if_neg hj] at hx hr2
      exact hrel.2 i x r hx hr2
  · cases hz

end
end Go.Proofs.Ytnolaefjmjgfbaa
