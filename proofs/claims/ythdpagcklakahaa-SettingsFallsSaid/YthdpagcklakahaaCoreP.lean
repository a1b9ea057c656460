/-
  The core: parts of slices of one's own.
  Conditions: none.
-/
import Derived.Test.YthdpagcklakahaaCoreT
namespace Go.Proofs.Ythdpagcklakahaa
open Go
set_option linter.unusedSectionVars false
set_option linter.unusedVariables false

/-- Where a part begins. -/
def partA (A : Option Addr) (c lo sz : Nat) : Option Addr := if c = lo then A else A.map (·.add (lo * sz))
/-- The address and the room of a part that begins at lo. -/
def PartOk (AE : Option Addr) (cc : Nat) (A : Option Addr) (c lo sz : Nat) : Prop := cc = c - lo ∧ (lo < c → AE = A.map (·.add (lo * sz)))
theorem partOk0 {A : Option Addr} {c lo sz : Nat} : PartOk (partA A c lo sz) (c - lo) A c lo sz := ⟨rfl, fun h => by
  unfold partA
  rw [if_neg (by omega)]⟩
theorem add_add (a : Addr) (i j : Nat) : (a.add i).add j = a.add (i + j) := by
  unfold Addr.add
  by_cases hi : i = 0
  · subst hi
    simp
  · by_cases hj : j = 0
    · subst hj; simp
    · simp [hi, hj, Nat.add_assoc]
/-- How long a part of a part is. -/
def partM2 (len lo n : Nat) (l h : Int) : Option Nat := if lo + n ≤ len then (if 0 ≤ l ∧ l ≤ h ∧ h ≤ n then some (h.toNat - l.toNat) else none) else none
/-- How long a part of a slice of n elements is. -/
def partM (n : Nat) (lo hi : Int) : Option Nat := if 0 ≤ lo ∧ lo ≤ hi ∧ hi ≤ n then some (hi.toNat - lo.toNat) else none
/-- An element of a part. -/
def eltP {α : Type} (xs : List α) (lo n : Nat) (i : Int) : Option α := if 0 ≤ i ∧ i < n then elt xs ((lo : Int) + i) else none

theorem partM_e {n m : Nat} {lo hi : Int} (h : partM n lo hi = some m) : 0 ≤ lo ∧ lo ≤ hi ∧ hi ≤ n ∧ m = hi.toNat - lo.toNat := by
  unfold partM at h
  split at h
  · rename_i hh
    injection h with h
    exact ⟨hh.1, hh.2.1, hh.2.2, h.symm⟩
  · cases h
theorem eltP_e {α : Type} {xs : List α} {lo n : Nat} {i : Int} {y : α} (h : eltP xs lo n i = some y) : elt xs ((lo : Int) + i) = some y := by
  unfold eltP at h
  split at h
  · exact h
  · cases h
theorem eltP_lt {α : Type} {xs : List α} {lo n : Nat} {i : Int} {y : α} (h : eltP xs lo n i = some y) : 0 ≤ i ∧ i < n := by
  unfold eltP at h
  split at h
  · rename_i hh; exact hh
  · cases h

/-! ## Results that may be nil -/

def optP {α : Type} (o : Option α) (A : Value → List As → Prop) (B : α → Value → List As → Prop) : Value → List As → Prop := match o with | none => A | some x => B x
theorem optP_n {α : Type} {o : Option α} {A : Value → List As → Prop} {B : α → Value → List As → Prop} {v : Value} {F : List As} (h : o = none) (hp : optP o A B v F) : A v F := by subst h; exact hp
theorem optP_s {α : Type} {o : Option α} {x : α} {A : Value → List As → Prop} {B : α → Value → List As → Prop} {v : Value} {F : List As} (h : o = some x) (hp : optP o A B v F) : B x v F := by subst h; exact hp
theorem optP_mkn {α : Type} {A : Value → List As → Prop} {B : α → Value → List As → Prop} {v : Value} {F : List As} (hp : A v F) : optP none A B v F := hp
theorem optP_mks {α : Type} {x : α} {A : Value → List As → Prop} {B : α → Value → List As → Prop} {v : Value} {F : List As} (hp : B x v F) : optP (some x) A B v F := hp
def optM {α β : Type} (o : Option α) (a : Option β) (f : α → Option β) : Option β := match o with | none => a | some x => f x
theorem optM_n {α β : Type} {o : Option α} {a : Option β} {f : α → Option β} {r : β} (h : o = none) (k : optM o a f = some r) : a = some r := by subst h; exact k
theorem optM_s {α β : Type} {o : Option α} {x : α} {a : Option β} {f : α → Option β} {r : β} (h : o = some x) (k : optM o a f = some r) : f x = some r := by subst h; exact k

section
variable {P : Program} [T : HasTT P] {w0 : World} {nt : Nat} {Γ Γ' : Env} {F F' G R : List As} {Q : Exit → Act → World → Prop} {ops : Array Oper} {rest : List Oper}
variable {d : Nat} {op : Op} {ty : Nat} {pos : String} {af : Array Edge} {X : List Oper → Act → World → Prop} {Post : Value → List As → Prop}

/-- A part of a slice of one's own. -/
theorem St.part [W : Walk P ops X] {α : Type} {E : Enc α} {t e e' : Nat} {i j : TI} {A : Option Addr} {n c m : Nat} {xs : List α} {lo hi : Option Operand} {l h : Int} {ox : Operand} (hz : partM xs.length l h = some m) (hd : Nat.blt d nt = true) (hx : ev Γ ox = some (.slice A n c)) (hm : As.res (OwnL E e' A c xs) ∈ F) (hlen : n = xs.length)
    (hl : boundOf Γ 0 lo = some l) (hh : boundOf Γ (n : Int) hi = some h) (hi' : tget T.tt t = some i) (hdesc : i.desc = .slice e) (hj : tget T.tt e = some j) (hn : j.size = E.sz)
    (k : St w0 nt ((d, .slice (partA A c l.toNat E.sz) m (c - l.toNat)) :: Γ) F (X rest)) : St w0 nt Γ F (X (⟨some d, .slice t ox lo hi none, ty, pos, af, none⟩ :: rest)) :=
  fun a w hs hdf ha hf hw => by
    obtain ⟨h0, h1, h2, rfl⟩ := partM_e hz
    have hown : OwnP E.sz e' A xs.length c (xs.map E.enc) (hp w) := hf.res hm
    have hcap : xs.length ≤ c := by
      rcases hown.2.2 with ⟨_, _⟩ | ⟨_, _, _, _, _, _, _, hh, _⟩ <;> omega
    subst hlen
    refine St.val (F := F) hd (v := .slice (partA A c l.toNat E.sz) (h.toNat - l.toNat) (c - l.toNat)) (fun a w' ha _ => ?_) k a w hs hdf ha hf hw
    obtain ⟨dd, hu, hdd⟩ := T.ok.desc hi'
    have hb := run_bounds (P := P) true ha hl hh h0 h1 h2 hcap w'
    simp [execOp, Instr.sliceAt, Instr.slice, ha.eval hx, run_underlying hu, TD.of_slice (hdd.trans hdesc), hb, run_sizeOf_tt T.ok hj, hn, partA]

/-- The address of an element of a part. -/
theorem St.ixPt [W : Walk P ops X] {α : Type} {E : Enc α} {t e e' : Nat} {i j : TI} {x ix : Operand} {A AE : Option Addr} {n c cc lo : Nat} {kk : IntKind} {q : Int} {xs : List α} {y : α} (hp : PartOk AE cc A c lo E.sz) (hy : eltP xs lo n q = some y) (hd : Nat.blt d nt = true) (hx : ev Γ x = some (.slice AE n cc)) (hq : ev Γ ix = some (.int kk q))
    (hm : As.res (OwnL E e' A c xs) ∈ F) (hi : tget T.tt t = some i) (hdesc : i.desc = .slice e) (hj : tget T.tt e = some j) (hn : j.size = E.sz)
    (k : ∀ g, A = some ⟨g, 0, none⟩ → St w0 nt ((d, .pointer (some ⟨g, ((lo : Int) + q).toNat * E.sz, none⟩)) :: Γ) F (X rest)) : St w0 nt Γ F (X (⟨some d, .indexAddr t x ix, ty, pos, af, none⟩ :: rest)) :=
  fun a w hs hdf ha hf hw => by
    obtain ⟨h0, h1⟩ := eltP_lt hy
    obtain ⟨_, h3, _⟩ := elt_some (eltP_e hy)
    have hown : OwnP E.sz e' A xs.length c (xs.map E.enc) (Go.Proofs.Ythdpagcklakahaa.hp w) := hf.res hm
    rcases hown.2.2 with ⟨h, _⟩ | ⟨g, cur, fr, hc, hA, _, _, hle, _⟩
    · omega
    · subst hA
      obtain ⟨dd, hu, hdd⟩ := T.ok.desc hi
      have hpa : AE = some ⟨g, lo * E.sz, none⟩ := by
        rw [hp.2 (by omega)]
        exact congrArg some (add_zero_off g _)
      rw [hpa] at hx
      have hadd : (⟨g, lo * E.sz, none⟩ : Addr).add (q.toNat * E.sz) = ⟨g, ((lo : Int) + q).toNat * E.sz, none⟩ := by
        have e1 : ((lo : Int) + q).toNat = lo + q.toNat := by omega
        rw [e1, Nat.add_mul]
        unfold Addr.add
        split
        · rename_i hz; rw [hz]; rfl
        · rfl
      refine W.val _ _ _ _ _ (wanted_none rfl _) (fun w' he => ?_) (k g rfl _ w (by simp [Act.put, hs]) hdf (ha.put (hs ▸ Nat.le_of_ble_eq_true hd)) hf hw)
      simp [execOp, Instr.indexAt, ha.eval hx, ha.eval hq, asIntOf, run_underlying hu, TD.of_slice (hdd.trans hdesc), run_sizeOf_tt T.ok hj, hn, h0, h1, hadd]

theorem slP_part {α : Type} {E : Cod α} {A AE : Option Addr} {c cc lo n : Nat} {xs ys : List α} {m : Hp} (hp : PartOk AE cc A c lo E.n) (h : SlP E A c xs m) (hz : sub xs (lo : Int) ((lo + n : Nat) : Int) = some ys) (hn : n ≠ 0) : SlP E AE cc ys m := by
  have h1 := SlP.sub h hz
  obtain ⟨_, _, h2, _⟩ := sub_some hz
  have hlt : lo < c := by have := h.1; omega
  obtain ⟨rfl, h3⟩ := hp
  rw [h3 hlt]
  rw [if_neg (by omega)] at h1
  exact h1

/-- A part is lent to a function that only reads. -/
theorem slP_partL {α : Type} {E : Enc α} {A AE : Option Addr} {c cc lo n e : Nat} {xs ys : List α} {w : World} (hp : PartOk AE cc A c lo E.sz) (hz : sub xs (lo : Int) ((lo + n : Nat) : Int) = some ys) (hm : As.res (OwnL E e A c xs) ∈ F) (hw : Sat F w) : SlP (cod E) AE cc ys (Go.Proofs.Ythdpagcklakahaa.hp w) := by
  have h : SlP (cod E) A c xs (Go.Proofs.Ythdpagcklakahaa.hp w) := OwnL.sl hw hm
  by_cases hn : n = 0
  · subst hn
    have : ys = [] := by have := sub_len hz; simpa using this
    subst this
    refine ⟨Nat.zero_le _, ?_, fun _ => rfl, fun ad _ j x hx => by simp at hx⟩
    have := h.2.1
    obtain ⟨rfl, _⟩ := hp
    omega
  · exact slP_part hp h hz hn

theorem Asks.part {α : Type} {E : Enc α} {e c cc lo n : Nat} {A AE : Option Addr} {xs ys : List α} (hp : PartOk AE cc A c lo E.sz) (hz : sub xs (lo : Int) ((lo + n : Nat) : Int) = some ys) (hm : As.res (OwnL E e A c xs) ∈ F) (h : Asks G F) : Asks (.ro (SlL E AE cc ys) :: G) F := fun w hw r' hr => by
  cases hr with
  | head => exact slP_partL hp hz hm hw
  | tail _ hr => exact h w hw r' hr
theorem part_len {α : Type} {xs ys : List α} {lo n c : Nat} {A : Option Addr} (hz : sub xs (lo : Int) ((lo + n : Nat) : Int) = some ys) : some (Value.slice A n c) = some (Value.slice A ys.length c) := by
  have := sub_len hz
  have e : n = ys.length := by omega
  rw [e]

end
end Go.Proofs.Ythdpagcklakahaa
