/-
  The core: a quick look at a region's edges that shows that one walk in the order of the text serves every order.
  Conditions: none.
-/
import Derived.Test.YthdpagcklakahaaCore4
namespace Go.Proofs.Ythdpagcklakahaa
open Go

def edgesOf (o : Oper) : List Nat := (o.after.toList.filter (Region.binds .any)).map (·.on)

def inL : Nat → List Nat → Bool
  | _, [] => false
  | x, y :: r => bif Nat.beq x y then true else inL x r
theorem inL_mem {x : Nat} : ∀ {l : List Nat}, inL x l = true → x ∈ l
  | [], h => by simp [inL] at h
  | y :: r, h => by
    simp only [inL] at h
    cases hb : Nat.beq x y
    · simp only [hb, cond_false] at h; exact List.mem_cons_of_mem _ (inL_mem h)
    · rw [Nat.eq_of_beq_eq_true hb]; exact List.mem_cons_self ..

def okAll (E : List Nat) : List (Nat × Nat) → Nat → Bool
  | [], _ => true
  | p :: r, t => bif Nat.beq p.1 t then (bif inL p.2 E then okAll E r t else false) else okAll E r t
theorem okAll_spec {E : List Nat} : ∀ {ps : List (Nat × Nat)} {t : Nat}, okAll E ps t = true → ∀ i, (t, i) ∈ ps → i ∈ E
  | [], _, _, _, h => by cases h
  | p :: r, t, h, i, hi => by
    simp only [okAll] at h
    cases hb : Nat.beq p.1 t
    · simp only [hb, cond_false] at h
      cases hi with
      | head => simp at hb
      | tail _ hi => exact okAll_spec h i hi
    · simp only [hb, cond_true] at h
      cases hin : inL p.2 E
      · simp [hin] at h
      · simp only [hin, cond_true] at h
        cases hi with
        | head => exact inL_mem hin
        | tail _ hi => exact okAll_spec h i hi

def ltAll (j : Nat) : List Nat → Bool
  | [] => true
  | x :: r => bif Nat.blt x j then ltAll j r else false
theorem ltAll_spec {j : Nat} : ∀ {l : List Nat}, ltAll j l = true → ∀ x ∈ l, x < j
  | [], _, _, h => by cases h
  | y :: r, h, x, hx => by
    simp only [ltAll] at h
    cases hb : Nat.blt y j
    · simp [hb] at h
    · simp only [hb, cond_true] at h
      cases hx with
      | head => exact Nat.le_of_ble_eq_true hb
      | tail _ hx => exact ltAll_spec h x hx

def looksOk (E : List Nat) (ws : List (Nat × Nat)) : List Nat → Bool
  | [] => true
  | t :: r => bif okAll E ws t then looksOk E ws r else false
theorem looksOk_spec {E : List Nat} {ws : List (Nat × Nat)} : ∀ {l : List Nat}, looksOk E ws l = true → ∀ t ∈ l, okAll E ws t = true
  | [], _, _, h => by cases h
  | y :: r, h, x, hx => by
    simp only [looksOk] at h
    cases hb : okAll E ws y
    · simp [hb] at h
    · simp only [hb, cond_true] at h
      cases hx with
      | head => exact hb
      | tail _ hx => exact looksOk_spec h x hx

def notSel : Op → Bool
  | .select .. => false
  | _ => true

def dstOk (E : List Nat) (ws rs : List (Nat × Nat)) : Option Nat → Bool
  | none => true
  | some d => bif okAll E ws d then okAll E rs d else false

def addW (j : Nat) (ws : List (Nat × Nat)) : Option Nat → List (Nat × Nat)
  | none => ws
  | some d => (d, j) :: ws

def fx (ops : Array Oper) : List Oper → Nat → List (Nat × Nat) → List (Nat × Nat) → Bool
  | [], _, _, _ => true
  | o :: r, j, ws, rs =>
    bif ltAll j (edgesOf o) then bif looksOk (edgesOf o) ws (o.looksAt ops) then bif dstOk (edgesOf o) ws rs o.dst then bif notSel o.op then
      fx ops r (j + 1) (addW j ws o.dst) ((o.looksAt ops).map (·, j) ++ rs) else false else false else false else false

structure FxOk (ops : Array Oper) : Prop where
  lt : ∀ (j : Nat) (oj : Oper), ops[j]? = some oj → ∀ e ∈ oj.after, Region.binds .any e = true → e.on < j
  apart : ∀ (i j : Nat) (oi oj : Oper), ops[i]? = some oi → ops[j]? = some oj → i < j → (∀ e ∈ oj.after, Region.binds .any e = true → e.on ≠ i) → oi.apart ops oj = true
  nosel : ∀ (j : Nat) (o : Oper) cs b, ops[j]? = some o → o.op ≠ .select cs b

theorem mem_edgesOf {o : Oper} {i : Nat} : i ∈ edgesOf o ↔ ∃ e ∈ o.after, Region.binds .any e = true ∧ e.on = i := by
  simp [edgesOf, List.mem_map, List.mem_filter, and_assoc]

theorem fx_ok {ops : Array Oper} : ∀ (l : List Oper) (k : Nat) (ws rs : List (Nat × Nat)), (∀ j, l[j]? = ops[k + j]?) → fx ops l k ws rs = true →
    (∀ i oi d, i < k → ops[i]? = some oi → oi.dst = some d → (d, i) ∈ ws) → (∀ i oi t, i < k → ops[i]? = some oi → t ∈ oi.looksAt ops → (t, i) ∈ rs) →
    (∀ (j : Nat) (oj : Oper), k ≤ j → ops[j]? = some oj → (∀ e ∈ oj.after, Region.binds .any e = true → e.on < j) ∧ (∀ cs b, oj.op ≠ .select cs b) ∧
      ∀ (i : Nat) (oi : Oper), ops[i]? = some oi → i < j → (∀ e ∈ oj.after, Region.binds .any e = true → e.on ≠ i) → oi.apart ops oj = true)
  | [], k, ws, rs, hl, _, _, _, j, oj, hj, ho => by
    have := hl (j - k)
    rw [show k + (j - k) = j by omega, ho] at this
    simp at this
  | o :: l, k, ws, rs, hl, h, hw, hr, j, oj, hj, ho => by
    have h0 : ops[k]? = some o := by simpa using (hl 0).symm
    simp only [fx] at h
    cases h1 : ltAll k (edgesOf o) <;> simp only [h1, cond_true, cond_false] at h <;> try cases h
    cases h2 : looksOk (edgesOf o) ws (o.looksAt ops) <;> simp only [h2, cond_true, cond_false] at h <;> try cases h
    cases h3 : dstOk (edgesOf o) ws rs o.dst <;> simp only [h3, cond_true, cond_false] at h <;> try cases h
    cases h4 : notSel o.op <;> simp only [h4, cond_true, cond_false] at h <;> try cases h
    by_cases hjk : j = k
    · subst hjk
      rw [h0] at ho
      injection ho with ho
      subst ho
      refine ⟨fun e he hb => ltAll_spec h1 _ (mem_edgesOf.2 ⟨e, he, hb, rfl⟩), (fun cs b hop => by rw [hop] at h4; cases h4), fun i oi hi hij hno => ?_⟩
      have hnot : i ∉ edgesOf o := fun hm => by
        obtain ⟨e, he, hb, rfl⟩ := mem_edgesOf.1 hm
        exact hno e he hb rfl
      unfold Oper.apart
      rw [Bool.and_eq_true]
      constructor
      · split
        · rename_i d hd
          rw [Bool.and_eq_true]
          constructor
          · simp only [Bool.not_eq_true', List.contains_eq_mem, decide_eq_false_iff_not]
            intro hm
            exact hnot (okAll_spec (looksOk_spec h2 d hm) i (hw i oi d hij hi hd))
          · simp only [bne_iff_ne, ne_eq]
            intro hd2
            rw [hd2] at h3
            simp only [dstOk] at h3
            cases h5 : okAll (edgesOf o) ws d
            · simp [h5] at h3
            · exact hnot (okAll_spec h5 i (hw i oi d hij hi hd))
        · rfl
      · split
        · rename_i d hd
          simp only [Bool.not_eq_true', List.contains_eq_mem, decide_eq_false_iff_not]
          intro hm
          rw [hd] at h3
          simp only [dstOk] at h3
          cases h5 : okAll (edgesOf o) ws d
          · simp [h5] at h3
          · simp only [h5, cond_true] at h3
            exact hnot (okAll_spec h3 i (hr i oi d hij hi hm))
        · rfl
    · refine fx_ok l (k + 1) _ _ (fun j => by have := hl (j + 1); simpa [Nat.add_assoc, Nat.add_comm 1 j] using this) h (fun i oi d hi hoi hd => ?_) (fun i oi t hi hoi ht => ?_) j oj (by omega) ho
      · by_cases hik : i = k
        · subst hik
          rw [h0] at hoi
          injection hoi with hoi
          subst hoi
          rw [hd]
          exact List.mem_cons_self ..
        · have := hw i oi d (by omega) hoi hd
          unfold addW
          split
          · exact this
          · exact List.mem_cons_of_mem _ this
      · by_cases hik : i = k
        · subst hik
          rw [h0] at hoi
          injection hoi with hoi
          subst hoi
          exact List.mem_append_left _ (List.mem_map.2 ⟨t, ht, rfl⟩)
        · exact List.mem_append_right _ (hr i oi t (by omega) hoi ht)

theorem fx_all {l : List Oper} (h : fx l.toArray l 0 [] [] = true) : FxOk l.toArray := by
  have := fx_ok (ops := l.toArray) l 0 [] [] (fun j => by simp) h (fun i _ _ hi => by omega) (fun i _ _ hi => by omega)
  exact ⟨fun j oj hj => (this j oj (Nat.zero_le _) hj).1, fun i j oi oj hi hj hij hno => (this j oj (Nat.zero_le _) hj).2.2 i oi hi hij hno, fun j o cs b hj => (this j o (Nat.zero_le _) hj).2.1 cs b⟩

section
variable {P : Program} {C : World → Prop}

theorem wpAnyQ_fx {ops : Array Oper} (hok : FxOk ops) {Q : Act → Prop} : ∀ (l : List Oper) (k : Nat) (listed : Array Bool) (a : Act), (∀ j, l[j]? = ops[k + j]?) → listed.size = ops.size → (∀ j, j < ops.size → listed[j]? = some (decide (j < k))) →
    wpQuiet P ops C Q l a → wpAnyQ P .any ops C Q l.length listed a
  | [], k, listed, a, hl, hsz, hlist, h => by
    refine ⟨?_, h⟩
    have hk : ops.size ≤ k := by
      rcases Nat.lt_or_ge k ops.size with hlt | hge
      · have := hl 0
        simp [hlt] at this
      · exact hge
    rw [List.eq_nil_iff_forall_not_mem]
    intro i hi
    obtain ⟨h1, o, ho, _⟩ := mem_ready.1 hi
    have hio := (Array.getElem?_eq_some_iff.1 ho).1
    have := hlist i hio
    simp [this, show i < k by omega] at h1
  | o :: l, k, listed, a, hl, hsz, hlist, h => by
    have h0 : ops[k]? = some o := by simpa using (hl 0).symm
    have hk := (Array.getElem?_eq_some_iff.1 h0).1
    have hst : qOp P ops C k (wpQuiet P ops C Q l) a := by unfold qOp; simp only [h0]; exact h
    obtain ⟨v, hy, hK⟩ := yieldsIn_of_qOp h0 hst
    refine wpAnyQ_first h0 hok.nosel l.length listed a (fun j oj hj hjk hun hno => ?_) ?_ hy
      (wpAnyQ_fx hok l (k + 1) _ _ (fun j => by have := hl (j + 1); simpa [Nat.add_assoc, Nat.add_comm 1 j] using this) (by simpa using hsz) (fun j hj => ?_) hK)
    · have hjs := (Array.getElem?_eq_some_iff.1 hj).1
      have := hlist j hjs
      have hge : k ≤ j := by
        simp [this] at hun
        omega
      exact hok.apart k j o oj h0 hj (by omega) hno
    · refine mem_ready.2 ⟨?_, o, h0, fun e he hb => ?_⟩
      · simp [hlist k hk]
      · have hlt := hok.lt k o h0 e he hb
        simp [hlist e.on (by omega), hlt]
    · rw [Array.getElem?_setIfInBounds]
      split
      · rename_i hkj
        subst hkj
        simp [hsz, hk]
      · rw [hlist j hj]
        congr 1
        simp only [decide_eq_decide]
        omega

theorem wp_region_fx {id : Nat} {Q : Exit → Act → World → Prop} {a : Act} {w : World} {l : List Oper} (hm : P.follows .mixedOrders = true) (hB : fx l.toArray l 0 [] [] = true) (hC : C { w with drawn := w.drawn + 1 })
    (h : wpQuiet P l.toArray C (fun a' => ∀ w', C w' → Q .normal a' w') l a) : (Code.region id l.toArray true).wp P Q a w := by
  refine wp_region_any hm (wpAny_of_quiet (Q := fun a' => ∀ w', C w' → Q .normal a' w') (fun _ w' hw' h => h w' hw') _ _ _ _ hC ?_)
  have := wpAnyQ_fx (C := C) (fx_all hB) l 0 (Array.replicate l.toArray.size false) a (by simp) (by simp) (fun j hj => by simp only [List.size_toArray] at hj; simp [hj]) h
  simpa using this

theorem St.regionF {w0 : World} {nt : Nat} {Γ : Env} {F : List As} {Q : Exit → Act → World → Prop} {id : Nat} {l : List Oper} (hm : P.follows .mixedOrders = true) (hB : fx l.toArray l 0 [] [] = true) (h : St w0 nt Γ F (wpQ P l.toArray Q l)) :
    St w0 nt Γ F ((Code.region id l.toArray true).wp P Q) :=
  fun a w hs hd ha hf hw => wp_region_fx (C := Ext w) hm hB (Ext.drew w) (by simpa [wpQ] using h a w hs hd ha hf hw)
end
end Go.Proofs.Ythdpagcklakahaa
