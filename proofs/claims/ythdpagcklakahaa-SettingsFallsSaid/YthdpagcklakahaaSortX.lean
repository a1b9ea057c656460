/-
  Several texts in one.
  Conditions: none.
-/
import Derived.Test.YthdpagcklakahaaGenS
import Derived.Test.YthdpagcklakahaaPureC
import Derived.Sort.AssemblyPlain
namespace Go.Proofs.Ythdpagcklakahaa
open Go
set_option linter.unusedSimpArgs false
set_option linter.unusedVariables false

abbrev lt8 : Int → Int → Bool := Go.Sort.ltInt
open Go.Sort (swp insInner insOuter)

theorem elt_arr {d : Array Int} {i : Nat} (h : i < d.size) : elt d.toList (i : Int) = some d[i]! := by
  rw [elt_lt (by simpa using h)]
  simp [h]
theorem setE_arr {d : Array Int} {i : Nat} (h : i < d.size) (v : Int) : setE d.toList (i : Int) v = some (d.setIfInBounds i v).toList := by
  unfold setE
  rw [if_pos (by simp; omega)]
  simp
theorem swp_size (d : Array Int) (i j : Nat) : (swp d i j).size = d.size := by simp [swp]
/-- The words of an exchange, as the models have them. -/
theorem swp_eq {d : Array Int} {i j : Nat} (hi : i < d.size) (hj : j < d.size) {β : Type} (k : List Int → Option β) : (bnd (setE d.toList (i : Int) d[j]!) fun l1 => bnd (elt l1 (j : Int)) fun _ => bnd (setE l1 (j : Int) d[i]!) k) = k (swp d i j).toList := by
  rw [setE_arr hi, bnd_some, elt_arr (by simpa using hj), bnd_some, setE_arr (by simpa using hj), bnd_some]
  rfl
theorem less_eq (x y : Int) : m_cmp_Less_uint8 x y = some (lt8 x y) := by
  unfold m_cmp_Less_uint8 m_cmp_isNaN_uint8
  rw [bnd_some, cnd_f (by simp), bnd_some]
  rfl
theorem wr {n : Nat} (h : n ≤ 4611686018427387904) : IntKind.wrap .i64 (n : Int) = (n : Int) := wrap_i64 (by omega) (by omega)
theorem wrS {n : Nat} (h : n ≤ 4611686018427387904) : IntKind.wrap .i64 ((n : Int) + 1) = ((n + 1 : Nat) : Int) := by rw [wrap_i64 (by omega) (by omega)]; rfl
theorem wrP {n : Nat} (h : n ≤ 4611686018427387904) : IntKind.wrap .i64 (((n + 1 : Nat) : Int) - 1) = (n : Int) := by rw [wrap_i64 (by omega) (by omega)]; omega

/-! ## Insertion -/

noncomputable def insStep (a_p1 : Int) : List Int × Int → Option (Step (List Int × Int) (List Int)) := (fun (s2 : List Int × Int) => bnd ((bif decide (s2.2 > a_p1) then (bnd (elt s2.1 s2.2) fun x1 => bnd (elt s2.1 (IntKind.wrap .i64 (s2.2 - 1))) fun x2 => bnd (m_cmp_Less_uint8 x1 x2) fun r1 => some r1) else (some false) : Option Bool)) fun o3 => bif o3 then (bnd (elt s2.1 (IntKind.wrap .i64 (s2.2 - 1))) fun x3 => bnd (elt s2.1 (IntKind.wrap .i64 (s2.2 - 1))) fun x4 => bnd (elt s2.1 s2.2) fun x5 => bnd (elt s2.1 s2.2) fun x6 => bnd (setE s2.1 s2.2 x4) fun l1 => bnd (elt l1 (IntKind.wrap .i64 (s2.2 - 1))) fun x7 => bnd (setE l1 (IntKind.wrap .i64 (s2.2 - 1)) x5) fun l2 => some (.next (l2, IntKind.wrap .i64 (s2.2 - 1)))) else (some (.done s2.1)))
theorem ins_inner (a : Nat) : ∀ (j : Nat) (d : Array Int), j < d.size → d.size ≤ 100000 → loopM (insStep (a : Int)) (d.toList, (j : Int)) = some (insInner lt8 a j d).toList
  | 0, d, h, hs => by
    refine loop_done ?_
    unfold insStep
    simp only
    rw [cnd_f (by simp), bnd_some]
    rfl
  | j + 1, d, h, hs => by
    have hst : insStep (a : Int) (d.toList, ((j + 1 : Nat) : Int)) = some (if (j + 1 > a && lt8 d[j + 1]! d[j]!) then .next ((swp d (j + 1) j).toList, (j : Int)) else .done d.toList) := by
      unfold insStep
      simp only
      rw [wrP (by omega)]
      by_cases ha : j + 1 > a
      · rw [cnd_t (by simp; omega), elt_arr h, bnd_some, elt_arr (show j < d.size by omega), bnd_some, less_eq, bnd_some, bnd_some]
        cases hl : lt8 d[j + 1]! d[j]!
        · rw [cond_false, if_neg (by simp)]
        · rw [cond_true, if_pos (by simp [ha]), bnd_some, bnd_some, bnd_some, bnd_some, swp_eq h (by omega)]
      · rw [cnd_f (by simp; omega), bnd_some, cond_false, if_neg (by simp; omega)]
    unfold insInner
    by_cases hc : (j + 1 > a && lt8 d[j + 1]! d[j]!) = true
    · rw [if_pos hc] at hst ⊢
      exact loop_next hst (ins_inner a j _ (by rw [swp_size]; omega) (by rw [swp_size]; omega))
    · rw [if_neg hc] at hst ⊢
      exact loop_done hst
theorem insInner_size (a : Nat) : ∀ (j : Nat) (d : Array Int), (insInner lt8 a j d).size = d.size
  | 0, d => rfl
  | j + 1, d => by
    unfold insInner
    split
    · rw [insInner_size a j, swp_size]
    · rfl
noncomputable def insOStep (a_p1 b_p2 : Int) : List Int × Int → Option (Step (List Int × Int) (List Int)) := (fun (s1 : List Int × Int) => bif decide (s1.2 < b_p2) then (bnd (loopM (τ := List Int) (fun (s2 : List Int × Int) => bnd ((bif decide (s2.2 > a_p1) then (bnd (elt s2.1 s2.2) fun x1 => bnd (elt s2.1 (IntKind.wrap .i64 (s2.2 - 1))) fun x2 => bnd (m_cmp_Less_uint8 x1 x2) fun r1 => some r1) else (some false) : Option Bool)) fun o3 => bif o3 then (bnd (elt s2.1 (IntKind.wrap .i64 (s2.2 - 1))) fun x3 => bnd (elt s2.1 (IntKind.wrap .i64 (s2.2 - 1))) fun x4 => bnd (elt s2.1 s2.2) fun x5 => bnd (elt s2.1 s2.2) fun x6 => bnd (setE s2.1 s2.2 x4) fun l1 => bnd (elt l1 (IntKind.wrap .i64 (s2.2 - 1))) fun x7 => bnd (setE l1 (IntKind.wrap .i64 (s2.2 - 1)) x5) fun l2 => some (.next (l2, IntKind.wrap .i64 (s2.2 - 1)))) else (some (.done s2.1))) (s1.1, s1.2)) fun o2 => some (.next (o2, IntKind.wrap .i64 (s1.2 + 1)))) else (some (.done s1.1)))
theorem ins_outer (a b : Nat) : ∀ (k i : Nat) (d : Array Int), b - i = k → b ≤ d.size → d.size ≤ 100000 → loopM (insOStep (a : Int) (b : Int)) (d.toList, (i : Int)) = some (insOuter lt8 a b i d).toList
  | 0, i, d, hk, hb, hs => by
    refine loop_done ?_
    unfold insOStep insOuter
    simp only
    rw [cnd_f (by simp; omega), if_neg (by omega)]
  | k + 1, i, d, hk, hb, hs => by
    have hst : insOStep (a : Int) (b : Int) (d.toList, (i : Int)) = some (.next ((insInner lt8 a i d).toList, ((i + 1 : Nat) : Int))) := by
      unfold insOStep
      simp only
      rw [cnd_t (by simp; omega)]
      have := ins_inner a i d (by omega) hs
      unfold insStep at this
      rw [this, bnd_some, wrS (by omega)]
    unfold insOuter
    rw [if_pos (by omega)]
    exact loop_next hst (ins_outer a b k (i + 1) _ (by omega) (by rw [insInner_size]; omega) (by rw [insInner_size]; omega))
theorem insertion_eq {d : Array Int} {a b : Nat} (hb : b ≤ d.size) (ha : a ≤ b) (hs : d.size ≤ 100000) : m_slices_insertionSortOrdered_uint8 d.toList (a : Int) (b : Int) = some (Go.Sort.insertionSort lt8 d a b).toList := by
  unfold m_slices_insertionSortOrdered_uint8
  rw [wrS (by omega)]
  have := ins_outer a b _ (a + 1) d rfl hb hs
  unfold insOStep at this
  rw [this]
  rfl

/-! ## The heap -/

noncomputable def siftStep (hi_p2 first : Int) : List Int × Int → Option (Step (List Int × Int) ((List Int) ⊕ List Int)) := (fun (s1 : List Int × Int) => bif decide ((IntKind.wrap .i64 ((IntKind.wrap .i64 (2 * s1.2)) + 1)) ≥ hi_p2) then (some (.done (.inr s1.1))) else (bnd ((bnd ((bif decide ((IntKind.wrap .i64 ((IntKind.wrap .i64 ((IntKind.wrap .i64 (2 * s1.2)) + 1)) + 1)) < hi_p2) then (bnd (elt s1.1 (IntKind.wrap .i64 (first + (IntKind.wrap .i64 ((IntKind.wrap .i64 (2 * s1.2)) + 1))))) fun x1 => bnd (elt s1.1 (IntKind.wrap .i64 ((IntKind.wrap .i64 (first + (IntKind.wrap .i64 ((IntKind.wrap .i64 (2 * s1.2)) + 1)))) + 1))) fun x2 => bnd (m_cmp_Less_uint8 x1 x2) fun r1 => some r1) else (some false) : Option Bool)) fun o4 => bif o4 then (some (IntKind.wrap .i64 ((IntKind.wrap .i64 ((IntKind.wrap .i64 (2 * s1.2)) + 1)) + 1))) else (some (IntKind.wrap .i64 ((IntKind.wrap .i64 (2 * s1.2)) + 1))) : Option Int)) fun o3 => bnd (elt s1.1 (IntKind.wrap .i64 (first + s1.2))) fun x3 => bnd (elt s1.1 (IntKind.wrap .i64 (first + o3))) fun x4 => bnd (m_cmp_Less_uint8 x3 x4) fun r2 => bif !r2 then (some (.done (.inl s1.1))) else (bnd (elt s1.1 (IntKind.wrap .i64 (first + o3))) fun x5 => bnd (elt s1.1 (IntKind.wrap .i64 (first + s1.2))) fun x6 => bnd (elt s1.1 (IntKind.wrap .i64 (first + s1.2))) fun x7 => bnd (setE s1.1 (IntKind.wrap .i64 (first + s1.2)) x5) fun l1 => bnd (elt l1 (IntKind.wrap .i64 (first + o3))) fun x8 => bnd (setE l1 (IntKind.wrap .i64 (first + o3)) x6) fun l2 => some (.next (l2, o3)))))
theorem sift_eq (hi first : Nat) : ∀ (k root : Nat) (d : Array Int), hi - root ≤ k → first + hi ≤ d.size → d.size ≤ 100000 → root ≤ 100000 → ∃ o, loopM (siftStep (hi : Int) (first : Int)) (d.toList, (root : Int)) = some o ∧ (retOr o fun o2 => some o2) = some (Go.Sort.siftDown lt8 hi first root d).toList
  | k, root, d, hk, hb, hs, hr => by
    by_cases h1 : 2 * root + 1 ≥ hi
    · refine ⟨.inr d.toList, loop_done ?_, ?_⟩
      · unfold siftStep
        simp only
        rw [cnd_t (by rw [wrap_i64 (x := 2 * (root : Int)) (by omega) (by omega), wrap_i64 (by omega) (by omega)]; simp; omega)]
      · unfold Go.Sort.siftDown
        rw [dif_pos h1]
        rfl
    · cases k with
      | zero => omega
      | succ k =>
        have w1 : IntKind.wrap .i64 (IntKind.wrap .i64 (2 * (root : Int)) + 1) = ((2 * root + 1 : Nat) : Int) := by
          rw [wrap_i64 (x := 2 * (root : Int)) (by omega) (by omega), wrap_i64 (by omega) (by omega)]; omega
        have w2 : ∀ q : Nat, q ≤ 300000 → IntKind.wrap .i64 ((first : Int) + (q : Int)) = ((first + q : Nat) : Int) := fun q hq => by rw [wrap_i64 (by omega) (by omega)]; omega
        have hst : ∀ c : Nat, c = (if (2 * root + 1 + 1 < hi && lt8 d[first + (2 * root + 1)]! d[first + (2 * root + 1) + 1]!) = true then 2 * root + 2 else 2 * root + 1) → c < hi → siftStep (hi : Int) (first : Int) (d.toList, (root : Int)) = some (if !lt8 d[first + root]! d[first + c]! then .done (.inl d.toList) else .next ((swp d (first + root) (first + c)).toList, (c : Int))) := by
          intro c hc hch
          unfold siftStep
          simp only
          rw [w1, cnd_f (by simp; omega), wrS (by omega), w2 _ (by omega), wrS (by omega), w2 root (by omega)]
          have ho : (bif decide (((2 * root + 1 + 1 : Nat) : Int) < (hi : Int)) then (bnd (elt d.toList ((first + (2 * root + 1) : Nat) : Int)) fun x1 => bnd (elt d.toList ((first + (2 * root + 1) + 1 : Nat) : Int)) fun x2 => bnd (m_cmp_Less_uint8 x1 x2) fun r1 => some r1) else (some false) : Option Bool) = some (2 * root + 1 + 1 < hi && lt8 d[first + (2 * root + 1)]! d[first + (2 * root + 1) + 1]!) := by
            by_cases h2 : 2 * root + 1 + 1 < hi
            · rw [cnd_t (by simp; omega), elt_arr (by omega), bnd_some, elt_arr (by omega), bnd_some, less_eq, bnd_some]
              simp [h2]
            · rw [cnd_f (by simp; omega)]
              simp [h2]
          have ho2 : (bnd (bif decide (((2 * root + 1 + 1 : Nat) : Int) < (hi : Int)) then (bnd (elt d.toList ((first + (2 * root + 1) : Nat) : Int)) fun x1 => bnd (elt d.toList ((first + (2 * root + 1) + 1 : Nat) : Int)) fun x2 => bnd (m_cmp_Less_uint8 x1 x2) fun r1 => some r1) else (some false) : Option Bool) fun o4 => bif o4 then (some ((2 * root + 1 + 1 : Nat) : Int)) else (some ((2 * root + 1 : Nat) : Int))) = some (c : Int) := by
            rw [ho, bnd_some, hc]
            cases (decide (2 * root + 1 + 1 < hi) && lt8 d[first + (2 * root + 1)]! d[first + (2 * root + 1) + 1]!) <;> rfl
          rw [ho2, bnd_some, w2 c (by omega), elt_arr (by omega), bnd_some, elt_arr (by omega), bnd_some, less_eq, bnd_some]
          cases hl : lt8 d[first + root]! d[first + c]!
          · rfl
          · rw [cnd_f (by rfl), bnd_some, bnd_some, bnd_some, swp_eq (by omega) (by omega)]
            rfl
        have go : ∀ c : Nat, c = (if (2 * root + 1 + 1 < hi && lt8 d[first + (2 * root + 1)]! d[first + (2 * root + 1) + 1]!) = true then 2 * root + 2 else 2 * root + 1) → c < hi → root < c → ∃ o, loopM (siftStep (hi : Int) (first : Int)) (d.toList, (root : Int)) = some o ∧ (retOr o fun o2 => some o2) = some (if !lt8 d[first + root]! d[first + c]! then d else Go.Sort.siftDown lt8 hi first c (swp d (first + root) (first + c))).toList := by
          intro c hc hch hrc
          have h3 := hst c hc hch
          by_cases h4 : (!lt8 d[first + root]! d[first + c]!) = true
          · rw [if_pos h4] at h3 ⊢
            exact ⟨_, loop_done h3, rfl⟩
          · rw [if_neg h4] at h3 ⊢
            obtain ⟨o, h5, h6⟩ := sift_eq hi first k c (swp d (first + root) (first + c)) (by omega) (by rw [swp_size]; omega) (by rw [swp_size]; omega) (by omega)
            exact ⟨o, loop_next h3 h5, h6⟩
        unfold Go.Sort.siftDown
        rw [dif_neg h1]
        by_cases h2 : (decide (2 * root + 1 + 1 < hi) && lt8 d[first + (2 * root + 1)]! d[first + (2 * root + 1) + 1]!) = true
        · have h3 : 2 * root + 1 + 1 < hi := by simp at h2; exact h2.1
          rw [if_pos h2, dif_pos (show 2 * root + 2 < hi by omega)]
          obtain ⟨o, h5, h6⟩ := go (2 * root + 2) (by rw [if_pos h2]) (by omega) (by omega)
          refine ⟨o, h5, h6.trans ?_⟩
          congr 1
        · rw [if_neg h2]
          obtain ⟨o, h5, h6⟩ := go (2 * root + 1) (by rw [if_neg h2]) (by omega) (by omega)
          exact ⟨o, h5, h6⟩
end Go.Proofs.Ythdpagcklakahaa
namespace Go.Proofs.Ythdpagcklakahaa
open Go
open Go.Sort (swp)
set_option linter.unusedSimpArgs false
set_option linter.unusedVariables false

theorem sift_size (hi first : Nat) : ∀ (k root : Nat) (d : Array Int), hi - root ≤ k → (Go.Sort.siftDown lt8 hi first root d).size = d.size
  | k, root, d, hk => by
    unfold Go.Sort.siftDown
    split
    · rfl
    · cases k with
      | zero => omega
      | succ k =>
        split
        · split
          · rfl
          · split
            · rw [sift_size hi first k _ _ (by omega), swp_size]
            · rfl
        · split
          · rfl
          · rw [sift_size hi first k _ _ (by omega), swp_size]
theorem sift_m {hi first root : Nat} {d : Array Int} (hb : first + hi ≤ d.size) (hs : d.size ≤ 100000) (hr : root ≤ 100000) : m_slices_siftDownOrdered_uint8 d.toList (root : Int) (hi : Int) (first : Int) = some (Go.Sort.siftDown lt8 hi first root d).toList := by
  unfold m_slices_siftDownOrdered_uint8
  obtain ⟨o, h1, h2⟩ := sift_eq hi first _ root d (Nat.le_refl _) hb hs hr
  unfold siftStep at h1
  rw [h1]
  exact h2
theorem chk_eq {α : Type} {n : Nat} {l : List α} (h : l.length = n) : chkLen n l = some l := by
  unfold chkLen
  rw [if_pos h]
noncomputable def buildStep (a_p1 b_p2 : Int) : List Int × Int → Option (Step (List Int × Int) (List Int)) := (fun (s1 : List Int × Int) => bif decide (s1.2 ≥ 0) then (bnd (m_slices_siftDownOrdered_uint8 s1.1 s1.2 (IntKind.wrap .i64 (b_p2 - a_p1)) a_p1) fun r1 => bnd (chkLen s1.1.length r1) fun l1 => some (.next (r1, IntKind.wrap .i64 (s1.2 - 1)))) else (some (.done s1.1)))
theorem build_eq (a b : Nat) (hab : a ≤ b) : ∀ (k : Nat) (d : Array Int), b ≤ d.size → d.size ≤ 100000 → k ≤ 100000 → loopM (buildStep (a : Int) (b : Int)) (d.toList, (k : Int) - 1) = some (Go.Sort.heapBuild lt8 (b - a) a k d).toList
  | 0, d, hb, hs, hk => by
    refine loop_done ?_
    unfold buildStep
    simp only
    rw [cnd_f (by simp)]
    rfl
  | k + 1, d, hb, hs, hk => by
    have e : ((k + 1 : Nat) : Int) - 1 = (k : Int) := by omega
    rw [e]
    refine loop_next ?_ (build_eq a b hab k (Go.Sort.siftDown lt8 (b - a) a k d) (by rw [sift_size _ _ _ _ _ (Nat.le_refl _)]; exact hb) (by rw [sift_size _ _ _ _ _ (Nat.le_refl _)]; exact hs) (by omega))
    unfold buildStep
    simp only
    have w : IntKind.wrap .i64 ((b : Int) - (a : Int)) = ((b - a : Nat) : Int) := by rw [wrap_i64 (by omega) (by omega)]; omega
    rw [cnd_t (by simp), w, sift_m (by omega) hs (by omega), bnd_some, chk_eq (by simp [sift_size _ _ _ _ _ (Nat.le_refl _)]), bnd_some, wrap_i64 (by omega) (by omega)]
theorem build_size (hi first : Nat) : ∀ (k : Nat) (d : Array Int), (Go.Sort.heapBuild lt8 hi first k d).size = d.size
  | 0, d => rfl
  | k + 1, d => by
    unfold Go.Sort.heapBuild
    rw [build_size hi first k, sift_size _ _ _ _ _ (Nat.le_refl _)]
noncomputable def popStep (a_p1 : Int) : List Int × Int → Option (Step (List Int × Int) (List Int)) := (fun (s2 : List Int × Int) => bif decide (s2.2 ≥ 0) then (bnd (elt s2.1 (IntKind.wrap .i64 (a_p1 + s2.2))) fun x1 => bnd (elt s2.1 (IntKind.wrap .i64 (a_p1 + s2.2))) fun x2 => bnd (elt s2.1 a_p1) fun x3 => bnd (elt s2.1 a_p1) fun x4 => bnd (setE s2.1 a_p1 x2) fun l2 => bnd (elt l2 (IntKind.wrap .i64 (a_p1 + s2.2))) fun x5 => bnd (setE l2 (IntKind.wrap .i64 (a_p1 + s2.2)) x3) fun l3 => bnd (m_slices_siftDownOrdered_uint8 l3 0 s2.2 a_p1) fun r2 => bnd (chkLen l3.length r2) fun l4 => some (.next (r2, IntKind.wrap .i64 (s2.2 - 1)))) else (some (.done s2.1)))
theorem pop_eq (a : Nat) : ∀ (k : Nat) (d : Array Int), a + k ≤ d.size → d.size ≤ 100000 → loopM (popStep (a : Int)) (d.toList, (k : Int) - 1) = some (Go.Sort.heapPop lt8 a k d).toList
  | 0, d, hb, hs => by
    refine loop_done ?_
    unfold popStep
    simp only
    rw [cnd_f (by simp)]
    rfl
  | k + 1, d, hb, hs => by
    have e : ((k + 1 : Nat) : Int) - 1 = (k : Int) := by omega
    rw [e]
    have hsz : (Go.Sort.siftDown lt8 k a 0 (swp d a (a + k))).size = d.size := by rw [sift_size _ _ _ _ _ (Nat.le_refl _), swp_size]
    refine loop_next ?_ (pop_eq a k (Go.Sort.siftDown lt8 k a 0 (swp d a (a + k))) (by rw [hsz]; omega) (by rw [hsz]; exact hs))
    unfold popStep
    simp only
    have w : IntKind.wrap .i64 ((a : Int) + (k : Int)) = ((a + k : Nat) : Int) := by rw [wrap_i64 (by omega) (by omega)]; omega
    rw [cnd_t (by simp), w, elt_arr (by omega), bnd_some, bnd_some, elt_arr (show a < d.size by omega), bnd_some, bnd_some, swp_eq (by omega) (by omega)]
    have := sift_m (hi := k) (first := a) (root := 0) (d := swp d a (a + k)) (by rw [swp_size]; omega) (by rw [swp_size]; exact hs) (by omega)
    rw [show m_slices_siftDownOrdered_uint8 (swp d a (a + k)).toList 0 (k : Int) (a : Int) = _ from this, bnd_some, chk_eq (by simp [sift_size _ _ _ _ _ (Nat.le_refl _)]), bnd_some, wrap_i64 (by omega) (by omega)]
theorem heap_eq {d : Array Int} {a b : Nat} (hab : a < b) (hb : b ≤ d.size) (hs : d.size ≤ 100000) : m_slices_heapSortOrdered_uint8 d.toList (a : Int) (b : Int) = some (Go.Sort.heapSort lt8 d a b).toList := by
  unfold m_slices_heapSortOrdered_uint8
  have w : IntKind.wrap .i64 ((b : Int) - (a : Int)) = ((b - a : Nat) : Int) := by rw [wrap_i64 (by omega) (by omega)]; omega
  rw [w, wrap_i64 (x := ((b - a : Nat) : Int) - 1) (by omega) (by omega)]
  have e : (((b - a : Nat) : Int) - 1).tdiv 2 = (((b - a - 1) / 2 + 1 : Nat) : Int) - 1 := by
    have h1 : ((b - a : Nat) : Int) - 1 = ((b - a - 1 : Nat) : Int) := by omega
    rw [h1]
    have h2 : ((b - a - 1 : Nat) : Int).tdiv ((2 : Nat) : Int) = (((b - a - 1) / 2 : Nat) : Int) := tdiv_n _ _
    have h3 : ((b - a - 1 : Nat) : Int).tdiv 2 = (((b - a - 1) / 2 : Nat) : Int) := h2
    rw [h3]
    omega
  rw [e, wrap_i64 (x := (((b - a - 1) / 2 + 1 : Nat) : Int) - 1) (by omega) (by omega)]
  have h1 := build_eq a b (by omega) ((b - a - 1) / 2 + 1) d hb hs (by omega)
  unfold buildStep at h1
  rw [w] at h1
  rw [h1, bnd_some]
  have h2 := pop_eq a (b - a) (Go.Sort.heapBuild lt8 (b - a) a ((b - a - 1) / 2 + 1) d) (by rw [build_size]; omega) (by rw [build_size]; exact hs)
  unfold popStep at h2
  rw [h2]
  rfl

/-! ## The reverse -/

noncomputable def revStep : List Int × Int × Int → Option (Step (List Int × Int × Int) (List Int)) := (fun (s1 : List Int × Int × Int) => bif decide (s1.2.1 < s1.2.2) then (bnd (elt s1.1 s1.2.2) fun x1 => bnd (elt s1.1 s1.2.2) fun x2 => bnd (elt s1.1 s1.2.1) fun x3 => bnd (elt s1.1 s1.2.1) fun x4 => bnd (setE s1.1 s1.2.1 x2) fun l1 => bnd (elt l1 s1.2.2) fun x5 => bnd (setE l1 s1.2.2 x3) fun l2 => some (.next (l2, IntKind.wrap .i64 (s1.2.1 + 1), IntKind.wrap .i64 (s1.2.2 - 1)))) else (some (.done s1.1)))
theorem rev_loop : ∀ (k i j : Nat) (d : Array Int), j - i ≤ k → j < d.size → d.size ≤ 100000 → i ≤ 100000 → loopM revStep (d.toList, (i : Int), (j : Int)) = some (Go.Sort.reverseLoop i j d).toList
  | k, i, j, d, hk, hj, hs, hi => by
    unfold Go.Sort.reverseLoop
    by_cases h : i < j
    · rw [if_pos h]
      cases k with
      | zero => omega
      | succ k =>
        refine loop_next ?_ (rev_loop k (i + 1) (j - 1) (swp d i j) (by omega) (by rw [swp_size]; omega) (by rw [swp_size]; exact hs) (by omega))
        unfold revStep
        simp only
        rw [cnd_t (by simp; omega), elt_arr hj, bnd_some, bnd_some, elt_arr (show i < d.size by omega), bnd_some, bnd_some, swp_eq (by omega) (by omega), wrS (by omega), wrap_i64 (by omega) (by omega)]
        rw [show ((j : Int) - 1) = ((j - 1 : Nat) : Int) by omega]
    · rw [if_neg h]
      refine loop_done ?_
      unfold revStep
      simp only
      rw [cnd_f (by simp; omega)]
theorem reverse_eq {d : Array Int} {a b : Nat} (hab : a < b) (hb : b ≤ d.size) (hs : d.size ≤ 100000) : m_slices_reverseRangeOrdered_uint8 d.toList (a : Int) (b : Int) = some (Go.Sort.reverseRange d a b).toList := by
  unfold m_slices_reverseRangeOrdered_uint8
  rw [wrap_i64 (x := (b : Int) - 1) (by omega) (by omega), show ((b : Int) - 1) = ((b - 1 : Nat) : Int) by omega]
  have := rev_loop _ a (b - 1) d (Nat.le_refl _) (by omega) hs (by omega)
  unfold revStep at this
  rw [this]
  rfl
end Go.Proofs.Ythdpagcklakahaa
namespace Go.Proofs.Ythdpagcklakahaa
open Go
open Go.Sort (swp scanUp scanDown partLoop partEqLoop)
set_option linter.unusedSimpArgs false
set_option linter.unusedVariables false

theorem scan_up {m : Int → Option (Step Int Int)} {p : Int → Bool} {d : Array Int} {j : Nat} (hm : ∀ i : Nat, i ≤ 100001 → m (i : Int) = some (if (decide (i ≤ j) && p d[i]!) = true then .next ((i + 1 : Nat) : Int) else .done (i : Int))) (hj : j ≤ 100000) : ∀ (k i : Nat), j + 1 - i ≤ k → i ≤ 100001 → loopM m (i : Int) = some ((scanUp p d j i : Nat) : Int)
  | k, i, hk, hi => by
    have h1 := hm i hi
    unfold scanUp
    by_cases h : (decide (i ≤ j) && p d[i]!) = true
    · have h2 : i ≤ j := by simp at h; exact h.1
      rw [if_pos h] at h1 ⊢
      cases k with
      | zero => omega
      | succ k => exact loop_next h1 (scan_up hm hj k (i + 1) (by omega) (by omega))
    · rw [if_neg h] at h1 ⊢
      exact loop_done h1
theorem scan_down {m : Int → Option (Step Int Int)} {p : Int → Bool} {d : Array Int} {i J : Nat} (hi : 1 ≤ i) (hm : ∀ j : Nat, j ≤ J → m (j : Int) = some (if (decide (i ≤ j) && p d[j]!) = true then .next ((j : Int) - 1) else .done (j : Int))) : ∀ (j : Nat), j ≤ J → loopM m (j : Int) = some ((scanDown p d i j : Nat) : Int)
  | 0, hj => by
    have h1 := hm 0 hj
    rw [if_neg (by simp; omega)] at h1
    exact loop_done h1
  | j + 1, hj => by
    have h1 := hm (j + 1) hj
    unfold scanDown
    by_cases h : (decide (i ≤ j + 1) && p d[j + 1]!) = true
    · rw [if_pos h] at h1 ⊢
      rw [show (((j + 1 : Nat) : Int) - 1) = (j : Int) by omega] at h1
      exact loop_next h1 (scan_down hi hm j (by omega))
    · rw [if_neg h] at h1 ⊢
      exact loop_done h1
theorem scanUp_le (p : Int → Bool) (d : Array Int) (j : Nat) : ∀ (k i : Nat), j + 1 - i ≤ k → i ≤ scanUp p d j i ∧ (scanUp p d j i ≤ j + 1 ∨ scanUp p d j i = i)
  | k, i, hk => by
    unfold scanUp
    by_cases h : (decide (i ≤ j) && p d[i]!) = true
    · have h2 : i ≤ j := by simp at h; exact h.1
      rw [if_pos h]
      cases k with
      | zero => omega
      | succ k =>
        have := scanUp_le p d j k (i + 1) (by omega)
        omega
    · rw [if_neg h]
      omega

/-! ## partition -/

noncomputable def puStep (l : List Int) (a_p1 j : Int) : Int → Option (Step Int Int) := (fun (s4 : Int) => bnd ((bif decide (s4 ≤ j) then (bnd (elt l s4) fun x18 => bnd (elt l a_p1) fun x19 => bnd (m_cmp_Less_uint8 x18 x19) fun r3 => some r3) else (some false) : Option Bool)) fun o7 => bif o7 then (some (.next (IntKind.wrap .i64 (s4 + 1)))) else (some (.done s4)))
noncomputable def pdStep (l : List Int) (a_p1 o6 : Int) : Int → Option (Step Int Int) := (fun (s5 : Int) => bnd ((bif decide (o6 ≤ s5) then (bnd (elt l s5) fun x20 => bnd (elt l a_p1) fun x21 => bnd (m_cmp_Less_uint8 x20 x21) fun r4 => some (!r4)) else (some false) : Option Bool)) fun o9 => bif o9 then (some (.next (IntKind.wrap .i64 (s5 - 1)))) else (some (.done s5)))
theorem pu_eq {d : Array Int} {a j : Nat} (ha : a < d.size) (hj : j < d.size) (hs : d.size ≤ 100000) (i : Nat) (hi : i ≤ 100001) : loopM (puStep d.toList (a : Int) (j : Int)) (i : Int) = some ((scanUp (fun x => lt8 x d[a]!) d j i : Nat) : Int) := by
  refine scan_up (fun i hi => ?_) (by omega) _ i (Nat.le_refl _) hi
  unfold puStep
  by_cases h : i ≤ j
  · rw [cnd_t (by simp; omega), elt_arr (by omega), bnd_some, elt_arr ha, bnd_some, less_eq, bnd_some, bnd_some, wrS (by omega)]
    simp only [h, decide_true, Bool.true_and]
    cases lt8 d[i]! d[a]! <;> rfl
  · rw [cnd_f (by simp; omega), bnd_some, cond_false, if_neg (by simp [h])]
theorem pd_eq {d : Array Int} {a i : Nat} (ha : a < d.size) (hs : d.size ≤ 100000) (hi : 1 ≤ i) (j : Nat) (hj : j < d.size) : loopM (pdStep d.toList (a : Int) (i : Int)) (j : Int) = some ((scanDown (fun x => !lt8 x d[a]!) d i j : Nat) : Int) := by
  refine scan_down hi (J := j) (fun q hq => ?_) j (Nat.le_refl _)
  unfold pdStep
  by_cases h : i ≤ q
  · rw [cnd_t (by simp; omega), elt_arr (by omega), bnd_some, elt_arr ha, bnd_some, less_eq, bnd_some, bnd_some, wrap_i64 (by omega) (by omega)]
    simp only [h, decide_true, Bool.true_and]
    cases lt8 d[q]! d[a]! <;> rfl
  · rw [cnd_f (by simp; omega), bnd_some, cond_false, if_neg (by simp [h])]
noncomputable def ptStep (a_p1 : Int) : List Int × Int × Int → Option (Step (List Int × Int × Int) (List Int × Int)) := (fun (s3 : List Int × Int × Int) => bnd (loopM (τ := Int) (fun (s4 : Int) => bnd ((bif decide (s4 ≤ s3.2.2) then (bnd (elt s3.1 s4) fun x18 => bnd (elt s3.1 a_p1) fun x19 => bnd (m_cmp_Less_uint8 x18 x19) fun r3 => some r3) else (some false) : Option Bool)) fun o7 => bif o7 then (some (.next (IntKind.wrap .i64 (s4 + 1)))) else (some (.done s4))) s3.2.1) fun o6 => bnd (loopM (τ := Int) (fun (s5 : Int) => bnd ((bif decide (o6 ≤ s5) then (bnd (elt s3.1 s5) fun x20 => bnd (elt s3.1 a_p1) fun x21 => bnd (m_cmp_Less_uint8 x20 x21) fun r4 => some (!r4)) else (some false) : Option Bool)) fun o9 => bif o9 then (some (.next (IntKind.wrap .i64 (s5 - 1)))) else (some (.done s5))) s3.2.2) fun o8 => bif decide (o6 > o8) then (some (.done (s3.1, o8))) else (bnd (elt s3.1 o8) fun x22 => bnd (elt s3.1 o6) fun x23 => bnd (elt s3.1 o6) fun x24 => bnd (setE s3.1 o6 x22) fun l7 => bnd (elt l7 o8) fun x25 => bnd (setE l7 o8 x23) fun l8 => some (.next (l8, IntKind.wrap .i64 (o6 + 1), IntKind.wrap .i64 (o8 - 1)))))
theorem pt_loop (a : Nat) : ∀ (k i j : Nat) (d : Array Int), j + 1 - i ≤ k → a < d.size → j < d.size → d.size ≤ 100000 → 1 ≤ i → i ≤ 100001 → loopM (ptStep (a : Int)) (d.toList, (i : Int), (j : Int)) = some ((partLoop lt8 a i j d).2.toList, ((partLoop lt8 a i j d).1 : Int))
  | k, i, j, d, hk, ha, hj, hs, hi1, hi => by
    have h1 := pu_eq ha hj hs i hi
    have h2 := scanUp_le (fun x => lt8 x d[a]!) d j _ i (Nat.le_refl _)
    have h3 := pd_eq (i := scanUp (fun x => lt8 x d[a]!) d j i) ha hs (by omega) j hj
    have h4 := Go.Sort.scanDown_le (fun x => !lt8 x d[a]!) d (scanUp (fun x => lt8 x d[a]!) d j i) j
    rw [Go.Sort.partLoop_eq]
    revert h1 h2 h3 h4
    generalize scanUp (fun x => lt8 x d[a]!) d j i = i2
    generalize scanDown (fun x => !lt8 x d[a]!) d i2 j = j2
    intro h1 h2 h3 h4
    unfold puStep at h1
    unfold pdStep at h3
    by_cases hgt : i2 > j2
    · rw [if_pos hgt]
      refine loop_done ?_
      unfold ptStep
      simp only
      rw [h1, bnd_some, h3, bnd_some, cnd_t (by simp; omega)]
    · rw [if_neg hgt]
      cases k with
      | zero => omega
      | succ k =>
        refine loop_next ?_ (pt_loop a k (i2 + 1) (j2 - 1) (swp d i2 j2) (by omega) (by rw [swp_size]; exact ha) (by rw [swp_size]; omega) (by rw [swp_size]; exact hs) (by omega) (by omega))
        unfold ptStep
        simp only
        rw [h1, bnd_some, h3, bnd_some, cnd_f (by simp; omega), elt_arr (show j2 < d.size by omega), bnd_some, elt_arr (show i2 < d.size by omega), bnd_some, bnd_some, swp_eq (by omega) (by omega), wrS (by omega), wrap_i64 (by omega) (by omega), show ((j2 : Int) - 1) = ((j2 - 1 : Nat) : Int) by omega]
theorem ptLoop_size (a : Nat) : ∀ (k i j : Nat) (d : Array Int), j + 1 - i ≤ k → (partLoop lt8 a i j d).2.size = d.size ∧ (partLoop lt8 a i j d).1 ≤ j
  | k, i, j, d, hk => by
    have h2 := scanUp_le (fun x => lt8 x d[a]!) d j _ i (Nat.le_refl _)
    have h4 := Go.Sort.scanDown_le (fun x => !lt8 x d[a]!) d (scanUp (fun x => lt8 x d[a]!) d j i) j
    rw [Go.Sort.partLoop_eq]
    split
    · exact ⟨rfl, h4⟩
    · cases k with
      | zero => omega
      | succ k =>
        have := ptLoop_size a k (scanUp (fun x => lt8 x d[a]!) d j i + 1) (scanDown (fun x => !lt8 x d[a]!) d (scanUp (fun x => lt8 x d[a]!) d j i) j - 1) (swp d (scanUp (fun x => lt8 x d[a]!) d j i) (scanDown (fun x => !lt8 x d[a]!) d (scanUp (fun x => lt8 x d[a]!) d j i) j)) (by omega)
        rw [swp_size] at this
        omega
theorem partition_eq {d : Array Int} {a b pivot : Nat} (hab : a < b) (hb : b ≤ d.size) (hp : pivot < d.size) (hs : d.size ≤ 100000) : m_slices_partitionOrdered_uint8 d.toList (a : Int) (b : Int) (pivot : Int) = some ((Go.Sort.partition lt8 d a b pivot).2.2.toList, ((Go.Sort.partition lt8 d a b pivot).1 : Int), (Go.Sort.partition lt8 d a b pivot).2.1) := by
  unfold m_slices_partitionOrdered_uint8 Go.Sort.partition
  rw [elt_arr hp, bnd_some, bnd_some, elt_arr (show a < d.size by omega), bnd_some, bnd_some, swp_eq (by omega) hp, wrap_i64 (x := (b : Int) - 1) (by omega) (by omega), show ((b : Int) - 1) = ((b - 1 : Nat) : Int) by omega, wrS (by omega)]
  simp only
  have hs1 : (swp d a pivot).size = d.size := swp_size _ _ _
  revert hs1
  generalize swp d a pivot = e
  intro hs1
  have h1 := pu_eq (d := e) (a := a) (j := b - 1) (by omega) (by omega) (by omega) (a + 1) (by omega)
  have h2 := scanUp_le (fun x => lt8 x e[a]!) e (b - 1) _ (a + 1) (Nat.le_refl _)
  have h3 := pd_eq (d := e) (a := a) (i := scanUp (fun x => lt8 x e[a]!) e (b - 1) (a + 1)) (by omega) (by omega) (by omega) (b - 1) (by omega)
  have h4 := Go.Sort.scanDown_le (fun x => !lt8 x e[a]!) e (scanUp (fun x => lt8 x e[a]!) e (b - 1) (a + 1)) (b - 1)
  revert h1 h2 h3 h4
  generalize scanUp (fun x => lt8 x e[a]!) e (b - 1) (a + 1) = i2
  generalize scanDown (fun x => !lt8 x e[a]!) e i2 (b - 1) = j2
  intro h1 h2 h3 h4
  unfold puStep at h1
  unfold pdStep at h3
  rw [h1, bnd_some, h3, bnd_some]
  by_cases hgt : i2 > j2
  · rw [cnd_t (by simp; omega), if_pos hgt, elt_arr (show a < e.size by omega), bnd_some, elt_arr (show j2 < e.size by omega), bnd_some, bnd_some, swp_eq (by omega) (by omega)]
  · rw [cnd_f (by simp; omega), if_neg hgt, elt_arr (show j2 < e.size by omega), bnd_some, elt_arr (show i2 < e.size by omega), bnd_some, bnd_some, swp_eq (by omega) (by omega), wrS (by omega), wrap_i64 (x := (j2 : Int) - 1) (by omega) (by omega), show ((j2 : Int) - 1) = ((j2 - 1 : Nat) : Int) by omega]
    have h5 := pt_loop a _ (i2 + 1) (j2 - 1) (swp e i2 j2) (Nat.le_refl _) (by rw [swp_size]; omega) (by rw [swp_size]; omega) (by rw [swp_size]; omega) (by omega) (by omega)
    have h6 := ptLoop_size a _ (i2 + 1) (j2 - 1) (swp e i2 j2) (Nat.le_refl _)
    rw [swp_size] at h6
    unfold ptStep at h5
    rw [h5, bnd_some]
    simp only
    rw [elt_arr (show a < _ by rw [h6.1]; omega), bnd_some, elt_arr (show _ < _ by rw [h6.1]; omega), bnd_some, bnd_some, swp_eq (by rw [h6.1]; omega) (by rw [h6.1]; omega)]

/-! ## partitionEqual -/

noncomputable def qdStep (l : List Int) (a_p1 o2 : Int) : Int → Option (Step Int Int) := (fun (s3 : Int) => bnd ((bif decide (o2 ≤ s3) then (bnd (elt l a_p1) fun x8 => bnd (elt l s3) fun x9 => bnd (m_cmp_Less_uint8 x8 x9) fun r2 => some r2) else (some false) : Option Bool)) fun o5 => bif o5 then (some (.next (IntKind.wrap .i64 (s3 - 1)))) else (some (.done s3)))
noncomputable def quStep (l : List Int) (a_p1 j : Int) : Int → Option (Step Int Int) := (fun (s2 : Int) => bnd ((bif decide (s2 ≤ j) then (bnd (elt l a_p1) fun x6 => bnd (elt l s2) fun x7 => bnd (m_cmp_Less_uint8 x6 x7) fun r1 => some (!r1)) else (some false) : Option Bool)) fun o3 => bif o3 then (some (.next (IntKind.wrap .i64 (s2 + 1)))) else (some (.done s2)))
theorem qu_eq {d : Array Int} {a j : Nat} (ha : a < d.size) (hj : j < d.size) (hs : d.size ≤ 100000) (i : Nat) (hi : i ≤ 100001) : loopM (quStep d.toList (a : Int) (j : Int)) (i : Int) = some ((scanUp (fun x => !lt8 d[a]! x) d j i : Nat) : Int) := by
  refine scan_up (fun i hi => ?_) (by omega) _ i (Nat.le_refl _) hi
  unfold quStep
  by_cases h : i ≤ j
  · rw [cnd_t (by simp; omega), elt_arr ha, bnd_some, elt_arr (by omega), bnd_some, less_eq, bnd_some, bnd_some, wrS (by omega)]
    simp only [h, decide_true, Bool.true_and]
    cases lt8 d[a]! d[i]! <;> rfl
  · rw [cnd_f (by simp; omega), bnd_some, cond_false, if_neg (by simp [h])]
theorem qd_eq {d : Array Int} {a i : Nat} (ha : a < d.size) (hs : d.size ≤ 100000) (hi : 1 ≤ i) (j : Nat) (hj : j < d.size) : loopM (qdStep d.toList (a : Int) (i : Int)) (j : Int) = some ((scanDown (fun x => lt8 d[a]! x) d i j : Nat) : Int) := by
  refine scan_down hi (J := j) (fun q hq => ?_) j (Nat.le_refl _)
  unfold qdStep
  by_cases h : i ≤ q
  · rw [cnd_t (by simp; omega), elt_arr ha, bnd_some, elt_arr (by omega), bnd_some, less_eq, bnd_some, bnd_some, wrap_i64 (by omega) (by omega)]
    simp only [h, decide_true, Bool.true_and]
    cases lt8 d[a]! d[q]! <;> rfl
  · rw [cnd_f (by simp; omega), bnd_some, cond_false, if_neg (by simp [h])]
noncomputable def peStep (a_p1 : Int) : List Int × Int × Int → Option (Step (List Int × Int × Int) (List Int × Int)) := (fun (s1 : List Int × Int × Int) => bnd (loopM (τ := Int) (fun (s2 : Int) => bnd ((bif decide (s2 ≤ s1.2.2) then (bnd (elt s1.1 a_p1) fun x6 => bnd (elt s1.1 s2) fun x7 => bnd (m_cmp_Less_uint8 x6 x7) fun r1 => some (!r1)) else (some false) : Option Bool)) fun o3 => bif o3 then (some (.next (IntKind.wrap .i64 (s2 + 1)))) else (some (.done s2))) s1.2.1) fun o2 => bnd (loopM (τ := Int) (fun (s3 : Int) => bnd ((bif decide (o2 ≤ s3) then (bnd (elt s1.1 a_p1) fun x8 => bnd (elt s1.1 s3) fun x9 => bnd (m_cmp_Less_uint8 x8 x9) fun r2 => some r2) else (some false) : Option Bool)) fun o5 => bif o5 then (some (.next (IntKind.wrap .i64 (s3 - 1)))) else (some (.done s3))) s1.2.2) fun o4 => bif decide (o2 > o4) then (some (.done (s1.1, o2))) else (bnd (elt s1.1 o4) fun x10 => bnd (elt s1.1 o2) fun x11 => bnd (elt s1.1 o2) fun x12 => bnd (setE s1.1 o2 x10) fun l3 => bnd (elt l3 o4) fun x13 => bnd (setE l3 o4 x11) fun l4 => some (.next (l4, IntKind.wrap .i64 (o2 + 1), IntKind.wrap .i64 (o4 - 1)))))
theorem pe_loop (a : Nat) : ∀ (k i j : Nat) (d : Array Int), j + 1 - i ≤ k → a < d.size → j < d.size → d.size ≤ 100000 → 1 ≤ i → i ≤ 100001 → loopM (peStep (a : Int)) (d.toList, (i : Int), (j : Int)) = some ((partEqLoop lt8 a i j d).2.toList, ((partEqLoop lt8 a i j d).1 : Int))
  | k, i, j, d, hk, ha, hj, hs, hi1, hi => by
    have h1 := qu_eq ha hj hs i hi
    have h2 := scanUp_le (fun x => !lt8 d[a]! x) d j _ i (Nat.le_refl _)
    have h3 := qd_eq (i := scanUp (fun x => !lt8 d[a]! x) d j i) ha hs (by omega) j hj
    have h4 := Go.Sort.scanDown_le (fun x => lt8 d[a]! x) d (scanUp (fun x => !lt8 d[a]! x) d j i) j
    rw [Go.Sort.partEqLoop_eq]
    revert h1 h2 h3 h4
    generalize scanUp (fun x => !lt8 d[a]! x) d j i = i2
    generalize scanDown (fun x => lt8 d[a]! x) d i2 j = j2
    intro h1 h2 h3 h4
    unfold quStep at h1
    unfold qdStep at h3
    by_cases hgt : i2 > j2
    · rw [if_pos hgt]
      refine loop_done ?_
      unfold peStep
      simp only
      rw [h1, bnd_some, h3, bnd_some, cnd_t (by simp; omega)]
    · rw [if_neg hgt]
      cases k with
      | zero => omega
      | succ k =>
        refine loop_next ?_ (pe_loop a k (i2 + 1) (j2 - 1) (swp d i2 j2) (by omega) (by rw [swp_size]; exact ha) (by rw [swp_size]; omega) (by rw [swp_size]; exact hs) (by omega) (by omega))
        unfold peStep
        simp only
        rw [h1, bnd_some, h3, bnd_some, cnd_f (by simp; omega), elt_arr (show j2 < d.size by omega), bnd_some, elt_arr (show i2 < d.size by omega), bnd_some, bnd_some, swp_eq (by omega) (by omega), wrS (by omega), wrap_i64 (by omega) (by omega), show ((j2 : Int) - 1) = ((j2 - 1 : Nat) : Int) by omega]
theorem partitionEqual_eq {d : Array Int} {a b pivot : Nat} (hab : a < b) (hb : b ≤ d.size) (hp : pivot < d.size) (hs : d.size ≤ 100000) : m_slices_partitionEqualOrdered_uint8 d.toList (a : Int) (b : Int) (pivot : Int) = some ((Go.Sort.partitionEqual lt8 d a b pivot).2.toList, ((Go.Sort.partitionEqual lt8 d a b pivot).1 : Int)) := by
  unfold m_slices_partitionEqualOrdered_uint8
  rw [elt_arr hp, bnd_some, bnd_some, elt_arr (show a < d.size by omega), bnd_some, bnd_some, swp_eq (by omega) hp, wrap_i64 (x := (b : Int) - 1) (by omega) (by omega), show ((b : Int) - 1) = ((b - 1 : Nat) : Int) by omega, wrS (by omega)]
  have h5 := pe_loop a _ (a + 1) (b - 1) (swp d a pivot) (Nat.le_refl _) (by rw [swp_size]; omega) (by rw [swp_size]; omega) (by rw [swp_size]; omega) (by omega) (by omega)
  unfold peStep at h5
  rw [h5]
  rfl
end Go.Proofs.Ythdpagcklakahaa
namespace Go.Proofs.Ythdpagcklakahaa
open Go
open Go.Sort (swp scanSorted shiftDown shiftUp partialIns order2 median medianAdjacent choosePivot Hint bitsLen xorNext breakStep breakPatterns)
set_option linter.unusedSimpArgs false
set_option linter.unusedVariables false

noncomputable def ssStep (l : List Int) (b_p2 : Int) : Int → Option (Step Int Int) := (fun (s2 : Int) => bnd ((bif decide (s2 < b_p2) then (bnd (elt l s2) fun x1 => bnd (elt l (IntKind.wrap .i64 (s2 - 1))) fun x2 => bnd (m_cmp_Less_uint8 x1 x2) fun r1 => some (!r1)) else (some false) : Option Bool)) fun o4 => bif o4 then (some (.next (IntKind.wrap .i64 (s2 + 1)))) else (some (.done s2)))
theorem ss_eq {d : Array Int} {b : Nat} (hb : b ≤ d.size) (hs : d.size ≤ 100000) : ∀ (k i : Nat), b - i ≤ k → 1 ≤ i → loopM (ssStep d.toList (b : Int)) (i : Int) = some ((scanSorted lt8 d b i : Nat) : Int)
  | k, i, hk, hi => by
    have hst : ssStep d.toList (b : Int) (i : Int) = some (if (decide (i < b) && !lt8 d[i]! d[i - 1]!) = true then .next ((i + 1 : Nat) : Int) else .done (i : Int)) := by
      unfold ssStep
      by_cases h : i < b
      · rw [cnd_t (by simp; omega), elt_arr (by omega), bnd_some, wrap_i64 (by omega) (by omega), show ((i : Int) - 1) = ((i - 1 : Nat) : Int) by omega, elt_arr (by omega), bnd_some, less_eq, bnd_some, bnd_some, wrS (by omega)]
        simp only [h, decide_true, Bool.true_and]
        cases lt8 d[i]! d[i - 1]! <;> rfl
      · rw [cnd_f (by simp; omega), bnd_some, cond_false, if_neg (by simp [h])]
    unfold scanSorted
    by_cases h : (decide (i < b) && !lt8 d[i]! d[i - 1]!) = true
    · have h2 : i < b := by simp at h; exact h.1
      rw [if_pos h] at hst ⊢
      cases k with
      | zero => omega
      | succ k => exact loop_next hst (ss_eq hb hs k (i + 1) (by omega) (by omega))
    · rw [if_neg h] at hst ⊢
      exact loop_done hst
theorem ss_le (d : Array Int) (b : Nat) : ∀ (k i : Nat), b - i ≤ k → i ≤ b → i ≤ scanSorted lt8 d b i ∧ scanSorted lt8 d b i ≤ b
  | k, i, hk, hi => by
    unfold scanSorted
    by_cases h : (decide (i < b) && !lt8 d[i]! d[i - 1]!) = true
    · have h2 : i < b := by simp at h; exact h.1
      rw [if_pos h]
      cases k with
      | zero => omega
      | succ k =>
        have := ss_le d b k (i + 1) (by omega) (by omega)
        omega
    · rw [if_neg h]
      omega
noncomputable def sdStep : List Int × Int → Option (Step (List Int × Int) (List Int)) := (fun (s3 : List Int × Int) => bif decide (s3.2 ≥ 1) then (bnd (elt s3.1 s3.2) fun x8 => bnd (elt s3.1 (IntKind.wrap .i64 (s3.2 - 1))) fun x9 => bnd (m_cmp_Less_uint8 x8 x9) fun r2 => bif !r2 then (some (.done s3.1)) else (bnd (elt s3.1 (IntKind.wrap .i64 (s3.2 - 1))) fun x10 => bnd (elt s3.1 s3.2) fun x11 => bnd (elt s3.1 s3.2) fun x12 => bnd (setE s3.1 s3.2 x10) fun l3 => bnd (elt l3 (IntKind.wrap .i64 (s3.2 - 1))) fun x13 => bnd (setE l3 (IntKind.wrap .i64 (s3.2 - 1)) x11) fun l4 => some (.next (l4, IntKind.wrap .i64 (s3.2 - 1))))) else (some (.done s3.1)))
theorem sd_eq : ∀ (j : Nat) (d : Array Int), j < d.size → d.size ≤ 100000 → loopM sdStep (d.toList, (j : Int)) = some (shiftDown lt8 j d).toList
  | 0, d, h, hs => by
    refine loop_done ?_
    unfold sdStep
    simp only
    rw [cnd_f (by simp)]
    rfl
  | j + 1, d, h, hs => by
    have hst : sdStep (d.toList, ((j + 1 : Nat) : Int)) = some (if (!lt8 d[j + 1]! d[j]!) = true then .done d.toList else .next ((swp d (j + 1) j).toList, (j : Int))) := by
      unfold sdStep
      simp only
      rw [cnd_t (by simp; omega), wrP (by omega), elt_arr h, bnd_some, elt_arr (show j < d.size by omega), bnd_some, less_eq, bnd_some]
      cases lt8 d[j + 1]! d[j]!
      · rfl
      · rw [cnd_f (by rfl), bnd_some, bnd_some, bnd_some, swp_eq h (by omega)]
        rfl
    unfold shiftDown
    by_cases hc : (!lt8 d[j + 1]! d[j]!) = true
    · rw [if_pos hc] at hst ⊢
      exact loop_done hst
    · rw [if_neg hc] at hst ⊢
      exact loop_next hst (sd_eq j _ (by rw [swp_size]; omega) (by rw [swp_size]; omega))
theorem sd_size : ∀ (j : Nat) (d : Array Int), (shiftDown lt8 j d).size = d.size
  | 0, d => rfl
  | j + 1, d => by
    unfold shiftDown
    split
    · rfl
    · rw [sd_size j, swp_size]
noncomputable def suStep (b_p2 : Int) : List Int × Int → Option (Step (List Int × Int) (List Int)) := (fun (s4 : List Int × Int) => bif decide (s4.2 < b_p2) then (bnd (elt s4.1 s4.2) fun x14 => bnd (elt s4.1 (IntKind.wrap .i64 (s4.2 - 1))) fun x15 => bnd (m_cmp_Less_uint8 x14 x15) fun r3 => bif !r3 then (some (.done s4.1)) else (bnd (elt s4.1 (IntKind.wrap .i64 (s4.2 - 1))) fun x16 => bnd (elt s4.1 s4.2) fun x17 => bnd (elt s4.1 s4.2) fun x18 => bnd (setE s4.1 s4.2 x16) fun l5 => bnd (elt l5 (IntKind.wrap .i64 (s4.2 - 1))) fun x19 => bnd (setE l5 (IntKind.wrap .i64 (s4.2 - 1)) x17) fun l6 => some (.next (l6, IntKind.wrap .i64 (s4.2 + 1))))) else (some (.done s4.1)))
theorem su_eq (b : Nat) : ∀ (k j : Nat) (d : Array Int), b - j ≤ k → 1 ≤ j → b ≤ d.size → d.size ≤ 100000 → loopM (suStep (b : Int)) (d.toList, (j : Int)) = some (shiftUp lt8 b j d).toList
  | k, j, d, hk, hj, hb, hs => by
    unfold shiftUp
    by_cases h : j < b
    · rw [if_pos h]
      have hst : suStep (b : Int) (d.toList, (j : Int)) = some (if (!lt8 d[j]! d[j - 1]!) = true then .done d.toList else .next ((swp d j (j - 1)).toList, ((j + 1 : Nat) : Int))) := by
        unfold suStep
        simp only
        rw [cnd_t (by simp; omega), wrap_i64 (x := (j : Int) - 1) (by omega) (by omega), show ((j : Int) - 1) = ((j - 1 : Nat) : Int) by omega, elt_arr (by omega), bnd_some, elt_arr (by omega), bnd_some, less_eq, bnd_some]
        cases lt8 d[j]! d[j - 1]!
        · rfl
        · rw [cnd_f (by rfl), bnd_some, bnd_some, bnd_some, swp_eq (by omega) (by omega), wrS (by omega)]
          rfl
      by_cases hc : (!lt8 d[j]! d[j - 1]!) = true
      · rw [if_pos hc] at hst ⊢
        exact loop_done hst
      · rw [if_neg hc] at hst ⊢
        cases k with
        | zero => omega
        | succ k => exact loop_next hst (su_eq b k (j + 1) _ (by omega) (by omega) (by rw [swp_size]; omega) (by rw [swp_size]; omega))
    · rw [if_neg h]
      refine loop_done ?_
      unfold suStep
      simp only
      rw [cnd_f (by simp; omega)]
theorem su_size (b : Nat) : ∀ (k j : Nat) (d : Array Int), b - j ≤ k → (shiftUp lt8 b j d).size = d.size
  | k, j, d, hk => by
    unfold shiftUp
    split
    · split
      · rfl
      · cases k with
        | zero => omega
        | succ k => rw [su_size b k _ _ (by omega), swp_size]
    · rfl
noncomputable def piStep (a_p1 b_p2 : Int) : List Int × Int × Int → Option (Step (List Int × Int × Int) (((List Int) × Bool) ⊕ List Int)) := (fun (s1 : List Int × Int × Int) => bif decide (s1.2.2 < 5) then (bnd (loopM (τ := Int) (fun (s2 : Int) => bnd ((bif decide (s2 < b_p2) then (bnd (elt s1.1 s2) fun x1 => bnd (elt s1.1 (IntKind.wrap .i64 (s2 - 1))) fun x2 => bnd (m_cmp_Less_uint8 x1 x2) fun r1 => some (!r1)) else (some false) : Option Bool)) fun o4 => bif o4 then (some (.next (IntKind.wrap .i64 (s2 + 1)))) else (some (.done s2))) s1.2.1) fun o3 => bif (o3 == b_p2) then (some (.done (.inl (s1.1, true)))) else (bif decide ((IntKind.wrap .i64 (b_p2 - a_p1)) < 50) then (some (.done (.inl (s1.1, false)))) else (bnd (elt s1.1 (IntKind.wrap .i64 (o3 - 1))) fun x3 => bnd (elt s1.1 (IntKind.wrap .i64 (o3 - 1))) fun x4 => bnd (elt s1.1 o3) fun x5 => bnd (elt s1.1 o3) fun x6 => bnd (setE s1.1 o3 x4) fun l1 => bnd (elt l1 (IntKind.wrap .i64 (o3 - 1))) fun x7 => bnd (setE l1 (IntKind.wrap .i64 (o3 - 1)) x5) fun l2 => bnd ((bif decide ((IntKind.wrap .i64 (o3 - a_p1)) ≥ 2) then (bnd (loopM (τ := List Int) (fun (s3 : List Int × Int) => bif decide (s3.2 ≥ 1) then (bnd (elt s3.1 s3.2) fun x8 => bnd (elt s3.1 (IntKind.wrap .i64 (s3.2 - 1))) fun x9 => bnd (m_cmp_Less_uint8 x8 x9) fun r2 => bif !r2 then (some (.done s3.1)) else (bnd (elt s3.1 (IntKind.wrap .i64 (s3.2 - 1))) fun x10 => bnd (elt s3.1 s3.2) fun x11 => bnd (elt s3.1 s3.2) fun x12 => bnd (setE s3.1 s3.2 x10) fun l3 => bnd (elt l3 (IntKind.wrap .i64 (s3.2 - 1))) fun x13 => bnd (setE l3 (IntKind.wrap .i64 (s3.2 - 1)) x11) fun l4 => some (.next (l4, IntKind.wrap .i64 (s3.2 - 1))))) else (some (.done s3.1))) (l2, IntKind.wrap .i64 (o3 - 1))) fun o6 => some o6) else (some l2) : Option (List Int))) fun o5 => bif decide ((IntKind.wrap .i64 (b_p2 - o3)) ≥ 2) then (bnd (loopM (τ := List Int) (fun (s4 : List Int × Int) => bif decide (s4.2 < b_p2) then (bnd (elt s4.1 s4.2) fun x14 => bnd (elt s4.1 (IntKind.wrap .i64 (s4.2 - 1))) fun x15 => bnd (m_cmp_Less_uint8 x14 x15) fun r3 => bif !r3 then (some (.done s4.1)) else (bnd (elt s4.1 (IntKind.wrap .i64 (s4.2 - 1))) fun x16 => bnd (elt s4.1 s4.2) fun x17 => bnd (elt s4.1 s4.2) fun x18 => bnd (setE s4.1 s4.2 x16) fun l5 => bnd (elt l5 (IntKind.wrap .i64 (s4.2 - 1))) fun x19 => bnd (setE l5 (IntKind.wrap .i64 (s4.2 - 1)) x17) fun l6 => some (.next (l6, IntKind.wrap .i64 (s4.2 + 1))))) else (some (.done s4.1))) (o5, IntKind.wrap .i64 (o3 + 1))) fun o7 => some (.next (o7, o3, IntKind.wrap .i64 (s1.2.2 + 1)))) else (some (.next (o5, o3, IntKind.wrap .i64 (s1.2.2 + 1))))))) else (some (.done (.inr s1.1))))
theorem pi_loop (a b : Nat) (hab : a < b) : ∀ (s i : Nat) (d : Array Int), s ≤ 5 → a + 1 ≤ i → i ≤ b → b ≤ d.size → d.size ≤ 100000 → ∃ o, loopM (piStep (a : Int) (b : Int)) (d.toList, (i : Int), ((5 - s : Nat) : Int)) = some o ∧ (retOr o fun o2 => some (o2, false)) = some ((partialIns lt8 a b s i d).1.toList, (partialIns lt8 a b s i d).2)
  | 0, i, d, h5, h1, h2, hb, hs => by
    refine ⟨.inr d.toList, loop_done ?_, rfl⟩
    unfold piStep
    simp only
    rw [cnd_f (by simp)]
  | s + 1, i, d, h5, h1, h2, hb, hs => by
    have e1 := ss_eq hb hs _ i (Nat.le_refl _) (by omega)
    have e2 := ss_le d b _ i (Nat.le_refl _) h2
    have eP : partialIns lt8 a b (s + 1) i d = (if scanSorted lt8 d b i = b then (d, true) else if b - a < 50 then (d, false) else
      partialIns lt8 a b s (scanSorted lt8 d b i) (if b - scanSorted lt8 d b i ≥ 2 then shiftUp lt8 b (scanSorted lt8 d b i + 1) (if scanSorted lt8 d b i - a ≥ 2 then shiftDown lt8 (scanSorted lt8 d b i - 1) (swp d (scanSorted lt8 d b i) (scanSorted lt8 d b i - 1)) else swp d (scanSorted lt8 d b i) (scanSorted lt8 d b i - 1)) else (if scanSorted lt8 d b i - a ≥ 2 then shiftDown lt8 (scanSorted lt8 d b i - 1) (swp d (scanSorted lt8 d b i) (scanSorted lt8 d b i - 1)) else swp d (scanSorted lt8 d b i) (scanSorted lt8 d b i - 1)))) := rfl
    rw [eP]
    clear eP
    revert e1 e2
    generalize scanSorted lt8 d b i = q
    intro e1 e2
    unfold ssStep at e1
    have w : IntKind.wrap .i64 ((b : Int) - (a : Int)) = ((b - a : Nat) : Int) := by rw [wrap_i64 (by omega) (by omega)]; omega
    by_cases h3 : q = b
    · refine ⟨.inl (d.toList, true), loop_done ?_, by rw [if_pos h3]; rfl⟩
      unfold piStep
      simp only
      rw [cnd_t (by simp; omega), e1, bnd_some, cnd_t (by simp; omega)]
    · rw [if_neg h3]
      by_cases h4 : b - a < 50
      · refine ⟨.inl (d.toList, false), loop_done ?_, by rw [if_pos h4]; rfl⟩
        unfold piStep
        simp only
        rw [cnd_t (by simp; omega), e1, bnd_some, cnd_f (by simp; omega), w, cnd_t (by simp; omega)]
      · rw [if_neg h4]
        have hz : (swp d q (q - 1)).size = d.size := swp_size _ _ _
        have hD : ∃ f, f = (if q - a ≥ 2 then shiftDown lt8 (q - 1) (swp d q (q - 1)) else swp d q (q - 1)) ∧ f.size = d.size := by
          refine ⟨_, rfl, ?_⟩
          split
          · rw [sd_size, hz]
          · exact hz
        obtain ⟨f, hf, hfz⟩ := hD
        have hG : ∃ g, g = (if b - q ≥ 2 then shiftUp lt8 b (q + 1) f else f) ∧ g.size = d.size := by
          refine ⟨_, rfl, ?_⟩
          split
          · rw [su_size b _ _ _ (Nat.le_refl _), hfz]
          · exact hfz
        obtain ⟨g, hg, hgz⟩ := hG
        rw [← hf, ← hg]
        obtain ⟨o, o1, o2⟩ := pi_loop a b hab s q g (by omega) (by omega) (by omega) (by omega) (by omega)
        refine ⟨o, loop_next ?_ o1, o2⟩
        unfold piStep
        simp only
        rw [cnd_t (by simp; omega), e1, bnd_some, cnd_f (by simp; omega), w, cnd_f (by simp; omega), wrap_i64 (x := (q : Int) - 1) (by omega) (by omega), show ((q : Int) - 1) = ((q - 1 : Nat) : Int) by omega, elt_arr (show q - 1 < d.size by omega), bnd_some, bnd_some, elt_arr (show q < d.size by omega), bnd_some, bnd_some, swp_eq (by omega) (by omega), wrap_i64 (x := (q : Int) - (a : Int)) (by omega) (by omega), wrap_i64 (x := (b : Int) - (q : Int)) (by omega) (by omega), wrS (by omega)]
        have e3 : (bif decide ((q : Int) - (a : Int) ≥ 2) then (bnd (loopM (τ := List Int) sdStep ((swp d q (q - 1)).toList, ((q - 1 : Nat) : Int))) fun o6 => some o6) else (some (swp d q (q - 1)).toList) : Option (List Int)) = some f.toList := by
          by_cases h6 : q - a ≥ 2
          · rw [cnd_t (by simp; omega), sd_eq _ _ (by omega) (by omega), hf, if_pos h6]
            rfl
          · rw [cnd_f (by simp; omega), hf, if_neg h6]
        unfold sdStep at e3
        rw [e3, bnd_some]
        have e4 : IntKind.wrap .i64 (((5 - (s + 1) : Nat) : Int) + 1) = ((5 - s : Nat) : Int) := by rw [wrap_i64 (by omega) (by omega)]; omega
        rw [e4]
        by_cases h7 : b - q ≥ 2
        · have e5 := su_eq b _ (q + 1) f (Nat.le_refl _) (by omega) (by omega) (by omega)
          unfold suStep at e5
          rw [cnd_t (by simp; omega), e5, bnd_some, hg, if_pos h7]
        · rw [cnd_f (by simp; omega), hg, if_neg h7]
theorem partial_eq {d : Array Int} {a b : Nat} (hab : a < b) (hb : b ≤ d.size) (hs : d.size ≤ 100000) : m_slices_partialInsertionSortOrdered_uint8 d.toList (a : Int) (b : Int) = some ((Go.Sort.partialInsertionSort lt8 d a b).1.toList, (Go.Sort.partialInsertionSort lt8 d a b).2) := by
  unfold m_slices_partialInsertionSortOrdered_uint8
  rw [wrS (by omega)]
  obtain ⟨o, h1, h2⟩ := pi_loop a b hab 5 (a + 1) d (by omega) (by omega) (by omega) hb hs
  unfold piStep at h1
  show bnd (loopM _ (d.toList, ((a + 1 : Nat) : Int), ((5 - 5 : Nat) : Int))) _ = _
  rw [h1]
  exact h2

/-! ## The pivot -/

theorem order2_eq {d : Array Int} {a b s : Nat} (ha : a < d.size) (hb : b < d.size) (hs : s ≤ 1000) : m_slices_order2Ordered_uint8 d.toList (a : Int) (b : Int) (s : Int) = some (((order2 lt8 d a b s).2.2 : Int), ((order2 lt8 d a b s).1 : Int), ((order2 lt8 d a b s).2.1 : Int)) := by
  unfold m_slices_order2Ordered_uint8 order2
  rw [elt_arr hb, bnd_some, elt_arr ha, bnd_some, less_eq, bnd_some, wrS (by omega)]
  cases lt8 d[b]! d[a]! <;> rfl
theorem order2_in {d : Array Int} {a b s : Nat} : ((order2 lt8 d a b s).1 = a ∨ (order2 lt8 d a b s).1 = b) ∧ ((order2 lt8 d a b s).2.1 = a ∨ (order2 lt8 d a b s).2.1 = b) ∧ (order2 lt8 d a b s).2.2 ≤ s + 1 := by
  unfold order2
  split
  · exact ⟨.inr rfl, .inl rfl, Nat.le_refl _⟩
  · exact ⟨.inl rfl, .inr rfl, Nat.le_succ _⟩
theorem median_eq {d : Array Int} {a b c s : Nat} (ha : a < d.size) (hb : b < d.size) (hc : c < d.size) (hs : s ≤ 900) : m_slices_medianOrdered_uint8 d.toList (a : Int) (b : Int) (c : Int) (s : Int) = some (((median lt8 d a b c s).2 : Int), ((median lt8 d a b c s).1 : Int)) ∧ ((median lt8 d a b c s).1 = a ∨ (median lt8 d a b c s).1 = b ∨ (median lt8 d a b c s).1 = c) ∧ (median lt8 d a b c s).2 ≤ s + 3 := by
  have h1 := order2_in (d := d) (a := a) (b := b) (s := s)
  have e1 := order2_eq (d := d) (a := a) (b := b) (s := s) ha hb (by omega)
  unfold m_slices_medianOrdered_uint8 median
  rw [e1, bnd_some]
  simp only
  revert h1
  generalize order2 lt8 d a b s = r1
  intro h1
  have h2 := order2_in (d := d) (a := r1.2.1) (b := c) (s := r1.2.2)
  have e2 := order2_eq (d := d) (a := r1.2.1) (b := c) (s := r1.2.2) (by omega) hc (by omega)
  rw [e2, bnd_some]
  simp only
  revert h2
  generalize order2 lt8 d r1.2.1 c r1.2.2 = r2
  intro h2
  have h3 := order2_in (d := d) (a := r1.1) (b := r2.1) (s := r2.2.2)
  have e3 := order2_eq (d := d) (a := r1.1) (b := r2.1) (s := r2.2.2) (by omega) (by omega) (by omega)
  rw [e3, bnd_some]
  exact ⟨rfl, by omega, by omega⟩
theorem adjacent_eq {d : Array Int} {a s : Nat} (h1 : 1 ≤ a) (ha : a + 1 < d.size) (hd : d.size ≤ 100000) (hs : s ≤ 900) : m_slices_medianAdjacentOrdered_uint8 d.toList (a : Int) (s : Int) = some (((medianAdjacent lt8 d a s).2 : Int), ((medianAdjacent lt8 d a s).1 : Int)) ∧ ((medianAdjacent lt8 d a s).1 ≤ a + 1) ∧ (medianAdjacent lt8 d a s).2 ≤ s + 3 := by
  unfold m_slices_medianAdjacentOrdered_uint8 medianAdjacent
  obtain ⟨e1, e2, e3⟩ := median_eq (d := d) (a := a - 1) (b := a) (c := a + 1) (s := s) (by omega) (by omega) ha hs
  rw [wrS (by omega), wrap_i64 (by omega) (by omega), show ((a : Int) - 1) = ((a - 1 : Nat) : Int) by omega, e1, bnd_some]
  exact ⟨rfl, by omega, e3⟩
def hintI : Hint → Int
  | .unknown => 0
  | .increasing => 1
  | .decreasing => 2
theorem pivot_eq {d : Array Int} {a b : Nat} (hab : a + 12 < b) (hb : b ≤ d.size) (hs : d.size ≤ 100000) : m_slices_choosePivotOrdered_uint8 d.toList (a : Int) (b : Int) = some (((choosePivot lt8 d a b).1 : Int), hintI (choosePivot lt8 d a b).2) := by
  unfold m_slices_choosePivotOrdered_uint8
  have w : IntKind.wrap .i64 ((b : Int) - (a : Int)) = ((b - a : Nat) : Int) := by rw [wrap_i64 (by omega) (by omega)]; omega
  have wd : IntKind.wrap .i64 (((b - a : Nat) : Int).tdiv 4) = (((b - a) / 4 : Nat) : Int) := by
    have : ((b - a : Nat) : Int).tdiv ((4 : Nat) : Int) = (((b - a) / 4 : Nat) : Int) := tdiv_n _ _
    rw [show ((b - a : Nat) : Int).tdiv 4 = (((b - a) / 4 : Nat) : Int) from this, wrap_i64 (by omega) (by omega)]
  have wi : ∀ q : Nat, q ≤ 3 → IntKind.wrap .i64 ((a : Int) + IntKind.wrap .i64 ((((b - a) / 4 : Nat) : Int) * (q : Int))) = ((a + (b - a) / 4 * q : Nat) : Int) := fun q hq => by
    have h4 : (b - a) / 4 * q ≤ (b - a) / 4 * 3 := Nat.mul_le_mul (Nat.le_refl _) hq
    have e : (((b - a) / 4 : Nat) : Int) * (q : Int) = (((b - a) / 4 * q : Nat) : Int) := by simp
    rw [e, wrap_i64 (x := (((b - a) / 4 * q : Nat) : Int)) (by omega) (by omega), wrap_i64 (by omega) (by omega)]
    omega
  have w1 := wi 1 (by omega)
  have w2 := wi 2 (by omega)
  have w3 := wi 3 (by omega)
  rw [w, wd, show IntKind.wrap .i64 ((a : Int) + IntKind.wrap .i64 ((((b - a) / 4 : Nat) : Int) * 1)) = _ from w1, show IntKind.wrap .i64 ((a : Int) + IntKind.wrap .i64 ((((b - a) / 4 : Nat) : Int) * 2)) = _ from w2, show IntKind.wrap .i64 ((a : Int) + IntKind.wrap .i64 ((((b - a) / 4 : Nat) : Int) * 3)) = _ from w3, cnd_t (by simp; omega)]
  have fin : ∀ r : Nat × Nat, (bif ((r.2 : Int) == 0) then (some ((r.1 : Int), (1 : Int))) else (bif ((r.2 : Int) == 12) then (some ((r.1 : Int), 2)) else (some ((r.1 : Int), 0)))) = some ((r.1 : Int), hintI (if r.2 = 0 then Hint.increasing else if r.2 = 12 then Hint.decreasing else Hint.unknown)) := fun r => by
    by_cases h0 : r.2 = 0
    · rw [cnd_t (by simp [h0]), if_pos h0]; rfl
    · rw [cnd_f (by simp; omega), if_neg h0]
      by_cases h12 : r.2 = 12
      · rw [cnd_t (by simp [h12]), if_pos h12]; rfl
      · rw [cnd_f (by simp; omega), if_neg h12]; rfl
  have hq : (b - a) / 4 * 1 ≤ (b - a) / 4 * 3 := Nat.mul_le_mul (Nat.le_refl _) (by omega)
  have hq2 : (b - a) / 4 * 2 ≤ (b - a) / 4 * 3 := Nat.mul_le_mul (Nat.le_refl _) (by omega)
  have hq3 : (b - a) / 4 * 3 ≤ b - a - 3 := by omega
  have hq4 : 1 ≤ (b - a) / 4 * 1 := by omega
  unfold choosePivot
  simp only
  rw [if_pos (show b - a ≥ 8 by omega)]
  by_cases h50 : b - a ≥ 50
  · rw [cnd_t (by simp; omega), if_pos h50]
    obtain ⟨a1, a2, a3⟩ := adjacent_eq (d := d) (a := a + (b - a) / 4 * 1) (s := 0) (by omega) (by omega) hs (by omega)
    rw [show m_slices_medianAdjacentOrdered_uint8 d.toList ((a + (b - a) / 4 * 1 : Nat) : Int) 0 = _ from a1, bnd_some]
    simp only
    revert a2 a3
    generalize medianAdjacent lt8 d (a + (b - a) / 4 * 1) 0 = ri
    intro a2 a3
    obtain ⟨b1, b2, b3⟩ := adjacent_eq (d := d) (a := a + (b - a) / 4 * 2) (s := ri.2) (by omega) (by omega) hs (by omega)
    rw [b1, bnd_some]
    simp only
    revert b2 b3
    generalize medianAdjacent lt8 d (a + (b - a) / 4 * 2) ri.2 = rj
    intro b2 b3
    obtain ⟨c1, c2, c3⟩ := adjacent_eq (d := d) (a := a + (b - a) / 4 * 3) (s := rj.2) (by omega) (by omega) hs (by omega)
    rw [c1, bnd_some]
    simp only
    revert c2 c3
    generalize medianAdjacent lt8 d (a + (b - a) / 4 * 3) rj.2 = rk
    intro c2 c3
    obtain ⟨d1, _, _⟩ := median_eq (d := d) (a := ri.1) (b := rj.1) (c := rk.1) (s := rk.2) (by omega) (by omega) (by omega) (by omega)
    rw [d1, bnd_some, bnd_some]
    exact fin _
  · rw [cnd_f (by simp; omega), if_neg h50]
    obtain ⟨d1, _, _⟩ := median_eq (d := d) (a := a + (b - a) / 4 * 1) (b := a + (b - a) / 4 * 2) (c := a + (b - a) / 4 * 3) (s := 0) (by omega) (by omega) (by omega) (by omega)
    rw [show m_slices_medianOrdered_uint8 d.toList ((a + (b - a) / 4 * 1 : Nat) : Int) ((a + (b - a) / 4 * 2 : Nat) : Int) ((a + (b - a) / 4 * 3 : Nat) : Int) 0 = _ from d1, bnd_some, bnd_some]
    exact fin _
end Go.Proofs.Ythdpagcklakahaa
namespace Go.Proofs.Ythdpagcklakahaa
open Go
open Go.Sort (swp bitsLen xorNext breakStep breakPatterns)
set_option linter.unusedSimpArgs false
set_option linter.unusedVariables false

theorem iXor_u64 {a b : Nat} (ha : a < 18446744073709551616) (hb : b < 18446744073709551616) : iXor .u64 (a : Int) (b : Int) = ((a ^^^ b : Nat) : Int) := by
  unfold iXor
  rw [BitVec.toNat_xor, ofNat_toNat (by exact ha), ofNat_toNat (by exact hb), wrap_u64n (Nat.xor_lt_two_pow (n := 64) ha hb)]
theorem wrap_u64m (n : Nat) : IntKind.wrap .u64 (n : Int) = ((n % 18446744073709551616 : Nat) : Int) := by
  show (n : Int) % 2 ^ 64 = _
  omega
theorem iShl_u64 {a s : Nat} (hs : s ≤ 64) : iShl .u64 (a : Int) (s : Int) = ((a * 2 ^ s % 18446744073709551616 : Nat) : Int) := by
  unfold iShl
  have : min (s : Int).toNat (IntKind.bits .u64) = s := by show min (s : Int).toNat 64 = s; omega
  rw [this]
  have e : ((a : Int) * 2 ^ s) = ((a * 2 ^ s : Nat) : Int) := by simp
  rw [e, wrap_u64m]
theorem next_eq (u : UInt64) : m_slices_xorshift_Next (u.toNat : Int) = some (((xorNext u).toNat : Int), ((xorNext u).toNat : Int)) := by
  have hb : ∀ v : UInt64, v.toNat < 18446744073709551616 := fun v => v.toNat_lt
  have sh1 : ∀ v : UInt64, iShl .u64 (v.toNat : Int) 13 = ((v <<< 13).toNat : Int) := fun v => by
    rw [show iShl .u64 (v.toNat : Int) 13 = _ from iShl_u64 (a := v.toNat) (s := 13) (by omega), UInt64.toNat_shiftLeft, Nat.shiftLeft_eq]
    rfl
  have sh3 : ∀ v : UInt64, iShl .u64 (v.toNat : Int) 17 = ((v <<< 17).toNat : Int) := fun v => by
    rw [show iShl .u64 (v.toNat : Int) 17 = _ from iShl_u64 (a := v.toNat) (s := 17) (by omega), UInt64.toNat_shiftLeft, Nat.shiftLeft_eq]
    rfl
  have sh2 : ∀ v : UInt64, iShr .u64 (v.toNat : Int) 7 = ((v >>> 7).toNat : Int) := fun v => by
    rw [show iShr .u64 (v.toNat : Int) 7 = _ from iShr_n (k := .u64) (a := v.toNat) (s := 7) (by show 7 ≤ 64; omega), UInt64.toNat_shiftRight, Nat.shiftRight_eq_div_pow]
    rfl
  have xr : ∀ v w : UInt64, iXor .u64 (v.toNat : Int) (w.toNat : Int) = ((v ^^^ w).toNat : Int) := fun v w => by
    rw [iXor_u64 (hb v) (hb w), UInt64.toNat_xor]
  unfold m_slices_xorshift_Next xorNext
  rw [sh1, xr, sh2, xr, sh3, xr]
theorem len_eq : ∀ n : Fin 1001, m_math_bits_Len ((n.val : Nat) : Int) = some ((bitsLen n.val : Nat) : Int) := by
  decide +kernel
theorem iAnd_u64 {a b : Nat} (ha : a < 18446744073709551616) (hb : b < 18446744073709551616) : iAnd .u64 (a : Int) (b : Int) = ((a &&& b : Nat) : Int) := by
  unfold iAnd
  rw [BitVec.toNat_and, ofNat_toNat (by exact ha), ofNat_toNat (by exact hb), wrap_u64n (Nat.and_lt_two_pow (n := 64) a hb)]
theorem pow_eq {n : Nat} (h0 : 0 < n) (h : n ≤ 1000) : m_slices_nextPowerOfTwo (n : Int) = some ((1 <<< bitsLen n : Nat) : Int) ∧ 1 <<< bitsLen n ≤ 2 * n ∧ 1 ≤ 1 <<< bitsLen n := by
  have h1 := Go.Sort.two_pow_bitsLen_le h0
  have h2 : 0 < 2 ^ bitsLen n := Nat.two_pow_pos _
  have h3 : bitsLen n ≤ 64 := by
    rw [Go.Sort.bitsLen_le_iff]
    exact Nat.lt_of_le_of_lt h (by decide)
  refine ⟨?_, by rw [Nat.one_shiftLeft]; exact h1, by rw [Nat.one_shiftLeft]; exact h2⟩
  unfold m_slices_nextPowerOfTwo
  rw [wrap_u64n (by omega), len_eq ⟨n, by omega⟩, bnd_some]
  unfold shlM
  rw [if_neg (by simp), bnd_some]
  have e : iShl .u64 ((1 : Nat) : Int) ((bitsLen n : Nat) : Int) = _ := iShl_u64 (a := 1) h3
  rw [show iShl .u64 1 ((bitsLen n : Nat) : Int) = _ from e, Nat.one_mul, Nat.one_shiftLeft, Nat.mod_eq_of_lt (by omega)]
noncomputable def bpStep (a_p1 b_p2 r1 : Int) : List Int × Int × Int → Option (Step (List Int × Int × Int) (List Int × Int)) := (fun (s1 : List Int × Int × Int) => bif decide (s1.2.1 ≤ (IntKind.wrap .i64 ((IntKind.wrap .i64 (a_p1 + (IntKind.wrap .i64 ((IntKind.wrap .i64 ((IntKind.wrap .i64 (b_p2 - a_p1)).tdiv 4)) * 2)))) + 1))) then (bnd (m_slices_xorshift_Next s1.2.2) fun r2 => bnd ((bif decide ((IntKind.wrap .i64 (iAnd .u64 r2.2 (IntKind.wrap .u64 (r1 - 1)))) ≥ (IntKind.wrap .i64 (b_p2 - a_p1))) then (some (IntKind.wrap .i64 ((IntKind.wrap .i64 (iAnd .u64 r2.2 (IntKind.wrap .u64 (r1 - 1)))) - (IntKind.wrap .i64 (b_p2 - a_p1))))) else (some (IntKind.wrap .i64 (iAnd .u64 r2.2 (IntKind.wrap .u64 (r1 - 1))))) : Option Int)) fun o2 => bnd (elt s1.1 (IntKind.wrap .i64 (a_p1 + o2))) fun x1 => bnd (elt s1.1 (IntKind.wrap .i64 (a_p1 + o2))) fun x2 => bnd (elt s1.1 s1.2.1) fun x3 => bnd (elt s1.1 s1.2.1) fun x4 => bnd (setE s1.1 s1.2.1 x2) fun l1 => bnd (elt l1 (IntKind.wrap .i64 (a_p1 + o2))) fun x5 => bnd (setE l1 (IntKind.wrap .i64 (a_p1 + o2)) x3) fun l2 => some (.next (l2, IntKind.wrap .i64 (s1.2.1 + 1), r2.1))) else (some (.done (s1.1, s1.2.2))))
theorem bp_step {d : Array Int} {a b idx : Nat} {u : UInt64} (hab : a < b) (hb : b ≤ d.size) (hs : d.size ≤ 1000) (hi : idx ≤ a + (b - a) / 4 * 2 + 1) (hi2 : idx < b) : bpStep (a : Int) (b : Int) ((1 <<< bitsLen (b - a) : Nat) : Int) (d.toList, (idx : Int), (u.toNat : Int)) = some (.next ((breakStep a (b - a) (1 <<< bitsLen (b - a)) (u, d) idx).2.toList, ((idx + 1 : Nat) : Int), ((xorNext u).toNat : Int))) := by
  have w : IntKind.wrap .i64 ((b : Int) - (a : Int)) = ((b - a : Nat) : Int) := by rw [wrap_i64 (by omega) (by omega)]; omega
  have wd : IntKind.wrap .i64 (((b - a : Nat) : Int).tdiv 4) = (((b - a) / 4 : Nat) : Int) := by
    have : ((b - a : Nat) : Int).tdiv ((4 : Nat) : Int) = (((b - a) / 4 : Nat) : Int) := tdiv_n _ _
    rw [show ((b - a : Nat) : Int).tdiv 4 = (((b - a) / 4 : Nat) : Int) from this, wrap_i64 (by omega) (by omega)]
  obtain ⟨_, p1, p2⟩ := pow_eq (n := b - a) (by omega) (by omega)
  have hm : (xorNext u).toNat &&& (1 <<< bitsLen (b - a) - 1) ≤ 1 <<< bitsLen (b - a) - 1 := Nat.and_le_right
  unfold bpStep breakStep
  simp only
  revert p1 p2 hm
  generalize 1 <<< bitsLen (b - a) = mo
  intro p1 p2 hm
  rw [w, wd, wrap_i64 (x := (((b - a) / 4 : Nat) : Int) * 2) (by omega) (by omega), wrap_i64 (x := (a : Int) + (((b - a) / 4 : Nat) : Int) * 2) (by omega) (by omega), wrap_i64 (x := (a : Int) + (((b - a) / 4 : Nat) : Int) * 2 + 1) (by omega) (by omega), cnd_t (by simp; omega), next_eq, bnd_some]
  simp only
  have w2 : IntKind.wrap .u64 ((mo : Int) - 1) = ((mo - 1 : Nat) : Int) := by rw [wrap_u64 (by omega) (by omega)]; omega
  rw [w2, iAnd_u64 ((xorNext u).toNat_lt) (by omega), wr (by omega)]
  revert hm
  generalize (xorNext u).toNat &&& (mo - 1) = q
  intro hm
  have hq : (bif decide ((q : Int) ≥ ((b - a : Nat) : Int)) then (some (IntKind.wrap .i64 ((q : Int) - ((b - a : Nat) : Int)))) else (some (q : Int)) : Option Int) = some (((if q ≥ b - a then q - (b - a) else q : Nat)) : Int) := by
    by_cases h : q ≥ b - a
    · rw [cnd_t (by simp; omega), if_pos h, wrap_i64 (by omega) (by omega)]
      congr 1
      omega
    · rw [cnd_f (by simp; omega), if_neg h]
  rw [hq, bnd_some]
  have hr : (if q ≥ b - a then q - (b - a) else q) < b - a := by split <;> omega
  revert hr
  generalize (if q ≥ b - a then q - (b - a) else q) = o
  intro hr
  have w3 : IntKind.wrap .i64 ((a : Int) + (o : Int)) = ((a + o : Nat) : Int) := by rw [wrap_i64 (by omega) (by omega)]; omega
  rw [w3, elt_arr (show a + o < d.size by omega), bnd_some, bnd_some, elt_arr (show idx < d.size by omega), bnd_some, bnd_some, swp_eq (by omega) (by omega), wrS (by omega)]
theorem bp_size {d : Array Int} (a l m : Nat) (u : UInt64) (idx : Nat) : (breakStep a l m (u, d) idx).2.size = d.size ∧ (breakStep a l m (u, d) idx).1 = xorNext u := by
  unfold breakStep
  exact ⟨swp_size _ _ _, rfl⟩
theorem break_eq {d : Array Int} {a b : Nat} (hab : a + 12 < b) (hb : b ≤ d.size) (hs : d.size ≤ 1000) : m_slices_breakPatternsOrdered_uint8 d.toList (a : Int) (b : Int) = some (breakPatterns d a b).toList := by
  have w : IntKind.wrap .i64 ((b : Int) - (a : Int)) = ((b - a : Nat) : Int) := by rw [wrap_i64 (by omega) (by omega)]; omega
  have wd : IntKind.wrap .i64 (((b - a : Nat) : Int).tdiv 4) = (((b - a) / 4 : Nat) : Int) := by
    have : ((b - a : Nat) : Int).tdiv ((4 : Nat) : Int) = (((b - a) / 4 : Nat) : Int) := tdiv_n _ _
    rw [show ((b - a : Nat) : Int).tdiv 4 = (((b - a) / 4 : Nat) : Int) from this, wrap_i64 (by omega) (by omega)]
  obtain ⟨p0, _, _⟩ := pow_eq (n := b - a) (by omega) (by omega)
  unfold m_slices_breakPatternsOrdered_uint8 breakPatterns
  simp only
  rw [if_pos (show b - a ≥ 8 by omega)]
  have hl : IntKind.wrap .u64 ((b - a : Nat) : Int) = ((UInt64.ofNat (b - a)).toNat : Int) := by
    rw [wrap_u64n (by omega), UInt64.toNat_ofNat_of_lt' (by show b - a < 18446744073709551616; omega)]
  have hlp : ∀ (f : Array Int × UInt64), True := fun _ => trivial
  generalize hu : UInt64.ofNat (b - a) = u0 at hl
  generalize hi0 : a + (b - a) / 4 * 2 - 1 = i0
  generalize hd1 : breakStep a (b - a) (1 <<< bitsLen (b - a)) (u0, d) i0 = s1
  have z1 := bp_size (d := d) a (b - a) (1 <<< bitsLen (b - a)) u0 i0
  rw [hd1] at z1
  obtain ⟨u1, d1⟩ := s1
  generalize hd2 : breakStep a (b - a) (1 <<< bitsLen (b - a)) (u1, d1) (i0 + 1) = s2
  have z2 := bp_size (d := d1) a (b - a) (1 <<< bitsLen (b - a)) u1 (i0 + 1)
  rw [hd2] at z2
  obtain ⟨u2, d2⟩ := s2
  generalize hd3 : breakStep a (b - a) (1 <<< bitsLen (b - a)) (u2, d2) (i0 + 2) = s3
  have z3 := bp_size (d := d2) a (b - a) (1 <<< bitsLen (b - a)) u2 (i0 + 2)
  rw [hd3] at z3
  obtain ⟨u3, d3⟩ := s3
  simp only at z1 z2 z3
  have q1 := bp_step (d := d) (a := a) (b := b) (idx := i0) (u := u0) (by omega) hb hs (by omega) (by omega)
  rw [hd1] at q1
  have q2 := bp_step (d := d1) (a := a) (b := b) (idx := i0 + 1) (u := u1) (by omega) (by omega) (by omega) (by omega) (by omega)
  rw [hd2] at q2
  have q3 := bp_step (d := d2) (a := a) (b := b) (idx := i0 + 2) (u := u2) (by omega) (by omega) (by omega) (by omega) (by omega)
  rw [hd3] at q3
  have q4 : bpStep (a : Int) (b : Int) ((1 <<< bitsLen (b - a) : Nat) : Int) (d3.toList, ((i0 + 3 : Nat) : Int), (u3.toNat : Int)) = some (.done (d3.toList, (u3.toNat : Int))) := by
    unfold bpStep
    simp only
    rw [w, wd, wrap_i64 (x := (((b - a) / 4 : Nat) : Int) * 2) (by omega) (by omega), wrap_i64 (x := (a : Int) + (((b - a) / 4 : Nat) : Int) * 2) (by omega) (by omega), wrap_i64 (x := (a : Int) + (((b - a) / 4 : Nat) : Int) * 2 + 1) (by omega) (by omega), cnd_f (by simp; omega)]
  have hloop : loopM (bpStep (a : Int) (b : Int) ((1 <<< bitsLen (b - a) : Nat) : Int)) (d.toList, (i0 : Int), (u0.toNat : Int)) = some (d3.toList, (u3.toNat : Int)) := by
    refine loop_next q1 ?_
    simp only
    rw [← z1.2]
    refine loop_next q2 ?_
    rw [← z2.2]
    refine loop_next q3 ?_
    rw [← z3.2]
    exact loop_done q4
  unfold bpStep at hloop
  rw [w, wd] at hloop
  rw [w, wd, cnd_t (by simp; omega), p0, bnd_some, wrap_i64 (x := (((b - a) / 4 : Nat) : Int) * 2) (by omega) (by omega), wrap_i64 (x := (a : Int) + (((b - a) / 4 : Nat) : Int) * 2) (by omega) (by omega), wrap_i64 (x := (a : Int) + (((b - a) / 4 : Nat) : Int) * 2 - 1) (by omega) (by omega), hl, show ((a : Int) + (((b - a) / 4 : Nat) : Int) * 2 - 1) = (i0 : Int) by omega]
  rw [wrap_i64 (x := (((b - a) / 4 : Nat) : Int) * 2) (by omega) (by omega), wrap_i64 (x := (a : Int) + (((b - a) / 4 : Nat) : Int) * 2) (by omega) (by omega)] at hloop
  rw [hloop]
  rfl
end Go.Proofs.Ythdpagcklakahaa
namespace Go.Proofs.Ythdpagcklakahaa
open Go
open Go.Sort (swp bitsLen Hint SWO PermIn SortedIn Below)
set_option linter.unusedSimpArgs false
set_option linter.unusedVariables false

/-- What a sort of a part gives. -/
def Sorts (a b : Nat) (d R : Array Int) : Prop := PermIn a b d R ∧ SortedIn lt8 a b R
def GoodRec (K : Nat) (rec : List Int → Int → Int → Int → Option (List Int)) : Prop := ∀ (e : Array Int) (a b : Nat) (limit : Int), b - a < K → a ≤ b → b ≤ e.size → e.size ≤ 1000 → Below lt8 a b e → ∃ R, rec e.toList (a : Int) (b : Int) limit = some R.toList ∧ Sorts a b e R
noncomputable def pqStep (rec : List Int → Int → Int → Int → Option (List Int)) : List Int × Int × Int × Int × Bool × Bool → Option (Step (List Int × Int × Int × Int × Bool × Bool) ((List Int) ⊕ Unit)) := (fun (s1 : List Int × Int × Int × Int × Bool × Bool) => bif decide ((IntKind.wrap .i64 (s1.2.2.1 - s1.2.1)) ≤ 12) then (bnd (m_slices_insertionSortOrdered_uint8 s1.1 s1.2.1 s1.2.2.1) fun r1 => bnd (chkLen s1.1.length r1) fun l1 => some (.done (.inl r1))) else (bif (s1.2.2.2.1 == 0) then (bnd (m_slices_heapSortOrdered_uint8 s1.1 s1.2.1 s1.2.2.1) fun r2 => bnd (chkLen s1.1.length r2) fun l2 => some (.done (.inl r2))) else (bnd ((bif !s1.2.2.2.2.1 then (bnd (m_slices_breakPatternsOrdered_uint8 s1.1 s1.2.1 s1.2.2.1) fun r3 => bnd (chkLen s1.1.length r3) fun l3 => some (r3, IntKind.wrap .i64 (s1.2.2.2.1 - 1))) else (some (s1.1, s1.2.2.2.1)) : Option (List Int × Int))) fun o3 => bnd (m_slices_choosePivotOrdered_uint8 o3.1 s1.2.1 s1.2.2.1) fun r4 => bnd ((bif (r4.2 == 2) then (bnd (m_slices_reverseRangeOrdered_uint8 o3.1 s1.2.1 s1.2.2.1) fun r5 => bnd (chkLen o3.1.length r5) fun l4 => some (r5, IntKind.wrap .i64 ((IntKind.wrap .i64 (s1.2.2.1 - 1)) - (IntKind.wrap .i64 (r4.1 - s1.2.1))), 1)) else (some (o3.1, r4.1, r4.2)) : Option (List Int × Int × Int))) fun o4 => bnd ((bnd ((bif s1.2.2.2.2.1 then (bif s1.2.2.2.2.2 then (some (o4.2.2 == 1)) else (some false)) else (some false) : Option Bool)) fun o7 => bif o7 then (bnd (m_slices_partialInsertionSortOrdered_uint8 o4.1 s1.2.1 s1.2.2.1) fun r6 => bnd (chkLen o4.1.length r6.1) fun l5 => bif r6.2 then (some (.inl r6.1)) else (some (.inr r6.1))) else (some (.inr o4.1)) : Option ((List Int) ⊕ List Int))) fun o5 => retOrW (fun r_ => (.done (.inl r_))) o5 fun o6 => bnd ((bif decide (s1.2.1 > 0) then (bnd (elt o6 (IntKind.wrap .i64 (s1.2.1 - 1))) fun x1 => bnd (elt o6 o4.2.1) fun x2 => bnd (m_cmp_Less_uint8 x1 x2) fun r7 => some (!r7)) else (some false) : Option Bool)) fun o8 => bif o8 then (bnd (m_slices_partitionEqualOrdered_uint8 o6 s1.2.1 s1.2.2.1 o4.2.1) fun r8 => bnd (chkLen o6.length r8.1) fun l6 => some (.next (r8.1, r8.2, s1.2.2.1, o3.2, s1.2.2.2.2.1, s1.2.2.2.2.2))) else (bnd (m_slices_partitionOrdered_uint8 o6 s1.2.1 s1.2.2.1 o4.2.1) fun r9 => bnd (chkLen o6.length r9.1) fun l7 => bif decide ((IntKind.wrap .i64 (r9.2.1 - s1.2.1)) < (IntKind.wrap .i64 (s1.2.2.1 - r9.2.1))) then (bnd (rec r9.1 s1.2.1 r9.2.1 o3.2) fun r10 => bnd (chkLen r9.1.length r10) fun l8 => some (.next (r10, IntKind.wrap .i64 (r9.2.1 + 1), s1.2.2.1, o3.2, decide ((IntKind.wrap .i64 (r9.2.1 - s1.2.1)) ≥ (IntKind.wrap .i64 ((IntKind.wrap .i64 (s1.2.2.1 - s1.2.1)).tdiv 8))), r9.2.2))) else (bnd (rec r9.1 (IntKind.wrap .i64 (r9.2.1 + 1)) s1.2.2.1 o3.2) fun r11 => bnd (chkLen r9.1.length r11) fun l9 => some (.next (r11, s1.2.1, r9.2.1, o3.2, decide ((IntKind.wrap .i64 (s1.2.2.1 - r9.2.1)) ≥ (IntKind.wrap .i64 ((IntKind.wrap .i64 (s1.2.2.1 - s1.2.1)).tdiv 8))), r9.2.2)))))))
theorem swo8 : SWO lt8 := Go.Sort.swo_ltInt
theorem pq_loop {K : Nat} {rec : List Int → Int → Int → Int → Option (List Int)} (hrec : GoodRec K rec) : ∀ (k a b : Nat) (d : Array Int) (limit : Int) (wb wp : Bool), b - a ≤ k → b - a ≤ K → a ≤ b → b ≤ d.size → d.size ≤ 1000 → Below lt8 a b d → ∃ R, loopM (pqStep rec) (d.toList, (a : Int), (b : Int), limit, wb, wp) = some (.inl R.toList) ∧ Sorts a b d R
  | k, a, b, d, limit, wb, wp, hk, hK, hab, hb, hs, hB => by
    have w : IntKind.wrap .i64 ((b : Int) - (a : Int)) = ((b - a : Nat) : Int) := by rw [wrap_i64 (by omega) (by omega)]; omega
    by_cases h12 : b - a ≤ 12
    · have hi := insertion_eq (d := d) (a := a) (b := b) hb hab (by omega)
      have hp := Go.Sort.insertionSort_holds swo8 d a b hab hb
      refine ⟨_, loop_done ?_, hp⟩
      unfold pqStep
      simp only
      rw [w, cnd_t (by simp; omega), hi, bnd_some, chk_eq (by simp; exact hp.1.1), bnd_some]
    · by_cases hl0 : limit = 0
      · have hi := heap_eq (d := d) (a := a) (b := b) (by omega) hb (by omega)
        have hp := Go.Sort.heapSort_holds swo8 d a b hab hb
        refine ⟨_, loop_done ?_, hp⟩
        unfold pqStep
        simp only
        rw [w, cnd_f (by simp; omega), cnd_t (by simp [hl0]), hi, bnd_some, chk_eq (by simp; exact hp.1.1), bnd_some]
      · cases k with
        | zero => omega
        | succ k =>
          have s1 : ∃ (D1 : Array Int) (L1 : Int), (bif !wb then (bnd (m_slices_breakPatternsOrdered_uint8 d.toList (a : Int) (b : Int)) fun r3 => bnd (chkLen d.toList.length r3) fun l3 => some (r3, IntKind.wrap .i64 (limit - 1))) else (some (d.toList, limit)) : Option (List Int × Int)) = some (D1.toList, L1) ∧ PermIn a b d D1 := by
            cases wb with
            | false =>
              have hp := Go.Sort.breakPatterns_holds d a b hab hb
              refine ⟨_, IntKind.wrap .i64 (limit - 1), ?_, hp⟩
              rw [cnd_t (by rfl), break_eq (by omega) hb hs, bnd_some, chk_eq (by simp; exact hp.1), bnd_some]
            | true => exact ⟨d, limit, rfl, Go.Sort.permIn_refl _ _ _⟩
          obtain ⟨D1, L1, e1, p1⟩ := s1
          have z1 := p1.1
          have e2 := pivot_eq (d := D1) (a := a) (b := b) (by omega) (by omega) (by omega)
          have hc := Go.Sort.choosePivot_holds lt8 D1 a b (by omega)
          have s3 : ∃ (D2 : Array Int) (pv : Nat) (h : Int), (bif (hintI (Go.Sort.choosePivot lt8 D1 a b).2 == 2) then (bnd (m_slices_reverseRangeOrdered_uint8 D1.toList (a : Int) (b : Int)) fun r5 => bnd (chkLen D1.toList.length r5) fun l4 => some (r5, IntKind.wrap .i64 ((IntKind.wrap .i64 ((b : Int) - 1)) - (IntKind.wrap .i64 (((Go.Sort.choosePivot lt8 D1 a b).1 : Int) - (a : Int)))), 1)) else (some (D1.toList, ((Go.Sort.choosePivot lt8 D1 a b).1 : Int), hintI (Go.Sort.choosePivot lt8 D1 a b).2)) : Option (List Int × Int × Int)) = some (D2.toList, (pv : Int), h) ∧ a ≤ pv ∧ pv < b ∧ PermIn a b D1 D2 := by
            revert hc
            generalize Go.Sort.choosePivot lt8 D1 a b = c
            intro hc
            by_cases h2 : (hintI c.2 == 2) = true
            · have hp := Go.Sort.reverseRange_holds D1 a b hab (by omega)
              refine ⟨_, (b - 1) - (c.1 - a), 1, ?_, by omega, by omega, hp⟩
              rw [cnd_t h2, reverse_eq (by omega) (by omega) (by omega), bnd_some, chk_eq (by simp; exact hp.1), bnd_some, wrap_i64 (x := (b : Int) - 1) (by omega) (by omega), wrap_i64 (x := (c.1 : Int) - (a : Int)) (by omega) (by omega), wrap_i64 (by omega) (by omega)]
              congr 3
              omega
            · exact ⟨D1, c.1, hintI c.2, by rw [cnd_f (by simpa using h2)], hc.1, hc.2, Go.Sort.permIn_refl _ _ _⟩
          obtain ⟨D2, pv, h, e3, v1, v2, p2⟩ := s3
          have z2 := p2.1
          have B2 : Below lt8 a b D2 := (hB.perm hb p1).perm (by omega) p2
          have s4 : ∃ o : (List Int) ⊕ List Int, (bnd ((bif wb then (bif wp then (some (h == 1)) else (some false)) else (some false) : Option Bool)) fun o7 => bif o7 then (bnd (m_slices_partialInsertionSortOrdered_uint8 D2.toList (a : Int) (b : Int)) fun r6 => bnd (chkLen D2.toList.length r6.1) fun l5 => bif r6.2 then (some (.inl r6.1)) else (some (.inr r6.1))) else (some (.inr D2.toList)) : Option ((List Int) ⊕ List Int)) = some o ∧ ((∃ R, o = .inl R.toList ∧ Sorts a b D2 R) ∨ ∃ D3, o = .inr D3.toList ∧ PermIn a b D2 D3) := by
            have hg : ∃ g : Bool, (bif wb then (bif wp then (some (h == 1)) else (some false)) else (some false) : Option Bool) = some g := by
              cases wb <;> cases wp <;> exact ⟨_, rfl⟩
            obtain ⟨g, hg⟩ := hg
            rw [hg, bnd_some]
            cases g with
            | false => exact ⟨_, rfl, .inr ⟨D2, rfl, Go.Sort.permIn_refl _ _ _⟩⟩
            | true =>
              have hp := Go.Sort.partialInsertionSort_holds swo8 D2 a b (by omega) (by omega) B2
              rw [cond_true, partial_eq (by omega) (by omega) (by omega), bnd_some, chk_eq (by simp; exact hp.1.1), bnd_some]
              cases hr : (Go.Sort.partialInsertionSort lt8 D2 a b).2 with
              | false => exact ⟨_, by rw [cond_false], .inr ⟨_, rfl, hp.1⟩⟩
              | true => exact ⟨_, by rw [cond_true], .inl ⟨_, rfl, hp.1, hp.2 hr⟩⟩
          obtain ⟨o, e4, h4⟩ := s4
          have p12 := Go.Sort.permIn_trans _ _ _ _ _ p1 p2
          rcases h4 with ⟨R, rfl, hR⟩ | ⟨D3, rfl, p3⟩
          · refine ⟨R, loop_done ?_, Go.Sort.permIn_trans _ _ _ _ _ p12 hR.1, hR.2⟩
            unfold pqStep
            simp only
            rw [w, cnd_f (by simp; omega), cnd_f (by simpa using hl0), e1, bnd_some]
            simp only
            rw [e2, bnd_some]
            simp only
            rw [e3, bnd_some]
            simp only
            rw [e4, bnd_some]
            rfl
          · have p13 := Go.Sort.permIn_trans _ _ _ _ _ p12 p3
            have z3 := p3.1
            have B3 : Below lt8 a b D3 := B2.perm (by omega) p3
            have e5 : (bif decide ((a : Int) > 0) then (bnd (elt D3.toList (IntKind.wrap .i64 ((a : Int) - 1))) fun x1 => bnd (elt D3.toList (pv : Int)) fun x2 => bnd (m_cmp_Less_uint8 x1 x2) fun r7 => some (!r7)) else (some false) : Option Bool) = some (decide (a > 0) && !lt8 D3[a - 1]! D3[pv]!) := by
              by_cases h0 : a > 0
              · rw [cnd_t (by simp; omega), wrap_i64 (by omega) (by omega), show ((a : Int) - 1) = ((a - 1 : Nat) : Int) by omega, elt_arr (by omega), bnd_some, elt_arr (by omega), bnd_some, less_eq, bnd_some]
                simp [h0]
              · rw [cnd_f (by simp; omega)]
                simp [h0]
            have hcont : ∀ (s' : List Int × Int × Int × Int × Bool × Bool), (bif (decide (a > 0) && !lt8 D3[a - 1]! D3[pv]!) then (bnd (m_slices_partitionEqualOrdered_uint8 D3.toList (a : Int) (b : Int) (pv : Int)) fun r8 => bnd (chkLen D3.toList.length r8.1) fun l6 => some (.next (r8.1, r8.2, (b : Int), L1, wb, wp))) else (bnd (m_slices_partitionOrdered_uint8 D3.toList (a : Int) (b : Int) (pv : Int)) fun r9 => bnd (chkLen D3.toList.length r9.1) fun l7 => bif decide ((IntKind.wrap .i64 (r9.2.1 - (a : Int))) < (IntKind.wrap .i64 ((b : Int) - r9.2.1))) then (bnd (rec r9.1 (a : Int) r9.2.1 L1) fun r10 => bnd (chkLen r9.1.length r10) fun l8 => some (.next (r10, IntKind.wrap .i64 (r9.2.1 + 1), (b : Int), L1, decide ((IntKind.wrap .i64 (r9.2.1 - (a : Int))) ≥ (IntKind.wrap .i64 (((b - a : Nat) : Int).tdiv 8))), r9.2.2))) else (bnd (rec r9.1 (IntKind.wrap .i64 (r9.2.1 + 1)) (b : Int) L1) fun r11 => bnd (chkLen r9.1.length r11) fun l9 => some (.next (r11, (a : Int), r9.2.1, L1, decide ((IntKind.wrap .i64 ((b : Int) - r9.2.1)) ≥ (IntKind.wrap .i64 (((b - a : Nat) : Int).tdiv 8))), r9.2.2)))) : Option (Step (List Int × Int × Int × Int × Bool × Bool) ((List Int) ⊕ Unit))) = some (.next s') → pqStep rec (d.toList, (a : Int), (b : Int), limit, wb, wp) = some (.next s') := by
              intro s' hs'
              unfold pqStep
              simp only
              rw [w, cnd_f (by simp; omega), cnd_f (by simpa using hl0), e1, bnd_some]
              simp only
              rw [e2, bnd_some]
              simp only
              rw [e3, bnd_some]
              simp only
              rw [e4, bnd_some]
              show bnd _ _ = _
              rw [e5, bnd_some]
              exact hs'
            cases hcond : (decide (a > 0) && !lt8 D3[a - 1]! D3[pv]!) with
            | true =>
              rw [hcond] at hcont
              have hc2 : a > 0 ∧ lt8 D3[a - 1]! D3[pv]! = false := by simpa using hcond
              obtain ⟨g1, g2, g3, g4, g5⟩ := Go.Sort.round_eq swo8 (Go.Sort.partitionEqual_holds lt8) hc2.1 v1 v2 (by omega) B3 hc2.2 (mid := (Go.Sort.partitionEqual lt8 D3 a b pv).1) (d4 := (Go.Sort.partitionEqual lt8 D3 a b pv).2) rfl
              obtain ⟨R, h5, h6⟩ := pq_loop hrec k _ b _ L1 wb wp (by omega) (by omega) g2 (by omega) (by omega) g4
              have h7 := g5 R h6.1 h6.2
              refine ⟨R, loop_next (hcont _ ?_) h5, Go.Sort.permIn_trans _ _ _ _ _ p13 h7.1, h7.2⟩
              rw [cond_true, partitionEqual_eq (by omega) (by omega) (by omega) (by omega), bnd_some, chk_eq (by simp; exact g3), bnd_some]
            | false =>
              rw [hcond] at hcont
              have eP := partition_eq (d := D3) (a := a) (b := b) (pivot := pv) (by omega) (by omega) (by omega) (by omega)
              obtain ⟨g1, g2, g3, g4, g5, g6, g7⟩ := Go.Sort.round_part swo8 (Go.Sort.partition_holds lt8) v1 v2 (by omega) B3 (mid := (Go.Sort.partition lt8 D3 a b pv).1) (ap := (Go.Sort.partition lt8 D3 a b pv).2.1) (d4 := (Go.Sort.partition lt8 D3 a b pv).2.2) rfl
              revert eP g1 g2 g3 g4 g5 g6 g7
              generalize Go.Sort.partition lt8 D3 a b pv = q
              intro eP g1 g2 g3 g4 g5 g6 g7
              have wl : IntKind.wrap .i64 ((q.1 : Int) - (a : Int)) = ((q.1 - a : Nat) : Int) := by rw [wrap_i64 (by omega) (by omega)]; omega
              have wr2 : IntKind.wrap .i64 ((b : Int) - (q.1 : Int)) = ((b - q.1 : Nat) : Int) := by rw [wrap_i64 (by omega) (by omega)]; omega
              by_cases hlr : q.1 - a < b - q.1
              · obtain ⟨L, l1, l2⟩ := hrec q.2.2 a q.1 L1 (by omega) g1 (by omega) (by omega) g4
                obtain ⟨m1, m2⟩ := g6 L l2.1 l2.2
                have zL := l2.1.1
                obtain ⟨R, h5, h6⟩ := pq_loop hrec k (q.1 + 1) b L L1 (decide (((q.1 - a : Nat) : Int) ≥ IntKind.wrap .i64 (((b - a : Nat) : Int).tdiv 8))) q.2.1 (by omega) (by omega) (by omega) (by omega) (by omega) m1
                have h7 := m2 R h6.1 h6.2
                refine ⟨R, loop_next (hcont _ ?_) h5, Go.Sort.permIn_trans _ _ _ _ _ p13 h7.1, h7.2⟩
                rw [cond_false, eP, bnd_some, chk_eq (by simp; exact g3), bnd_some]
                simp only
                rw [wl, wr2, cnd_t (by simp; omega), l1, bnd_some, chk_eq (by simp; omega), bnd_some, wrS (by omega)]
              · obtain ⟨L, l1, l2⟩ := hrec q.2.2 (q.1 + 1) b L1 (by omega) (by omega) (by omega) (by omega) g5
                obtain ⟨m1, m2⟩ := g7 L l2.1 l2.2
                have zL := l2.1.1
                obtain ⟨R, h5, h6⟩ := pq_loop hrec k a q.1 L L1 (decide (((b - q.1 : Nat) : Int) ≥ IntKind.wrap .i64 (((b - a : Nat) : Int).tdiv 8))) q.2.1 (by omega) (by omega) (by omega) (by omega) (by omega) m1
                have h7 := m2 R h6.1 h6.2
                refine ⟨R, loop_next (hcont _ ?_) h5, Go.Sort.permIn_trans _ _ _ _ _ p13 h7.1, h7.2⟩
                rw [cond_false, eP, bnd_some, chk_eq (by simp; exact g3), bnd_some]
                simp only
                rw [wl, wr2, cnd_f (by simp; omega), wrS (by omega), l1, bnd_some, chk_eq (by simp; omega), bnd_some]
theorem pq_good : ∀ (n : Nat), GoodRec n (m_slices_pdqsortOrdered_uint8_n n)
  | 0 => fun e a b limit h => by omega
  | n + 1 => fun e a b limit h hab hb hs hB => by
    obtain ⟨R, h1, h2⟩ := pq_loop (pq_good n) _ a b e limit true true (Nat.le_refl _) (by omega) hab hb hs hB
    refine ⟨R, ?_, h2⟩
    show m_slices_pdqsortOrdered_uint8_step (m_slices_pdqsortOrdered_uint8_n n) _ _ _ _ = _
    unfold m_slices_pdqsortOrdered_uint8_step
    unfold pqStep at h1
    rw [h1]
    rfl
/-- slices.Sort of bytes. -/
theorem sort8 {l : List Int} (h : l.length ≤ 1000) : m_slices_Sort__uint8_uint8 l = some (l.mergeSort fun x y => decide (x ≤ y)) := by
  unfold m_slices_Sort__uint8_uint8
  rw [wrap_u64n (by omega), len_eq ⟨l.length, by omega⟩, bnd_some]
  obtain ⟨R, h1, h2⟩ := pq_good (l.length + 1) l.toArray 0 l.length ((bitsLen l.length : Nat) : Int) (by omega) (by omega) (by simp) (by simpa using h) (.inl rfl)
  have h3 : m_slices_pdqsortOrdered_uint8 l 0 (l.length : Int) ((bitsLen l.length : Nat) : Int) = some R.toList := h1
  have hz : R.size = l.length := by have := h2.1.1; simpa using this
  rw [h3, bnd_some, chk_eq (by simpa using hz), bnd_some]
  have h4 := Go.Sort.sorted_unique_holds (lt := lt8) swo8 (fun x y h1 h2 => by
    simp only [Go.Sort.ltInt, decide_eq_false_iff_not] at h1 h2
    omega) l.toArray R (by simpa using h2.1) (by simpa using h2.2)
  rw [h4]
  congr 1
  have e : (fun x y : Int => !lt8 y x) = fun x y => decide (x ≤ y) := by
    funext x y
    simp only [Go.Sort.ltInt]
    by_cases h : x ≤ y
    · simp [h]
    · simp [h]; omega
  rw [e]
end Go.Proofs.Ythdpagcklakahaa
