/-
  From contracts of laws to the given statements: arguments read as lists, memory as it was.
  Conditions: none.
-/
import Derived.Test.YtnolaefjmjgfbaaRows
import Derived.ProofKit
import Derived.Deep.Slices
import Derived.WideKeyArgs
import Derived.Test.YtnolaefjmjgfbaaCore9
namespace Go.Proofs.Ytnolaefjmjgfbaa
open Go Go.ChangeShapes Go.WideShapes Go.RowKit
set_option linter.unusedSectionVars false

theorem Try.own' : ownKnob Try.prog.godebug = none := by kernel_rfl
theorem Try.laid' : laidOutB Try.prog = true := by kernel_rfl

theorem kept_ext {w w' : World} (h : Ext w w') (may : MemPlace → Prop) : w.keptBut w' may := by
  refine ⟨h.os, h.output, fun i hi => ?_⟩
  have := (World.keptBut_refl w may).2.2 i hi
  rw [h.block i hi]
  exact this

theorem sat_ros {w : World} : ∀ (rs : List Ro), (∀ r ∈ rs, r.p (hp w)) → Sat (rs.map As.ro) w
  | [], _ => Sat.nil w
  | r :: rs, h => by
    refine (sat_ros rs fun x hx => h x (List.mem_cons_of_mem _ hx)).add_ro r ?_
    have hb : blocks (rs.map As.ro) = [] := blocks_ro fun x hx => by
      obtain ⟨y, _, rfl⟩ := List.mem_map.1 hx
      rfl
    rw [hb]
    have : frz [] w = hp w := by funext k; simp [frz, hp]
    rw [this]
    exact h r (List.mem_cons_self ..)

section
variable {H : Type} {enc : TypeId × Value → H} {P : Program} {w : World} {base : Nat} {sp : Nat → Bool} {held : Bool} {fuel : Nat} {cs : List Value} {x : DataW H × List MemPlace}

theorem same_at {w w' : World} (h : Ext w w') {p : MemPlace} (hp : p.block < w.heap.size) : w.sameAt w' p := by
  cases p with
  | cell b off => exact World.cell?_of_block (h.block b hp)
  | map b => exact h.block b hp

theorem trodAll_stays (hl : laidOutB P = true) {W W' : World} {sp' : Nat → Bool} : ∀ {ts : List TypeId} {vs : List Value} {ds : List (DataW H)} {ps : List MemPlace}, (∀ t ∈ ts, P.readableRec t = true ∧ t < P.types.size) →
    DataW.TrodAll enc P W 0 (fun _ => true) true ts vs ds ps → (∀ p ∈ ps, W.sameAt W' p) → (∀ p ∈ ps, sp' p.block = true) → DataW.TrodAll enc P W' 0 sp' true ts vs ds ps
  | [], _, _, _, _, h, _, _ => by
    obtain ⟨rfl, rfl, rfl⟩ := trodAll_nil h
    rfl
  | t :: ts, _, _, _, ht, h, h1, h2 => by
    obtain ⟨v, vs, d, ds, p, q, rfl, rfl, rfl, k1, k2⟩ := trodAll_cons h
    have g := ht t (List.mem_cons_self ..)
    exact ⟨p, q, WideElems.Trod_stays hl g.1 g.2 k1 (fun p hp => h1 p (List.mem_append_left _ hp)) (fun p hp => h2 p (List.mem_append_left _ hp)),
      trodAll_stays hl (fun t ht' => ht t (List.mem_cons_of_mem _ ht')) k2 (fun p hp => h1 p (List.mem_append_right _ hp)) (fun p hp => h2 p (List.mem_append_right _ hp)), rfl⟩

/-- What a law leaves: it answered true, all blocks of before are as they were. -/
theorem law_post (hl : laidOutB P = true) {f : Func} {s : ChangeSpec} {apart fresh handsOn : Bool} {W W' : World} {args : Array Value} {ds : List (DataW H)} {before : List MemPlace} {tb : TypeId}
    (hv : s.vars = []) (hr : f.resultTypes = #[tb]) (hb : P.underlying tb = some .bool) (hp : (f.params.toList.all fun t => P.readableRec t && decide (t < P.types.size)) = true)
    (hs : s.fn H (ds ++ []) = { results := [.lit (.bool true)], args := ds }) (hW : DataW.Whole enc P f.params.toList s.vars apart W args.toList ds [] before) (he : Ext W W') :
    s.post enc P f apart fresh handsOn false W args (.bool true) W' := by
  have hlt : ∀ p ∈ before, p.block < W.heap.size := fun p hp => hW.lt p hp
  refine ⟨ds, [], before, [], before, [], hW, ?_, ?_, ?_, kept_ext he _, fun h => by cases h⟩
  · rw [hr, hs]
    exact trodAll_mk1 ⟨1, by simp [DataW.trod, Value.cells, hb]⟩
  · obtain ⟨p, q, hA, hV, rfl, _, _⟩ := hW
    rw [hv] at hV
    obtain ⟨_, rfl⟩ := trodVars_none hV
    rw [hs]
    simp only [List.append_nil] at hlt ⊢
    refine trodAll_stays hl (fun t ht => ?_) hA (fun x hx => same_at he (hlt x hx)) (fun x hx => by simpa using hlt x hx)
    have := List.all_eq_true.1 hp t ht
    simpa using this
  · rw [hs, hv]
    rfl

/-! ## Arguments as lists -/

def ReadsE {α : Type} (P : Program) (E : Enc α) (t : TypeId) : Prop := ∀ {H : Type} {enc : TypeId × Value → H} {w : World} {base : Nat} {sp : Nat → Bool} {held : Bool} {fuel : Nat} {cs : List Value} {x : DataW H × List MemPlace},
  DataW.trod enc P w base sp held fuel t cs = some x → ∃ y : α, cs = E.enc y

theorem reads_int {k : IntKind} {t : TypeId} (ht : P.underlying t = some (.int k)) {E : Enc Int} (hE : ∀ n, E.enc n = [.int k n]) : ReadsE P E t := fun h => by
  obtain ⟨n, h1, _⟩ := DataW.trod_int ht h
  exact ⟨n, by rw [hE]; exact h1⟩
theorem reads_bool {t : TypeId} (ht : P.underlying t = some .bool) : ReadsE P ebool t := fun h => by
  obtain ⟨n, h1, _⟩ := DataW.trod_bool ht h
  exact ⟨n, h1⟩
theorem reads_str {t : TypeId} (ht : P.underlying t = some .string) : ReadsE P estr t := fun h => by
  obtain ⟨n, h1, _⟩ := DataW.trod_string ht h
  exact ⟨n, h1⟩

/-- A field of a struct that is read. -/
theorem field_one {n i off : Nat} {t : TypeId} {c : Value} {xs : List (DataW H × List MemPlace)} (hf : DataW.trod enc P w base sp held n t ((cs.drop off).take (P.cellsOf t)) = xs[i]?) (hi : i < xs.length) (hc : P.cellsOf t = 1) (hcs : cs[off]? = some c) :
    ∃ y, DataW.trod enc P w base sp held n t [c] = some y := by
  rw [hc, List.getElem?_eq_getElem hi] at hf
  have : (cs.drop off).take 1 = [c] := by
    obtain ⟨hl, rfl⟩ := List.getElem?_eq_some_iff.1 hcs
    rw [List.drop_eq_getElem_cons hl]
    rfl
  rw [this] at hf
  exact ⟨_, hf⟩

theorem rows_slp {α : Type} {E : Enc α} {ad : Addr} {n : Nat} (hpos : 0 < E.sz) (hr : ∀ i, i < n → ∃ y : α, ∀ j, j < E.sz → w.cell? (ad.add (i * E.sz + j)) = (E.enc y)[j]?) :
    ∃ xs : List α, xs.length = n ∧ ∀ j x, xs[j]? = some x → ad.spot = none ∧ ∃ cs, (cod E).rel (hp w) x cs ∧ ∀ i u, cs[i]? = some u → cellm (hp w) ad.block (ad.off + j * (cod E).n + i) = some u := by
  induction n with
  | zero => exact ⟨[], rfl, fun j x h => by simp at h⟩
  | succ n ih =>
    obtain ⟨xs, h1, h2⟩ := ih fun i hi => hr i (by omega)
    obtain ⟨y, hy⟩ := hr n (by omega)
    refine ⟨xs ++ [y], by simp [h1], fun j x hj => ?_⟩
    by_cases hjn : j < n
    · rw [List.getElem?_append_left (by omega)] at hj
      exact h2 j x hj
    · have hl := (List.getElem?_eq_some_iff.1 hj).1
      simp only [List.length_append, List.length_singleton, h1] at hl
      obtain rfl : j = n := by omega
      rw [← h1] at hj
      simp only [List.getElem?_append_right (Nat.le_refl _), Nat.sub_self, List.getElem?_cons_zero, Option.some.injEq] at hj
      subst hj
      have hlen := E.len y
      have hspot : ad.spot = none := by
        cases hsp : ad.spot with
        | none => rfl
        | some q =>
          obtain ⟨y0, hy0⟩ := hr 0 (by omega)
          have h := hy0 0 hpos
          have hl0 := E.len y0
          rw [List.getElem?_eq_getElem (by omega), show 0 * E.sz + 0 = 0 by omega] at h
          have e : ad.add 0 = ad := rfl
          rw [e] at h
          unfold World.cell? at h
          split at h
          · rw [hsp] at h; simp at h
          · cases h
      refine ⟨hspot, E.enc y, rfl, fun i u hu => ?_⟩
      have hi : i < E.sz := by rw [← hlen]; exact (List.getElem?_eq_some_iff.1 hu).1
      have h := hy i hi
      rw [hu] at h
      rw [cellm_hp]
      show w.cell? ⟨ad.block, ad.off + j * E.sz + i, none⟩ = some u
      rw [← h]
      congr 1
      obtain ⟨b, o, s⟩ := ad
      simp only at hspot
      subst hspot
      unfold Addr.add
      split
      · rename_i hz; simp only [Addr.mk.injEq, true_and, and_true]; omega
      · simp only [Addr.mk.injEq, true_and, and_true]; omega

/-- A slice as an argument. -/
theorem open_sl {α : Type} {E : Enc α} {t e : TypeId} {v : Value} {d : DataW H} {ps : List MemPlace} {r : Reach} {b0 : Nat} (ht : P.underlying t = some (.slice e)) (hC : P.cellsOf e = E.sz) (hpos : 0 < E.sz) (hE : ReadsE P E e) (hv : Value.okWide P w r b0 t v) (h : DataW.Trod enc P w base sp held t v d ps) :
    ∃ A c, ∃ xs : List α, v = .slice A xs.length c ∧ (SlL E A c xs).p (hp w) := by
  obtain ⟨A0, n0, c0, rfl⟩ := okWide_slice ht hv
  obtain ⟨fuel, hf⟩ := h
  rcases Deep.open_slice ht hf with ⟨h1, _⟩ | ⟨a, len, cap, m, n, D, Pl, hcs, hb, hl, hm, hmm, _, hi⟩
  · simp only [Value.cells, List.cons.injEq, Value.slice.injEq, and_true] at h1
    obtain ⟨rfl, rfl, rfl⟩ := h1
    exact ⟨none, 0, [], rfl, by simp, by simp [maxLen], fun _ => rfl, (fun ad h => by cases h)⟩
  · simp only [Value.cells, List.cons.injEq, Value.slice.injEq, and_true] at hcs
    obtain ⟨rfl, rfl, rfl⟩ := hcs
    have hlm : n0 ≤ m := by rw [hmm]; split <;> omega
    obtain ⟨xs, h1, h2⟩ := rows_slp (w := w) (E := E) (ad := a) (n := n0) hpos (fun i hin => by
      obtain ⟨cs', hc, ht'⟩ := hi i (by omega)
      obtain ⟨y, hy⟩ := hE ht'
      subst hy
      obtain ⟨_, _, hat⟩ := World.cells?_some hc
      refine ⟨y, fun j hj => ?_⟩
      have := hat j (by omega)
      rw [Deep.add_add, hC] at this
      exact this)
    refine ⟨some a, c0, xs, by rw [h1], (by rw [h1]; exact hl), hm, (fun h => by cases h), fun ad had => ?_⟩
    injection had with had
    subst had
    exact h2

end
end Go.Proofs.Ytnolaefjmjgfbaa
