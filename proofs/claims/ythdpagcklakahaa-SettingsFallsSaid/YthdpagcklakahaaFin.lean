/-
  From contracts of laws to the given statements: arguments read as lists, memory as it was.
  Conditions: none.
-/
import Derived.Test.YthdpagcklakahaaRows
import Derived.ProofKit
import Derived.Deep.Slices
import Derived.WideKeyArgs
import Derived.Test.YthdpagcklakahaaCore9
namespace Go.Proofs.Ythdpagcklakahaa
open Go Go.ChangeShapes Go.WideShapes Go.RowKit
set_option linter.unusedSectionVars false

theorem Try.own' : ownKnob Try.prog.godebug = none := by kernel_rfl
theorem Try.laid' : laidOutB Try.prog = true := by kernel_rfl

theorem kept_ext {w w' : World} (h : Ext w w') (may : MemPlace → Prop) : w.keptBut w' may := by
  refine ⟨h.os, h.output, fun i hi => ?_⟩
  have := (World.keptBut_refl w may).2.2 i hi
  rw [h.block i hi]
  exact this

theorem sat_ros {w : World} : ∀ (rs : List Ro), (∀ r ∈ rs, r.p (hp w)) → Sat (rs.map As.ro) w
  | [], _ => Sat.nil w
  | r :: rs, h => by
    refine (sat_ros rs fun x hx => h x (List.mem_cons_of_mem _ hx)).add_ro r ?_
    have hb : blocks (rs.map As.ro) = [] := blocks_ro fun x hx => by
      obtain ⟨y, _, rfl⟩ := List.mem_map.1 hx
      rfl
    rw [hb]
    have : frz [] w = hp w := by funext k; simp [frz, hp]
    rw [this]
    exact h r (List.mem_cons_self ..)

section
variable {H : Type} {enc : TypeId × Value → H} {P : Program} {w : World} {base : Nat} {sp : Nat → Bool} {held : Bool} {fuel : Nat} {cs : List Value} {x : DataW H × List MemPlace}

theorem same_at {w w' : World} (h : Ext w w') {p : MemPlace} (hp : p.block < w.heap.size) : w.sameAt w' p := by
  cases p with
  | cell b off => exact World.cell?_of_block (h.block b hp)
  | map b => exact h.block b hp

theorem trodAll_stays (hl : laidOutB P = true) {W W' : World} {sp' : Nat → Bool} : ∀ {ts : List TypeId} {vs : List Value} {ds : List (DataW H)} {ps : List MemPlace}, (∀ t ∈ ts, P.readableRec t = true ∧ t < P.types.size) →
    DataW.TrodAll enc P W 0 (fun _ => true) true ts vs ds ps → (∀ p ∈ ps, W.sameAt W' p) → (∀ p ∈ ps, sp' p.block = true) → DataW.TrodAll enc P W' 0 sp' true ts vs ds ps
  | [], _, _, _, _, h, _, _ => by
    obtain ⟨rfl, rfl, rfl⟩ := trodAll_nil h
    rfl
  | t :: ts, _, _, _, ht, h, h1, h2 => by
    obtain ⟨v, vs, d, ds, p, q, rfl, rfl, rfl, k1, k2⟩ := trodAll_cons h
    have g := ht t (List.mem_cons_self ..)
    exact ⟨p, q, WideElems.Trod_stays hl g.1 g.2 k1 (fun p hp => h1 p (List.mem_append_left _ hp)) (fun p hp => h2 p (List.mem_append_left _ hp)),
      trodAll_stays hl (fun t ht' => ht t (List.mem_cons_of_mem _ ht')) k2 (fun p hp => h1 p (List.mem_append_right _ hp)) (fun p hp => h2 p (List.mem_append_right _ hp)), rfl⟩

/-- What a law leaves: it answered true, all blocks of before are as they were. -/
theorem law_post (hl : laidOutB P = true) {f : Func} {s : ChangeSpec} {apart fresh handsOn : Bool} {W W' : World} {args : Array Value} {ds : List (DataW H)} {before : List MemPlace} {tb : TypeId}
    (hv : s.vars = []) (hr : f.resultTypes = #[tb]) (hb : P.underlying tb = some .bool) (hp : (f.params.toList.all fun t => P.readableRec t && decide (t < P.types.size)) = true)
    (hs : s.fn H (ds ++ []) = { results := [.lit (.bool true)], args := ds }) (hW : DataW.Whole enc P f.params.toList s.vars apart W args.toList ds [] before) (he : Ext W W') :
    s.post enc P f apart fresh handsOn false W args (.bool true) W' := by
  have hlt : ∀ p ∈ before, p.block < W.heap.size := fun p hp => hW.lt p hp
  refine ⟨ds, [], before, [], before, [], hW, ?_, ?_, ?_, kept_ext he _, fun h => by cases h⟩
  · rw [hr, hs]
    exact trodAll_mk1 ⟨1, by simp [DataW.trod, Value.cells, hb]⟩
  · obtain ⟨p, q, hA, hV, rfl, _, _⟩ := hW
    rw [hv] at hV
    obtain ⟨_, rfl⟩ := trodVars_none hV
    rw [hs]
    simp only [List.append_nil] at hlt ⊢
    refine trodAll_stays hl (fun t ht => ?_) hA (fun x hx => same_at he (hlt x hx)) (fun x hx => by simpa using hlt x hx)
    have := List.all_eq_true.1 hp t ht
    simpa using this
  · rw [hs, hv]
    rfl

/-! ## Arguments as lists -/

def ReadsE {α : Type} (P : Program) (E : Enc α) (t : TypeId) : Prop := ∀ {H : Type} {enc : TypeId × Value → H} {w : World} {base : Nat} {sp : Nat → Bool} {held : Bool} {fuel : Nat} {cs : List Value} {x : DataW H × List MemPlace},
  DataW.trod enc P w base sp held fuel t cs = some x → ∃ y : α, cs = E.enc y

end
end Go.Proofs.Ythdpagcklakahaa
