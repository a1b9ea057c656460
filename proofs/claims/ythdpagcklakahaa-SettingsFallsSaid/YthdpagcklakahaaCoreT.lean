/-
  The core: a function without a body, arrays that are kept as lists, slices that are lent for one call, slices that are taken back.
  Conditions: none.
-/
import Derived.Test.YthdpagcklakahaaCoreN
import Derived.Lib.Bytealg
namespace Go.Proofs.Ythdpagcklakahaa
open Go
set_option linter.unusedSectionVars false
set_option linter.unusedVariables false

def indexByteM (s : ByteArray) (c : Int) : Int := Lib.indexByte s.data.toList c.toNat.toUInt8

/-- The length that a list is asked to have. -/
def chkLen {α : Type} (n : Nat) (xs : List α) : Option (List α) := if xs.length = n then some xs else none
theorem chkLen_e {α : Type} {n : Nat} {xs ys : List α} (h : chkLen n xs = some ys) : ys = xs ∧ xs.length = n := by
  unfold chkLen at h
  split at h
  · rename_i hn; injection h with h; exact ⟨h.symm, hn⟩
  · cases h

theorem setE_len {α : Type} {xs zs : List α} {q : Int} {v : α} (h : setE xs q v = some zs) : zs.length = xs.length := by
  unfold setE at h
  split at h
  · injection h with h
    subst h
    simp
  · cases h
/-- A return out of a loop inside a loop. -/
def retOrW {ρ σ β : Type} (w : ρ → β) (o : ρ ⊕ σ) (f : σ → Option β) : Option β := match o with | .inl r => some (w r) | .inr s => f s
theorem unR {ρ σ : Type} {s : σ} {f : σ → Option ρ} {r : ρ} (h : retOr (.inr s) f = some r) : f s = some r := h
theorem unRW {ρ σ β : Type} {w : ρ → β} {s : σ} {f : σ → Option β} {r : β} (h : retOrW w (.inr s) f = some r) : f s = some r := h
theorem chkLen_n {α : Type} {n : Nat} {xs ys : List α} (h : chkLen n xs = some ys) : n = xs.length := (chkLen_e h).2.symm

section
variable {P : Program} [T : HasTT P] {w0 : World} {nt : Nat} {Γ Γ' : Env} {F F' G R : List As} {Q : Exit → Act → World → Prop} {ops : Array Oper} {rest : List Oper}
variable {d : Nat} {op : Op} {ty : Nat} {pos : String} {af : Array Edge} {X : List Oper → Act → World → Prop} {Post : Value → List As → Prop}

/-! ## Arrays that are kept as lists -/

/-- An array's value. -/
def barr {α : Type} (E : Enc α) (xs : List α) : Value := .agg (xs.map E.enc).flatten.toArray

theorem flat_length {α : Type} (E : Enc α) (xs : List α) : (xs.map E.enc).flatten.length = xs.length * E.sz := by
  induction xs with
  | nil => simp
  | cons x r ih => simp [E.len, Nat.add_mul, Nat.add_comm, ih]
theorem flat_one {α : Type} (E : Enc α) (xs : List α) : ∀ u ∈ (xs.map E.enc).flatten, u.oneCell' = true := by
  intro u hu
  obtain ⟨r, hr, hur⟩ := List.mem_flatten.1 hu
  obtain ⟨x, _, rfl⟩ := List.mem_map.1 hr
  exact E.one x u hur

/-! ## Slices that are lent for one call -/

/-- What hangs on nothing but its own blocks. -/
def plainRes : As → Prop
  | .ro _ => False
  | .res r => ∀ m z z', r.q m z → r.q m z'
def allPlain : List As → Prop
  | [] => True
  | x :: r => plainRes x ∧ allPlain r
theorem allPlain.mem : ∀ {F : List As}, allPlain F → ∀ x ∈ F, plainRes x
  | [], _, x, hx => by cases hx
  | y :: r, h, x, hx => by
    cases hx with
    | head => exact h.1
    | tail _ hx => exact allPlain.mem h.2 x hx

theorem plain_own {α : Type} (E : Enc α) (e : Nat) (A : Option Addr) (c : Nat) (xs : List α) : plainRes (.res (OwnL E e A c xs)) := fun _ _ _ _ => True.intro

/-- What holds of memory as it is, beside what a call leaves that only reads. -/
theorem Fun.lent {f : FuncId} {args : List Value} {G : List As} (h : Fun P f args G Post) (hro : allRo G = true) {w : World} (hG : ∀ r, As.ro r ∈ G → r.p (hp w)) (hf : Sat F w) (hpl : ∀ v F', Post v F' → allPlain F') :
    Calls P f args.toArray w fun e w' => ∃ v F', e = .returned v ∧ Post v F' ∧ Sat (F' ++ F) w' ∧ Same w w' := by
  have hG' := allRo_gs hro
  have hb : blocks (G ++ [.ro (agree w)]) = [] := blocks_ro fun x hx => by
    rcases List.mem_append.1 hx with hx | hx
    · obtain ⟨r, rfl⟩ := hG' x hx; rfl
    · simp at hx; subst hx; rfl
  have hs : Sat (G ++ [.ro (agree w)]) w := by
    refine ⟨by rw [hb]; simp, fun x hx => ?_⟩
    rw [hb]
    rcases List.mem_append.1 hx with hx | hx
    · obtain ⟨r, rfl⟩ := hG' x hx
      refine r.mono _ _ ?_ (hG r hx)
      intro k o ho
      simpa [frz, hp] using ho
    · simp at hx
      subst hx
      intro k _
      simp [frz]
  refine (h w [.ro (agree w)] hs).mono fun e w' ⟨v', F', h1, h2, h4, h5⟩ => ⟨v', F', h1, h2, ?_, h5⟩
  have hfz : ∀ k, k < w.heap.size → frz (blocks (F' ++ [.ro (agree w)])) w' k = w.heap[k]? := fun k hk => h4.ro (r := agree w) (by simp) k hk
  have hbl : blocks (F' ++ [.ro (agree w)]) = blocks F' := by rw [blocks_append]; simp [blocks, As.gs]
  rw [hbl] at hfz
  have hnew : ∀ k, k ∈ blocks F' → w.heap.size ≤ k := fun k hk => by
    rcases Nat.lt_or_ge k w.heap.size with hlt | hge
    · have := hfz k hlt
      rw [frz, if_pos hk, Array.getElem?_eq_getElem hlt] at this
      cases this
    · exact hge
  have hold : ∀ k, k < w.heap.size → w'.heap[k]? = w.heap[k]? := fun k hk => by
    have := hfz k hk
    rw [frz, if_neg (fun hm => Nat.not_le.2 hk (hnew k hm))] at this
    exact this
  have hext : Ext w w' := ⟨h5, hold⟩
  have hfe := hf.ext hext
  refine ⟨?_, fun x hx => ?_⟩
  · rw [blocks_append]
    refine List.nodup_append.2 ⟨?_, hf.nodup, fun a ha b hb' e => ?_⟩
    · have := h4.nodup
      rw [hbl] at this
      exact this
    · have h6 := hnew a ha
      have h7 := hf.lt hb'
      omega
  · rcases List.mem_append.1 hx with hx | hx
    · have hh := h4.all x (List.mem_append.2 (.inl hx))
      have hp' := (hpl v' F' h2).mem x hx
      cases x with
      | ro r => exact hp'.elim
      | res r => exact ⟨hh.1, hh.2.1, hp' _ _ _ hh.2.2⟩
    · have hh := hf.all x hx
      have hle : Hp.le (frz (blocks F) w) (frz (blocks (F' ++ F)) w') := by
        intro k o hk
        unfold frz at *
        split at hk
        · cases hk
        · rename_i hnn
          have hlt := (Array.getElem?_eq_some_iff.1 hk).1
          rw [if_neg, hold k hlt]
          · exact hk
          · rw [blocks_append, List.mem_append, not_or]
            exact ⟨fun hm => Nat.not_le.2 hlt (hnew k hm), hnn⟩
      cases x with
      | ro r => exact r.mono _ _ hle hh
      | res r =>
        have hb' : ∀ k, k ∈ r.gs → hp w k = hp w' k := fun k hk => (hold k (hh.1 k hk)).symm
        exact ⟨fun k hk => Nat.lt_of_lt_of_le (hh.1 k hk) hext.size, r.loc _ _ hb' hh.2.1, r.qloc _ _ _ _ hb' hle hh.2.2⟩

/-- What is asked of data when slices of one's own may be handed over. -/
def Asks (G : List As) (F : List As) : Prop := ∀ w, Sat F w → ∀ r, As.ro r ∈ G → r.p (hp w)

theorem Asks.nil : Asks [] F := fun w h r hr => by cases hr
theorem Asks.ro {r : Ro} (hm : As.ro r ∈ F) (h : Asks G F) : Asks (.ro r :: G) F := fun w hw r' hr => by
  cases hr with
  | head => exact hw.ro_hp hm
  | tail _ hr => exact h w hw r' hr
theorem Asks.own {α : Type} {E : Enc α} {e c : Nat} {A : Option Addr} {xs : List α} (hm : As.res (OwnL E e A c xs) ∈ F) (h : Asks G F) : Asks (.ro (SlL E A c xs) :: G) F := fun w hw r' hr => by
  cases hr with
  | head => exact OwnL.sl hw hm
  | tail _ hr => exact h w hw r' hr
theorem Asks.pure {r : Ro} (hr0 : ∀ m, r.p m) (h : Asks G F) : Asks (.ro r :: G) F := fun w hw r' hr => by
  cases hr with
  | head => exact hr0 _
  | tail _ hr => exact h w hw r' hr

/-- A call that only reads, of slices of one's own too. -/
theorem St.callL {f : FuncId} {args : List Value} {G : List As} {x : Operand} {xs : List Operand} {ts : Array Nat} (h : Fun P f args G Post) (he : Ent P f) (hd : Nat.blt d nt = true) (hx : ev Γ x = some (.func (.func f) #[] #[])) (hxs : evs Γ xs = some args)
    (hro : allRo G = true) (hA : Asks G F) (hpl : ∀ v F', Post v F' → allPlain F') (k : ∀ v F', Post v F' → St w0 nt ((d, v) :: Γ) (F' ++ F) (wpList P ops Q rest)) :
    St w0 nt Γ F (wpList P ops Q (⟨some d, .call { callee := .value x, args := xs.toArray, argTypes := ts }, ty, pos, af, none⟩ :: rest)) :=
  fun a w hs hdf ha hf hw => wpList_plain rfl fun K hK => by
    unfold Oper.wp
    rw [run_enter he (ha.eval hx) (ha.evals hxs)]
    show Calls P f args.toArray w _
    refine (h.lent hro (hA w hf) hf hpl).mono fun e w' ⟨v, F', h1, h2, h3, h4⟩ => ?_
    subst h1
    exact hK _ _ (k v F' h2 _ _ (by simp [Act.put, hs]) hdf (ha.put (hs ▸ Nat.le_of_ble_eq_true hd)) h3 (hw.trans h4))

/-! ## Slices that are taken back -/

/-- A slice that was one's own, made by this very call, as it stays. -/
def Fro {α : Type} (w0 : World) (E : Enc α) (e : Nat) (A : Option Addr) (c : Nat) (xs : List α) : Ro where
  p m := OwnP E.sz e A xs.length c (xs.map E.enc) m ∧ ∀ k, k ∈ blkOf A c → w0.heap.size ≤ k
  mono m m' h hp := by
    refine ⟨⟨hp.1.1, hp.1.2.1, ?_⟩, hp.2⟩
    rcases hp.1.2.2 with h1 | ⟨g, cur, fr, h0, hA, hm, rest⟩
    · exact .inl h1
    · exact .inr ⟨g, cur, fr, h0, hA, h _ _ hm, rest⟩

/-- THE CONTRACT of a function that is called where nothing else is known but that memory must stay. -/
def Fun0 (P : Program) (f : FuncId) (args : List Value) (F : List As) (Post : Value → List As → Prop) : Prop :=
  ∀ (w : World), Sat (F ++ [.ro (agree w)]) w → Calls P f args.toArray w (Out w [.ro (agree w)] Post)

theorem Fun0.intro {f : FuncId} {fn : Func} {c : Code} {args : List Value} (hf : P.funcs[f]? = some fn) (hb : fn.body = some c) (hn : fn.ntmps = nt) (hl : Nat.ble args.length nt = true)
    (h : ∀ w R, R = [.ro (agree w)] → St w nt (envFrom 0 args) (F ++ R) (c.wp P (bodyPost P fn (Out w R Post)))) : Fun0 P f args F Post := by
  intro w hs
  have hl' := Nat.le_of_ble_eq_true hl
  refine calls_of_wp hf hb (h w _ rfl _ w ?_ rfl ?_ hs (Same.refl w))
  · simp [hn]; omega
  · refine At.envFrom _ _ args 0 fun i v hv => ?_
    rw [Nat.zero_add]
    have hi := (List.getElem?_eq_some_iff.1 hv).1
    rw [Array.getElem?_append_left (by simpa using hi)]
    simpa using hv

theorem Fun0.quiet {f : FuncId} {args : List Value} {G : List As} {v : Value} (h : Fun0 P f args G (Val v)) (hro : allRo G = true) (hin : AllIn G F) {w : World} (hf : Sat F w) :
    Calls P f args.toArray w fun e w' => e = .returned v ∧ Ext w w' := by
  have hG := allRo_gs hro
  have hb : blocks (G ++ [.ro (agree w)]) = [] := blocks_ro fun x hx => by
    rcases List.mem_append.1 hx with hx | hx
    · obtain ⟨r, rfl⟩ := hG x hx; rfl
    · simp at hx; subst hx; rfl
  have hs : Sat (G ++ [.ro (agree w)]) w := by
    refine ⟨by rw [hb]; simp, fun x hx => ?_⟩
    rw [hb]
    rcases List.mem_append.1 hx with hx | hx
    · obtain ⟨r, rfl⟩ := hG x hx
      refine r.mono _ _ ?_ (hf.ro (hin.mem _ hx))
      exact frz_anti w (by simp)
    · simp at hx
      subst hx
      intro k _
      simp [frz]
  refine (h w hs).mono fun e w' ⟨v', F', h1, ⟨h2, h3⟩, h4, h5⟩ => ?_
  subst h2; subst h3
  refine ⟨h1, h5, fun k hk => ?_⟩
  have h6 := h4.ro_hp (r := agree w) (by simp) k hk
  exact h6

end
end Go.Proofs.Ythdpagcklakahaa
