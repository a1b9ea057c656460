/-
  The core, fourth part: contracts of functions, calls, results, loops.
  Conditions: none.
-/
import Derived.Test.YthdpagcklakahaaCore3
namespace Go.Proofs.Ythdpagcklakahaa
open Go
set_option linter.unusedSectionVars false

/-! ## Contracts -/

/-- What a call returns and leaves, beside whatever else is known. -/
def Out (w : World) (R : List As) (Post : Value → List As → Prop) (e : Ending) (w' : World) : Prop :=
  ∃ v F', e = .returned v ∧ Post v F' ∧ Sat (F' ++ R) w' ∧ Same w w'

/-- THE CONTRACT of a function: called where F holds, it returns v and leaves F' with 'Post v F''; all else stays. -/
def Fun (P : Program) (f : FuncId) (args : List Value) (F : List As) (Post : Value → List As → Prop) : Prop :=
  ∀ (w : World) (R : List As), Sat (F ++ R) w → Calls P f args.toArray w (Out w R Post)

theorem Fun.mono {P : Program} {f : FuncId} {args : List Value} {F : List As} {Post Post' : Value → List As → Prop} (h : Fun P f args F Post) (hp : ∀ v F', Post v F' → Post' v F') : Fun P f args F Post' :=
  fun w R hs => (h w R hs).mono fun _ _ ⟨v, F', h1, h2, h3, h4⟩ => ⟨v, F', h1, hp v F' h2, h3, h4⟩

/-- It returns this value and leaves nothing that matters. -/
def Val (v : Value) : Value → List As → Prop := fun v' F' => v' = v ∧ F' = []

def envFrom : Nat → List Value → Env
  | _, [] => []
  | k, v :: r => (k, v) :: envFrom (k + 1) r

theorem At.envFrom (tmps : Array Value) (df : List Deferred) : ∀ (vs : List Value) (k : Nat), (∀ i v, vs[i]? = some v → tmps[k + i]? = some v) → At { tmps := tmps, defers := df } (envFrom k vs)
  | [], _, _ => At.nil _
  | v :: r, k, h => At.cons (by simpa using h 0 v rfl) (At.envFrom tmps df r (k + 1) fun i u hu => by
      have := h (i + 1) u (by simpa using hu)
      rwa [show k + (i + 1) = k + 1 + i by omega] at this)

theorem Fun.intro {P : Program} {f : FuncId} {fn : Func} {c : Code} {args : List Value} {F : List As} {Post : Value → List As → Prop} {nt : Nat} (hf : P.funcs[f]? = some fn) (hb : fn.body = some c) (hn : fn.ntmps = nt) (hl : Nat.ble args.length nt = true)
    (h : ∀ w R, St w nt (envFrom 0 args) (F ++ R) (c.wp P (bodyPost P fn (Out w R Post)))) : Fun P f args F Post := by
  intro w R hs
  have hl' := Nat.le_of_ble_eq_true hl
  refine calls_of_wp hf hb (h w R _ w ?_ rfl ?_ hs (Same.refl w))
  · simp [hn]; omega
  · refine At.envFrom _ _ args 0 fun i v hv => ?_
    rw [Nat.zero_add]
    have hi := (List.getElem?_eq_some_iff.1 hv).1
    rw [Array.getElem?_append_left (by simpa using hi)]
    simpa using hv

section
variable {P : Program} [T : HasTT P] {w0 : World} {nt : Nat} {Γ : Env} {F F' R : List As} {Q : Exit → Act → World → Prop} {ops : Array Oper} {rest : List Oper}
variable {d : Nat} {op : Op} {ty : Nat} {pos : String} {af : Array Edge} {X : List Oper → Act → World → Prop} {Post : Value → List As → Prop}

/-! ## Results -/

theorem bodyPost_both {fn : Func} {o : Ending → World → Prop} {a : Act} {w : World} (v : Value) (hr : (results fn a.tmps).run P w = .ok v w) (hd : a.defers = []) (ho : o (.returned v) w) :
    bodyPost P fn o .ret a w ∧ bodyPost P fn o .normal a w := ⟨⟨hd, v, hr, ho⟩, ⟨hd, v, hr, ho⟩⟩

/-- The results out of slots. -/
def resK (Γ : Env) : List ResultVar → (List Value → Option Value) → Option Value
  | [], k => k []
  | .tmp t :: r, k => match get Γ t with
    | some v => resK Γ r fun vs => k (v :: vs)
    | none => none
  | .cell _ _ :: _, _ => none

def res1 : List Value → Option Value
  | [v] => some v
  | vs => some (.tuple vs.toArray)

def rget (tmps : Array Value) : ResultVar → Sem Value
  | .tmp t => pure (tmps.getD t undef)
  | .cell x t => do loadVar t (← asAddr (tmps.getD x undef))

theorem results_eq (fn : Func) (tmps : Array Value) : results fn tmps = (do let vs ← fn.results.mapM (rget tmps); pure (if h : vs.size = 1 then vs[0] else .tuple vs)) := by
  unfold results
  have : (fun x : ResultVar => (match x with | .tmp t => pure (tmps.getD t undef) | .cell a t => do loadVar t (← asAddr (tmps.getD a undef)) : Sem Value)) = rget tmps := by
    funext x; cases x <;> rfl
  rw [← this]
  rfl

theorem resK_run {Γ : Env} {a : Act} {w : World} (ha : At a Γ) : ∀ (rs : List ResultVar) (k : List Value → Option Value) (v : Value), resK Γ rs k = some v →
    ∃ vs, k vs = some v ∧ (rs.mapM (rget a.tmps) : Sem (List Value)).run P w = .ok vs w
  | [], k, v, h => ⟨[], h, rfl⟩
  | .tmp t :: r, k, v, h => by
    simp only [resK] at h
    split at h
    · rename_i u hu
      obtain ⟨vs, h1, h3⟩ := resK_run (w := w) ha r _ v h
      have he : a.tmps.getD t undef = u := by simp [ha t u hu]
      refine ⟨u :: vs, h1, ?_⟩
      rw [List.mapM_cons]
      simp only [Sem.run_bind, rget, he, Sem.run_pure, Result.andThen_ok, h3]
    · cases h
  | .cell _ _ :: _, _, _, h => by simp [resK] at h

theorem results_run {fn : Func} {Γ : Env} {a : Act} {w : World} {v : Value} {rs : List ResultVar} (ha : At a Γ) (hrs : fn.results = rs.toArray) (h : resK Γ rs res1 = some v) : (results fn a.tmps).run P w = .ok v w := by
  obtain ⟨vs, h1, h3⟩ := resK_run (P := P) (w := w) ha rs res1 v h
  rw [results_eq, hrs, List.mapM_toArray, Sem.run_bind, Sem.run_map, h3]
  simp only [Result.andThen_ok]
  cases vs with
  | nil => simp [res1] at h1; subst h1; simp
  | cons x r =>
    cases r with
    | nil => simp [res1] at h1; subst h1; simp
    | cons y r => simp [res1] at h1; subst h1; simp

/-- THE END of a function whose results lie in slots. -/
theorem St.fin {fn : Func} {v : Value} {rs : List ResultVar} (hrs : fn.results = rs.toArray) (hv : resK Γ rs res1 = some v) (F' : List As) (hp : Post v F') (hs : ∀ w, Sat F w → Sat (F' ++ R) w) :
    St w0 nt Γ F (bodyPost P fn (Out w0 R Post) .ret) :=
  fun _ w _ hdf ha hf hw => (bodyPost_both v (results_run ha hrs hv) hdf ⟨v, F', rfl, hp, hs w hf, hw⟩).1
theorem St.finN {fn : Func} {v : Value} {rs : List ResultVar} (hrs : fn.results = rs.toArray) (hv : resK Γ rs res1 = some v) (F' : List As) (hp : Post v F') (hs : ∀ w, Sat F w → Sat (F' ++ R) w) :
    St w0 nt Γ F (bodyPost P fn (Out w0 R Post) .normal) :=
  fun _ w _ hdf ha hf hw => (bodyPost_both v (results_run ha hrs hv) hdf ⟨v, F', rfl, hp, hs w hf, hw⟩).2

/-! ## Calls -/

/-- A function that has a body. -/
def Ent (P : Program) (f : FuncId) : Prop := ∃ fn, P.funcs[f]? = some fn ∧ (fn.name == "runtime.NumGoroutine") = false ∧ fn.body.isNone = false

theorem run_enter {f : FuncId} (he : Ent P f) {a : Act} {x : Operand} {xs : List Operand} {vs : List Value} {ts : Array Nat} (hx : a.eval x = .func (.func f) #[] #[]) (hxs : xs.map a.eval = vs) (w : World) (dst : Option Nat) (g : Option (Nat × Bool)) :
    (execOp a.eval ⟨dst, .call { callee := .value x, args := xs.toArray, argTypes := ts }, ty, pos, af, g⟩).run P w = .ok (.enter f vs.toArray) w := by
  obtain ⟨fn, h1, h2, h3⟩ := he
  subst hxs
  have hc : ∀ args : Array Value, (callFunc f args).run P w = .ok (.enter f args) w := fun args => by
    unfold callFunc
    rw [Sem.run_bind, run_program]
    simp only [Result.andThen_ok, h1, h2, h3, Bool.false_eq_true, if_false, Sem.run_pure]
  simp [execOp, resolve, hx, Deferred.ofValue, invoke, hc]

theorem blocks_ro {F : List As} (h : ∀ x ∈ F, x.gs = []) : blocks F = [] := by
  induction F with
  | nil => rfl
  | cons x r ih => simp [blocks, h x (by simp), ih fun y hy => h y (by simp [hy])]

def allRo : List As → Bool
  | [] => true
  | .ro _ :: r => allRo r
  | .res _ :: _ => false

theorem allRo_gs : ∀ {F : List As}, allRo F = true → ∀ x ∈ F, ∃ r, x = .ro r
  | [], _, x, hx => by cases hx
  | .ro r :: F, h, x, hx => by
    cases hx with
    | head => exact ⟨r, rfl⟩
    | tail _ hx => exact allRo_gs (F := F) h x hx
  | .res _ :: _, h, _, _ => by simp [allRo] at h

def AllIn : List As → List As → Prop
  | [], _ => True
  | x :: r, F => x ∈ F ∧ AllIn r F

theorem AllIn.mem : ∀ {G F : List As}, AllIn G F → ∀ x ∈ G, x ∈ F
  | [], _, _, x, hx => by cases hx
  | y :: r, F, h, x, hx => by
    cases hx with
    | head => exact h.1
    | tail _ hx => exact AllIn.mem h.2 x hx

/-- Memory as it is. -/
def agree (w : World) : Ro where
  p m := ∀ k, k < w.heap.size → m k = w.heap[k]?
  mono m m' h hp k hk := by
    have h1 := hp k hk
    rw [Array.getElem?_eq_getElem hk] at h1 ⊢
    exact h k _ h1

theorem Fun.quiet {f : FuncId} {args : List Value} {G : List As} {v : Value} (h : Fun P f args G (Val v)) (hro : allRo G = true) (hin : AllIn G F) {w : World} (hf : Sat F w) :
    Calls P f args.toArray w fun e w' => e = .returned v ∧ Ext w w' := by
  have hG := allRo_gs hro
  have hb : blocks (G ++ [.ro (agree w)]) = [] := blocks_ro fun x hx => by
    rcases List.mem_append.1 hx with hx | hx
    · obtain ⟨r, rfl⟩ := hG x hx; rfl
    · simp at hx; subst hx; rfl
  have hs : Sat (G ++ [.ro (agree w)]) w := by
    refine ⟨by rw [hb]; simp, fun x hx => ?_⟩
    rw [hb]
    rcases List.mem_append.1 hx with hx | hx
    · obtain ⟨r, rfl⟩ := hG x hx
      refine r.mono _ _ ?_ (hf.ro (hin.mem _ hx))
      exact frz_anti w (by simp)
    · simp at hx
      subst hx
      intro k _
      simp [frz]
  refine (h w [.ro (agree w)] hs).mono fun e w' ⟨v', F', h1, ⟨h2, h3⟩, h4, h5⟩ => ?_
  subst h2; subst h3
  refine ⟨h1, h5, fun k hk => ?_⟩
  have h6 := h4.ro_hp (r := agree w) (by simp) k hk
  exact h6

/-- A call of a function that hands back a known value and leaves nothing: in whatever walk. -/
theorem St.callV [W : Walk P ops X] {f : FuncId} {args : List Value} {G : List As} {v : Value} {x : Operand} {xs : List Operand} {ts : Array Nat} (h : Fun P f args G (Val v)) (he : Ent P f) (hd : Nat.blt d nt = true) (hx : ev Γ x = some (.func (.func f) #[] #[])) (hxs : evs Γ xs = some args)
    (hro : allRo G = true) (hin : AllIn G F) (k : St w0 nt ((d, v) :: Γ) F (X rest)) :
    St w0 nt Γ F (X (⟨some d, .call { callee := .value x, args := xs.toArray, argTypes := ts }, ty, pos, af, none⟩ :: rest)) :=
  fun a w hs hdf ha hf hw => W.call _ _ _ _ f args.toArray v (wanted_none rfl _) (fun w' _ => run_enter he (ha.eval hx) (ha.evals hxs) w' _ _)
    (fun _ hext => h.quiet hro hin (hf.ext hext))
    (fun _ hext => k _ _ (by simp [Act.put, hs]) hdf (ha.put (hs ▸ Nat.le_of_ble_eq_true hd)) (hf.ext hext) (hw.trans hext.toSame))

/-- A call by contract. -/
theorem St.call {f : FuncId} {args : List Value} {G : List As} {x : Operand} {xs : List Operand} {ts : Array Nat} (h : Fun P f args G Post) (he : Ent P f) (hd : Nat.blt d nt = true) (hx : ev Γ x = some (.func (.func f) #[] #[])) (hxs : evs Γ xs = some args)
    (hF : ∀ w, Sat F w → Sat (G ++ R) w) (k : ∀ v F', Post v F' → St w0 nt ((d, v) :: Γ) (F' ++ R) (wpList P ops Q rest)) :
    St w0 nt Γ F (wpList P ops Q (⟨some d, .call { callee := .value x, args := xs.toArray, argTypes := ts }, ty, pos, af, none⟩ :: rest)) :=
  fun a w hs hdf ha hf hw => wpList_plain rfl fun K hK => by
    unfold Oper.wp
    rw [run_enter he (ha.eval hx) (ha.evals hxs)]
    show Calls P f args.toArray w _
    refine (h w R (hF w hf)).mono fun e w' ⟨v, F', h1, h2, h3, h4⟩ => ?_
    subst h1
    exact hK _ _ (k v F' h2 _ _ (by simp [Act.put, hs]) hdf (ha.put (hs ▸ Nat.le_of_ble_eq_true hd)) h3 (hw.trans h4))

/-- What a callee asks that stays anyway is asked and kept. -/
theorem Sat.dup {G F : List As} {w : World} (hro : allRo G = true) (hin : AllIn G F) (h : Sat F w) : Sat (G ++ F) w := by
  have hG := allRo_gs hro
  refine h.of_mem ?_ fun x hx => ?_
  · rw [blocks_append, blocks_ro (F := G) fun x hx => by obtain ⟨r, rfl⟩ := hG x hx; rfl]
    simpa using h.nodup
  · rcases List.mem_append.1 hx with hx | hx
    · exact hin.mem x hx
    · exact hx

/-! ## Loops -/

inductive Step (σ τ : Type) where
  | next (s : σ)
  | done (t : τ)

def iter {σ τ : Type} (m : σ → Option (Step σ τ)) : Nat → σ → Option τ
  | 0, _ => none
  | n + 1, s => match m s with
    | some (.next s') => iter m n s'
    | some (.done t) => some t
    | none => none

theorem iter_det {σ τ : Type} {m : σ → Option (Step σ τ)} : ∀ {n k : Nat} {s : σ} {t u : τ}, iter m n s = some t → iter m k s = some u → t = u
  | 0, _, _, _, _, h, _ => by simp [iter] at h
  | _ + 1, 0, _, _, _, _, h => by simp [iter] at h
  | n + 1, k + 1, s, t, u, h1, h2 => by
    simp only [iter] at h1 h2
    split at h1
    · rename_i s' hs; rw [hs] at h2; exact iter_det h1 h2
    · rename_i t' hs; rw [hs] at h2; injection h1 with h1; injection h2 with h2; rw [← h1, ← h2]
    · cases h1

open Classical in
/-- What a loop comes to: its rounds one after the other till one says that it is done. -/
noncomputable def loopM {σ τ : Type} (m : σ → Option (Step σ τ)) (s : σ) : Option τ :=
  if h : ∃ t n, iter m n s = some t then some (Classical.choose h) else none

theorem loopM_some {σ τ : Type} {m : σ → Option (Step σ τ)} {s : σ} {t : τ} : loopM m s = some t ↔ ∃ n, iter m n s = some t := by
  unfold loopM
  split
  · rename_i h
    have := Classical.choose_spec h
    obtain ⟨n, hn⟩ := this
    constructor
    · intro e; injection e with e; exact ⟨n, e ▸ hn⟩
    · intro ⟨k, hk⟩; rw [iter_det hn hk]
  · rename_i h
    constructor
    · intro e; cases e
    · intro ⟨k, hk⟩; exact absurd ⟨t, k, hk⟩ h

/-- How a round ends that is not the last one. -/
def Again {σ τ ε : Type} (nt : Nat) (w0 : World) (m : σ → Option (Step σ τ)) (s : σ) (Γs : σ → ε → Env) (Fs : σ → ε → List As) (I : σ → ε → Prop) : Act → World → Prop := fun a w =>
  ∃ s' e', m s = some (.next s') ∧ I s' e' ∧ a.tmps.size = nt ∧ a.defers = [] ∧ At a (Γs s' e') ∧ Sat (Fs s' e') w ∧ Same w0 w

theorem St.again {σ τ ε : Type} {m : σ → Option (Step σ τ)} {s : σ} {Γs : σ → ε → Env} {Fs : σ → ε → List As} {I : σ → ε → Prop} (s' : σ) (e' : ε) (hm : m s = some (.next s')) (hI : I s' e') (hΓ : SubL (Γs s' e') Γ) (hF : ∀ w, Sat F w → Sat (Fs s' e') w) :
    St w0 nt Γ F (Again nt w0 m s Γs Fs I) :=
  fun _ w hs hdf ha hf hw => ⟨s', e', hm, hI, hs, hdf, ha.sub hΓ, hF w hf, hw⟩

theorem least {J : Nat → Prop} (h : ∃ k, J k) : ∃ k, J k ∧ ∀ j, J j → k ≤ j := by
  obtain ⟨k, hk⟩ := h
  induction k using Nat.strongRecOn with
  | _ k ih =>
    by_cases hl : ∃ j, j < k ∧ J j
    · obtain ⟨j, hj, hJ⟩ := hl
      exact ih j hj hJ
    · exact ⟨k, hk, fun j hJ => Nat.le_of_not_lt fun hlt => hl ⟨j, hlt, hJ⟩⟩

/-- A LOOP that comes to an end as the model's loop does. -/
theorem St.loop {σ τ ε : Type} {m : σ → Option (Step σ τ)} {s0 : σ} {out : τ} {c : Code} (hm : loopM m s0 = some out) (Γs : σ → ε → Env) (Fs : σ → ε → List As) (I : σ → ε → Prop) (e0 : ε) (h0 : I s0 e0) (hΓ : SubL (Γs s0 e0) Γ) (hF : ∀ w, Sat F w → Sat (Fs s0 e0) w)
    (round : ∀ s e, I s e → (∃ n, iter m (n + 1) s = some out) → St w0 nt (Γs s e) (Fs s e) (c.wp P (Exit.then (Again nt w0 m s Γs Fs I) Q))) : St w0 nt Γ F ((Code.loop c).wp P Q) := by
  obtain ⟨n, hn⟩ := loopM_some.1 hm
  have hpos : ∀ {n s}, iter m n s = some out → ∃ k, n = k + 1 := fun {n s} h => by
    cases n with
    | zero => simp [iter] at h
    | succ k => exact ⟨k, rfl⟩
  intro a w hs hdf ha hf hw
  let J : Act → World → Nat → Prop := fun a w k => ∃ s e, I s e ∧ iter m (k + 1) s = some out ∧ a.tmps.size = nt ∧ a.defers = [] ∧ At a (Γs s e) ∧ Sat (Fs s e) w ∧ Same w0 w
  refine wp_loop (fun a w => ∃ k, J a w k) (fun a w => open Classical in if h : ∃ k, J a w k then Classical.choose (least h) else 0) ?_ ?_
  · obtain ⟨k, rfl⟩ := hpos hn
    exact ⟨k, s0, e0, h0, hn, hs, hdf, ha.sub hΓ, hF w hf, hw⟩
  · intro a w hJ
    classical
    have hk := (Classical.choose_spec (least hJ)).1
    generalize hkk : Classical.choose (least hJ) = k at hk
    obtain ⟨s, e, hI, hit, h1, h2, h3, h4, h5⟩ := hk
    refine wp_mono (round s e hI ⟨k, hit⟩ a w h1 h2 h3 h4 h5) fun x a' w' hq => ?_
    cases x with
    | normal =>
      obtain ⟨s', e', hm', hI', g1, g2, g3, g4, g5⟩ := hq
      simp only [iter, hm'] at hit
      obtain ⟨k', rfl⟩ := hpos hit
      have hJ' : J a' w' k' := ⟨s', e', hI', hit, g1, g2, g3, g4, g5⟩
      refine ⟨⟨k', hJ'⟩, ?_⟩
      rw [dif_pos ⟨k', hJ'⟩, dif_pos hJ]
      have := (Classical.choose_spec (least (⟨k', hJ'⟩ : ∃ k, J a' w' k))).2 k' hJ'
      rw [hkk]
      omega
    | _ => exact hq

end
end Go.Proofs.Ythdpagcklakahaa
