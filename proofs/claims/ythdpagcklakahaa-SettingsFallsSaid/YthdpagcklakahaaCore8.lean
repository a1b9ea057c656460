/-
  The core, eighth part: rules in the shape in which a program of mine writes them down.
  Conditions: none.
-/
import Derived.Test.YthdpagcklakahaaCore7
namespace Go.Proofs.Ythdpagcklakahaa
open Go
set_option linter.unusedSectionVars false

/-- A part of a list of assertions, in its order. -/
inductive Keep : List As → List As → Prop
  | z {F : List As} : Keep F F
  | k {F G : List As} {x : As} (h : Keep F G) : Keep (x :: F) (x :: G)
  | d {F G : List As} {x : As} (h : Keep F G) : Keep (x :: F) G

theorem Keep.mem {F G : List As} (h : Keep F G) : ∀ x ∈ G, x ∈ F := by
  induction h with
  | z => exact fun _ h => h
  | k _ ih =>
    intro x hx
    cases hx with
    | head => exact List.mem_cons_self ..
    | tail _ hx => exact List.mem_cons_of_mem _ (ih x hx)
  | d _ ih => exact fun x hx => List.mem_cons_of_mem _ (ih x hx)

theorem Keep.sub {F G : List As} (h : Keep F G) : (blocks G).Sublist (blocks F) := by
  induction h with
  | z => exact List.Sublist.refl _
  | k _ ih => exact (List.Sublist.refl _).append ih
  | d _ ih => exact ih.trans (List.sublist_append_right _ _)

theorem Keep.sat {F G : List As} (h : Keep F G) {w : World} (hs : Sat F w) : Sat G w := hs.of_mem (h.sub.nodup hs.nodup) h.mem

theorem iter_e {σ τ : Type} {m : σ → Option (Step σ τ)} {s : σ} {out : τ} (h : ∃ n, iter m (n + 1) s = some out) : ∃ st, m s = some st ∧ ∀ t, st = .done t → out = t := by
  obtain ⟨n, hn⟩ := h
  simp only [iter] at hn
  split at hn
  · rename_i s' hs; exact ⟨_, hs, fun t ht => by cases ht⟩
  · rename_i t hs; injection hn with hn; exact ⟨_, hs, fun u hu => by injection hu with hu; rw [← hn, hu]⟩
  · cases hn

def retOr {ρ σ : Type} (o : ρ ⊕ σ) (f : σ → Option ρ) : Option ρ := match o with | .inl r => some r | .inr s => f s

theorem app_some {α : Type} {b : Nat} {xs ys zs : List α} (h : app b xs ys = some zs) : zs = xs ++ ys ∧ (xs.length + ys.length) * b ≤ 140737488355328 ∧ xs.length + ys.length ≤ 9223372036854775807 := by
  unfold app at h
  split at h
  · rename_i hc; injection h with h; exact ⟨h.symm, hc⟩
  · cases h

theorem rows_ok {α : Type} {sz : Nat} {enc : α → List Value} (hlen : ∀ x, (enc x).length = sz) (hone : ∀ x, ∀ u ∈ enc x, u.oneCell' = true) (xs : List α) : ∀ r ∈ xs.map enc, r.length = sz ∧ ∀ u ∈ r, u.oneCell' = true := fun r hr => by
  obtain ⟨x, _, rfl⟩ := List.mem_map.1 hr
  exact ⟨hlen x, hone x⟩

/-- How the values of a type with no memory of their own are laid. -/
structure Enc (α : Type) where
  sz : Nat
  enc : α → List Value
  len : ∀ x, (enc x).length = sz
  one : ∀ x, ∀ u ∈ enc x, u.oneCell' = true

def cod {α : Type} (E : Enc α) : Cod α := Cod.flat E.sz E.enc E.len E.one

def ei64 : Enc Int := ⟨1, eInt .i64, fun _ => rfl, fun _ u hu => by simp [eInt] at hu; subst hu; rfl⟩
def ei32 : Enc Int := ⟨1, eInt .i32, fun _ => rfl, fun _ u hu => by simp [eInt] at hu; subst hu; rfl⟩
def ei16 : Enc Int := ⟨1, eInt .i16, fun _ => rfl, fun _ u hu => by simp [eInt] at hu; subst hu; rfl⟩
def ei8 : Enc Int := ⟨1, eInt .i8, fun _ => rfl, fun _ u hu => by simp [eInt] at hu; subst hu; rfl⟩
def eu64 : Enc Int := ⟨1, eInt .u64, fun _ => rfl, fun _ u hu => by simp [eInt] at hu; subst hu; rfl⟩
def eu32 : Enc Int := ⟨1, eInt .u32, fun _ => rfl, fun _ u hu => by simp [eInt] at hu; subst hu; rfl⟩
def eu16 : Enc Int := ⟨1, eInt .u16, fun _ => rfl, fun _ u hu => by simp [eInt] at hu; subst hu; rfl⟩
def eu8 : Enc Int := ⟨1, eInt .u8, fun _ => rfl, fun _ u hu => by simp [eInt] at hu; subst hu; rfl⟩
def ebool : Enc Bool := ⟨1, eBool, fun _ => rfl, fun _ u hu => by simp [eBool] at hu; subst hu; rfl⟩
def estr : Enc ByteArray := ⟨1, eStr, fun _ => rfl, fun _ u hu => by simp [eStr] at hu; subst hu; rfl⟩

/-- A slice of one's own of such values. -/
def OwnL {α : Type} (E : Enc α) (e : Nat) (A : Option Addr) (c : Nat) (xs : List α) : Res := Own E.sz e A xs.length c (xs.map E.enc)
/-- A slice that stays of such values. -/
def SlL {α : Type} (E : Enc α) (A : Option Addr) (c : Nat) (xs : List α) : Ro := Sl (cod E) A c xs

/-- What a function returns. -/
inductive ResV (tt : TT) (Γ : Env) (F : List As) : List ResultVar → List Value → Prop
  | nil : ResV tt Γ F [] []
  | tmp {t : Nat} {v : Value} {rs : List ResultVar} {vs : List Value} (h : get Γ t = some v) (k : ResV tt Γ F rs vs) : ResV tt Γ F (.tmp t :: rs) (v :: vs)
  | cell {x t g t' : Nat} {cs : List Value} {v : Value} {rs : List ResultVar} {vs : List Value} (h : get Γ x = some (.pointer (some ⟨g, 0, none⟩))) (hm : As.res (Box g t' cs) ∈ F) (hv : ppart tt t cs 0 = some v) (k : ResV tt Γ F rs vs) : ResV tt Γ F (.cell x t :: rs) (v :: vs)

section
variable {P : Program} [T : HasTT P] {w0 : World} {nt : Nat} {Γ Γ' : Env} {F F' G R : List As} {Q : Exit → Act → World → Prop} {ops : Array Oper} {rest : List Oper}
variable {d : Nat} {op : Op} {ty : Nat} {pos : String} {af : Array Edge} {X : List Oper → Act → World → Prop} {Post : Value → List As → Prop}

theorem ResV.run {a : Act} {w : World} (ha : At a Γ) (hf : Sat F w) : ∀ {rs : List ResultVar} {vs : List Value}, ResV T.tt Γ F rs vs → (rs.mapM (rget a.tmps) : Sem (List Value)).run P w = .ok vs w
  | _, _, .nil => rfl
  | _, _, .tmp (t := t) (v := v) h k => by
    have he : a.tmps.getD t undef = v := by simp [ha t _ h]
    rw [List.mapM_cons]
    simp only [Sem.run_bind, rget, he, Sem.run_pure, Result.andThen_ok, ResV.run ha hf k]
  | _, _, .cell (x := x) (t := t) (g := g) h hm hv k => by
    have he : a.tmps.getD x undef = .pointer (some ⟨g, 0, none⟩) := by simp [ha x _ h]
    have hl := run_loadVar_cells (P := P) T.ok hv (w := w) (b := g) (o := 0) (fun i u hu => by rw [Nat.zero_add]; exact Box.cell (hf.res hm) hu)
    simp only [Nat.add_zero] at hl
    rw [List.mapM_cons]
    simp only [Sem.run_bind, rget, he, asAddr, Sem.run_pure, Result.andThen_ok, hl, ResV.run ha hf k]

theorem resV_results {fn : Func} {a : Act} {w : World} {v : Value} {rs : List ResultVar} {vs : List Value} (ha : At a Γ) (hf : Sat F w) (hrs : fn.results = rs.toArray) (h : ResV T.tt Γ F rs vs) (h1 : res1 vs = some v) : (results fn a.tmps).run P w = .ok v w := by
  rw [results_eq, hrs, List.mapM_toArray, Sem.run_bind, Sem.run_map, ResV.run ha hf h]
  simp only [Result.andThen_ok]
  cases vs with
  | nil => simp [res1] at h1; subst h1; simp
  | cons x r =>
    cases r with
    | nil => simp [res1] at h1; subst h1; simp
    | cons y r => simp [res1] at h1; subst h1; simp

/-- THE END of a function. -/
theorem St.finR {fn : Func} {v : Value} {rs : List ResultVar} {vs : List Value} (hrs : fn.results = rs.toArray) (hv : ResV T.tt Γ F rs vs) (h1 : res1 vs = some v) (F' : List As) (hp : Post v F') (hs : ∀ w, Sat F w → Sat (F' ++ R) w) :
    St w0 nt Γ F (bodyPost P fn (Out w0 R Post) .ret) :=
  fun _ w _ hdf ha hf hw => (bodyPost_both v (resV_results ha hf hrs hv h1) hdf ⟨v, F', rfl, hp, hs w hf, hw⟩).1
theorem St.finN' {fn : Func} {v : Value} {rs : List ResultVar} {vs : List Value} (hrs : fn.results = rs.toArray) (hv : ResV T.tt Γ F rs vs) (h1 : res1 vs = some v) (F' : List As) (hp : Post v F') (hs : ∀ w, Sat F w → Sat (F' ++ R) w) :
    St w0 nt Γ F (bodyPost P fn (Out w0 R Post) .normal) :=
  fun _ w _ hdf ha hf hw => (bodyPost_both v (resV_results ha hf hrs hv h1) hdf ⟨v, F', rfl, hp, hs w hf, hw⟩).2

/-- The address of an element of a slice that stays. -/
theorem St.ixL [W : Walk P ops X] {α : Type} {E : Enc α} {t e : Nat} {i j : TI} {x ix : Operand} {A : Option Addr} {n c : Nat} {kk : IntKind} {q : Int} {xs : List α} {y : α} (hy : elt xs q = some y) (hd : Nat.blt d nt = true) (hx : ev Γ x = some (.slice A n c)) (hq : ev Γ ix = some (.int kk q))
    (hm : As.ro (SlL E A c xs) ∈ F) (hlen : n = xs.length) (hi : tget T.tt t = some i) (hdesc : i.desc = .slice e) (hj : tget T.tt e = some j) (hn : j.size = E.sz)
    (k : ∀ b o, St w0 nt ((d, .pointer (some ⟨b, o, none⟩)) :: Γ) (.ro (Cells b o (E.enc y)) :: F) (X rest)) : St w0 nt Γ F (X (⟨some d, .indexAddr t x ix, ty, pos, af, none⟩ :: rest)) :=
  St.idxF (enc := E.enc) (hlen' := E.len) (hone := E.one) hd hx hq hm hlen hy hi hdesc hj hn k

/-- The address of an element of a slice of one's own. -/
theorem St.ixO [W : Walk P ops X] {α : Type} {E : Enc α} {t e e' : Nat} {i j : TI} {x ix : Operand} {A : Option Addr} {n c : Nat} {kk : IntKind} {q : Int} {xs : List α} {y : α} (hy : elt xs q = some y) (hd : Nat.blt d nt = true) (hx : ev Γ x = some (.slice A n c)) (hq : ev Γ ix = some (.int kk q))
    (hm : As.res (OwnL E e' A c xs) ∈ F) (hlen : n = xs.length) (hi : tget T.tt t = some i) (hdesc : i.desc = .slice e) (hj : tget T.tt e = some j) (hn : j.size = E.sz)
    (k : ∀ g, A = some ⟨g, 0, none⟩ → St w0 nt ((d, .pointer (some ⟨g, q.toNat * E.sz, none⟩)) :: Γ) F (X rest)) : St w0 nt Γ F (X (⟨some d, .indexAddr t x ix, ty, pos, af, none⟩ :: rest)) := by
  subst hlen
  exact St.idxO hd hx hq hm (elt_some hy).1 (elt_some hy).2.1 hi hdesc hj hn k

theorem rows_get {α : Type} {E : Enc α} {xs : List α} {q : Int} {y : α} (hy : elt xs q = some y) : (xs.map E.enc)[q.toNat]? = some (E.enc y) := by
  rw [List.getElem?_map, (elt_some hy).2.2]
  rfl

theorem St.ldO [W : Walk P ops X] {α : Type} {E : Enc α} {t e c g p : Nat} {x : Operand} {q : Int} {y : α} (off : Nat) {xs : List α} {v : Value} (hy : elt xs q = some y) (hd : Nat.blt d nt = true) (hx : ev Γ x = some (.pointer (some ⟨g, p, none⟩))) (hm : As.res (OwnL E e (some ⟨g, 0, none⟩) c xs) ∈ F)
    (hpp : p = q.toNat * E.sz + off) (hv : ppart T.tt t (E.enc y) off = some v) (k : St w0 nt ((d, v) :: Γ) F (X rest)) : St w0 nt Γ F (X (⟨some d, .load t x, ty, pos, af, none⟩ :: rest)) :=
  St.loadO off hd hx hm (rows_get hy) hpp hv k

theorem St.stO {α : Type} {E : Enc α} {t e c g p : Nat} {x y : Operand} {q : Int} {u u' : α} (off : Nat) {i : TI} {xs zs : List α} {v : Value} (hu : elt xs q = some u) (hz : setE xs q u' = some zs) (hx : ev Γ x = some (.pointer (some ⟨g, p, none⟩))) (hy : ev Γ y = some v) (hD : Del F (.res (OwnL E e (some ⟨g, 0, none⟩) c xs)) G)
    (hpp : p = q.toNat * E.sz + off) (hi : tget T.tt t = some i) (hsz : Nat.beq (zc v).length i.size = true) (h1 : ((zc v).all fun u => u.oneCell') = true) (hs : spliceK (E.enc u) off (zc v) some = some (E.enc u'))
    (k : St w0 nt Γ (.res (OwnL E e (some ⟨g, 0, none⟩) c zs) :: G) (wpList P ops Q rest)) : St w0 nt Γ F (wpList P ops Q (⟨none, .store t x y, ty, pos, af, none⟩ :: rest)) := by
  refine St.storeO off hx hy hD (rows_get hu) hpp hi hsz h1 hs ?_
  unfold setE at hz
  split at hz
  · injection hz with hz
    subst hz
    have e1 : (xs.map E.enc).set q.toNat (E.enc u') = (xs.set q.toNat u').map E.enc := by rw [List.map_set]
    have e2 : (xs.set q.toNat u').length = xs.length := by simp
    unfold OwnL at k
    rw [e2, ← e1] at k
    exact k
  · cases hz

/-- append. -/
theorem St.app {α : Type} {E : Enc α} {t t2 e m c n : Nat} {i i2 j : TI} {s x : Operand} {A : Option Addr} {xv : Value} {b : Nat} {xs ys zs : List α} (hz : app b xs ys = some zs) (hd : Nat.blt d nt = true) (hs : ev Γ s = some (.slice A n c)) (hx : ev Γ x = some xv)
    (hD : Del F (.res (OwnL E e A c xs)) G) (hlen : n = xs.length) (hi : tget T.tt t = some i) (hdesc : i.desc = .slice e) (hj : tget T.tt e = some j) (hsz : j.size = E.sz) (hby : j.bytes = b) (hzs : Nat.beq (zc j.zero).length E.sz = true)
    (hm : m = ys.length) (hsrc : ∀ w, Sat F w → SrcP P E.sz xv m (ys.map E.enc).flatten w) (hi2 : tget T.tt t2 = some i2) (hd2 : notInt i2.desc = true)
    (k : ∀ A' c', St w0 nt ((d, .slice A' zs.length c') :: Γ) (.res (OwnL E e A' c' zs) :: G) (wpList P ops Q rest)) :
    St w0 nt Γ F (wpList P ops Q (⟨some d, .call { callee := .builtin .append, args := #[s, x], argTypes := #[t, t2] }, ty, pos, af, none⟩ :: rest)) := by
  obtain ⟨rfl, h2, h3⟩ := app_some hz
  subst hlen; subst hm; subst hby
  refine St.append (ys.map E.enc) hd hs hx hD hi hdesc hj hsz hzs hsrc rfl (by simp) (rows_ok E.len E.one ys) (by simpa [maxLen] using h3) h2 hi2 hd2 fun A' c' => ?_
  have := k A' c'
  unfold OwnL at this
  simpa using this

theorem srcL {α : Type} {E : Enc α} {A : Option Addr} {c : Nat} {xs : List α} (hm : As.ro (SlL E A c xs) ∈ F) : ∀ w, Sat F w → SrcP P E.sz (.slice A xs.length c) xs.length (xs.map E.enc).flatten w :=
  src_sl (enc := E.enc) (hlen := E.len) (hone := E.one) hm

theorem srcB {α : Type} {E : Enc α} {g e m c : Nat} {cs : List Value} {ys : List α} (hm : As.res (Box g e cs) ∈ F) (hcs : (ys.map E.enc).flatten = cs) (hl : m = ys.length) : ∀ w, Sat F w → SrcP P E.sz (.slice (some ⟨g, 0, none⟩) m c) m (ys.map E.enc).flatten w := by
  subst hcs; subst hl
  have h := rows_ok E.len E.one ys
  refine src_box hm (by rw [length_flatten_rows h]; simp) ?_
  rw [List.all_eq_true]
  intro u hu
  obtain ⟨r, hr, hur⟩ := List.mem_flatten.1 hu
  exact (h r hr).2 u hur

theorem Sat.nilL {α : Type} {w : World} (h : Sat F w) (E : Enc α) (e : Nat) : Sat (.res (OwnL E e none 0 []) :: F) w := h.own_nil E.sz e

theorem Sat.litL {α : Type} {E : Enc α} {g e : Nat} {cs : List Value} {w : World} (ys : List α) (hcs : (ys.map E.enc).flatten = cs) (hm : Nat.ble ys.length 16777216 = true) (h : Sat (.res (Box g e cs) :: F) w) : Sat (.res (OwnL E e (some ⟨g, 0, none⟩) ys.length ys) :: F) w :=
  Sat.box_own hcs (by simp) (rows_ok E.len E.one ys) (by have := Nat.le_of_ble_eq_true hm; simp only [maxLen]; omega) h

theorem Sat.meltL {α : Type} {E : Enc α} {e c : Nat} {A : Option Addr} {xs : List α} {w : World} (h : Sat (.res (OwnL E e A c xs) :: F) w) : Sat (.ro (SlL E A c xs) :: F) w :=
  Sat.own_slF (enc := E.enc) (hlen := E.len) (hone := E.one) h

theorem Sat.nilSl {α : Type} {w : World} (h : Sat F w) (E : Cod α) : Sat (.ro (Sl E none 0 []) :: F) w :=
  h.add_ro (Sl E none 0 []) ⟨by simp, by simp [maxLen], fun _ => rfl, fun ad h => by cases h⟩

theorem OwnL.sl {α : Type} {E : Enc α} {e c : Nat} {A : Option Addr} {xs : List α} {w : World} (h : Sat F w) (hm : As.res (OwnL E e A c xs) ∈ F) : (SlL E A c xs).p (hp w) :=
  OwnP.sl (E := cod E) (h.res hm) xs rfl (hp w) (fun _ _ => rfl) fun j x hx => ⟨E.enc x, by rw [List.getElem?_map, hx]; rfl, rfl⟩

/-- make. -/
theorem St.mkL {α : Type} {E : Enc α} {t e : Nat} {i j : TI} {x y : Operand} {l c : Int} {b : Nat} (z : α) {xs : List α} (hxs : mkS b z l c = some xs) (hd : Nat.blt d nt = true) (hx : ev Γ x = some (.int .i64 l)) (hy : ev Γ y = some (.int .i64 c)) (hi : tget T.tt t = some i) (hdesc : i.desc = .slice e) (hj : tget T.tt e = some j)
    (hsz : j.size = E.sz) (hby : j.bytes = b) (hz : zc j.zero = E.enc z) (hpos : Nat.blt 0 j.size = true)
    (k : ∀ g, St w0 nt ((d, .slice (some ⟨g, 0, none⟩) xs.length c.toNat) :: Γ) (.res (OwnL E e (some ⟨g, 0, none⟩) c.toNat xs) :: F) (wpList P ops Q rest)) :
    St w0 nt Γ F (wpList P ops Q (⟨some d, .makeSlice t x y, ty, pos, af, none⟩ :: rest)) := by
  unfold mkS at hxs
  split at hxs
  · rename_i hc
    injection hxs with hxs
    subst hxs
    subst hby
    refine St.makeSlice hd hx hy hi hdesc hj (by rw [hz, E.len, hsz]; simp) hpos ?_ hc.1 hc.2.1 hc.2.2.1 hc.2.2.2 fun g => ?_
    · rw [hz, List.all_eq_true]; exact E.one z
    · have := k g
      unfold OwnL at this
      rw [hz, hsz]
      simpa using this
  · cases hxs

theorem St.prune {X : Act → World → Prop} (hΓ : SubL Γ' Γ) (hF : Keep F F') (h : St w0 nt Γ' F' X) : St w0 nt Γ F X := St.weak hΓ (fun _ w => hF.sat w) h

/-- A piece of code by what it leaves, in terms of an outcome that is of a kind. -/
theorem St.cutI {σ ε : Type} {c : Code} {n : Act → World → Prop} (Γs : σ → ε → Env) (Fs : σ → ε → List As) (I : σ → Prop) (h1 : St w0 nt Γ F (c.wp P (Exit.then (fun a w => ∃ s e, I s ∧ a.tmps.size = nt ∧ a.defers = [] ∧ At a (Γs s e) ∧ Sat (Fs s e) w ∧ Same w0 w) Q)))
    (h2 : ∀ s e, I s → St w0 nt (Γs s e) (Fs s e) n) : St w0 nt Γ F (c.wp P (Exit.then n Q)) :=
  fun a w hs hd ha hf hw => wp_mono (h1 a w hs hd ha hf hw) fun e a' w' hq => by
    cases e with
    | normal =>
      obtain ⟨s, e, q0, q1, q2, q3, q4, q5⟩ := hq
      exact h2 s e q0 a' w' q1 q2 q3 q4 q5
    | _ => exact hq
theorem St.hereI {σ ε : Type} {Γs : σ → ε → Env} {Fs : σ → ε → List As} {I : σ → Prop} (s : σ) (e : ε) (hI : I s) (hΓ : SubL (Γs s e) Γ) (hF : ∀ w, Sat F w → Sat (Fs s e) w) : St w0 nt Γ F (fun a w => ∃ s e, I s ∧ a.tmps.size = nt ∧ a.defers = [] ∧ At a (Γs s e) ∧ Sat (Fs s e) w ∧ Same w0 w) :=
  fun _ w hs hd ha hf hw => ⟨s, e, hI, hs, hd, ha.sub hΓ, hF w hf, hw⟩

end
end Go.Proofs.Ythdpagcklakahaa
