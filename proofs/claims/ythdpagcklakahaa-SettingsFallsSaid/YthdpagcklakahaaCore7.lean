/-
  The core, seventh part: slice expressions, strings and bytes, operations with a side condition, further rules for calls and for what is known.
  Conditions: none.
-/
import Derived.Test.YthdpagcklakahaaCore6
import Derived.Laws.BytesArg
namespace Go.Proofs.Ythdpagcklakahaa
open Go
set_option linter.unusedSectionVars false

/-! ## Words of the models -/

def sub {α : Type} (xs : List α) (lo hi : Int) : Option (List α) := if 0 ≤ lo ∧ lo ≤ hi ∧ hi ≤ xs.length then some ((xs.take hi.toNat).drop lo.toNat) else none
def subS (s : ByteArray) (lo hi : Int) : Option ByteArray := if 0 ≤ lo ∧ lo ≤ hi ∧ hi ≤ s.size then some (s.extract lo.toNat hi.toNat) else none
def eltS (s : ByteArray) (i : Int) : Option Int := if 0 ≤ i then (s[i.toNat]?).map fun b => (b.toNat : Int) else none
def catS (s t : ByteArray) : Option ByteArray := if s.size + t.size ≤ 9223372036854775807 then some (s ++ t) else none
def strOf (xs : List Int) : ByteArray := ⟨(xs.map fun n => UInt8.ofNat n.toNat).toArray⟩
def bytesOf (s : ByteArray) : List Int := s.toList.map fun b => (b.toNat : Int)
/-- append: none where the result would be too long for any memory. -/
def app {α : Type} (b : Nat) (xs ys : List α) : Option (List α) := if (xs.length + ys.length) * b ≤ 140737488355328 ∧ xs.length + ys.length ≤ 9223372036854775807 then some (xs ++ ys) else none
def setE {α : Type} (xs : List α) (i : Int) (y : α) : Option (List α) := if 0 ≤ i ∧ i < xs.length then some (xs.set i.toNat y) else none
def mkS {α : Type} (b : Nat) (z : α) (l c : Int) : Option (List α) := if 0 ≤ l ∧ l ≤ c ∧ c * b ≤ 281474976710656 ∧ c ≤ 9223372036854775807 then some (List.replicate l.toNat z) else none
def divM (k : IntKind) (x y : Int) : Option Int := if y = 0 then none else some (k.wrap (x.tdiv y))
def remM (x y : Int) : Option Int := if y = 0 then none else some (x.tmod y)
def shlM (k : IntKind) (x y : Int) : Option Int := if y < 0 then none else some (iShl k x y)
def shrM (k : IntKind) (x y : Int) : Option Int := if y < 0 then none else some (iShr k x y)

def bnd {α β : Type} (x : Option α) (f : α → Option β) : Option β := match x with | some a => f a | none => none
theorem bnd_e {α β : Type} {x : Option α} {f : α → Option β} {r : β} (h : bnd x f = some r) : ∃ a, x = some a ∧ f a = some r := by
  cases x with
  | none => cases h
  | some a => exact ⟨a, rfl, h⟩
theorem bif_t {α : Type} {b : Bool} {x y : α} {r : α} (hb : b = true) (h : (bif b then x else y) = r) : x = r := by subst hb; exact h
theorem bif_f {α : Type} {b : Bool} {x y : α} {r : α} (hb : b = false) (h : (bif b then x else y) = r) : y = r := by subst hb; exact h

theorem sub_some {α : Type} {xs ys : List α} {lo hi : Int} (h : sub xs lo hi = some ys) : 0 ≤ lo ∧ lo ≤ hi ∧ hi ≤ xs.length ∧ ys = (xs.take hi.toNat).drop lo.toNat := by
  unfold sub at h
  split at h
  · rename_i hc; injection h with h; exact ⟨hc.1, hc.2.1, hc.2.2, h.symm⟩
  · cases h
theorem sub_len {α : Type} {xs ys : List α} {lo hi : Int} (h : sub xs lo hi = some ys) : (ys.length : Int) = hi - lo := by
  obtain ⟨h1, h2, h3, rfl⟩ := sub_some h
  simp only [List.length_drop, List.length_take]
  omega

section
variable {P : Program} [T : HasTT P] {w0 : World} {nt : Nat} {Γ Γ' : Env} {F F' G R : List As} {Q : Exit → Act → World → Prop} {ops : Array Oper} {rest : List Oper}
variable {d : Nat} {op : Op} {ty : Nat} {pos : String} {af : Array Edge} {X : List Oper → Act → World → Prop}

/-- Any operation whose run is known in every world that has the blocks of this one. -/
theorem St.val [W : Walk P ops X] {v : Value} (hd : Nat.blt d nt = true) (hr : ∀ a w, At a Γ → Sat F w → (execOp a.eval ⟨some d, op, ty, pos, af, none⟩).run P w = .ok (.value v) w) (k : St w0 nt ((d, v) :: Γ) F (X rest)) : St w0 nt Γ F (X (⟨some d, op, ty, pos, af, none⟩ :: rest)) :=
  fun a w hs hdf ha hf hw => W.val _ _ _ _ v (wanted_none rfl _) (fun w' he => hr a w' ha (hf.ext he)) (k _ w (by simp [Act.put, hs]) hdf (ha.put (hs ▸ Nat.le_of_ble_eq_true hd)) hf hw)

/-! ## Numbers with a side condition -/

theorem St.quo [W : Walk P ops X] {t yt : Nat} {k : IntKind} {x y z : Int} {ox oy : Operand} (hd : Nat.blt d nt = true) (hx : ev Γ ox = some (.int k x)) (hy : ev Γ oy = some (.int k y)) (h : divM k x y = some z) (kk : St w0 nt ((d, .int k z) :: Γ) F (X rest)) :
    St w0 nt Γ F (X (⟨some d, .binOp .quo t ox oy yt, ty, pos, af, none⟩ :: rest)) :=
  St.p hd (by
    unfold divM at h
    split at h
    · cases h
    · rename_i h0; injection h with h; subst h; simp [pev, hx, hy, pbin, pint, h0]) kk
theorem St.rem [W : Walk P ops X] {t yt : Nat} {k : IntKind} {x y z : Int} {ox oy : Operand} (hd : Nat.blt d nt = true) (hx : ev Γ ox = some (.int k x)) (hy : ev Γ oy = some (.int k y)) (h : remM x y = some z) (kk : St w0 nt ((d, .int k z) :: Γ) F (X rest)) :
    St w0 nt Γ F (X (⟨some d, .binOp .rem t ox oy yt, ty, pos, af, none⟩ :: rest)) :=
  St.p hd (by
    unfold remM at h
    split at h
    · cases h
    · rename_i h0; injection h with h; subst h; simp [pev, hx, hy, pbin, pint, h0]) kk
theorem St.shl [W : Walk P ops X] {t yt : Nat} {k k' : IntKind} {x y z : Int} {ox oy : Operand} (hd : Nat.blt d nt = true) (hx : ev Γ ox = some (.int k x)) (hy : ev Γ oy = some (.int k' y)) (h : shlM k x y = some z) (kk : St w0 nt ((d, .int k z) :: Γ) F (X rest)) :
    St w0 nt Γ F (X (⟨some d, .binOp .shl t ox oy yt, ty, pos, af, none⟩ :: rest)) :=
  St.p hd (by
    unfold shlM at h
    split at h
    · cases h
    · rename_i h0; injection h with h; subst h; simp [pev, hx, hy, pbin, pshift, h0]) kk
theorem St.shr [W : Walk P ops X] {t yt : Nat} {k k' : IntKind} {x y z : Int} {ox oy : Operand} (hd : Nat.blt d nt = true) (hx : ev Γ ox = some (.int k x)) (hy : ev Γ oy = some (.int k' y)) (h : shrM k x y = some z) (kk : St w0 nt ((d, .int k z) :: Γ) F (X rest)) :
    St w0 nt Γ F (X (⟨some d, .binOp .shr t ox oy yt, ty, pos, af, none⟩ :: rest)) :=
  St.p hd (by
    unfold shrM at h
    split at h
    · cases h
    · rename_i h0; injection h with h; subst h; simp [pev, hx, hy, pbin, pshift, h0]) kk

/-! ## Strings -/

theorem St.catS [W : Walk P ops X] {t yt : Nat} {x y z : ByteArray} {ox oy : Operand} (hd : Nat.blt d nt = true) (hx : ev Γ ox = some (.string x)) (hy : ev Γ oy = some (.string y)) (h : catS x y = some z) (kk : St w0 nt ((d, .string z) :: Γ) F (X rest)) :
    St w0 nt Γ F (X (⟨some d, .binOp .add t ox oy yt, ty, pos, af, none⟩ :: rest)) :=
  St.val hd (fun a w ha _ => by
    unfold Go.Proofs.Ythdpagcklakahaa.catS at h
    split at h
    · rename_i hl
      injection h with h; subst h
      have h1 : ¬ (((x.size + y.size : Nat) : Int) > IntKind.i64.max) := by simp only [IntKind.max, IntKind.signed, IntKind.bits]; simp; omega
      have hg : (eqGuard .add t ox oy (.string x) (.string y)).run P w = .ok () w := rfl
      simp only [execOp, ha.eval hx, ha.eval hy, Sem.run_bind, hg, Result.andThen_ok, binOp, Op.stringOp, if_neg h1, Sem.run_pure]
    · cases h) kk

theorem St.eltS [W : Walk P ops X] {t : Nat} {i : TI} {s : ByteArray} {kk : IntKind} {q z : Int} {ox oy : Operand} (hd : Nat.blt d nt = true) (hx : ev Γ ox = some (.string s)) (hy : ev Γ oy = some (.int kk q)) (hi : tget T.tt t = some i) (hdesc : i.desc = .string) (h : eltS s q = some z) (k : St w0 nt ((d, .int .u8 z) :: Γ) F (X rest)) :
    St w0 nt Γ F (X (⟨some d, .index t ox oy, ty, pos, af, none⟩ :: rest)) :=
  St.val hd (fun a w ha _ => by
    unfold Go.Proofs.Ythdpagcklakahaa.eltS at h
    split at h
    · rename_i h0
      simp only [Option.map_eq_some_iff] at h
      obtain ⟨b, hb, rfl⟩ := h
      obtain ⟨dd, hu, hdd⟩ := T.ok.desc hi
      simp [execOp, ha.eval hx, ha.eval hy, Instr.index, asIntOf, run_underlying hu, TD.of_string (hdd.trans hdesc), h0, hb]
    · cases h) k

def boundOf (Γ : Env) (dflt : Int) : Option Operand → Option Int
  | none => some dflt
  | some x => match ev Γ x with | some (.int _ n) => some n | _ => none

theorem run_bounds {a : Act} {lo hi : Option Operand} {l h : Int} {len cap : Nat} (isS : Bool) (ha : At a Γ) (hl : boundOf Γ 0 lo = some l) (hh : boundOf Γ len hi = some h) (h0 : 0 ≤ l) (h1 : l ≤ h) (h2 : h ≤ len) (hc : len ≤ cap) (w : World) :
    (Instr.sliceBounds isS len cap (lo.map a.eval) (hi.map a.eval) none).run P w = .ok (l.toNat, h.toNat, cap) w := by
  cases hi with
  | none =>
    simp only [boundOf] at hh
    injection hh with hh; subst hh
    cases lo with
    | none =>
      simp only [boundOf] at hl
      injection hl with hl; subst hl
      simp [Instr.sliceBounds]
    | some x =>
      simp only [boundOf] at hl
      split at hl
      · rename_i kk n hx
        injection hl with hl; subst hl
        simp [Instr.sliceBounds, Instr.sliceBound, asIntOf, ha.eval hx, h0, h1]
      · cases hl
  | some y =>
    simp only [boundOf] at hh
    split at hh
    · rename_i kk m hy
      injection hh with hh; subst hh
      have hm0 : 0 ≤ m := by omega
      have hmc : m ≤ (cap : Int) := by omega
      cases lo with
      | none =>
        simp only [boundOf] at hl
        injection hl with hl; subst hl
        simp [Instr.sliceBounds, Instr.sliceBound, asIntOf, ha.eval hy, hm0, hmc]
      | some x =>
        simp only [boundOf] at hl
        split at hl
        · rename_i kk' n hx
          injection hl with hl; subst hl
          have : n ≤ max m 0 := by omega
          simp [Instr.sliceBounds, Instr.sliceBound, asIntOf, ha.eval hx, ha.eval hy, hm0, hmc, h0, this]
        · cases hl
    · cases hh

theorem St.subS [W : Walk P ops X] {t : Nat} {i : TI} {s z : ByteArray} {lo hi : Option Operand} {l h : Int} {ox : Operand} (hd : Nat.blt d nt = true) (hx : ev Γ ox = some (.string s)) (hl : boundOf Γ 0 lo = some l) (hh : boundOf Γ s.size hi = some h) (hi' : tget T.tt t = some i) (hdesc : i.desc = .string)
    (hz : subS s l h = some z) (k : St w0 nt ((d, .string z) :: Γ) F (X rest)) : St w0 nt Γ F (X (⟨some d, .slice t ox lo hi none, ty, pos, af, none⟩ :: rest)) :=
  St.val hd (fun a w ha _ => by
    unfold Go.Proofs.Ythdpagcklakahaa.subS at hz
    split at hz
    · rename_i hc
      injection hz with hz; subst hz
      obtain ⟨dd, hu, hdd⟩ := T.ok.desc hi'
      have hb := run_bounds (P := P) false ha hl hh hc.1 hc.2.1 hc.2.2 (Nat.le_refl s.size) w
      simp [execOp, Instr.sliceAt, Instr.slice, ha.eval hx, run_underlying hu, TD.of_string (hdd.trans hdesc), hb]
    · cases hz) k

theorem SlP.sub {α : Type} {E : Cod α} {A : Option Addr} {c : Nat} {xs ys : List α} {lo hi : Int} {m : Hp} (h : SlP E A c xs m) (hs : sub xs lo hi = some ys) :
    SlP E (if c = lo.toNat then A else A.map (·.add (lo.toNat * E.n))) (c - lo.toNat) ys m := by
  obtain ⟨h0, h1, h2, rfl⟩ := sub_some hs
  obtain ⟨g1, g2, g3, g4⟩ := h
  refine ⟨by simp only [List.length_drop, List.length_take]; omega, by omega, ?_, ?_⟩
  · intro hn
    have : A = none := by
      split at hn
      · exact hn
      · simpa using hn
    rw [g3 this]
    simp
  · intro ad had j x hx
    rw [List.getElem?_drop, List.getElem?_take] at hx
    split at hx
    · rename_i hj
      cases A with
      | none => split at had <;> cases had
      | some b =>
        obtain ⟨k1, cs, k2, k3⟩ := g4 b rfl _ x hx
        have hlt := (List.getElem?_eq_some_iff.1 hx).1
        rw [if_neg (by omega)] at had
        simp only [Option.map_some] at had
        injection had with had
        have e : b.add (lo.toNat * E.n) = ⟨b.block, b.off + lo.toNat * E.n, none⟩ := by unfold Addr.add; split <;> (cases b; simp_all)
        rw [e] at had
        subst had
        refine ⟨rfl, cs, k2, fun i u hu => ?_⟩
        rw [← k3 i u hu]
        congr 1
        simp only [Nat.add_mul]
        omega
    · cases hx

/-- A slice expression over a slice that stays. -/
theorem St.sub [W : Walk P ops X] {α : Type} {E : Cod α} {t e : Nat} {i j : TI} {A : Option Addr} {n c : Nat} {xs ys : List α} {lo hi : Option Operand} {l h : Int} {ox : Operand} (hd : Nat.blt d nt = true) (hx : ev Γ ox = some (.slice A n c)) (hm : As.ro (Sl E A c xs) ∈ F) (hlen : n = xs.length)
    (hl : boundOf Γ 0 lo = some l) (hh : boundOf Γ (n : Int) hi = some h) (hi' : tget T.tt t = some i) (hdesc : i.desc = .slice e) (hj : tget T.tt e = some j) (hn : j.size = E.n) (hz : sub xs l h = some ys)
    (k : ∀ A' c', St w0 nt ((d, .slice A' ys.length c') :: Γ) (.ro (Sl E A' c' ys) :: F) (X rest)) : St w0 nt Γ F (X (⟨some d, .slice t ox lo hi none, ty, pos, af, none⟩ :: rest)) :=
  fun a w hs hdf ha hf hw => by
    obtain ⟨h0, h1, h2, _⟩ := sub_some hz
    have hyl := sub_len hz
    have hsl : SlP E A c xs (frz (blocks F) w) := hf.ro hm
    have hcap := hsl.1
    subst hlen
    have hyl2 : ys.length = h.toNat - l.toNat := by omega
    refine St.val (F := F) hd (v := .slice (if c = l.toNat then A else A.map (·.add (l.toNat * E.n))) ys.length (c - l.toNat)) (fun a w' ha _ => ?_)
      (fun a w hs hdf ha hf hw => k _ _ a w hs hdf ha (hf.add_ro (Sl E _ _ ys) (SlP.sub (hf.ro hm) hz)) hw) a w hs hdf ha hf hw
    obtain ⟨dd, hu, hdd⟩ := T.ok.desc hi'
    have hb := run_bounds (P := P) true ha hl hh h0 h1 h2 hcap w'
    simp [execOp, Instr.sliceAt, Instr.slice, ha.eval hx, run_underlying hu, TD.of_slice (hdd.trans hdesc), hb, run_sizeOf_tt T.ok hj, hn, hyl2]

/-! ## Bytes and strings -/

theorem run_b2s {xs : List Int} {c : Nat} {A : Option Addr} {w : World} (hs : SrcP P 1 (.slice A xs.length c) xs.length (xs.map (eInt .u8)).flatten w) : (Conv.bytesToString (.slice A xs.length c)).run P w = .ok (.string (strOf xs)) w := by
  have hfl : (xs.map (eInt .u8)).flatten = xs.map (Value.int .u8) := by
    induction xs with
    | nil => rfl
    | cons x r ih =>
      have : (r.map (eInt .u8)).flatten = r.map (Value.int .u8) := by
        clear ih hs
        induction r with
        | nil => rfl
        | cons y r ih => simp [eInt, ih]
      simp [eInt, this]
  have h4 := hs.2.2.2 w rfl
  cases A with
  | none =>
    have : xs = [] := by
      have h := h4
      simp only [Builtin.firstCells, Sem.run_pure, Result.ok.injEq] at h
      have h5 := congrArg Array.toList h.1
      rw [hfl] at h5
      cases xs with
      | nil => rfl
      | cons x r => simp at h5
    subst this
    rfl
  | some ad =>
    simp only [Builtin.firstCells, Nat.mul_one] at h4
    rw [hfl] at h4
    rw [run_bytesToString w ad xs.length c xs h4, foldl_push_bytes]
    simp [strOf, ByteArray.empty, ByteArray.emptyWithCapacity]
    rfl

/-- string(b). -/
theorem St.b2s [W : Walk P ops X] {s t e : Nat} {i j l : TI} {A : Option Addr} {n c : Nat} {xs : List Int} {ox : Operand} (hd : Nat.blt d nt = true) (hx : ev Γ ox = some (.slice A n c)) (hlen : n = xs.length) (hi : tget T.tt s = some i) (hdesc : i.desc = .slice e) (hj : tget T.tt e = some j) (hjd : j.desc = .int .u8) (hl : tget T.tt t = some l) (hld : l.desc = .string)
    (hsrc : ∀ w, Sat F w → SrcP P 1 (.slice A xs.length c) xs.length (xs.map (eInt .u8)).flatten w) (k : St w0 nt ((d, .string (strOf xs)) :: Γ) F (X rest)) : St w0 nt Γ F (X (⟨some d, .convert s t ox, ty, pos, af, none⟩ :: rest)) :=
  St.val hd (fun a w ha hf => by
    obtain ⟨d1, hu1, hd1⟩ := T.ok.desc hi
    obtain ⟨d2, hu2, hd2⟩ := T.ok.desc hj
    obtain ⟨d3, hu3, hd3⟩ := T.ok.desc hl
    subst hlen
    have := run_convert_bytes_string (P := P) w s t e A xs.length c (TD.of_slice (hd1.trans hdesc) ▸ hu1) (TD.of_int (hd2.trans hjd) ▸ hu2) (TD.of_string (hd3.trans hld) ▸ hu3)
    simp only [execOp, ha.eval hx, Sem.run_bind, this, run_b2s (hsrc w hf), Result.andThen_ok, Sem.run_pure]) k

/-! ## What is known -/

/-- A plain fact that follows from what is known of memory. -/
theorem St.fact {X : Act → World → Prop} {φ : Prop} (h : ∀ w, Sat F w → φ) (k : φ → St w0 nt Γ F X) : St w0 nt Γ F X := fun a w hs hdf ha hf hw => k (h w hf) a w hs hdf ha hf hw

theorem St.ex {X : Act → World → Prop} {ε : Type} {Fs : ε → List As} (h : ∀ w, Sat F w → ∃ e, Sat (Fs e) w) (k : ∀ e, St w0 nt Γ (Fs e) X) : St w0 nt Γ F X := fun a w hs hdf ha hf hw => by
  obtain ⟨e, he⟩ := h w hf
  exact k e a w hs hdf ha he hw

/-- A piece of code by what it leaves, with names for what it leaves. -/
theorem St.cutE {ε : Type} {c : Code} {n : Act → World → Prop} (Γs : ε → Env) (Fs : ε → List As) (h1 : St w0 nt Γ F (c.wp P (Exit.then (fun a w => ∃ e, a.tmps.size = nt ∧ a.defers = [] ∧ At a (Γs e) ∧ Sat (Fs e) w ∧ Same w0 w) Q)))
    (h2 : ∀ e, St w0 nt (Γs e) (Fs e) n) : St w0 nt Γ F (c.wp P (Exit.then n Q)) :=
  fun a w hs hd ha hf hw => wp_mono (h1 a w hs hd ha hf hw) fun e a' w' hq => by
    cases e with
    | normal =>
      obtain ⟨e, q1, q2, q3, q4, q5⟩ := hq
      exact h2 e a' w' q1 q2 q3 q4 q5
    | _ => exact hq
theorem St.hereE {ε : Type} {Γs : ε → Env} {Fs : ε → List As} (e : ε) (hΓ : SubL (Γs e) Γ) (hF : ∀ w, Sat F w → Sat (Fs e) w) : St w0 nt Γ F (fun a w => ∃ e, a.tmps.size = nt ∧ a.defers = [] ∧ At a (Γs e) ∧ Sat (Fs e) w ∧ Same w0 w) :=
  fun _ w hs hd ha hf hw => ⟨e, hs, hd, ha.sub hΓ, hF w hf, hw⟩

/-- A slice of one's own that is let go reads as a slice that stays. -/
theorem Sat.own_sl {α : Type} {E : Cod α} {e n c : Nat} {A : Option Addr} {rows : List (List Value)} {xs : List α} {w : World} (h : Sat (.res (Own E.n e A n c rows) :: F) w) (hx : xs.length = n)
    (hr : ∀ m, (∀ r ∈ F, ∀ q, r = As.ro q → q.p m) → RelsP E xs rows m) : Sat (.ro (Sl E A c xs) :: F) w := by
  have hown : OwnP E.n e A n c rows (hp w) := (h.all _ (List.mem_cons_self ..)).2.1
  have hnd := List.nodup_append.1 h.nodup
  have h2 := h.tail
  refine h2.add_ro (Sl E A c xs) (hown.sl xs hx _ (fun k hk => ?_) (fun j x hj => ?_))
  · unfold frz hp
    rw [if_neg (fun hb => hnd.2.2 k hk k hb rfl)]
  · have hrel := hr (frz (blocks F) w) (fun r hr q hq => by subst hq; exact h2.all _ hr)
    have hjl := (List.getElem?_eq_some_iff.1 hj).1
    have hrl : j < rows.length := by rw [hrel.1]; exact hjl
    exact ⟨rows[j], List.getElem?_eq_getElem hrl, hrel.2 j x _ hj (List.getElem?_eq_getElem hrl)⟩

theorem relsP_flat {α : Type} {sz : Nat} {enc : α → List Value} {hlen : ∀ x, (enc x).length = sz} {hone : ∀ x, ∀ u ∈ enc x, u.oneCell' = true} (xs : List α) (m : Hp) : RelsP (Cod.flat sz enc hlen hone) xs (xs.map enc) m :=
  ⟨by simp, fun j x r h1 h2 => by
    show r = enc x
    simp [List.getElem?_map, h1] at h2
    exact h2.symm⟩

theorem Sat.own_slF {α : Type} {sz : Nat} {enc : α → List Value} {hlen : ∀ x, (enc x).length = sz} {hone : ∀ x, ∀ u ∈ enc x, u.oneCell' = true} {e c : Nat} {A : Option Addr} {xs : List α} {w : World} (h : Sat (.res (Own sz e A xs.length c (xs.map enc)) :: F) w) :
    Sat (.ro (Sl (Cod.flat sz enc hlen hone) A c xs) :: F) w :=
  Sat.own_sl (E := Cod.flat sz enc hlen hone) h rfl fun m _ => relsP_flat xs m

end
end Go.Proofs.Ythdpagcklakahaa
