/-
  The core, second part: what the operations that only compute yield, reckoned by a function.
  Conditions: none.
-/
import Derived.Test.YthdpagcklakahaaCore1
import Derived.Laws.StructEq
namespace Go.Proofs.Ythdpagcklakahaa
open Go

/-- What the rules ask of a type. -/
inductive TD where
  | bool | int (k : IntKind) | string | pointer (e : Nat) | slice (e : Nat) | array (n : Nat) (e : Nat) | map (k e : Nat)
  | struct (fs : List (Nat × Nat × Bool))
  | other

def fieldOf (f : Field) : Nat × Nat × Bool := (f.type, f.offset, f.name == "_")

def TD.of : TypeDesc → TD
  | .bool => .bool
  | .int k => .int k
  | .string => .string
  | .pointer e => .pointer e
  | .slice e => .slice e
  | .array n e => .array n e
  | .map k e => .map k e
  | .struct fs => .struct (fs.toList.map fieldOf)
  | _ => .other

theorem TD.of_bool {d : TypeDesc} (h : TD.of d = .bool) : d = .bool := by cases d <;> simp [TD.of] at h ⊢
theorem TD.of_int {d : TypeDesc} {k : IntKind} (h : TD.of d = .int k) : d = .int k := by cases d <;> simp [TD.of] at h ⊢; exact h
theorem TD.of_string {d : TypeDesc} (h : TD.of d = .string) : d = .string := by cases d <;> simp [TD.of] at h ⊢
theorem TD.of_slice {d : TypeDesc} {e : Nat} (h : TD.of d = .slice e) : d = .slice e := by cases d <;> simp [TD.of] at h ⊢; exact h
theorem TD.of_pointer {d : TypeDesc} {e : Nat} (h : TD.of d = .pointer e) : d = .pointer e := by cases d <;> simp [TD.of] at h ⊢; exact h
theorem TD.of_array {d : TypeDesc} {n e : Nat} (h : TD.of d = .array n e) : d = .array n e := by cases d <;> simp [TD.of] at h ⊢; exact h
theorem TD.of_map {d : TypeDesc} {k e : Nat} (h : TD.of d = .map k e) : d = .map k e := by cases d <;> simp [TD.of] at h ⊢; exact h
theorem TD.of_struct {d : TypeDesc} {l : List (Nat × Nat × Bool)} (h : TD.of d = .struct l) : ∃ fs : Array Field, d = .struct fs ∧ fs.toList.map fieldOf = l := by cases d <;> simp [TD.of] at h ⊢; exact h

/-- A row of the table of types. -/
structure TI where
  desc : TD
  size : Nat
  bytes : Nat
  zero : Value
  cmp : Bool

abbrev TT := List (Nat × TI)

def tget : TT → Nat → Option TI
  | [], _ => none
  | (k, v) :: r, i => bif Nat.beq k i then some v else tget r i

def TI.ok (P : Program) (t : Nat) (i : TI) : Prop :=
  (P.underlying t).map TD.of = some i.desc ∧ (P.info? t).map (fun j => (j.size, j.bytes, j.zero)) = some (i.size, i.bytes, some i.zero) ∧
    (i.cmp = true → P.stoodInHeld t = false ∧ P.eqGuardType P.depth t = false)

def TTok (P : Program) : TT → Prop
  | [] => True
  | (t, i) :: r => TI.ok P t i ∧ TTok P r

theorem TTok.get {P : Program} : ∀ {tt : TT}, TTok P tt → ∀ {t : Nat} {i : TI}, tget tt t = some i → TI.ok P t i
  | [], _, _, _, h => by simp [tget] at h
  | (k, j) :: r, hk, t, i, h => by
    simp only [tget] at h
    cases hb : Nat.beq k t
    · simp only [hb, cond_false] at h; exact TTok.get hk.2 h
    · simp only [hb, cond_true] at h
      injection h with h
      have := Nat.eq_of_beq_eq_true hb
      subst this; subst h
      exact hk.1

class HasTT (P : Program) where
  tt : TT
  ok : TTok P tt

def nth {α : Type} : List α → Nat → Option α
  | [], _ => none
  | x :: _, 0 => some x
  | _ :: r, n + 1 => nth r n

theorem nth_eq {α : Type} : ∀ (l : List α) (n : Nat), nth l n = l[n]?
  | [], _ => by simp [nth]
  | _ :: _, 0 => by simp [nth]
  | _ :: r, n + 1 => by simp [nth, nth_eq r n]

/-! ## Numbers -/

def iAnd (k : IntKind) (x y : Int) : Int := k.wrap (BitVec.ofInt k.bits x &&& BitVec.ofInt k.bits y).toNat
def iOr (k : IntKind) (x y : Int) : Int := k.wrap (BitVec.ofInt k.bits x ||| BitVec.ofInt k.bits y).toNat
def iXor (k : IntKind) (x y : Int) : Int := k.wrap (BitVec.ofInt k.bits x ^^^ BitVec.ofInt k.bits y).toNat
def iAndNot (k : IntKind) (x y : Int) : Int := k.wrap (BitVec.ofInt k.bits x &&& ~~~BitVec.ofInt k.bits y).toNat
def iShl (k : IntKind) (x y : Int) : Int := k.wrap (x * 2 ^ (min y.toNat k.bits))
def iShr (k : IntKind) (x y : Int) : Int := x.fdiv (2 ^ (min y.toNat k.bits))

def pint (op : BinOp) (k : IntKind) (x y : Int) : Option Value :=
  match op with
  | .add => some (.int k (k.wrap (x + y)))
  | .sub => some (.int k (k.wrap (x - y)))
  | .mul => some (.int k (k.wrap (x * y)))
  | .quo => match decide (y = 0) with | true => none | false => some (.int k (k.wrap (x.tdiv y)))
  | .rem => match decide (y = 0) with | true => none | false => some (.int k (x.tmod y))
  | .and => some (.int k (iAnd k x y))
  | .or => some (.int k (iOr k x y))
  | .xor => some (.int k (iXor k x y))
  | .andNot => some (.int k (iAndNot k x y))
  | .eql => some (.bool (x == y))
  | .neq => some (.bool (x != y))
  | .lss => some (.bool (decide (x < y)))
  | .leq => some (.bool (decide (x ≤ y)))
  | .gtr => some (.bool (decide (x > y)))
  | .geq => some (.bool (decide (x ≥ y)))
  | _ => none

def pshift (op : BinOp) (k : IntKind) (x y : Int) : Option Value :=
  match decide (y < 0) with
  | true => none
  | false => match op with
    | .shl => some (.int k (iShl k x y))
    | .shr => some (.int k (iShr k x y))
    | _ => none

def pstr (op : BinOp) (x y : ByteArray) : Option Value :=
  match op with
  | .eql => some (.bool (x.toList == y.toList))
  | .neq => some (.bool (!(x.toList == y.toList)))
  | .lss => some (.bool (Op.bytesLess x.toList y.toList))
  | .leq => some (.bool (Op.bytesLess x.toList y.toList || x.toList == y.toList))
  | .gtr => some (.bool (!(Op.bytesLess x.toList y.toList || x.toList == y.toList)))
  | .geq => some (.bool (!(Op.bytesLess x.toList y.toList)))
  | _ => none

def isAggD : TD → Bool
  | .struct _ | .array _ _ => true
  | _ => false

/-- The first n of a list, handed on written out. -/
def takeK {β : Type} : List Value → Nat → (List Value → Option β) → Option β
  | _, 0, k => k []
  | [], _ + 1, _ => none
  | v :: r, n + 1, k => takeK r n fun vs => k (v :: vs)

theorem takeK_eq {β : Type} : ∀ (l : List Value) (n : Nat) (k : List Value → Option β) (b : β), takeK l n k = some b → n ≤ l.length ∧ k (l.take n) = some b
  | _, 0, k, b, h => by simpa [takeK] using h
  | [], _ + 1, _, _, h => by simp [takeK] at h
  | v :: r, n + 1, k, b, h => by
    have := takeK_eq r n _ b h
    exact ⟨by simp; omega, by simpa using this.2⟩

/-- A part of a struct's or an array's cells. -/
def ppart (tt : TT) (t : Nat) (cs : List Value) (off : Nat) : Option Value :=
  match tget tt t with
  | some i => match isAggD i.desc with
    | true => takeK (cs.drop off) i.size fun vs => some (.agg vs.toArray)
    | false => nth cs off
  | none => none

mutual
/-- Are two values equal. -/
def veq (tt : TT) : Nat → Nat → Value → Value → Option Bool
  | 0, _, _, _ => none
  | n + 1, t, x, y => match tget tt t with
    | none => none
    | some i => match i.desc, x, y with
      | .bool, .bool a, .bool b => some (a == b)
      | .int _, .int k a, .int k' b => match decide (k = k') with | true => some (a == b) | false => none
      | .string, .string a, .string b => some (a.toList == b.toList)
      | .struct fs, .agg xs, .agg ys => match i.cmp with | true => veqFs tt n fs xs.toList ys.toList | false => none
      | .array m e, .agg xs, .agg ys => match tget tt e with
        | some j => veqEs tt n e j.size m 0 xs.toList ys.toList
        | none => none
      | _, _, _ => none
def veqFs (tt : TT) : Nat → List (Nat × Nat × Bool) → List Value → List Value → Option Bool
  | _, [], _, _ => some true
  | 0, _ :: _, _, _ => none
  | n + 1, f :: fs, xs, ys => match f.2.2 with
    | true => none
    | false => match ppart tt f.1 xs f.2.1, ppart tt f.1 ys f.2.1 with
      | some a, some b => match veq tt n f.1 a b, veqFs tt n fs xs ys with
        | some p, some q => some (p && q)
        | _, _ => none
      | _, _ => none
def veqEs (tt : TT) : Nat → Nat → Nat → Nat → Nat → List Value → List Value → Option Bool
  | _, _, _, 0, _, _, _ => some true
  | 0, _, _, _ + 1, _, _, _ => none
  | n + 1, e, sz, m + 1, i, xs, ys => match ppart tt e xs (i * sz), ppart tt e ys (i * sz) with
    | some a, some b => match veq tt n e a b, veqEs tt n e sz m (i + 1) xs ys with
      | some p, some q => some (p && q)
      | _, _ => none
    | _, _ => none
end

/-- Is something nil. -/
def nilEq {β : Type} (A B : Option β) : Option Bool := match A, B with
  | none, b => some b.isNone
  | some _, none => some false
  | _, _ => none
def pnil (op : BinOp) (r : Option Bool) : Option Value := match op, r with
  | .eql, some b => some (.bool b)
  | .neq, some b => some (.bool (!b))
  | _, _ => none

def pbin (tt : TT) (op : BinOp) (t : Nat) (a b : Value) : Option Value :=
  match a, b with
  | .int k x, .int k' y => match op with
    | .shl => pshift .shl k x y
    | .shr => pshift .shr k x y
    | op => match decide (k = k') with | true => pint op k x y | false => none
  | .string s, .string u => pstr op s u
  | .bool p, .bool q => match tget tt t with
    | some i => match i.desc, op with
      | .bool, .eql => some (.bool (p == q))
      | .bool, .neq => some (.bool (!(p == q)))
      | _, _ => none
    | none => none
  | .agg xs, .agg ys => match tget tt t with
    | some i => match i.cmp, op with
      | true, .eql => match veq tt 60 t (.agg xs) (.agg ys) with | some r => some (.bool r) | none => none
      | true, .neq => match veq tt 60 t (.agg xs) (.agg ys) with | some r => some (.bool (!r)) | none => none
      | _, _ => none
    | none => none
  | .slice A _ _, .slice B _ _ => match tget tt t with
    | some i => match i.desc with | .slice _ => pnil op (nilEq A B) | _ => none
    | none => none
  | .pointer A, .pointer B => match tget tt t with
    | some i => match i.desc with | .pointer _ => pnil op (nilEq A B) | _ => none
    | none => none
  | .map A, .map B => match tget tt t with
    | some i => match i.desc with | .map _ _ => pnil op (nilEq A B) | _ => none
    | none => none
  | _, _ => none

def pun (op : UnOp) (v : Value) : Option Value :=
  match op, v with
  | .not, .bool b => some (.bool (!b))
  | .neg, .int k n => some (.int k (k.wrap (0 - n)))
  | .xor, .int k n => some (.int k (iXor k (if k.signed then -1 else k.max) n))
  | _, _ => none

def pconv (tt : TT) (s d : Nat) (v : Value) : Option Value :=
  match tget tt s, tget tt d with
  | some _, some j => match j.desc, v with
    | .int k, .int _ n => some (.int k (k.wrap n))
    | .string, .string b => some (.string b)
    | _, _ => none
  | _, _ => none

/-- An address further on. -/
def addO (a : Addr) (n : Nat) : Addr := match n with | 0 => a | n + 1 => ⟨a.block, a.off + (n + 1), none⟩
theorem addO_eq (a : Addr) (n : Nat) : addO a n = a.add n := by cases n <;> rfl

def pfieldAddr (tt : TT) (s : Nat) (v : Value) (f : Nat) : Option Value :=
  match tget tt s, v with
  | some i, .pointer (some a) => match i.desc with
    | .struct fs => match nth fs f with
      | some fd => match tget tt fd.1 with
        | some j => match j.size with
          | 0 => none
          | _ + 1 => some (.pointer (some (addO a fd.2.1)))
        | none => none
      | none => none
    | _ => none
  | _, _ => none

def pfield (tt : TT) (s : Nat) (v : Value) (f : Nat) : Option Value :=
  match tget tt s, v with
  | some i, .agg cs => match i.desc with
    | .struct fs => match nth fs f with
      | some fd => ppart tt fd.1 cs.toList fd.2.1
      | none => none
    | _ => none
  | _, _ => none

/-- An array's element at an index that is written out. -/
def pindex (tt : TT) (s : Nat) (v ix : Value) : Option Value :=
  match tget tt s, v, ix with
  | some i, .agg cs, .int _ n => match i.desc with
    | .array len e => match tget tt e, decide (0 ≤ n), decide (n < (len : Int)) with
      | some j, true, true => ppart tt e cs.toList (n.toNat * j.size)
      | _, _, _ => none
    | _ => none
  | _, _, _ => none

/-- The address of an array's element at an index that is written out. -/
def pindexAddr (tt : TT) (s : Nat) (v ix : Value) : Option Value :=
  match tget tt s, v, ix with
  | some i, .pointer (some a), .int _ n => match i.desc with
    | .array len e => match tget tt e, decide (0 ≤ n), decide (n < (len : Int)) with
      | some j, true, true => some (.pointer (some (addO a (n.toNat * j.size))))
      | _, _, _ => none
    | _ => none
  | _, _, _ => none

def plen (tt : TT) (ts : List Nat) (v : Value) : Option Value :=
  match ts with
  | [t] => match tget tt t with
    | some i => match i.desc, v with
      | .string, .string s => some (.int .i64 s.size)
      | .slice _, .slice _ n _ => some (.int .i64 n)
      | .array n _, _ => some (.int .i64 n)
      | _, _ => none
    | none => none
  | _ => none

def pmin (a b : Value) : Option Value :=
  match a, b with
  | .int k x, .int k' y => match decide (k = k') with | true => some (.int k (min x y)) | false => none
  | _, _ => none
def pmax (a b : Value) : Option Value :=
  match a, b with
  | .int k x, .int k' y => match decide (k = k') with | true => some (.int k (max x y)) | false => none
  | _, _ => none

def pcall (tt : TT) (Γ : Env) (c : Call) : Option Value :=
  match c.callee, c.args.toList with
  | .builtin .len, [x] => match ev Γ x with | some v => plen tt c.argTypes.toList v | none => none
  | .builtin .min, [x, y] => match ev Γ x, ev Γ y with | some v, some u => pmin v u | _, _ => none
  | .builtin .max, [x, y] => match ev Γ x, ev Γ y with | some v, some u => pmax v u | _, _ => none
  | _, _ => none

def zc : Value → List Value
  | .agg cs => cs.toList
  | v => [v]

theorem zc_eq (v : Value) : (zc v).toArray = v.cells := by cases v <;> simp [zc, Value.cells]

def spliceK : List Value → Nat → List Value → (List Value → Option (List Value)) → Option (List Value)
  | cs, 0, [], k => k cs
  | [], 0, _ :: _, _ => none
  | _ :: r, 0, v :: vs, k => spliceK r 0 vs fun l => k (v :: l)
  | [], _ + 1, _, _ => none
  | c :: r, n + 1, vs, k => spliceK r n vs fun l => k (c :: l)

theorem spliceK_eq : ∀ (cs : List Value) (n : Nat) (vs : List Value) (k : List Value → Option (List Value)) (r : List Value), spliceK cs n vs k = some r →
    n + vs.length ≤ cs.length ∧ k (cs.take n ++ vs ++ cs.drop (n + vs.length)) = some r
  | cs, 0, [], k, r, h => by simpa [spliceK] using h
  | [], 0, _ :: _, _, _, h => by simp [spliceK] at h
  | c :: cs, 0, v :: vs, k, r, h => by
    simp only [spliceK] at h
    have := spliceK_eq cs 0 vs _ r h
    exact ⟨by have := this.1; simp at *; omega, by simpa using this.2⟩
  | [], _ + 1, _, _, _, h => by simp [spliceK] at h
  | c :: cs, n + 1, vs, k, r, h => by
    simp only [spliceK] at h
    have := spliceK_eq cs n vs _ r h
    refine ⟨by have := this.1; simp at *; omega, ?_⟩
    have e : n + 1 + vs.length = (n + vs.length) + 1 := by omega
    rw [e]
    simpa using this.2

/-- Parts laid into cells. -/
def pfill (Γ : Env) (pl : Nat → Option (Nat × Nat)) : List Value → List (Nat × Operand) → Option (List Value)
  | cs, [] => some cs
  | cs, (i, x) :: r => match pl i, ev Γ x with
    | some (off, sz), some v => match Nat.beq (zc v).length sz with
      | true => match spliceK cs off (zc v) some with
        | some cs' => pfill Γ pl cs' r
        | none => none
      | false => none
    | _, _ => none

def allTypes (tt : TT) : List (Nat × Nat × Bool) → Bool
  | [] => true
  | f :: r => match tget tt f.1 with | some _ => allTypes tt r | none => false

def plStruct (tt : TT) (fs : List (Nat × Nat × Bool)) (i : Nat) : Option (Nat × Nat) :=
  match nth fs i with
  | some f => match tget tt f.1 with
    | some j => some (f.2.1, j.size)
    | none => none
  | none => none

def pbuild (tt : TT) (Γ : Env) (t : Nat) (ps : List (Nat × Operand)) : Option Value :=
  match tget tt t with
  | some i => match i.desc with
    | .struct fs => match allTypes tt fs with
      | true => match pfill Γ (plStruct tt fs) (zc i.zero) ps with
        | some cs => some (.agg cs.toArray)
        | none => none
      | false => none
    | .array _ e => match tget tt e with
      | some j => match pfill Γ (fun i => some (i * j.size, j.size)) (zc i.zero) ps with
        | some cs => some (.agg cs.toArray)
        | none => none
      | none => none
    | _ => none
  | none => none

def pev (tt : TT) (Γ : Env) : Op → Option Value
  | .build t ps => pbuild tt Γ t ps.toList
  | .move x => ev Γ x
  | .assign x => ev Γ x
  | .pick c a b => match ev Γ c with
    | some (.bool true) => ev Γ a
    | some (.bool false) => ev Γ b
    | _ => none
  | .binOp op t x y _ => match ev Γ x, ev Γ y with
    | some a, some b => pbin tt op t a b
    | _, _ => none
  | .unOp op _ x => match ev Γ x with | some v => pun op v | none => none
  | .extract t i => match ev Γ t with | some (.tuple vs) => nth vs.toList i | _ => none
  | .convert s d x => match ev Γ x with | some v => pconv tt s d v | none => none
  | .fieldAddr s x f => match ev Γ x with | some v => pfieldAddr tt s v f | none => none
  | .field s x f => match ev Γ x with | some v => pfield tt s v f | none => none
  | .index s x ix => match ev Γ x, ev Γ ix with | some v, some n => pindex tt s v n | _, _ => none
  | .indexAddr s x ix => match ev Γ x, ev Γ ix with | some v, some n => pindexAddr tt s v n | _, _ => none
  | .nilCheck x => match ev Γ x with | some (.pointer (some a)) => some (.pointer (some a)) | _ => none
  | .makeFunc fn first captured => match evs Γ first.toList, evs Γ captured.toList with
    | some vs, some us => some (.func fn vs.toArray us.toArray)
    | _, _ => none
  | .call c => pcall tt Γ c
  | _ => none

section
variable {P : Program} {tt : TT}

theorem run_sizeOf_tt (hk : TTok P tt) {t : Nat} {i : TI} (h : tget tt t = some i) (w : World) : (sizeOf t).run P w = .ok i.size w := by
  have := (hk.get h).2.1
  cases hi : P.info? t with
  | none => simp [hi] at this
  | some j => simp [hi] at this; simp [sizeOf, typeInfo, hi, this.1]

theorem run_zeroValue_tt (hk : TTok P tt) {t : Nat} {i : TI} (h : tget tt t = some i) (w : World) : (zeroValue t).run P w = .ok i.zero w := by
  have := (hk.get h).2.1
  cases hi : P.info? t with
  | none => simp [hi] at this
  | some j => simp [hi] at this; simp [zeroValue, typeInfo, hi, this.2.2]

theorem TTok.desc (hk : TTok P tt) {t : Nat} {i : TI} (h : tget tt t = some i) : ∃ d, P.underlying t = some d ∧ TD.of d = i.desc := by
  have := (hk.get h).1
  cases hu : P.underlying t with
  | none => simp [hu] at this
  | some d => rw [hu] at this; exact ⟨d, rfl, by simpa using this⟩

theorem run_isAgg_tt (hk : TTok P tt) {t : Nat} {i : TI} (h : tget tt t = some i) (w : World) : (isAgg t).run P w = .ok (isAggD i.desc) w := by
  obtain ⟨d, hu, hd⟩ := hk.desc h
  unfold isAgg
  rw [Sem.run_bind, run_underlying hu, ← hd]
  cases d <;> rfl

theorem part_run (hk : TTok P tt) {t : Nat} {cs : Array Value} {off : Nat} {v : Value} (h : ppart tt t cs.toList off = some v) (w : World) : (part t cs off).run P w = .ok v w := by
  unfold ppart at h
  split at h
  · rename_i i hi
    unfold part
    rw [Sem.run_bind, run_isAgg_tt hk hi]
    split at h
    · rename_i ha
      have h := (takeK_eq _ _ _ _ h).2
      injection h with h
      subst h
      simp only [Result.andThen_ok, ha, if_true, Sem.run_bind, run_sizeOf_tt hk hi, Sem.run_pure]
      congr 2
      apply Array.ext'
      simp [Array.toList_extract, List.extract, Nat.add_sub_cancel_left]
    · rename_i ha
      rw [nth_eq] at h
      simp only [Result.andThen_ok, ha, Bool.false_eq_true, if_false]
      have : cs[off]? = some v := by simpa using h
      simp [this]
  · cases h

theorem pint_run {op : BinOp} {k : IntKind} {x y : Int} {v : Value} (h : pint op k x y = some v) (hs : op ≠ .shl ∧ op ≠ .shr) (t : TypeId) (w : World) : (binOp op t (.int k x) (.int k y)).run P w = .ok v w := by
  cases op <;> simp only [pint] at h <;> simp only [binOp, ne_eq, not_true_eq_false, if_false]
  case quo =>
    split at h
    · cases h
    · rename_i hy; injection h with h; subst h; simp at hy; simp [Op.intDiv, hy]
  case rem =>
    split at h
    · cases h
    · rename_i hy; injection h with h; subst h; simp at hy; simp [Op.intDiv, hy]
  case shl => cases h
  case shr => cases h
  all_goals (injection h with h; subst h; rfl)

theorem pshift_run {op : BinOp} {k k' : IntKind} {x y : Int} {v : Value} (h : pshift op k x y = some v) (t : TypeId) (w : World) : (binOp op t (.int k x) (.int k' y)).run P w = .ok v w := by
  unfold pshift at h
  split at h
  · cases h
  · rename_i hy
    cases op <;> simp only [reduceCtorEq] at h <;> injection h with h <;> subst h <;> simp at hy <;> simp [binOp, Op.shift, Int.not_lt.2 hy, iShl, iShr]

theorem pstr_run {op : BinOp} {x y : ByteArray} {v : Value} (h : pstr op x y = some v) (t : TypeId) (w : World) : (binOp op t (.string x) (.string y)).run P w = .ok v w := by
  cases op <;> simp only [pstr, reduceCtorEq] at h <;> injection h with h <;> subst h <;> rfl

def eqEls (d e n : Nat) (xs ys : Array Value) : List Nat → Sem Bool
  | [] => pure true
  | i :: r => do
    let a ← part e xs (i * n)
    let b ← part e ys (i * n)
    let q ← Op.equalIn d e a b
    if (!q) = true then pure false else eqEls d e n xs ys r

theorem run_equalIn_array (hk : TTok P tt) (d t m e : Nat) {j : TI} (hj : tget tt e = some j) (xs ys : Array Value) (ht : P.underlying t = some (.array m e)) (w : World) :
    (Op.equalIn (d + 1) t (.agg xs) (.agg ys)).run P w = (eqEls d e j.size xs ys (List.range' 0 m)).run P w := by
  simp only [Op.equalIn, Sem.run_bind, run_underlying ht, Result.andThen_ok, run_sizeOf_tt hk hj]
  rw [Std.Legacy.Range.forIn_eq_forIn_range']
  simp only [Std.Legacy.Range.size, Nat.sub_zero, Nat.add_sub_cancel, Nat.div_one]
  generalize List.range' 0 m = l
  clear ht
  induction l generalizing w with
  | nil => simp [eqEls]
  | cons i l ih =>
    simp only [List.forIn_cons, eqEls, Sem.run_bind]
    generalize (part e xs (i * j.size)).run P w = r1
    cases r1 with
    | ok a w1 =>
      simp only [Result.andThen_ok]
      generalize (part e ys (i * j.size)).run P w1 = r2
      cases r2 with
      | ok b w2 =>
        simp only [Result.andThen_ok]
        generalize (Op.equalIn d e a b).run P w2 = r3
        cases r3 with
        | ok r w3 =>
          cases r
          · simp only [Result.andThen_ok, Bool.not_false, if_true, Sem.run_pure]
          · simp only [Result.andThen_ok, Bool.not_true, Bool.false_eq_true, if_false, Sem.run_pure]
            exact ih w3
        | halt x w3 => simp [Result.andThen]
      | halt x w2 => simp [Result.andThen]
    | halt x w1 => simp [Result.andThen]

mutual
theorem veq_run (hk : TTok P tt) : ∀ (n : Nat) (t : Nat) (x y : Value) (r : Bool), veq tt n t x y = some r → ∀ (d : Nat) (w : World), n ≤ d → (Op.equalIn d t x y).run P w = .ok r w
  | 0, _, _, _, _, h, _, _, _ => by simp [veq] at h
  | n + 1, t, x, y, r, h, d, w, hd => by
    obtain ⟨d, rfl⟩ : ∃ e, d = e + 1 := ⟨d - 1, by omega⟩
    unfold veq at h
    split at h
    · cases h
    · rename_i i hi
      obtain ⟨dd, hu, hdd⟩ := hk.desc hi
      split at h
      · rename_i hdesc
        injection h with h; subst h
        simp [Op.equalIn, run_underlying hu, TD.of_bool (hdd.trans hdesc)]
      · rename_i hdesc
        split at h
        · rename_i hkk
          injection h with h; subst h
          simp at hkk
          simp [Op.equalIn, run_underlying hu, TD.of_int (hdd.trans hdesc), hkk]
        · cases h
      · rename_i hdesc
        injection h with h; subst h
        rw [TD.of_string (hdd.trans hdesc)] at hu
        exact run_equalIn_string w d t _ _ hu
      · rename_i fs0 xs ys hdesc
        split at h
        · rename_i hc
          obtain ⟨fs, rfl, rfl⟩ := TD.of_struct (hdd.trans hdesc)
          have hf : P.fieldsOf t = fs := by unfold Program.fieldsOf; rw [hu]
          have hu' : P.underlying t = some (.struct (P.fieldsOf t)) := by rw [hf, hu]
          rw [run_equalIn_struct w d t xs ys hu' ((hk.get hi).2.2 hc).1, hf]
          exact veqFs_run hk n fs.toList xs ys r h d w (by omega)
        · cases h
      · rename_i m e xs ys hdesc
        split at h
        · rename_i j hj
          rw [run_equalIn_array hk d t m e hj xs ys (TD.of_array (hdd.trans hdesc) ▸ hu)]
          exact veqEs_run hk n e j.size m 0 xs ys r h d w (by omega)
        · cases h
      · cases h
theorem veqFs_run (hk : TTok P tt) : ∀ (n : Nat) (fs : List Field) (xs ys : Array Value) (r : Bool), veqFs tt n (fs.map fieldOf) xs.toList ys.toList = some r → ∀ (d : Nat) (w : World), n ≤ d → (Op.eqFields d xs ys fs).run P w = .ok r w
  | _, [], _, _, _, h, _, _, _ => by
    simp only [List.map_nil, veqFs] at h
    injection h with h; subst h
    simp [Op.eqFields]
  | 0, _ :: _, _, _, _, h, _, _, _ => by simp [veqFs] at h
  | n + 1, f :: fs, xs, ys, r, h, d, w, hd => by
    rw [List.map_cons] at h
    unfold veqFs at h
    split at h
    · cases h
    · rename_i hn
      have hn' : f.name ≠ "_" := by simpa [fieldOf] using hn
      simp only [fieldOf] at h
      split at h
      · rename_i a b h1 h2
        split at h
        · rename_i p q h3 h4
          injection h with h; subst h
          simp only [Op.eqFields, if_pos hn', Sem.run_bind, part_run hk h1, part_run hk h2, Result.andThen_ok, veq_run hk n f.type a b p h3 d w (by omega)]
          cases p
          · simp
          · simpa using veqFs_run hk n fs xs ys q h4 d w (by omega)
        · cases h
      · cases h
theorem veqEs_run (hk : TTok P tt) : ∀ (n e sz m i : Nat) (xs ys : Array Value) (r : Bool), veqEs tt n e sz m i xs.toList ys.toList = some r → ∀ (d : Nat) (w : World), n ≤ d →
    (eqEls d e sz xs ys (List.range' i m)).run P w = .ok r w
  | _, _, _, 0, _, _, _, _, h, _, _, _ => by
    simp only [veqEs] at h
    injection h with h; subst h
    simp [eqEls]
  | 0, _, _, _ + 1, _, _, _, _, h, _, _, _ => by simp [veqEs] at h
  | n + 1, e, sz, m + 1, i, xs, ys, r, h, d, w, hd => by
    unfold veqEs at h
    split at h
    · rename_i a b h1 h2
      split at h
      · rename_i p q h3 h4
        injection h with h; subst h
        simp only [List.range'_succ, eqEls, Sem.run_bind, part_run hk h1, part_run hk h2, Result.andThen_ok, veq_run hk n e a b p h3 d w (by omega)]
        cases p
        · simp
        · simpa using veqEs_run hk n e sz m (i + 1) xs ys q h4 d w (by omega)
      · cases h
    · cases h
end

theorem run_bool_eql (t : Nat) (p q : Bool) (h : P.underlying t = some .bool) (w : World) : (binOp .eql t (.bool p) (.bool q)).run P w = .ok (.bool (p == q)) w := by
  have he : (Op.equalIn (9999 + 1) t (.bool p) (.bool q)).run P w = .ok (p == q) w := run_equalIn_bool w 9999 t p q h
  have hb : binOp .eql t (.bool p) (.bool q) = (do pure (.bool (← Op.equal t (.bool p) (.bool q)))) := by simp only [binOp]
  rw [hb, Sem.run_bind]
  show ((Op.equalIn (9999 + 1) t (.bool p) (.bool q)).run P w).andThen _ = _
  rw [he]
  rfl
theorem run_bool_neq (t : Nat) (p q : Bool) (h : P.underlying t = some .bool) (w : World) : (binOp .neq t (.bool p) (.bool q)).run P w = .ok (.bool (!(p == q))) w := by
  have he : (Op.equalIn (9999 + 1) t (.bool p) (.bool q)).run P w = .ok (p == q) w := run_equalIn_bool w 9999 t p q h
  have hb : binOp .neq t (.bool p) (.bool q) = (do pure (.bool (!(← Op.equal t (.bool p) (.bool q))))) := by simp only [binOp]
  rw [hb, Sem.run_bind]
  show ((Op.equalIn (9999 + 1) t (.bool p) (.bool q)).run P w).andThen _ = _
  rw [he]
  rfl

theorem run_nil {t : Nat} {a b : Value} {r : Bool} (he : ∀ w, (Op.equalIn (9999 + 1) t a b).run P w = .ok r w) {op : BinOp} {v : Value} (hv : pnil op (some r) = some v) (hb1 : ∀ w, (binOp .eql t a b).run P w = (do pure (.bool (← Op.equal t a b)) : Sem Value).run P w)
    (hb2 : ∀ w, (binOp .neq t a b).run P w = (do pure (.bool (!(← Op.equal t a b))) : Sem Value).run P w) (w : World) : (binOp op t a b).run P w = .ok v w := by
  unfold pnil at hv
  split at hv
  · rename_i b hb
    injection hb with hb; injection hv with hv; subst hb; subst hv
    rw [hb1, Sem.run_bind]
    show ((Op.equalIn (9999 + 1) t _ _).run P w).andThen _ = _
    rw [he]
    rfl
  · rename_i b hb
    injection hb with hb; injection hv with hv; subst hb; subst hv
    rw [hb2, Sem.run_bind]
    show ((Op.equalIn (9999 + 1) t _ _).run P w).andThen _ = _
    rw [he]
    rfl
  · cases hv

theorem run_nilS {t e d n c n' c' : Nat} {A B : Option Addr} {r : Bool} (hu : P.underlying t = some (.slice e)) (hr : nilEq A B = some r) (w : World) : (Op.equalIn (d + 1) t (.slice A n c) (.slice B n' c')).run P w = .ok r w := by
  unfold Op.equalIn
  rw [Sem.run_bind, run_underlying hu, Result.andThen_ok]
  cases A <;> cases B <;> simp [nilEq] at hr <;> subst hr <;> rfl
theorem run_nilP {t e d : Nat} {A B : Option Addr} {r : Bool} (hu : P.underlying t = some (.pointer e)) (hr : nilEq A B = some r) (w : World) : (Op.equalIn (d + 1) t (.pointer A) (.pointer B)).run P w = .ok r w := by
  unfold Op.equalIn
  rw [Sem.run_bind, run_underlying hu, Result.andThen_ok]
  cases A <;> cases B <;> simp [nilEq] at hr <;> subst hr <;> rfl
theorem run_nilM {t k e d : Nat} {A B : Option Nat} {r : Bool} (hu : P.underlying t = some (.map k e)) (hr : nilEq A B = some r) (w : World) : (Op.equalIn (d + 1) t (.map A) (.map B)).run P w = .ok r w := by
  unfold Op.equalIn
  rw [Sem.run_bind, run_underlying hu, Result.andThen_ok]
  cases A <;> cases B <;> simp [nilEq] at hr <;> subst hr <;> rfl

theorem pnil_some {op : BinOp} {o : Option Bool} {v : Value} (h : pnil op o = some v) : ∃ r, o = some r := by
  unfold pnil at h
  split at h
  · exact ⟨_, rfl⟩
  · exact ⟨_, rfl⟩
  · cases h

theorem pbin_run (hk : TTok P tt) {op : BinOp} {t : Nat} {a b v : Value} (h : pbin tt op t a b = some v) (x y : Operand) (w : World) :
    (do eqGuard op t x y a b; binOp op t a b : Sem Value).run P w = .ok v w := by
  unfold pbin at h
  split at h
  · rename_i k i k' i'
    have hg : (eqGuard op t x y (.int k i) (.int k' i')).run P w = .ok () w := by cases op <;> rfl
    rw [Sem.run_bind, hg, Result.andThen_ok]
    split at h
    · exact pshift_run h t w
    · exact pshift_run h t w
    · rename_i h1 h2
      split at h
      · rename_i hkk
        simp at hkk
        subst hkk
        exact pint_run h ⟨h1, h2⟩ t w
      · cases h
  · rename_i b b'
    have hg : (eqGuard op t x y (.string b) (.string b')).run P w = .ok () w := by cases op <;> rfl
    rw [Sem.run_bind, hg, Result.andThen_ok]
    exact pstr_run h t w
  · rename_i b b'
    have hg : (eqGuard op t x y (.bool b) (.bool b')).run P w = .ok () w := by cases op <;> rfl
    rw [Sem.run_bind, hg, Result.andThen_ok]
    split at h
    · rename_i i hi
      obtain ⟨dd, hu, hdd⟩ := hk.desc hi
      split at h
      · rename_i hd
        injection h with h; subst h
        exact run_bool_eql t b b' (TD.of_bool (hdd.trans hd) ▸ hu) w
      · rename_i hd
        injection h with h; subst h
        exact run_bool_neq t b b' (TD.of_bool (hdd.trans hd) ▸ hu) w
      · cases h
    · cases h
  · split at h
    · rename_i xs ys _ i hi
      split at h
      · rename_i hc
        split at h
        · rename_i r hr
          injection h with h; subst h
          rw [Sem.run_bind, run_eqGuard_agg w .eql t x y xs ys ((hk.get hi).2.2 hc).2, Result.andThen_ok, run_eql_struct, veq_run hk 60 t _ _ r hr 10000 w (by omega)]
          rfl
        · cases h
      · rename_i hc
        split at h
        · rename_i r hr
          injection h with h; subst h
          rw [Sem.run_bind, run_eqGuard_agg w .neq t x y xs ys ((hk.get hi).2.2 hc).2, Result.andThen_ok, run_neq_struct, veq_run hk 60 t _ _ r hr 10000 w (by omega)]
          rfl
        · cases h
      · cases h
    · cases h
  · rename_i A n c B n' c'
    have hg : (eqGuard op t x y (.slice A n c) (.slice B n' c')).run P w = .ok () w := by cases op <;> rfl
    rw [Sem.run_bind, hg, Result.andThen_ok]
    split at h
    · rename_i i hi
      obtain ⟨dd, hu, hdd⟩ := hk.desc hi
      split at h
      · rename_i e hd
        obtain ⟨r, hr⟩ := pnil_some h
        rw [hr] at h
        have hu' := TD.of_slice (hdd.trans hd) ▸ hu
        exact run_nil (P := P) (r := r) (fun w => run_nilS hu' hr w) h (fun _ => rfl) (fun _ => rfl) w
      · cases h
    · cases h
  · rename_i A B
    have hg : (eqGuard op t x y (.pointer A) (.pointer B)).run P w = .ok () w := by cases op <;> rfl
    rw [Sem.run_bind, hg, Result.andThen_ok]
    split at h
    · rename_i i hi
      obtain ⟨dd, hu, hdd⟩ := hk.desc hi
      split at h
      · rename_i e hd
        obtain ⟨r, hr⟩ := pnil_some h
        rw [hr] at h
        have hu' := TD.of_pointer (hdd.trans hd) ▸ hu
        exact run_nil (P := P) (r := r) (fun w => run_nilP hu' hr w) h (fun _ => rfl) (fun _ => rfl) w
      · cases h
    · cases h
  · rename_i A B
    have hg : (eqGuard op t x y (.map A) (.map B)).run P w = .ok () w := by cases op <;> rfl
    rw [Sem.run_bind, hg, Result.andThen_ok]
    split at h
    · rename_i i hi
      obtain ⟨dd, hu, hdd⟩ := hk.desc hi
      split at h
      · rename_i k e hd
        obtain ⟨r, hr⟩ := pnil_some h
        rw [hr] at h
        have hu' := TD.of_map (hdd.trans hd) ▸ hu
        exact run_nil (P := P) (r := r) (fun w => run_nilM hu' hr w) h (fun _ => rfl) (fun _ => rfl) w
      · cases h
    · cases h
  · cases h

theorem pun_run {op : UnOp} {a v : Value} (h : pun op a = some v) (w : World) : (Op.unary op a).run P w = .ok v w := by
  unfold pun at h
  split at h <;> first | (injection h with h; subst h; rfl) | cases h

theorem pconv_run (hk : TTok P tt) {s d : Nat} {a v : Value} (h : pconv tt s d a = some v) (w : World) : (convert s d a).run P w = .ok v w := by
  unfold pconv at h
  split at h
  · rename_i i j hi hj
    obtain ⟨d1, h1, _⟩ := hk.desc hi
    obtain ⟨d2, h2, hd2⟩ := hk.desc hj
    split at h
    · rename_i hd
      injection h with h; subst h
      simp [convert, run_underlying h1, run_underlying h2, TD.of_int (hd2.trans hd), Conv.intToInt]
    · rename_i hd
      injection h with h; subst h
      simp [convert, run_underlying h1, run_underlying h2, TD.of_string (hd2.trans hd)]
    · cases h
  · cases h

theorem pfieldAddr_run (hk : TTok P tt) {s f : Nat} {a v : Value} (h : pfieldAddr tt s a f = some v) (w : World) : (Instr.fieldAt s a f).run P w = .ok v w := by
  unfold pfieldAddr at h
  split at h
  · rename_i i ad hi
    obtain ⟨dd, hu, hdd⟩ := hk.desc hi
    split at h
    · rename_i fs0 hd
      obtain ⟨fs, rfl, rfl⟩ := TD.of_struct (hdd.trans hd)
      rw [nth_eq] at h
      split at h
      · rename_i fd0 hf
        split at h
        · rename_i j hj
          split at h
          · cases h
          · rename_i n hn
            injection h with h; subst h
            simp only [List.getElem?_map, Option.map_eq_some_iff] at hf
            obtain ⟨fd, hf, rfl⟩ := hf
            have hf' : fs[f]? = some fd := by simpa using hf
            simp only [fieldOf] at hj
            simp [Instr.fieldAt, run_underlying hu, fieldOf, hf', Instr.sureAddr, fieldPlace, run_sizeOf_tt hk hj, hn, addO_eq]
        · cases h
      · cases h
    · cases h
  · cases h

theorem pfield_run (hk : TTok P tt) {s f : Nat} {a v : Value} (h : pfield tt s a f = some v) (w : World) : (Instr.field s a f).run P w = .ok v w := by
  unfold pfield at h
  split at h
  · rename_i i cs hi
    obtain ⟨dd, hu, hdd⟩ := hk.desc hi
    split at h
    · rename_i fs0 hd
      obtain ⟨fs, rfl, rfl⟩ := TD.of_struct (hdd.trans hd)
      rw [nth_eq] at h
      split at h
      · rename_i fd0 hf
        simp only [List.getElem?_map, Option.map_eq_some_iff] at hf
        obtain ⟨fd, hf, rfl⟩ := hf
        have hf' : fs[f]? = some fd := by simpa using hf
        simp only [fieldOf] at h
        simp [Instr.field, run_underlying hu, hf', asAgg, part_run hk h]
      · cases h
    · cases h
  · cases h

theorem pindex_run (hk : TTok P tt) {s : Nat} {a ix v : Value} (h : pindex tt s a ix = some v) (w : World) : (Instr.index s a ix).run P w = .ok v w := by
  unfold pindex at h
  split at h
  · rename_i i cs k n hi
    obtain ⟨dd, hu, hdd⟩ := hk.desc hi
    split at h
    · rename_i len e hd
      split at h
      · rename_i j hj h0 h1
        simp at h0 h1
        simp [Instr.index, asIntOf, run_underlying hu, TD.of_array (hdd.trans hd), h0, h1, run_sizeOf_tt hk hj, part_run hk h]
      · cases h
    · cases h
  · cases h

theorem pindexAddr_run (hk : TTok P tt) {s : Nat} {a ix v : Value} (h : pindexAddr tt s a ix = some v) (w : World) : (Instr.indexAt s a ix).run P w = .ok v w := by
  unfold pindexAddr at h
  split at h
  · rename_i i ad k n hi
    obtain ⟨dd, hu, hdd⟩ := hk.desc hi
    split at h
    · rename_i len e hd
      split at h
      · rename_i j hj h0 h1
        injection h with h; subst h
        simp at h0 h1
        simp [Instr.indexAt, asIntOf, run_underlying hu, TD.of_array (hdd.trans hd), h0, h1, Instr.sureAddr, run_sizeOf_tt hk hj, addO_eq]
      · cases h
    · cases h
  · cases h

theorem plen_run (hk : TTok P tt) {ts : Array Nat} {ty : Nat} {a v : Value} (h : plen tt ts.toList a = some v) (w : World) : (Builtin.len_ ts ty #[a]).run P w = .ok v w := by
  unfold plen at h
  split at h
  · rename_i t ht
    have : ts = #[t] := by cases ts; simp_all
    subst this
    split at h
    · rename_i i hi
      obtain ⟨dd, hu, hdd⟩ := hk.desc hi
      split at h
      · rename_i hd; injection h with h; subst h; simp [Builtin.len_, run_underlying hu, TD.of_string (hdd.trans hd), goInt]
      · rename_i hd; injection h with h; subst h; simp [Builtin.len_, run_underlying hu, TD.of_slice (hdd.trans hd), goInt]
      · rename_i hd; injection h with h; subst h; simp [Builtin.len_, run_underlying hu, TD.of_array (hdd.trans hd), goInt]
      · cases h
    · cases h
  · cases h

theorem pmin_run {a b v : Value} {ts : Array Nat} {ty : Nat} (h : pmin a b = some v) (w : World) : (Builtin.min_ ts ty #[a, b]).run P w = .ok v w := by
  unfold pmin at h
  split at h
  · split at h
    · rename_i k x k' y hkk
      injection h with h; subst h
      simp at hkk
      simp only [Builtin.min_, List.foldlM_cons, List.foldlM_nil, Builtin.min2, bind_pure, Sem.run_pure]
      congr 2
      simp only [Int.min_def]
      split <;> split <;> omega
    · cases h
  · cases h

theorem pmax_run {a b v : Value} {ts : Array Nat} {ty : Nat} (h : pmax a b = some v) (w : World) : (Builtin.max_ ts ty #[a, b]).run P w = .ok v w := by
  unfold pmax at h
  split at h
  · split at h
    · rename_i k x k' y hkk
      injection h with h; subst h
      simp at hkk
      simp only [Builtin.max_, List.foldlM_cons, List.foldlM_nil, Builtin.max2, bind_pure, Sem.run_pure]
      congr 2
      simp only [Int.max_def]
      split <;> split <;> omega
    · cases h
  · cases h

theorem pcall_run (hk : TTok P tt) {a : Act} {Γ : Env} (ha : At a Γ) {c : Call} {v : Value} (h : pcall tt Γ c = some v) (ty : Nat) (w : World) :
    (do let d ← resolve a.eval c ty; invoke d.target d.args : Sem Next).run P w = .ok (.value v) w := by
  obtain ⟨callee, args, ts⟩ := c
  unfold pcall at h
  split at h
  · rename_i x hc hx
    have : args = #[x] := by cases args; simp_all
    subst this
    simp only at hc
    subst hc
    split at h
    · rename_i u hu
      simp [resolve, invoke, builtin, ha.eval hu, plen_run hk h]
    · cases h
  · rename_i x y hc hx
    have : args = #[x, y] := by cases args; simp_all
    subst this
    simp only at hc
    subst hc
    split at h
    · rename_i u u' hu hu'
      simp [resolve, invoke, builtin, ha.eval hu, ha.eval hu', pmin_run h]
    · cases h
  · rename_i x y hc hx
    have : args = #[x, y] := by cases args; simp_all
    subst this
    simp only at hc
    subst hc
    split at h
    · rename_i u u' hu hu'
      simp [resolve, invoke, builtin, ha.eval hu, ha.eval hu', pmax_run h]
    · cases h
  · cases h

theorem foldl_set (off : Nat) : ∀ (vs : List Value) (k : Nat) (arr : Array Value), off + k + vs.length ≤ arr.size →
    (vs.zipIdx k).foldl (fun (cs : Array Value) (x : Value × Nat) => cs.setIfInBounds (off + x.2) x.1) arr = (arr.toList.take (off + k) ++ vs ++ arr.toList.drop (off + k + vs.length)).toArray
  | [], k, arr, _ => by simp
  | v :: vs, k, arr, h => by
    simp only [List.length_cons] at h
    simp only [List.zipIdx_cons, List.foldl_cons]
    rw [foldl_set off vs (k + 1) _ (by simp; omega)]
    congr 1
    simp only [Array.toList_setIfInBounds, List.length_cons]
    apply List.ext_getElem?
    intro i
    rw [List.getElem?_append, List.getElem?_append, List.getElem?_append, List.getElem?_append]
    simp only [List.length_append, List.length_take, List.length_set, List.length_cons, List.getElem?_take, List.getElem?_drop, List.getElem?_set, Array.length_toList]
    have m1 : min (off + (k + 1)) arr.size = off + k + 1 := by omega
    have m2 : min (off + k) arr.size = off + k := by omega
    rw [m1, m2]
    by_cases c1 : i < off + k
    · simp only [show i < off + k + 1 + vs.length by omega, show i < off + k + 1 by omega, show i < off + (k + 1) by omega, show i < off + k + (vs.length + 1) by omega, c1, if_true]
      rw [if_neg (by omega)]
    · by_cases c2 : i = off + k
      · subst c2
        simp only [show off + k < off + k + 1 + vs.length by omega, show off + k < off + k + 1 by omega, show off + k < off + (k + 1) by omega, show off + k < off + k + (vs.length + 1) by omega, Nat.lt_irrefl, if_true, if_false, Nat.sub_self]
        simp
        omega
      · by_cases c3 : i < off + k + 1 + vs.length
        · simp only [c3, if_true, show ¬ i < off + k + 1 by omega, show i < off + k + (vs.length + 1) by omega, if_false, c1]
          rw [show i - (off + k) = (i - (off + k + 1)) + 1 by omega, List.getElem?_cons_succ]
        · simp only [c3, if_false, show ¬ i < off + k + (vs.length + 1) by omega]
          rw [if_neg (by omega)]
          congr 1
          omega

theorem pfill_run {a : Act} {Γ : Env} (ha : At a Γ) {pl : Nat → Option (Nat × Nat)} : ∀ (ps : List (Nat × Operand)) (cs r : List Value), pfill Γ pl cs ps = some r →
    Instr.fill pl cs.toArray (ps.map fun x => (x.1, a.eval x.2)) = some r.toArray
  | [], cs, r, h => by simp only [pfill] at h; injection h with h; subst h; rfl
  | (i, x) :: ps, cs, r, h => by
    simp only [pfill] at h
    split at h
    · rename_i off sz v hp hx
      split at h
      · rename_i hb
        split at h
        · rename_i cs' hs
          obtain ⟨hl, he⟩ := spliceK_eq _ _ _ _ _ hs
          injection he with he
          have hsz : v.cells.size = sz := by rw [← zc_eq]; simpa using Nat.eq_of_beq_eq_true hb
          have hzl : (zc v).length = sz := Nat.eq_of_beq_eq_true hb
          simp only [List.map_cons, Instr.fill, hp, ha.eval hx, hsz, List.size_toArray, ne_eq, not_true_eq_false]
          have hno : ¬ (off + sz > cs.length) := by omega
          simp only [decide_false, hno, Bool.or_false, if_false, Bool.false_eq_true]
          have hf := foldl_set off (zc v) 0 cs.toArray (by simp; omega)
          have e2 : v.cells.zipIdx.foldl (fun (cs : Array Value) (x : Value × Nat) => cs.setIfInBounds (off + x.2) x.1) cs.toArray = cs'.toArray := by
            rw [← Array.foldl_toList, Array.toList_zipIdx, ← zc_eq]
            simp only [Nat.add_zero] at hf ⊢
            rw [hf, he]
          rw [e2]
          exact pfill_run ha ps cs' r h
        · cases h
      · cases h
    · cases h

theorem allTypes_spec (tt : TT) : ∀ (fs : List (Nat × Nat × Bool)), allTypes tt fs = true → ∀ f ∈ fs, ∃ j, tget tt f.1 = some j
  | [], _, f, hf => by cases hf
  | g :: r, h, f, hf => by
    simp only [allTypes] at h
    split at h
    · rename_i j hj
      cases hf with
      | head => exact ⟨j, hj⟩
      | tail _ hf => exact allTypes_spec tt r h f hf
    · cases h

def placeOf (tt : TT) (f : Field) : Nat × Nat := (f.offset, match tget tt f.type with | some j => j.size | none => 0)

theorem places_run (hk : TTok P tt) (w : World) : ∀ (fs : List Field), allTypes tt (fs.map fieldOf) = true → (fs.mapM (fun f => do pure (f.offset, ← sizeOf f.type)) : Sem (List (Nat × Nat))).run P w = .ok (fs.map (placeOf tt)) w
  | [], _ => rfl
  | f :: fs, h => by
    obtain ⟨j, hj⟩ := allTypes_spec tt _ h (fieldOf f) (by simp)
    have h' : allTypes tt (fs.map fieldOf) = true := by
      simp only [List.map_cons, allTypes] at h
      split at h
      · exact h
      · cases h
    simp only [fieldOf] at hj
    rw [List.mapM_cons]
    simp only [Sem.run_bind, run_sizeOf_tt hk hj, Result.andThen_ok, Sem.run_pure, places_run hk w fs h']
    simp [placeOf, hj]

theorem pbuild_run (hk : TTok P tt) {a : Act} {Γ : Env} (ha : At a Γ) {t : Nat} {ps : Array (Nat × Operand)} {v : Value} (h : pbuild tt Γ t ps.toList = some v) (w : World) :
    (Instr.build t (ps.map fun x => (x.1, a.eval x.2))).run P w = .ok v w := by
  have hps : (ps.map fun x => (x.1, a.eval x.2)).toList = ps.toList.map fun x => (x.1, a.eval x.2) := by simp
  unfold pbuild at h
  split at h
  · rename_i i hi
    obtain ⟨dd, hu, hdd⟩ := hk.desc hi
    split at h
    · rename_i fs0 hd
      obtain ⟨fs, rfl, rfl⟩ := TD.of_struct (hdd.trans hd)
      split at h
      · rename_i hall
        split at h
        · rename_i cs hc
          injection h with h; subst h
          have hf := pfill_run ha _ _ _ hc
          have hpl : (fs.mapM (fun f => do pure (f.offset, ← sizeOf f.type)) : Sem (Array (Nat × Nat))).run P w = .ok (fs.toList.map (placeOf tt)).toArray w := by
            have := places_run hk w fs.toList hall
            have e : (fs.mapM (fun f => do pure (f.offset, ← sizeOf f.type)) : Sem (Array (Nat × Nat))) = Functor.map List.toArray (fs.toList.mapM (fun f => do pure (f.offset, ← sizeOf f.type))) := by
              rw [← List.mapM_toArray]
            rw [e, Sem.run_map, this]
            rfl
          have hplace : (fun i => (fs.toList.map (placeOf tt)).toArray[i]?) = plStruct tt (fs.toList.map fieldOf) := by
            funext n
            simp only [plStruct, nth_eq, List.getElem?_map, List.getElem?_toArray]
            cases hn : fs.toList[n]? with
            | none => rfl
            | some f =>
              obtain ⟨j, hj⟩ := allTypes_spec tt _ hall (fieldOf f) (List.mem_map.2 ⟨f, List.mem_of_getElem? hn, rfl⟩)
              simp only [fieldOf] at hj
              simp [fieldOf, placeOf, hj]
          simp only [Instr.build, Sem.run_bind, run_zeroValue_tt hk hi, Result.andThen_ok, run_underlying hu, hpl]
          rw [hplace, hps, ← zc_eq, hf]
          rfl
        · cases h
      · cases h
    · rename_i m e hd
      split at h
      · rename_i j hj
        split at h
        · rename_i cs hc
          injection h with h; subst h
          have hf := pfill_run ha _ _ _ hc
          simp only [Instr.build, Sem.run_bind, run_zeroValue_tt hk hi, Result.andThen_ok, run_underlying hu, TD.of_array (hdd.trans hd), run_sizeOf_tt hk hj]
          rw [hps, ← zc_eq, hf]
          rfl
        · cases h
      · cases h
    · cases h
  · cases h

/-- WHAT AN OPERATION THAT ONLY COMPUTES YIELDS. -/
theorem pev_run (hk : TTok P tt) {a : Act} {Γ : Env} (ha : At a Γ) {o : Oper} {v : Value} (h : pev tt Γ o.op = some v) (w : World) :
    (execOp a.eval o).run P w = .ok (.value v) w := by
  obtain ⟨dst, op, type, pos, after, guard⟩ := o
  cases op <;> simp only [pev] at h <;> simp only [execOp]
  case build t ps => simp [pbuild_run hk ha h w]
  case move x => rw [ha.eval h]; rfl
  case assign x => rw [ha.eval h]; rfl
  case pick c x y =>
    split at h
    · rename_i hc; simp [ha.eval hc, asBool, ha.eval h]
    · rename_i hc; simp [ha.eval hc, asBool, ha.eval h]
    · cases h
  case nilCheck x =>
    split at h
    · rename_i hx; injection h with h; subst h; rw [ha.eval hx]; rfl
    · cases h
  case binOp op t x y yt =>
    split at h
    · rename_i u u' hx hy
      have := pbin_run (P := P) hk h x y w
      rw [ha.eval hx, ha.eval hy]
      simp only [Sem.run_bind] at this ⊢
      rw [this]
      rfl
    · cases h
  case unOp op t x =>
    split at h
    · rename_i u hx; simp [ha.eval hx, pun_run h]
    · cases h
  case convert s d x =>
    split at h
    · rename_i u hx; simp [ha.eval hx, pconv_run hk h]
    · cases h
  case makeFunc fn first captured =>
    split at h
    · rename_i vs us h1 h2
      injection h with h; subst h
      have e1 : first.map a.eval = vs.toArray := by
        have := ha.evals h1
        apply Array.ext'
        simpa using this
      have e2 : captured.map a.eval = us.toArray := by
        have := ha.evals h2
        apply Array.ext'
        simpa using this
      simp [Instr.makeFunc, e1, e2]
    · cases h
  case fieldAddr s x f =>
    split at h
    · rename_i u hx; simp [ha.eval hx, pfieldAddr_run hk h]
    · cases h
  case field s x f =>
    split at h
    · rename_i u hx; simp [ha.eval hx, pfield_run hk h]
    · cases h
  case indexAddr s x ix =>
    split at h
    · rename_i u u' hx hy; simp [ha.eval hx, ha.eval hy, pindexAddr_run hk h]
    · cases h
  case index s x ix =>
    split at h
    · rename_i u u' hx hy; simp [ha.eval hx, ha.eval hy, pindex_run hk h]
    · cases h
  case extract t i =>
    split at h
    · rename_i vs hx
      rw [nth_eq] at h
      have : vs[i]? = some v := by simpa using h
      simp [ha.eval hx, Instr.extract, this]
    · cases h
  case call c =>
    exact pcall_run hk ha h type w
  all_goals cases h

end
end Go.Proofs.Ythdpagcklakahaa
