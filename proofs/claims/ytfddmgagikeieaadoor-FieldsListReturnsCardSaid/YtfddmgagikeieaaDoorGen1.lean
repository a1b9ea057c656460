/-
  Models of functions of the program, and that the functions compute them.
  Conditions: none.
-/
import Derived.Test.YtfddmgagikeieaaDoorTypes
import Derived.Test.YtfddmgagikeieaaDoorCoreT
namespace Go.Proofs.YtfddmgagikeieaaDoor
open Go
set_option linter.unusedVariables false
set_option maxRecDepth 4000

structure T_Field where
  Kind : Int
  Value : ByteArray

structure T_Dice where
  L : (List Int)
  At : Int

structure Arr8 (α : Type) where
  e0 : α
  e1 : α
  e2 : α
  e3 : α
  e4 : α
  e5 : α
  e6 : α
  e7 : α

def Arr8.set {α : Type} (a : Arr8 α) (q : Int) (y : α) : Option (Arr8 α) := match setE [a.e0, a.e1, a.e2, a.e3, a.e4, a.e5, a.e6, a.e7] q y with | some [x0, x1, x2, x3, x4, x5, x6, x7] => some ⟨x0, x1, x2, x3, x4, x5, x6, x7⟩ | _ => none

theorem Arr8.set_e {α : Type} {a b : Arr8 α} {q : Int} {y : α} (h : a.set q y = some b) : setE [a.e0, a.e1, a.e2, a.e3, a.e4, a.e5, a.e6, a.e7] q y = some [b.e0, b.e1, b.e2, b.e3, b.e4, b.e5, b.e6, b.e7] := by
  unfold Arr8.set at h
  split at h
  · rename_i hs; injection h with h; subst h; exact hs
  · cases h

theorem pairs8 {α β : Type} {l : List (α × β)} {a0 a1 a2 a3 a4 a5 a6 a7 : α} (h : l.map (·.1) = [a0, a1, a2, a3, a4, a5, a6, a7]) : ∃ x0 x1 x2 x3 x4 x5 x6 x7, l = [(a0, x0), (a1, x1), (a2, x2), (a3, x3), (a4, x4), (a5, x5), (a6, x6), (a7, x7)] := by
  match l, h with
  | [(_, x0), (_, x1), (_, x2), (_, x3), (_, x4), (_, x5), (_, x6), (_, x7)], h => simp at h; obtain ⟨rfl, rfl, rfl, rfl, rfl, rfl, rfl, rfl⟩ := h; exact ⟨x0, x1, x2, x3, x4, x5, x6, x7, rfl⟩

def l_T_Field : List (LC T_Field) := [.v (fun x => .int .i64 x.Kind) (fun _ => rfl), .v (fun x => .string x.Value) (fun _ => rfl)]

def l_i64 : List (LC Int) := [.v (fun x => .int .i64 x) (fun _ => rfl)]

def l_str : List (LC ByteArray) := [.v (fun x => .string x) (fun _ => rfl)]

def ok_T_Field (x : T_Field) : Prop := (inK .i64) x.Kind ∧ okS x.Value

def l_sl_i64 : List (LC (List Int)) := [.s (cod ei64) (fun x => x)]

def l_sl_u8 : List (LC (List Int)) := [.s (cod eu8) (fun x => x)]

def l_u8 : List (LC Int) := [.v (fun x => .int .u8 x) (fun _ => rfl)]

def e_Field : Enc T_Field := ⟨2, fun x => [.int .i64 x.Kind, .string x.Value], fun _ => rfl, fun _ => List.all_eq_true.1 rfl⟩

def l_sl_T_Field : List (LC (List T_Field)) := [.s (cod e_Field) (fun x => x)]

theorem ent13 : Ent Tryd.prog 13 := ⟨_, Tryd.func13, by kernel_rfl, by kernel_rfl⟩

noncomputable def m_made_Light (l_p0 : (List Int)) : Option Bool :=
  some (decide ((l_p0.length : Int) ≤ 600))

theorem c_made_Light {l_p0 : (List Int)} {A1 : Option Addr} {c1 : Nat} {r : Bool} (h : m_made_Light l_p0 = some r) :
    Fun Tryd.prog 13 [.slice A1 l_p0.length c1] [.ro (SlL ei64 A1 c1 l_p0)] (Val (.bool r)) := by
  unfold m_made_Light at h
  refine Fun.intro Tryd.func13 rfl rfl rfl fun w R => ?_
  refine St.seq ?_
  refine St.region ?_
  refine St.p rfl rfl ?_
  refine St.done ?_
  refine St.thenN ?_
  refine St.prune (Γ' := [(0, _)]) ⟨rfl, trivial⟩ (.k .z) ?_
  refine St.seq ?_
  refine St.region ?_
  iterate 4 refine St.p rfl rfl ?_
  refine St.done ?_
  refine St.thenN ?_
  refine St.prune (Γ' := [(2, _)]) ⟨rfl, trivial⟩ (.d .z) ?_
  refine St.ret ?_
  repeat (first | refine St.thenR ?_ | refine St.blkR ?_)
  injection h with h
  subst h
  exact St.finR Tryd.results13 (.tmp rfl .nil) rfl [] ⟨rfl, rfl⟩ (fun _ w => (.z : Keep _ _).sat w)

theorem ent52 : Ent Tryd.prog 52 := ⟨_, Tryd.func52, by kernel_rfl, by kernel_rfl⟩

noncomputable def m_strings_trimRightByte (s_p0 : ByteArray) (c_p1 : Int) : Option ByteArray :=
  bnd (loopM (τ := ByteArray) (fun (s1 : ByteArray) => bnd ((bif decide ((s1.size : Int) > 0) then (bnd (eltS s1 (IntKind.wrap .i64 ((s1.size : Int) - 1))) fun y1 => some (y1 == c_p1)) else (some false) : Option Bool)) fun o2 => bif o2 then (bnd (subS s1 0 (IntKind.wrap .i64 ((s1.size : Int) - 1))) fun t1 => some (.next t1)) else (some (.done s1))) s_p0) fun o1 => some o1

theorem c_strings_trimRightByte {s_p0 : ByteArray} {c_p1 : Int} {r : ByteArray} (h : m_strings_trimRightByte s_p0 c_p1 = some r) :
    Fun Tryd.prog 52 [.string s_p0, .int .u8 c_p1] [] (Val (.string r)) := by
  unfold m_strings_trimRightByte at h
  refine Fun.intro Tryd.func52 rfl rfl rfl fun w R => ?_
  refine St.seq ?_
  refine St.region ?_
  refine St.p rfl rfl ?_
  refine St.done ?_
  refine St.thenN ?_
  refine St.prune (Γ' := [(0, _), (1, _)]) ⟨rfl, rfl, trivial⟩ .z ?_
  refine St.seq ?_
  obtain ⟨o1, hl1, h⟩ := bnd_e h
  refine St.cutE (fun (e2 : Unit) => [(0, .string o1)]) (fun e2 => R) ?_ ?_
  · refine St.block ?_
    refine St.loop hl1 (fun (s1 : ByteArray) (e1 : Unit) => [(0, .string s1), (1, .int .u8 c_p1)]) (fun s1 e1 => R) (fun _ _ => True) () trivial ⟨rfl, rfl, trivial⟩ (fun _ w => (.z : Keep _ _).sat w) ?_
    rintro s1 e1 - hit1
    obtain ⟨st1, hm1, hd1⟩ := iter_e hit1
    have h1 := hm1
    refine St.seq ?_
    refine St.seq ?_
    obtain ⟨o2, hj1, h1⟩ := bnd_e h1
    refine St.cutE (fun (e3 : Unit) => [(0, .string s1), (1, .int .u8 c_p1), (16, .bool o2)]) (fun e3 => R) ?_ ?_
    · refine St.region ?_
      iterate 4 refine St.p rfl rfl ?_
      refine St.gSplit (dj := 8) _ rfl (fun hb1 => ?_) (fun hb1 => ?_)
      · replace hj1 := bif_t hb1 hj1
        refine St.gOn (dj := 8) rfl rfl ?_
        refine St.p rfl rfl ?_
        refine St.gOn (dj := 8) rfl rfl ?_
        refine St.p rfl rfl ?_
        refine St.gOn (dj := 8) rfl rfl ?_
        refine St.p rfl rfl ?_
        refine St.gOn (dj := 8) rfl rfl ?_
        refine St.p rfl rfl ?_
        refine St.gOn (dj := 8) rfl rfl ?_
        obtain ⟨y1, hy1, hj1⟩ := bnd_e hj1
        refine St.eltS rfl rfl rfl rfl rfl hy1 ?_
        refine St.gOn (dj := 8) rfl rfl ?_
        refine St.p rfl rfl ?_
        refine St.gOn (dj := 8) rfl rfl ?_
        refine St.p rfl rfl ?_
        refine St.p rfl rfl ?_
        refine St.done ?_
        injection hj1 with hj1
        subst hj1
        refine St.thenN ?_
        exact St.hereE () ⟨rfl, rfl, rfl, trivial⟩ (fun _ w => (.z : Keep _ _).sat w)
      · replace hj1 := bif_f hb1 hj1
        refine St.gOff (dj := 8) rfl rfl rfl rfl ?_
        refine St.gOff (dj := 8) rfl rfl rfl rfl ?_
        refine St.gOff (dj := 8) rfl rfl rfl rfl ?_
        refine St.gOff (dj := 8) rfl rfl rfl rfl ?_
        refine St.gOff (dj := 8) rfl rfl rfl rfl ?_
        refine St.gOff (dj := 8) rfl rfl rfl rfl ?_
        refine St.gOff (dj := 8) rfl rfl rfl rfl ?_
        refine St.p rfl rfl ?_
        refine St.done ?_
        injection hj1 with hj1
        subst hj1
        refine St.thenN ?_
        exact St.hereE () ⟨rfl, rfl, rfl, trivial⟩ (fun _ w => (.z : Keep _ _).sat w)
    · rintro e3
      refine St.cond _ rfl (fun hb2 => ?_) (fun hb2 => ?_)
      · replace h1 := bif_t hb2 h1
        refine St.skip ?_
        refine St.thenN ?_
        refine St.prune (Γ' := [(0, _), (1, _)]) ⟨rfl, rfl, trivial⟩ .z ?_
        refine St.block ?_
        refine St.region ?_
        iterate 4 refine St.p rfl rfl ?_
        obtain ⟨t1, ht1, h1⟩ := bnd_e h1
        refine St.subS rfl rfl rfl rfl rfl rfl ht1 ?_
        refine St.p rfl rfl ?_
        refine St.done ?_
        refine St.blkN ?_
        injection h1 with h1
        subst h1
        refine St.thenN ?_
        exact St.again _ () hm1 trivial ⟨rfl, rfl, trivial⟩ (fun _ w => (.z : Keep _ _).sat w)
      · replace h1 := bif_f hb2 h1
        refine St.exit ?_
        repeat (first | refine St.thenX ?_ | refine St.blkMiss rfl ?_)
        refine St.blkHit ?_
        injection h1 with h1
        subst h1
        have ho := hd1 _ rfl
        subst ho
        refine St.thenN ?_
        exact St.hereE () ⟨rfl, trivial⟩ (fun _ w => (.z : Keep _ _).sat w)
  · rintro e2
    refine St.seq ?_
    refine St.region ?_
    refine St.p rfl rfl ?_
    refine St.p rfl rfl ?_
    refine St.done ?_
    refine St.thenN ?_
    refine St.prune (Γ' := [(4, _)]) ⟨rfl, trivial⟩ .z ?_
    refine St.ret ?_
    repeat (first | refine St.thenR ?_ | refine St.blkR ?_)
    injection h with h
    subst h
    exact St.finR Tryd.results52 (.tmp rfl .nil) rfl [] ⟨rfl, rfl⟩ (fun _ w => (.z : Keep _ _).sat w)

theorem ent51 : Ent Tryd.prog 51 := ⟨_, Tryd.func51, by kernel_rfl, by kernel_rfl⟩

noncomputable def m_strings_trimLeftByte (s_p0 : ByteArray) (c_p1 : Int) : Option ByteArray :=
  bnd (loopM (τ := ByteArray) (fun (s1 : ByteArray) => bnd ((bif decide ((s1.size : Int) > 0) then (bnd (eltS s1 0) fun y1 => some (y1 == c_p1)) else (some false) : Option Bool)) fun o2 => bif o2 then (bnd (subS s1 1 (s1.size : Int)) fun t1 => some (.next t1)) else (some (.done s1))) s_p0) fun o1 => some o1

theorem c_strings_trimLeftByte {s_p0 : ByteArray} {c_p1 : Int} {r : ByteArray} (h : m_strings_trimLeftByte s_p0 c_p1 = some r) :
    Fun Tryd.prog 51 [.string s_p0, .int .u8 c_p1] [] (Val (.string r)) := by
  unfold m_strings_trimLeftByte at h
  refine Fun.intro Tryd.func51 rfl rfl rfl fun w R => ?_
  refine St.seq ?_
  refine St.region ?_
  refine St.p rfl rfl ?_
  refine St.done ?_
  refine St.thenN ?_
  refine St.prune (Γ' := [(0, _), (1, _)]) ⟨rfl, rfl, trivial⟩ .z ?_
  refine St.seq ?_
  obtain ⟨o1, hl1, h⟩ := bnd_e h
  refine St.cutE (fun (e2 : Unit) => [(0, .string o1)]) (fun e2 => R) ?_ ?_
  · refine St.block ?_
    refine St.loop hl1 (fun (s1 : ByteArray) (e1 : Unit) => [(0, .string s1), (1, .int .u8 c_p1)]) (fun s1 e1 => R) (fun _ _ => True) () trivial ⟨rfl, rfl, trivial⟩ (fun _ w => (.z : Keep _ _).sat w) ?_
    rintro s1 e1 - hit1
    obtain ⟨st1, hm1, hd1⟩ := iter_e hit1
    have h1 := hm1
    refine St.seq ?_
    refine St.seq ?_
    obtain ⟨o2, hj1, h1⟩ := bnd_e h1
    refine St.cutE (fun (e3 : Unit) => [(0, .string s1), (1, .int .u8 c_p1), (13, .bool o2)]) (fun e3 => R) ?_ ?_
    · refine St.region ?_
      iterate 4 refine St.p rfl rfl ?_
      refine St.gSplit (dj := 8) _ rfl (fun hb1 => ?_) (fun hb1 => ?_)
      · replace hj1 := bif_t hb1 hj1
        refine St.gOn (dj := 8) rfl rfl ?_
        refine St.p rfl rfl ?_
        refine St.gOn (dj := 8) rfl rfl ?_
        obtain ⟨y1, hy1, hj1⟩ := bnd_e hj1
        refine St.eltS rfl rfl rfl rfl rfl hy1 ?_
        refine St.gOn (dj := 8) rfl rfl ?_
        refine St.p rfl rfl ?_
        refine St.gOn (dj := 8) rfl rfl ?_
        refine St.p rfl rfl ?_
        refine St.p rfl rfl ?_
        refine St.done ?_
        injection hj1 with hj1
        subst hj1
        refine St.thenN ?_
        exact St.hereE () ⟨rfl, rfl, rfl, trivial⟩ (fun _ w => (.z : Keep _ _).sat w)
      · replace hj1 := bif_f hb1 hj1
        refine St.gOff (dj := 8) rfl rfl rfl rfl ?_
        refine St.gOff (dj := 8) rfl rfl rfl rfl ?_
        refine St.gOff (dj := 8) rfl rfl rfl rfl ?_
        refine St.gOff (dj := 8) rfl rfl rfl rfl ?_
        refine St.p rfl rfl ?_
        refine St.done ?_
        injection hj1 with hj1
        subst hj1
        refine St.thenN ?_
        exact St.hereE () ⟨rfl, rfl, rfl, trivial⟩ (fun _ w => (.z : Keep _ _).sat w)
    · rintro e3
      refine St.cond _ rfl (fun hb2 => ?_) (fun hb2 => ?_)
      · replace h1 := bif_t hb2 h1
        refine St.skip ?_
        refine St.thenN ?_
        refine St.prune (Γ' := [(0, _), (1, _)]) ⟨rfl, rfl, trivial⟩ .z ?_
        refine St.block ?_
        refine St.region ?_
        refine St.p rfl rfl ?_
        obtain ⟨t1, ht1, h1⟩ := bnd_e h1
        refine St.subS rfl rfl rfl rfl rfl rfl ht1 ?_
        refine St.p rfl rfl ?_
        refine St.done ?_
        refine St.blkN ?_
        injection h1 with h1
        subst h1
        refine St.thenN ?_
        exact St.again _ () hm1 trivial ⟨rfl, rfl, trivial⟩ (fun _ w => (.z : Keep _ _).sat w)
      · replace h1 := bif_f hb2 h1
        refine St.exit ?_
        repeat (first | refine St.thenX ?_ | refine St.blkMiss rfl ?_)
        refine St.blkHit ?_
        injection h1 with h1
        subst h1
        have ho := hd1 _ rfl
        subst ho
        refine St.thenN ?_
        exact St.hereE () ⟨rfl, trivial⟩ (fun _ w => (.z : Keep _ _).sat w)
  · rintro e2
    refine St.seq ?_
    refine St.region ?_
    refine St.p rfl rfl ?_
    refine St.p rfl rfl ?_
    refine St.done ?_
    refine St.thenN ?_
    refine St.prune (Γ' := [(4, _)]) ⟨rfl, trivial⟩ .z ?_
    refine St.ret ?_
    repeat (first | refine St.thenR ?_ | refine St.blkR ?_)
    injection h with h
    subst h
    exact St.finR Tryd.results51 (.tmp rfl .nil) rfl [] ⟨rfl, rfl⟩ (fun _ w => (.z : Keep _ _).sat w)

theorem ent53 : Ent Tryd.prog 53 := ⟨_, Tryd.func53, by kernel_rfl, by kernel_rfl⟩

noncomputable def m_strings_makeASCIISet (chars : ByteArray) : Option ((List Bool) × Bool) :=
  bnd (loopM (τ := ((List Bool) × Bool) ⊕ List Bool) (fun (s1 : List Bool × Int) => bif decide (s1.2 < (chars.size : Int)) then (bnd (eltS chars s1.2) fun y1 => bif decide (y1 ≥ 128) then (bnd (chkLen 256 s1.1) fun l1 => bnd (chkLen 256 l1) fun l2 => bnd (chkLen 256 l1) fun l3 => some (.done (.inl (l3, false)))) else (bnd (chkLen 256 s1.1) fun l4 => bnd (elt s1.1 y1) fun x1 => bnd (setE s1.1 y1 true) fun l5 => some (.next (l5, IntKind.wrap .i64 (s1.2 + 1))))) else (some (.done (.inr s1.1)))) (List.replicate 256 false, 0)) fun o1 => retOr o1 fun o2 => bnd (chkLen 256 o2) fun l6 => bnd (chkLen 256 l6) fun l7 => bnd (chkLen 256 l6) fun l8 => some (l8, true)

theorem c_strings_makeASCIISet {chars : ByteArray} {r : ((List Bool) × Bool)} (h : m_strings_makeASCIISet chars = some r) :
    Fun Tryd.prog 53 [.string chars] [] (Val (.tuple #[(barr ebool r.1), .bool r.2])) := by
  unfold m_strings_makeASCIISet at h
  refine Fun.intro Tryd.func53 rfl rfl rfl fun w R => ?_
  refine St.seq ?_
  refine St.region ?_
  refine St.allocA (n := 256) ebool false rfl rfl (by kernel_rfl) rfl fun g1 => ?_
  refine St.p rfl rfl ?_
  refine St.done ?_
  refine St.thenN ?_
  refine St.prune (Γ' := [(0, _), (2, _)]) ⟨rfl, rfl, trivial⟩ (.k .z) ?_
  refine St.seq ?_
  refine St.seq ?_
  refine St.region ?_
  refine St.p rfl rfl ?_
  refine St.done ?_
  refine St.thenN ?_
  obtain ⟨o1, hl1, h⟩ := bnd_e h
  refine St.cutI (fun (o2 : List Bool) (e2 : Unit) => [(2, .pointer (some ⟨g1, 0, none⟩))]) (fun o2 e2 => .res (OwnL ebool 72 (some ⟨g1, 0, none⟩) 256 o2) :: R) (fun o2 => o1 = .inr o2) ?_ ?_
  · refine St.block ?_
    refine St.loop hl1 (fun (s1 : List Bool × Int) (e1 : Unit) => [(0, .string chars), (2, .pointer (some ⟨g1, 0, none⟩)), (4, .int .i64 s1.2)]) (fun s1 e1 => .res (OwnL ebool 72 (some ⟨g1, 0, none⟩) 256 s1.1) :: R) (fun _ _ => True) () trivial ⟨rfl, rfl, rfl, trivial⟩ (fun _ w => ((.k .z) : Keep _ _).sat w) ?_
    rintro s1 e1 - hit1
    obtain ⟨st1, hm1, hd1⟩ := iter_e hit1
    have h1 := hm1
    refine St.seq ?_
    refine St.seq ?_
    refine St.region ?_
    iterate 4 refine St.p rfl rfl ?_
    refine St.done ?_
    refine St.thenN ?_
    refine St.prune (Γ' := [(0, _), (2, _), (4, _), (9, _)]) ⟨rfl, rfl, rfl, rfl, trivial⟩ (.k .z) ?_
    refine St.cond _ rfl (fun hb1 => ?_) (fun hb1 => ?_)
    · replace h1 := bif_t hb1 h1
      refine St.skip ?_
      refine St.thenN ?_
      refine St.prune (Γ' := [(0, _), (2, _), (4, _)]) ⟨rfl, rfl, rfl, trivial⟩ (.k .z) ?_
      refine St.seq ?_
      refine St.block ?_
      refine St.seq ?_
      refine St.region ?_
      refine St.p rfl rfl ?_
      refine St.p rfl rfl ?_
      obtain ⟨y1, hy1, h1⟩ := bnd_e h1
      refine St.eltS rfl rfl rfl rfl rfl hy1 ?_
      refine St.p rfl rfl ?_
      refine St.done ?_
      refine St.thenN ?_
      refine St.prune (Γ' := [(0, _), (2, _), (4, _), (5, _)]) ⟨rfl, rfl, rfl, rfl, trivial⟩ (.k .z) ?_
      refine St.seq ?_
      refine St.seq ?_
      refine St.region ?_
      refine St.p rfl rfl ?_
      refine St.p rfl rfl ?_
      refine St.done ?_
      refine St.thenN ?_
      refine St.prune (Γ' := [(0, _), (2, _), (4, _), (5, _), (16, _)]) ⟨rfl, rfl, rfl, rfl, rfl, trivial⟩ (.k .z) ?_
      refine St.cond _ rfl (fun hb2 => ?_) (fun hb2 => ?_)
      · replace h1 := bif_t hb2 h1
        refine St.seq ?_
        refine St.region ?_
        obtain ⟨l1, hl1, h1⟩ := bnd_e h1
        refine St.ldA ebool hl1 rfl rfl rfl rfl rfl rfl rfl .z ?_
        obtain ⟨l2, hl2, h1⟩ := bnd_e h1
        obtain ⟨l3, hl3, h1⟩ := bnd_e h1
        refine St.stA ebool hl2 hl3 rfl rfl rfl rfl rfl rfl .z ?_
        refine St.p rfl rfl ?_
        refine St.done ?_
        refine St.thenN ?_
        refine St.prune (Γ' := [(2, _), (3, _)]) ⟨rfl, rfl, trivial⟩ (.k .z) ?_
        refine St.ret ?_
        repeat (first | refine St.thenR ?_ | refine St.blkR ?_)
        refine St.asrt (fun _ w => Sat.ownBox (chkLen_len hl3) (w.front .z) rfl) ?_
        injection h1 with h1
        subst h1
        have ho := hd1 _ rfl
        subst ho
        have h : some _ = some _ := h
        injection h with h
        subst h
        exact St.finR Tryd.results53 (.cell rfl (.head _) (ppart_all ebool l3 rfl rfl rfl (chkLen_len hl3)) (.tmp rfl .nil)) rfl [] ⟨rfl, rfl⟩ (fun _ w => ((.d .z) : Keep _ _).sat w)
      · replace h1 := bif_f hb2 h1
        refine St.skip ?_
        refine St.thenN ?_
        refine St.prune (Γ' := [(0, _), (2, _), (4, _), (5, _)]) ⟨rfl, rfl, rfl, rfl, trivial⟩ (.k .z) ?_
        refine St.region ?_
        refine St.p rfl rfl ?_
        obtain ⟨l4, hl4, h1⟩ := bnd_e h1
        obtain ⟨x1, hx1, h1⟩ := bnd_e h1
        refine St.ixA (sz := 1) hx1 rfl rfl rfl (chkLen_n hl4) rfl rfl rfl rfl ?_
        obtain ⟨l5, hl5, h1⟩ := bnd_e h1
        refine St.stO 0 hx1 hl5 rfl rfl .z rfl rfl rfl rfl rfl ?_
        refine St.done ?_
        refine St.blkN ?_
        refine St.thenN ?_
        refine St.prune (Γ' := [(0, _), (2, _), (4, _)]) ⟨rfl, rfl, rfl, trivial⟩ (.k .z) ?_
        refine St.region ?_
        iterate 3 refine St.p rfl rfl ?_
        refine St.done ?_
        injection h1 with h1
        subst h1
        refine St.thenN ?_
        exact St.again _ () hm1 trivial ⟨rfl, rfl, rfl, trivial⟩ (fun _ w => ((.k .z) : Keep _ _).sat w)
    · replace h1 := bif_f hb1 h1
      refine St.exit ?_
      repeat (first | refine St.thenX ?_ | refine St.blkMiss rfl ?_)
      refine St.blkHit ?_
      injection h1 with h1
      subst h1
      have ho := hd1 _ rfl
      subst ho
      refine St.thenN ?_
      exact St.hereI s1.1 () rfl ⟨rfl, trivial⟩ (fun _ w => ((.k .z) : Keep _ _).sat w)
  · rintro o2 e2 ho
    subst ho
    have h : _ = some _ := h
    refine St.seq ?_
    refine St.region ?_
    obtain ⟨l6, hl6, h⟩ := bnd_e h
    refine St.ldA ebool hl6 rfl rfl rfl rfl rfl rfl rfl .z ?_
    obtain ⟨l7, hl7, h⟩ := bnd_e h
    obtain ⟨l8, hl8, h⟩ := bnd_e h
    refine St.stA ebool hl7 hl8 rfl rfl rfl rfl rfl rfl .z ?_
    refine St.p rfl rfl ?_
    refine St.done ?_
    refine St.thenN ?_
    refine St.prune (Γ' := [(2, _), (3, _)]) ⟨rfl, rfl, trivial⟩ (.k .z) ?_
    refine St.ret ?_
    repeat (first | refine St.thenR ?_ | refine St.blkR ?_)
    refine St.asrt (fun _ w => Sat.ownBox (chkLen_len hl8) (w.front .z) rfl) ?_
    injection h with h
    subst h
    exact St.finR Tryd.results53 (.cell rfl (.head _) (ppart_all ebool l8 rfl rfl rfl (chkLen_len hl8)) (.tmp rfl .nil)) rfl [] ⟨rfl, rfl⟩ (fun _ w => ((.d .z) : Keep _ _).sat w)

theorem ent62 : Ent Tryd.prog 62 := ⟨_, Tryd.func62, by kernel_rfl, by kernel_rfl⟩

noncomputable def m_strings_asciiSet_contains (as_p0 : (List Bool)) (c_p1 : Int) : Option Bool :=
  bnd (chkLen 256 as_p0) fun l1 => bnd (elt as_p0 c_p1) fun x1 => some x1

theorem c_strings_asciiSet_contains {as_p0 : (List Bool)} {c_p1 : Int} {gb1 : Nat} {r : Bool} (h : m_strings_asciiSet_contains as_p0 c_p1 = some r) :
    Fun Tryd.prog 62 [.pointer (some ⟨gb1, 0, none⟩), .int .u8 c_p1] [.res (OwnL ebool 72 (some ⟨gb1, 0, none⟩) 256 as_p0)] (fun v_ F_ => v_ = .bool r ∧ F_ = [.res (OwnL ebool 72 (some ⟨gb1, 0, none⟩) 256 as_p0)]) := by
  unfold m_strings_asciiSet_contains at h
  refine Fun.intro Tryd.func62 rfl rfl rfl fun w R => ?_
  refine St.seq ?_
  refine St.region ?_
  refine St.p rfl rfl ?_
  refine St.done ?_
  refine St.thenN ?_
  refine St.prune (Γ' := [(0, _), (1, _)]) ⟨rfl, rfl, trivial⟩ (.k .z) ?_
  refine St.seq ?_
  refine St.region ?_
  iterate 3 refine St.p rfl rfl ?_
  obtain ⟨l1, hl1, h⟩ := bnd_e h
  obtain ⟨x1, hx1, h⟩ := bnd_e h
  refine St.ixA (sz := 1) hx1 rfl rfl rfl (chkLen_n hl1) rfl rfl rfl rfl ?_
  refine St.ldO 0 hx1 rfl rfl (.head _) rfl rfl ?_
  refine St.p rfl rfl ?_
  refine St.done ?_
  refine St.thenN ?_
  refine St.prune (Γ' := [(4, _)]) ⟨rfl, trivial⟩ (.k .z) ?_
  refine St.ret ?_
  repeat (first | refine St.thenR ?_ | refine St.blkR ?_)
  injection h with h
  subst h
  exact St.finR Tryd.results62 (.tmp rfl .nil) rfl [.res (OwnL ebool 72 (some ⟨gb1, 0, none⟩) 256 as_p0)] ⟨rfl, rfl⟩ (fun _ w => ((.k .z) : Keep _ _).sat w)

theorem ent55 : Ent Tryd.prog 55 := ⟨_, Tryd.func55, by kernel_rfl, by kernel_rfl⟩

noncomputable def m_strings_trimRightASCII (s_p0 : ByteArray) (as_p1 : (List Bool)) : Option ByteArray :=
  bnd (loopM (τ := ByteArray) (fun (s1 : ByteArray) => bif decide ((s1.size : Int) > 0) then (bnd (eltS s1 (IntKind.wrap .i64 ((s1.size : Int) - 1))) fun y1 => bnd (m_strings_asciiSet_contains as_p1 y1) fun r1 => bif !r1 then (some (.done s1)) else (bnd (subS s1 0 (IntKind.wrap .i64 ((s1.size : Int) - 1))) fun t1 => some (.next t1))) else (some (.done s1))) s_p0) fun o1 => some o1

theorem c_strings_trimRightASCII {s_p0 : ByteArray} {as_p1 : (List Bool)} {gb1 : Nat} {r : ByteArray} (h : m_strings_trimRightASCII s_p0 as_p1 = some r) :
    Fun Tryd.prog 55 [.string s_p0, .pointer (some ⟨gb1, 0, none⟩)] [.res (OwnL ebool 72 (some ⟨gb1, 0, none⟩) 256 as_p1)] (fun v_ F_ => v_ = .string r ∧ F_ = [.res (OwnL ebool 72 (some ⟨gb1, 0, none⟩) 256 as_p1)]) := by
  unfold m_strings_trimRightASCII at h
  refine Fun.intro Tryd.func55 rfl rfl rfl fun w R => ?_
  refine St.seq ?_
  refine St.region ?_
  refine St.p rfl rfl ?_
  refine St.done ?_
  refine St.thenN ?_
  refine St.prune (Γ' := [(0, _), (1, _)]) ⟨rfl, rfl, trivial⟩ (.k .z) ?_
  refine St.seq ?_
  obtain ⟨o1, hl1, h⟩ := bnd_e h
  refine St.cutE (fun (e2 : Unit) => [(0, .string o1)]) (fun e2 => .res (OwnL ebool 72 (some ⟨gb1, 0, none⟩) 256 as_p1) :: R) ?_ ?_
  · refine St.block ?_
    refine St.loop hl1 (fun (s1 : ByteArray) (e1 : Unit) => [(0, .string s1), (1, .pointer (some ⟨gb1, 0, none⟩))]) (fun s1 e1 => .res (OwnL ebool 72 (some ⟨gb1, 0, none⟩) 256 as_p1) :: R) (fun _ _ => True) () trivial ⟨rfl, rfl, trivial⟩ (fun _ w => ((.k .z) : Keep _ _).sat w) ?_
    rintro s1 e1 - hit1
    obtain ⟨st1, hm1, hd1⟩ := iter_e hit1
    have h1 := hm1
    refine St.seq ?_
    refine St.seq ?_
    refine St.region ?_
    iterate 3 refine St.p rfl rfl ?_
    refine St.done ?_
    refine St.thenN ?_
    refine St.prune (Γ' := [(0, _), (1, _), (7, _)]) ⟨rfl, rfl, rfl, trivial⟩ (.k .z) ?_
    refine St.cond _ rfl (fun hb1 => ?_) (fun hb1 => ?_)
    · replace h1 := bif_t hb1 h1
      refine St.skip ?_
      refine St.thenN ?_
      refine St.prune (Γ' := [(0, _), (1, _)]) ⟨rfl, rfl, trivial⟩ (.k .z) ?_
      refine St.block ?_
      refine St.seq ?_
      refine St.seq ?_
      refine St.region ?_
      iterate 5 refine St.p rfl rfl ?_
      obtain ⟨y1, hy1, h1⟩ := bnd_e h1
      refine St.eltS rfl rfl rfl rfl rfl hy1 ?_
      obtain ⟨r1, hr1, h1⟩ := bnd_e h1
      refine St.call (c_strings_asciiSet_contains hr1) ent62 rfl rfl rfl (fun _ w => (w.front .z)) ?_
      rintro _ _ ⟨rfl, rfl⟩
      refine St.asrt (F' := .res (OwnL ebool 72 (some ⟨gb1, 0, none⟩) 256 as_p1) :: R) (fun _ w => w) ?_
      refine St.p rfl rfl ?_
      refine St.done ?_
      refine St.thenN ?_
      refine St.prune (Γ' := [(0, _), (1, _), (15, _)]) ⟨rfl, rfl, rfl, trivial⟩ (.k .z) ?_
      refine St.cond _ rfl (fun hb2 => ?_) (fun hb2 => ?_)
      · replace h1 := bif_t hb2 h1
        refine St.exit ?_
        repeat (first | refine St.thenX ?_ | refine St.blkMiss rfl ?_)
        refine St.blkHit ?_
        injection h1 with h1
        subst h1
        have ho := hd1 _ rfl
        subst ho
        refine St.thenN ?_
        exact St.hereE () ⟨rfl, trivial⟩ (fun _ w => ((.k .z) : Keep _ _).sat w)
      · replace h1 := bif_f hb2 h1
        refine St.skip ?_
        refine St.thenN ?_
        refine St.prune (Γ' := [(0, _), (1, _)]) ⟨rfl, rfl, trivial⟩ (.k .z) ?_
        refine St.region ?_
        iterate 4 refine St.p rfl rfl ?_
        obtain ⟨t1, ht1, h1⟩ := bnd_e h1
        refine St.subS rfl rfl rfl rfl rfl rfl ht1 ?_
        refine St.p rfl rfl ?_
        refine St.done ?_
        refine St.blkN ?_
        injection h1 with h1
        subst h1
        refine St.thenN ?_
        exact St.again _ () hm1 trivial ⟨rfl, rfl, trivial⟩ (fun _ w => ((.k .z) : Keep _ _).sat w)
    · replace h1 := bif_f hb1 h1
      refine St.exit ?_
      repeat (first | refine St.thenX ?_ | refine St.blkMiss rfl ?_)
      refine St.blkHit ?_
      injection h1 with h1
      subst h1
      have ho := hd1 _ rfl
      subst ho
      refine St.thenN ?_
      exact St.hereE () ⟨rfl, trivial⟩ (fun _ w => ((.k .z) : Keep _ _).sat w)
  · rintro e2
    refine St.seq ?_
    refine St.region ?_
    refine St.p rfl rfl ?_
    refine St.p rfl rfl ?_
    refine St.done ?_
    refine St.thenN ?_
    refine St.prune (Γ' := [(4, _)]) ⟨rfl, trivial⟩ (.k .z) ?_
    refine St.ret ?_
    repeat (first | refine St.thenR ?_ | refine St.blkR ?_)
    injection h with h
    subst h
    exact St.finR Tryd.results55 (.tmp rfl .nil) rfl [.res (OwnL ebool 72 (some ⟨gb1, 0, none⟩) 256 as_p1)] ⟨rfl, rfl⟩ (fun _ w => ((.k .z) : Keep _ _).sat w)

theorem ent54 : Ent Tryd.prog 54 := ⟨_, Tryd.func54, by kernel_rfl, by kernel_rfl⟩

noncomputable def m_strings_trimLeftASCII (s_p0 : ByteArray) (as_p1 : (List Bool)) : Option ByteArray :=
  bnd (loopM (τ := ByteArray) (fun (s1 : ByteArray) => bif decide ((s1.size : Int) > 0) then (bnd (eltS s1 0) fun y1 => bnd (m_strings_asciiSet_contains as_p1 y1) fun r1 => bif !r1 then (some (.done s1)) else (bnd (subS s1 1 (s1.size : Int)) fun t1 => some (.next t1))) else (some (.done s1))) s_p0) fun o1 => some o1

theorem c_strings_trimLeftASCII {s_p0 : ByteArray} {as_p1 : (List Bool)} {gb1 : Nat} {r : ByteArray} (h : m_strings_trimLeftASCII s_p0 as_p1 = some r) :
    Fun Tryd.prog 54 [.string s_p0, .pointer (some ⟨gb1, 0, none⟩)] [.res (OwnL ebool 72 (some ⟨gb1, 0, none⟩) 256 as_p1)] (fun v_ F_ => v_ = .string r ∧ F_ = [.res (OwnL ebool 72 (some ⟨gb1, 0, none⟩) 256 as_p1)]) := by
  unfold m_strings_trimLeftASCII at h
  refine Fun.intro Tryd.func54 rfl rfl rfl fun w R => ?_
  refine St.seq ?_
  refine St.region ?_
  refine St.p rfl rfl ?_
  refine St.done ?_
  refine St.thenN ?_
  refine St.prune (Γ' := [(0, _), (1, _)]) ⟨rfl, rfl, trivial⟩ (.k .z) ?_
  refine St.seq ?_
  obtain ⟨o1, hl1, h⟩ := bnd_e h
  refine St.cutE (fun (e2 : Unit) => [(0, .string o1)]) (fun e2 => .res (OwnL ebool 72 (some ⟨gb1, 0, none⟩) 256 as_p1) :: R) ?_ ?_
  · refine St.block ?_
    refine St.loop hl1 (fun (s1 : ByteArray) (e1 : Unit) => [(0, .string s1), (1, .pointer (some ⟨gb1, 0, none⟩))]) (fun s1 e1 => .res (OwnL ebool 72 (some ⟨gb1, 0, none⟩) 256 as_p1) :: R) (fun _ _ => True) () trivial ⟨rfl, rfl, trivial⟩ (fun _ w => ((.k .z) : Keep _ _).sat w) ?_
    rintro s1 e1 - hit1
    obtain ⟨st1, hm1, hd1⟩ := iter_e hit1
    have h1 := hm1
    refine St.seq ?_
    refine St.seq ?_
    refine St.region ?_
    iterate 3 refine St.p rfl rfl ?_
    refine St.done ?_
    refine St.thenN ?_
    refine St.prune (Γ' := [(0, _), (1, _), (7, _)]) ⟨rfl, rfl, rfl, trivial⟩ (.k .z) ?_
    refine St.cond _ rfl (fun hb1 => ?_) (fun hb1 => ?_)
    · replace h1 := bif_t hb1 h1
      refine St.skip ?_
      refine St.thenN ?_
      refine St.prune (Γ' := [(0, _), (1, _)]) ⟨rfl, rfl, trivial⟩ (.k .z) ?_
      refine St.block ?_
      refine St.seq ?_
      refine St.seq ?_
      refine St.region ?_
      refine St.p rfl rfl ?_
      refine St.p rfl rfl ?_
      obtain ⟨y1, hy1, h1⟩ := bnd_e h1
      refine St.eltS rfl rfl rfl rfl rfl hy1 ?_
      obtain ⟨r1, hr1, h1⟩ := bnd_e h1
      refine St.call (c_strings_asciiSet_contains hr1) ent62 rfl rfl rfl (fun _ w => (w.front .z)) ?_
      rintro _ _ ⟨rfl, rfl⟩
      refine St.asrt (F' := .res (OwnL ebool 72 (some ⟨gb1, 0, none⟩) 256 as_p1) :: R) (fun _ w => w) ?_
      refine St.p rfl rfl ?_
      refine St.done ?_
      refine St.thenN ?_
      refine St.prune (Γ' := [(0, _), (1, _), (12, _)]) ⟨rfl, rfl, rfl, trivial⟩ (.k .z) ?_
      refine St.cond _ rfl (fun hb2 => ?_) (fun hb2 => ?_)
      · replace h1 := bif_t hb2 h1
        refine St.exit ?_
        repeat (first | refine St.thenX ?_ | refine St.blkMiss rfl ?_)
        refine St.blkHit ?_
        injection h1 with h1
        subst h1
        have ho := hd1 _ rfl
        subst ho
        refine St.thenN ?_
        exact St.hereE () ⟨rfl, trivial⟩ (fun _ w => ((.k .z) : Keep _ _).sat w)
      · replace h1 := bif_f hb2 h1
        refine St.skip ?_
        refine St.thenN ?_
        refine St.prune (Γ' := [(0, _), (1, _)]) ⟨rfl, rfl, trivial⟩ (.k .z) ?_
        refine St.region ?_
        refine St.p rfl rfl ?_
        obtain ⟨t1, ht1, h1⟩ := bnd_e h1
        refine St.subS rfl rfl rfl rfl rfl rfl ht1 ?_
        refine St.p rfl rfl ?_
        refine St.done ?_
        refine St.blkN ?_
        injection h1 with h1
        subst h1
        refine St.thenN ?_
        exact St.again _ () hm1 trivial ⟨rfl, rfl, trivial⟩ (fun _ w => ((.k .z) : Keep _ _).sat w)
    · replace h1 := bif_f hb1 h1
      refine St.exit ?_
      repeat (first | refine St.thenX ?_ | refine St.blkMiss rfl ?_)
      refine St.blkHit ?_
      injection h1 with h1
      subst h1
      have ho := hd1 _ rfl
      subst ho
      refine St.thenN ?_
      exact St.hereE () ⟨rfl, trivial⟩ (fun _ w => ((.k .z) : Keep _ _).sat w)
  · rintro e2
    refine St.seq ?_
    refine St.region ?_
    refine St.p rfl rfl ?_
    refine St.p rfl rfl ?_
    refine St.done ?_
    refine St.thenN ?_
    refine St.prune (Γ' := [(4, _)]) ⟨rfl, trivial⟩ (.k .z) ?_
    refine St.ret ?_
    repeat (first | refine St.thenR ?_ | refine St.blkR ?_)
    injection h with h
    subst h
    exact St.finR Tryd.results54 (.tmp rfl .nil) rfl [.res (OwnL ebool 72 (some ⟨gb1, 0, none⟩) 256 as_p1)] ⟨rfl, rfl⟩ (fun _ w => ((.k .z) : Keep _ _).sat w)

theorem ent69 : Ent Tryd.prog 69 := ⟨_, Tryd.func69, by kernel_rfl, by kernel_rfl⟩

noncomputable def m_unicode_utf8_RuneStart (b_p0 : Int) : Option Bool :=
  some ((iAnd .u8 b_p0 192) != 128)

theorem c_unicode_utf8_RuneStart {b_p0 : Int} {r : Bool} (h : m_unicode_utf8_RuneStart b_p0 = some r) :
    Fun Tryd.prog 69 [.int .u8 b_p0] [] (Val (.bool r)) := by
  unfold m_unicode_utf8_RuneStart at h
  refine Fun.intro Tryd.func69 rfl rfl rfl fun w R => ?_
  refine St.seq ?_
  refine St.region ?_
  refine St.p rfl rfl ?_
  refine St.done ?_
  refine St.thenN ?_
  refine St.prune (Γ' := [(0, _)]) ⟨rfl, trivial⟩ .z ?_
  refine St.seq ?_
  refine St.region ?_
  iterate 4 refine St.p rfl rfl ?_
  refine St.done ?_
  refine St.thenN ?_
  refine St.prune (Γ' := [(2, _)]) ⟨rfl, trivial⟩ .z ?_
  refine St.ret ?_
  repeat (first | refine St.thenR ?_ | refine St.blkR ?_)
  injection h with h
  subst h
  exact St.finR Tryd.results69 (.tmp rfl .nil) rfl [] ⟨rfl, rfl⟩ (fun _ w => (.z : Keep _ _).sat w)

theorem ent39 : Ent Tryd.prog 39 := ⟨_, Tryd.func39, by kernel_rfl, by kernel_rfl⟩

noncomputable def m_strings_Trim (s_p0 : ByteArray) (cutset : ByteArray) : Option ByteArray :=
  bnd ((bif (s_p0.toList == ((⟨#[]⟩) : ByteArray).toList) then (some true) else (some (cutset.toList == ((⟨#[]⟩) : ByteArray).toList)) : Option Bool)) fun o1 => bif o1 then (some s_p0) else (bnd ((bif ((cutset.size : Int) == 1) then (bnd (eltS cutset 0) fun y1 => some (decide (y1 < 128))) else (some false) : Option Bool)) fun o2 => bif o2 then (bnd (eltS cutset 0) fun y2 => bnd (m_strings_trimRightByte s_p0 y2) fun r1 => bnd (m_strings_trimLeftByte r1 y2) fun r2 => some r2) else (bnd (m_strings_makeASCIISet cutset) fun r3 => bnd (chkLen 256 (List.replicate 256 false)) fun l1 => bnd (chkLen 256 r3.1) fun l2 => bif r3.2 then (bnd (m_strings_trimRightASCII s_p0 l2) fun r4 => bnd (m_strings_trimLeftASCII r4 l2) fun r5 => some r5) else (none)))

theorem c_strings_Trim {s_p0 : ByteArray} {cutset : ByteArray} {r : ByteArray} (h : m_strings_Trim s_p0 cutset = some r) :
    Fun Tryd.prog 39 [.string s_p0, .string cutset] [] (Val (.string r)) := by
  unfold m_strings_Trim at h
  refine Fun.intro Tryd.func39 rfl rfl rfl fun w R => ?_
  refine St.seq ?_
  refine St.region ?_
  refine St.p rfl rfl ?_
  refine St.done ?_
  refine St.thenN ?_
  refine St.prune (Γ' := [(0, _), (1, _)]) ⟨rfl, rfl, trivial⟩ .z ?_
  refine St.seq ?_
  refine St.seq ?_
  obtain ⟨o1, hj1, h⟩ := bnd_e h
  refine St.cutE (fun (e1 : Unit) => [(0, .string s_p0), (1, .string cutset), (12, .bool o1)]) (fun e1 => R) ?_ ?_
  · refine St.region ?_
    iterate 3 refine St.p rfl rfl ?_
    refine St.gSplit (dj := 9) _ rfl (fun hb1 => ?_) (fun hb1 => ?_)
    · replace hj1 := bif_t hb1 hj1
      refine St.gOff (dj := 9) rfl rfl rfl rfl ?_
      refine St.gOff (dj := 9) rfl rfl rfl rfl ?_
      refine St.p rfl rfl ?_
      refine St.done ?_
      injection hj1 with hj1
      subst hj1
      refine St.thenN ?_
      exact St.hereE () ⟨rfl, rfl, rfl, trivial⟩ (fun _ w => (.z : Keep _ _).sat w)
    · replace hj1 := bif_f hb1 hj1
      refine St.gOn (dj := 9) rfl rfl ?_
      refine St.p rfl rfl ?_
      refine St.gOn (dj := 9) rfl rfl ?_
      refine St.p rfl rfl ?_
      refine St.p rfl rfl ?_
      refine St.done ?_
      injection hj1 with hj1
      subst hj1
      refine St.thenN ?_
      exact St.hereE () ⟨rfl, rfl, rfl, trivial⟩ (fun _ w => (.z : Keep _ _).sat w)
  · rintro e1
    refine St.cond _ rfl (fun hb2 => ?_) (fun hb2 => ?_)
    · replace h := bif_t hb2 h
      refine St.seq ?_
      refine St.region ?_
      refine St.p rfl rfl ?_
      refine St.p rfl rfl ?_
      refine St.done ?_
      refine St.thenN ?_
      refine St.prune (Γ' := [(4, _)]) ⟨rfl, trivial⟩ .z ?_
      refine St.ret ?_
      repeat (first | refine St.thenR ?_ | refine St.blkR ?_)
      injection h with h
      subst h
      exact St.finR Tryd.results39 (.tmp rfl .nil) rfl [] ⟨rfl, rfl⟩ (fun _ w => (.z : Keep _ _).sat w)
    · replace h := bif_f hb2 h
      refine St.skip ?_
      refine St.thenN ?_
      refine St.prune (Γ' := [(0, _), (1, _)]) ⟨rfl, rfl, trivial⟩ .z ?_
      refine St.seq ?_
      refine St.seq ?_
      obtain ⟨o2, hj2, h⟩ := bnd_e h
      refine St.cutE (fun (e2 : Unit) => [(0, .string s_p0), (1, .string cutset), (21, .bool o2)]) (fun e2 => R) ?_ ?_
      · refine St.region ?_
        iterate 4 refine St.p rfl rfl ?_
        refine St.gSplit (dj := 17) _ rfl (fun hb3 => ?_) (fun hb3 => ?_)
        · replace hj2 := bif_t hb3 hj2
          refine St.gOn (dj := 17) rfl rfl ?_
          refine St.p rfl rfl ?_
          refine St.gOn (dj := 17) rfl rfl ?_
          obtain ⟨y1, hy1, hj2⟩ := bnd_e hj2
          refine St.eltS rfl rfl rfl rfl rfl hy1 ?_
          refine St.gOn (dj := 17) rfl rfl ?_
          refine St.p rfl rfl ?_
          refine St.p rfl rfl ?_
          refine St.done ?_
          injection hj2 with hj2
          subst hj2
          refine St.thenN ?_
          exact St.hereE () ⟨rfl, rfl, rfl, trivial⟩ (fun _ w => (.z : Keep _ _).sat w)
        · replace hj2 := bif_f hb3 hj2
          refine St.gOff (dj := 17) rfl rfl rfl rfl ?_
          refine St.gOff (dj := 17) rfl rfl rfl rfl ?_
          refine St.gOff (dj := 17) rfl rfl rfl rfl ?_
          refine St.p rfl rfl ?_
          refine St.done ?_
          injection hj2 with hj2
          subst hj2
          refine St.thenN ?_
          exact St.hereE () ⟨rfl, rfl, rfl, trivial⟩ (fun _ w => (.z : Keep _ _).sat w)
      · rintro e2
        refine St.cond _ rfl (fun hb4 => ?_) (fun hb4 => ?_)
        · replace h := bif_t hb4 h
          refine St.seq ?_
          refine St.regionF mixed (by kernel_rfl) ?_
          refine St.p rfl rfl ?_
          refine St.p rfl rfl ?_
          obtain ⟨y2, hy2, h⟩ := bnd_e h
          refine St.eltS rfl rfl rfl rfl rfl hy2 ?_
          obtain ⟨r1, hr1, h⟩ := bnd_e h
          refine St.callV (c_strings_trimRightByte hr1) ent52 rfl rfl rfl rfl trivial ?_
          refine St.p rfl rfl ?_
          refine St.eltS rfl rfl rfl rfl rfl hy2 ?_
          obtain ⟨r2, hr2, h⟩ := bnd_e h
          refine St.callV (c_strings_trimLeftByte hr2) ent51 rfl rfl rfl rfl trivial ?_
          refine St.p rfl rfl ?_
          refine St.doneQ ?_
          refine St.thenN ?_
          refine St.prune (Γ' := [(4, _)]) ⟨rfl, trivial⟩ .z ?_
          refine St.ret ?_
          repeat (first | refine St.thenR ?_ | refine St.blkR ?_)
          injection h with h
          subst h
          exact St.finR Tryd.results39 (.tmp rfl .nil) rfl [] ⟨rfl, rfl⟩ (fun _ w => (.z : Keep _ _).sat w)
        · replace h := bif_f hb4 h
          refine St.skip ?_
          refine St.thenN ?_
          refine St.prune (Γ' := [(0, _), (1, _)]) ⟨rfl, rfl, trivial⟩ .z ?_
          refine St.seq ?_
          refine St.seq ?_
          refine St.region ?_
          refine St.p rfl rfl ?_
          obtain ⟨r3, hr3, h⟩ := bnd_e h
          refine St.callV (c_strings_makeASCIISet hr3) ent53 rfl rfl rfl rfl trivial ?_
          iterate 3 refine St.p rfl rfl ?_
          refine St.allocA (n := 256) ebool false rfl rfl (by kernel_rfl) rfl fun g1 => ?_
          obtain ⟨l1, hl1, h⟩ := bnd_e h
          obtain ⟨l2, hl2, h⟩ := bnd_e h
          refine St.stA ebool hl1 hl2 rfl rfl rfl rfl rfl rfl .z ?_
          refine St.p rfl rfl ?_
          refine St.done ?_
          refine St.thenN ?_
          refine St.prune (Γ' := [(0, _), (1, _), (5, _), (6, _)]) ⟨rfl, rfl, rfl, rfl, trivial⟩ (.k .z) ?_
          refine St.seq ?_
          refine St.region ?_
          refine St.p rfl rfl ?_
          refine St.done ?_
          refine St.thenN ?_
          refine St.prune (Γ' := [(0, _), (1, _), (5, _), (34, _)]) ⟨rfl, rfl, rfl, rfl, trivial⟩ (.k .z) ?_
          refine St.cond _ rfl (fun hb5 => ?_) (fun hb5 => ?_)
          · replace h := bif_t hb5 h
            refine St.seq ?_
            refine St.region ?_
            refine St.p rfl rfl ?_
            obtain ⟨r4, hr4, h⟩ := bnd_e h
            refine St.call (c_strings_trimRightASCII hr4) ent55 rfl rfl rfl (fun _ w => (w.front .z)) ?_
            rintro _ _ ⟨rfl, rfl⟩
            refine St.asrt (F' := .res (OwnL ebool 72 (some ⟨g1, 0, none⟩) 256 l2) :: R) (fun _ w => w) ?_
            obtain ⟨r5, hr5, h⟩ := bnd_e h
            refine St.call (c_strings_trimLeftASCII hr5) ent54 rfl rfl rfl (fun _ w => (w.front .z)) ?_
            rintro _ _ ⟨rfl, rfl⟩
            refine St.asrt (F' := .res (OwnL ebool 72 (some ⟨g1, 0, none⟩) 256 l2) :: R) (fun _ w => w) ?_
            refine St.p rfl rfl ?_
            refine St.done ?_
            refine St.thenN ?_
            refine St.prune (Γ' := [(4, _)]) ⟨rfl, trivial⟩ (.d .z) ?_
            refine St.ret ?_
            repeat (first | refine St.thenR ?_ | refine St.blkR ?_)
            injection h with h
            subst h
            exact St.finR Tryd.results39 (.tmp rfl .nil) rfl [] ⟨rfl, rfl⟩ (fun _ w => (.z : Keep _ _).sat w)
          · replace h := bif_f hb5 h
            refine St.skip ?_
            refine St.thenN ?_
            refine St.prune (Γ' := [(0, _), (1, _)]) ⟨rfl, rfl, trivial⟩ (.d .z) ?_
            refine St.seq ?_
            refine St.region ?_
            refine St.p rfl rfl ?_
            refine St.p rfl rfl ?_
            cases h

theorem ent40 : Ent Tryd.prog 40 := ⟨_, Tryd.func40, by kernel_rfl, by kernel_rfl⟩

noncomputable def m_fields_sixBytes (n_p0 : Int) : Option Int :=
  some (IntKind.wrap .i64 ((IntKind.wrap .i64 ((IntKind.wrap .i64 (6 * n_p0)) + 7)).tdiv 8))

theorem c_fields_sixBytes {n_p0 : Int} {r : Int} (h : m_fields_sixBytes n_p0 = some r) :
    Fun Tryd.prog 40 [.int .i64 n_p0] [] (Val (.int .i64 r)) := by
  unfold m_fields_sixBytes at h
  refine Fun.intro Tryd.func40 rfl rfl rfl fun w R => ?_
  refine St.seq ?_
  refine St.region ?_
  refine St.p rfl rfl ?_
  refine St.done ?_
  refine St.thenN ?_
  refine St.prune (Γ' := [(0, _)]) ⟨rfl, trivial⟩ .z ?_
  refine St.seq ?_
  refine St.region ?_
  iterate 5 refine St.p rfl rfl ?_
  refine St.done ?_
  refine St.thenN ?_
  refine St.prune (Γ' := [(2, _)]) ⟨rfl, trivial⟩ .z ?_
  refine St.ret ?_
  repeat (first | refine St.thenR ?_ | refine St.blkR ?_)
  injection h with h
  subst h
  exact St.finR Tryd.results40 (.tmp rfl .nil) rfl [] ⟨rfl, rfl⟩ (fun _ w => (.z : Keep _ _).sat w)

theorem ent41 : Ent Tryd.prog 41 := ⟨_, Tryd.func41, by kernel_rfl, by kernel_rfl⟩

noncomputable def m_fields_six (s_p0 : ByteArray) : Option Bool :=
  bnd (loopM (τ := Bool ⊕ Unit) (fun (s1 : Int) => bif decide (s1 < (s_p0.size : Int)) then (bnd ((bnd (eltS s_p0 s1) fun y1 => bif decide (y1 < 32) then (some true) else (some (decide (y1 > 95))) : Option Bool)) fun o3 => bif o3 then (some (.done (.inl false))) else (some (.next (IntKind.wrap .i64 (s1 + 1))))) else (some (.done (.inr ())))) 0) fun o1 => retOr o1 fun o2 => some true

theorem c_fields_six {s_p0 : ByteArray} {r : Bool} (h : m_fields_six s_p0 = some r) :
    Fun Tryd.prog 41 [.string s_p0] [] (Val (.bool r)) := by
  unfold m_fields_six at h
  refine Fun.intro Tryd.func41 rfl rfl rfl fun w R => ?_
  refine St.seq ?_
  refine St.region ?_
  refine St.p rfl rfl ?_
  refine St.done ?_
  refine St.thenN ?_
  refine St.prune (Γ' := [(0, _)]) ⟨rfl, trivial⟩ .z ?_
  refine St.seq ?_
  refine St.seq ?_
  refine St.region ?_
  iterate 3 refine St.p rfl rfl ?_
  refine St.done ?_
  refine St.thenN ?_
  refine St.prune (Γ' := [(0, _), (5, _), (6, _)]) ⟨rfl, rfl, rfl, trivial⟩ .z ?_
  obtain ⟨o1, hl1, h⟩ := bnd_e h
  refine St.cutI (fun (o2 : Unit) (e2 : Unit) => []) (fun o2 e2 => R) (fun o2 => o1 = .inr o2) ?_ ?_
  · refine St.block ?_
    refine St.loop hl1 (fun (s1 : Int) (e1 : Unit) => [(0, .string s_p0), (5, .int .i64 (s_p0.size : Int)), (6, .int .i64 s1)]) (fun s1 e1 => R) (fun _ _ => True) () trivial ⟨rfl, rfl, rfl, trivial⟩ (fun _ w => (.z : Keep _ _).sat w) ?_
    rintro s1 e1 - hit1
    obtain ⟨st1, hm1, hd1⟩ := iter_e hit1
    have h1 := hm1
    refine St.seq ?_
    refine St.region ?_
    refine St.p rfl rfl ?_
    refine St.done ?_
    refine St.thenN ?_
    refine St.seq ?_
    refine St.cond _ rfl (fun hb1 => ?_) (fun hb1 => ?_)
    · replace h1 := bif_t hb1 h1
      refine St.skip ?_
      refine St.thenN ?_
      refine St.prune (Γ' := [(0, _), (5, _), (6, _)]) ⟨rfl, rfl, rfl, trivial⟩ .z ?_
      refine St.seq ?_
      refine St.block ?_
      refine St.seq ?_
      refine St.region ?_
      refine St.p rfl rfl ?_
      refine St.p rfl rfl ?_
      refine St.done ?_
      refine St.thenN ?_
      refine St.prune (Γ' := [(0, _), (3, _), (5, _), (6, _)]) ⟨rfl, rfl, rfl, rfl, trivial⟩ .z ?_
      refine St.seq ?_
      obtain ⟨o3, hj1, h1⟩ := bnd_e h1
      refine St.cutE (fun (e3 : Unit) => [(0, .string s_p0), (5, .int .i64 (s_p0.size : Int)), (6, .int .i64 s1), (18, .bool o3)]) (fun e3 => R) ?_ ?_
      · refine St.region ?_
        refine St.p rfl rfl ?_
        refine St.p rfl rfl ?_
        obtain ⟨y1, hy1, hj1⟩ := bnd_e hj1
        refine St.eltS rfl rfl rfl rfl rfl hy1 ?_
        refine St.p rfl rfl ?_
        refine St.p rfl rfl ?_
        refine St.gSplit (dj := 13) _ rfl (fun hb2 => ?_) (fun hb2 => ?_)
        · replace hj1 := bif_t hb2 hj1
          refine St.gOff (dj := 13) rfl rfl rfl rfl ?_
          refine St.gOff (dj := 13) rfl rfl rfl rfl ?_
          refine St.gOff (dj := 13) rfl rfl rfl rfl ?_
          refine St.gOff (dj := 13) rfl rfl rfl rfl ?_
          refine St.p rfl rfl ?_
          refine St.done ?_
          injection hj1 with hj1
          subst hj1
          refine St.thenN ?_
          exact St.hereE () ⟨rfl, rfl, rfl, rfl, trivial⟩ (fun _ w => (.z : Keep _ _).sat w)
        · replace hj1 := bif_f hb2 hj1
          refine St.gOn (dj := 13) rfl rfl ?_
          refine St.p rfl rfl ?_
          refine St.gOn (dj := 13) rfl rfl ?_
          refine St.p rfl rfl ?_
          refine St.gOn (dj := 13) rfl rfl ?_
          refine St.eltS rfl rfl rfl rfl rfl hy1 ?_
          refine St.gOn (dj := 13) rfl rfl ?_
          refine St.p rfl rfl ?_
          refine St.p rfl rfl ?_
          refine St.done ?_
          injection hj1 with hj1
          subst hj1
          refine St.thenN ?_
          exact St.hereE () ⟨rfl, rfl, rfl, rfl, trivial⟩ (fun _ w => (.z : Keep _ _).sat w)
      · rintro e3
        refine St.cond _ rfl (fun hb3 => ?_) (fun hb3 => ?_)
        · replace h1 := bif_t hb3 h1
          refine St.seq ?_
          refine St.region ?_
          refine St.p rfl rfl ?_
          refine St.done ?_
          refine St.thenN ?_
          refine St.prune (Γ' := [(2, _)]) ⟨rfl, trivial⟩ .z ?_
          refine St.ret ?_
          repeat (first | refine St.thenR ?_ | refine St.blkR ?_)
          injection h1 with h1
          subst h1
          have ho := hd1 _ rfl
          subst ho
          have h : some _ = some _ := h
          injection h with h
          subst h
          exact St.finR Tryd.results41 (.tmp rfl .nil) rfl [] ⟨rfl, rfl⟩ (fun _ w => (.z : Keep _ _).sat w)
        · replace h1 := bif_f hb3 h1
          refine St.skip ?_
          refine St.blkN ?_
          refine St.thenN ?_
          refine St.prune (Γ' := [(0, _), (5, _), (6, _)]) ⟨rfl, rfl, rfl, trivial⟩ .z ?_
          refine St.region ?_
          refine St.p rfl rfl ?_
          refine St.p rfl rfl ?_
          refine St.done ?_
          injection h1 with h1
          subst h1
          refine St.thenN ?_
          exact St.again _ () hm1 trivial ⟨rfl, rfl, rfl, trivial⟩ (fun _ w => (.z : Keep _ _).sat w)
    · replace h1 := bif_f hb1 h1
      refine St.exit ?_
      repeat (first | refine St.thenX ?_ | refine St.blkMiss rfl ?_)
      refine St.blkHit ?_
      injection h1 with h1
      subst h1
      have ho := hd1 _ rfl
      subst ho
      refine St.thenN ?_
      exact St.hereI () () rfl trivial (fun _ w => (.z : Keep _ _).sat w)
  · rintro o2 e2 ho
    subst ho
    have h : _ = some _ := h
    refine St.seq ?_
    refine St.region ?_
    refine St.p rfl rfl ?_
    refine St.done ?_
    refine St.thenN ?_
    refine St.ret ?_
    repeat (first | refine St.thenR ?_ | refine St.blkR ?_)
    injection h with h
    subst h
    exact St.finR Tryd.results41 (.tmp rfl .nil) rfl [] ⟨rfl, rfl⟩ (fun _ w => (.z : Keep _ _).sat w)

theorem ent19 : Ent Tryd.prog 19 := ⟨_, Tryd.func19, by kernel_rfl, by kernel_rfl⟩

noncomputable def m_fields_Valid (f_p0 : T_Field) : Option Bool :=
  bif (f_p0.Kind == 0) then (some (decide ((f_p0.Value.size : Int) ≤ 63))) else (bif (f_p0.Kind == 1) then (bnd ((bif (((f_p0.Value.size : Int).tmod 2) == 0) then (bif decide ((f_p0.Value.size : Int) ≤ 126) then (bnd (m_strings_Trim f_p0.Value (⟨#[48, 49, 50, 51, 52, 53, 54, 55, 56, 57, 32, 45, 46]⟩)) fun r1 => some (r1.toList == ((⟨#[]⟩) : ByteArray).toList)) else (some false)) else (some false) : Option Bool)) fun o1 => some o1) else (bif (f_p0.Kind == 2) then (bnd ((bif (((f_p0.Value.size : Int).tmod 4) != 3) then (bnd (m_fields_sixBytes (f_p0.Value.size : Int)) fun r2 => bif decide (r2 ≤ 63) then (bnd (m_fields_six f_p0.Value) fun r3 => some r3) else (some false)) else (some false) : Option Bool)) fun o2 => some o2) else (bif (f_p0.Kind == 3) then (bnd ((bif ((f_p0.Value.size : Int) != 1) then (some (decide ((f_p0.Value.size : Int) ≤ 63))) else (some false) : Option Bool)) fun o3 => some o3) else (some false))))

theorem c_fields_Valid {f_p0 : T_Field} {r : Bool} (h : m_fields_Valid f_p0 = some r) :
    Fun Tryd.prog 19 [.agg #[.int .i64 f_p0.Kind, .string f_p0.Value]] [] (Val (.bool r)) := by
  unfold m_fields_Valid at h
  refine Fun.intro Tryd.func19 rfl rfl rfl fun w R => ?_
  refine St.seq ?_
  refine St.region ?_
  refine St.box rfl rfl fun g1 => ?_
  refine St.p rfl rfl ?_
  refine St.done ?_
  refine St.thenN ?_
  refine St.prune (Γ' := [(1, _)]) ⟨rfl, trivial⟩ (.k .z) ?_
  refine St.seq ?_
  refine St.region ?_
  refine St.p rfl rfl ?_
  refine St.loadB 1 rfl rfl (.head _) rfl rfl ?_
  refine St.p rfl rfl ?_
  refine St.p rfl rfl ?_
  refine St.done ?_
  refine St.thenN ?_
  refine St.prune (Γ' := [(1, _), (3, _)]) ⟨rfl, rfl, trivial⟩ (.k .z) ?_
  refine St.seq ?_
  refine St.seq ?_
  refine St.region ?_
  refine St.p rfl rfl ?_
  refine St.loadB 0 rfl rfl (.head _) rfl rfl ?_
  refine St.done ?_
  refine St.thenN ?_
  refine St.prune (Γ' := [(1, _), (3, _), (8, _)]) ⟨rfl, rfl, rfl, trivial⟩ (.k .z) ?_
  refine St.block ?_
  refine St.seq ?_
  refine St.region ?_
  refine St.p rfl rfl ?_
  refine St.p rfl rfl ?_
  refine St.done ?_
  refine St.thenN ?_
  refine St.prune (Γ' := [(1, _), (3, _), (8, _), (9, _)]) ⟨rfl, rfl, rfl, rfl, trivial⟩ (.k .z) ?_
  refine St.cond _ rfl (fun hb1 => ?_) (fun hb1 => ?_)
  · replace h := bif_t hb1 h
    refine St.seq ?_
    refine St.region ?_
    iterate 3 refine St.p rfl rfl ?_
    refine St.done ?_
    refine St.thenN ?_
    refine St.prune (Γ' := [(2, _)]) ⟨rfl, trivial⟩ (.d .z) ?_
    refine St.ret ?_
    repeat (first | refine St.thenR ?_ | refine St.blkR ?_)
    injection h with h
    subst h
    exact St.finR Tryd.results19 (.tmp rfl .nil) rfl [] ⟨rfl, rfl⟩ (fun _ w => (.z : Keep _ _).sat w)
  · replace h := bif_f hb1 h
    refine St.seq ?_
    refine St.region ?_
    refine St.p rfl rfl ?_
    refine St.p rfl rfl ?_
    refine St.done ?_
    refine St.thenN ?_
    refine St.prune (Γ' := [(1, _), (3, _), (8, _), (13, _)]) ⟨rfl, rfl, rfl, rfl, trivial⟩ (.k .z) ?_
    refine St.cond _ rfl (fun hb2 => ?_) (fun hb2 => ?_)
    · replace h := bif_t hb2 h
      refine St.seq ?_
      obtain ⟨o1, hj1, h⟩ := bnd_e h
      refine St.cutE (fun (e1 : Unit) => [(2, .bool o1)]) (fun e1 => R) ?_ ?_
      · refine St.region ?_
        iterate 4 refine St.p rfl rfl ?_
        refine St.gSplit (dj := 18) _ rfl (fun hb3 => ?_) (fun hb3 => ?_)
        · replace hj1 := bif_t hb3 hj1
          refine St.gOn (dj := 18) rfl rfl ?_
          refine St.p rfl rfl ?_
          refine St.gOn (dj := 18) rfl rfl ?_
          iterate 3 refine St.p rfl rfl ?_
          refine St.gSplit (dj := 22) _ rfl (fun hb4 => ?_) (fun hb4 => ?_)
          · replace hj1 := bif_t hb4 hj1
            refine St.gOn (dj := 22) rfl rfl ?_
            refine St.p rfl rfl ?_
            refine St.gOn (dj := 22) rfl rfl ?_
            refine St.loadB 1 rfl rfl (.head _) rfl rfl ?_
            refine St.gOn (dj := 22) rfl rfl ?_
            obtain ⟨r1, hr1, hj1⟩ := bnd_e hj1
            refine St.callV (c_strings_Trim hr1) ent39 rfl rfl rfl rfl trivial ?_
            refine St.gOn (dj := 22) rfl rfl ?_
            iterate 3 refine St.p rfl rfl ?_
            refine St.done ?_
            injection hj1 with hj1
            subst hj1
            refine St.thenN ?_
            exact St.hereE () ⟨rfl, trivial⟩ (fun _ w => ((.d .z) : Keep _ _).sat w)
          · replace hj1 := bif_f hb4 hj1
            refine St.gOff (dj := 22) rfl rfl rfl rfl ?_
            refine St.gOff (dj := 22) rfl rfl rfl rfl ?_
            refine St.gOff (dj := 22) rfl rfl rfl rfl ?_
            refine St.gOff (dj := 22) rfl rfl rfl rfl ?_
            refine St.p rfl rfl ?_
            refine St.p rfl rfl ?_
            refine St.done ?_
            injection hj1 with hj1
            subst hj1
            refine St.thenN ?_
            exact St.hereE () ⟨rfl, trivial⟩ (fun _ w => ((.d .z) : Keep _ _).sat w)
        · replace hj1 := bif_f hb3 hj1
          refine St.gOff (dj := 18) rfl rfl rfl rfl ?_
          refine St.gOff (dj := 18) rfl rfl rfl rfl ?_
          refine St.p rfl rfl ?_
          refine St.p rfl rfl ?_
          refine St.gOff (dj := 22) rfl rfl rfl rfl ?_
          refine St.gOff (dj := 22) rfl rfl rfl rfl ?_
          refine St.gOff (dj := 22) rfl rfl rfl rfl ?_
          refine St.gOff (dj := 22) rfl rfl rfl rfl ?_
          refine St.p rfl rfl ?_
          refine St.p rfl rfl ?_
          refine St.done ?_
          injection hj1 with hj1
          subst hj1
          refine St.thenN ?_
          exact St.hereE () ⟨rfl, trivial⟩ (fun _ w => ((.d .z) : Keep _ _).sat w)
      · rintro e1
        refine St.ret ?_
        repeat (first | refine St.thenR ?_ | refine St.blkR ?_)
        injection h with h
        subst h
        exact St.finR Tryd.results19 (.tmp rfl .nil) rfl [] ⟨rfl, rfl⟩ (fun _ w => (.z : Keep _ _).sat w)
    · replace h := bif_f hb2 h
      refine St.seq ?_
      refine St.region ?_
      refine St.p rfl rfl ?_
      refine St.p rfl rfl ?_
      refine St.done ?_
      refine St.thenN ?_
      refine St.prune (Γ' := [(1, _), (3, _), (8, _), (28, _)]) ⟨rfl, rfl, rfl, rfl, trivial⟩ (.k .z) ?_
      refine St.cond _ rfl (fun hb5 => ?_) (fun hb5 => ?_)
      · replace h := bif_t hb5 h
        refine St.seq ?_
        obtain ⟨o2, hj2, h⟩ := bnd_e h
        refine St.cutE (fun (e2 : Unit) => [(2, .bool o2)]) (fun e2 => R) ?_ ?_
        · refine St.region ?_
          iterate 4 refine St.p rfl rfl ?_
          refine St.gSplit (dj := 33) _ rfl (fun hb6 => ?_) (fun hb6 => ?_)
          · replace hj2 := bif_t hb6 hj2
            refine St.gOn (dj := 33) rfl rfl ?_
            refine St.p rfl rfl ?_
            refine St.gOn (dj := 33) rfl rfl ?_
            obtain ⟨r2, hr2, hj2⟩ := bnd_e hj2
            refine St.callV (c_fields_sixBytes hr2) ent40 rfl rfl rfl rfl trivial ?_
            refine St.gOn (dj := 33) rfl rfl ?_
            iterate 3 refine St.p rfl rfl ?_
            refine St.gSplit (dj := 38) _ rfl (fun hb7 => ?_) (fun hb7 => ?_)
            · replace hj2 := bif_t hb7 hj2
              refine St.gOn (dj := 38) rfl rfl ?_
              refine St.p rfl rfl ?_
              refine St.gOn (dj := 38) rfl rfl ?_
              refine St.loadB 1 rfl rfl (.head _) rfl rfl ?_
              refine St.gOn (dj := 38) rfl rfl ?_
              obtain ⟨r3, hr3, hj2⟩ := bnd_e hj2
              refine St.callV (c_fields_six hr3) ent41 rfl rfl rfl rfl trivial ?_
              refine St.p rfl rfl ?_
              refine St.p rfl rfl ?_
              refine St.done ?_
              injection hj2 with hj2
              subst hj2
              refine St.thenN ?_
              exact St.hereE () ⟨rfl, trivial⟩ (fun _ w => ((.d .z) : Keep _ _).sat w)
            · replace hj2 := bif_f hb7 hj2
              refine St.gOff (dj := 38) rfl rfl rfl rfl ?_
              refine St.gOff (dj := 38) rfl rfl rfl rfl ?_
              refine St.gOff (dj := 38) rfl rfl rfl rfl ?_
              refine St.p rfl rfl ?_
              refine St.p rfl rfl ?_
              refine St.done ?_
              injection hj2 with hj2
              subst hj2
              refine St.thenN ?_
              exact St.hereE () ⟨rfl, trivial⟩ (fun _ w => ((.d .z) : Keep _ _).sat w)
          · replace hj2 := bif_f hb6 hj2
            refine St.gOff (dj := 33) rfl rfl rfl rfl ?_
            refine St.gOff (dj := 33) rfl rfl rfl rfl ?_
            refine St.gOff (dj := 33) rfl rfl rfl rfl ?_
            refine St.p rfl rfl ?_
            refine St.p rfl rfl ?_
            refine St.gOff (dj := 38) rfl rfl rfl rfl ?_
            refine St.gOff (dj := 38) rfl rfl rfl rfl ?_
            refine St.gOff (dj := 38) rfl rfl rfl rfl ?_
            refine St.p rfl rfl ?_
            refine St.p rfl rfl ?_
            refine St.done ?_
            injection hj2 with hj2
            subst hj2
            refine St.thenN ?_
            exact St.hereE () ⟨rfl, trivial⟩ (fun _ w => ((.d .z) : Keep _ _).sat w)
        · rintro e2
          refine St.ret ?_
          repeat (first | refine St.thenR ?_ | refine St.blkR ?_)
          injection h with h
          subst h
          exact St.finR Tryd.results19 (.tmp rfl .nil) rfl [] ⟨rfl, rfl⟩ (fun _ w => (.z : Keep _ _).sat w)
      · replace h := bif_f hb5 h
        refine St.seq ?_
        refine St.region ?_
        refine St.p rfl rfl ?_
        refine St.p rfl rfl ?_
        refine St.done ?_
        refine St.thenN ?_
        refine St.prune (Γ' := [(3, _), (43, _)]) ⟨rfl, rfl, trivial⟩ (.d .z) ?_
        refine St.cond _ rfl (fun hb8 => ?_) (fun hb8 => ?_)
        · replace h := bif_t hb8 h
          refine St.seq ?_
          obtain ⟨o3, hj3, h⟩ := bnd_e h
          refine St.cutE (fun (e3 : Unit) => [(2, .bool o3)]) (fun e3 => R) ?_ ?_
          · refine St.region ?_
            iterate 3 refine St.p rfl rfl ?_
            refine St.gSplit (dj := 47) _ rfl (fun hb9 => ?_) (fun hb9 => ?_)
            · replace hj3 := bif_t hb9 hj3
              refine St.gOn (dj := 47) rfl rfl ?_
              refine St.p rfl rfl ?_
              refine St.gOn (dj := 47) rfl rfl ?_
              iterate 3 refine St.p rfl rfl ?_
              refine St.done ?_
              injection hj3 with hj3
              subst hj3
              refine St.thenN ?_
              exact St.hereE () ⟨rfl, trivial⟩ (fun _ w => (.z : Keep _ _).sat w)
            · replace hj3 := bif_f hb9 hj3
              refine St.gOff (dj := 47) rfl rfl rfl rfl ?_
              refine St.gOff (dj := 47) rfl rfl rfl rfl ?_
              refine St.p rfl rfl ?_
              refine St.p rfl rfl ?_
              refine St.done ?_
              injection hj3 with hj3
              subst hj3
              refine St.thenN ?_
              exact St.hereE () ⟨rfl, trivial⟩ (fun _ w => (.z : Keep _ _).sat w)
          · rintro e3
            refine St.ret ?_
            repeat (first | refine St.thenR ?_ | refine St.blkR ?_)
            injection h with h
            subst h
            exact St.finR Tryd.results19 (.tmp rfl .nil) rfl [] ⟨rfl, rfl⟩ (fun _ w => (.z : Keep _ _).sat w)
        · replace h := bif_f hb8 h
          refine St.skip ?_
          refine St.blkN ?_
          refine St.thenN ?_
          refine St.prune (Γ' := []) trivial .z ?_
          refine St.seq ?_
          refine St.region ?_
          refine St.p rfl rfl ?_
          refine St.done ?_
          refine St.thenN ?_
          refine St.ret ?_
          repeat (first | refine St.thenR ?_ | refine St.blkR ?_)
          injection h with h
          subst h
          exact St.finR Tryd.results19 (.tmp rfl .nil) rfl [] ⟨rfl, rfl⟩ (fun _ w => (.z : Keep _ _).sat w)

theorem ent66 : Ent Tryd.prog 66 := ⟨_, Tryd.func66, by kernel_rfl, by kernel_rfl⟩

noncomputable def m_internal_stringslite_IndexByte (s_p0 : ByteArray) (c_p1 : Int) : Option Int :=
  some (indexByteM s_p0 c_p1)

theorem c_internal_stringslite_IndexByte {s_p0 : ByteArray} {c_p1 : Int} {r : Int} (h : m_internal_stringslite_IndexByte s_p0 c_p1 = some r) :
    Fun Tryd.prog 66 [.string s_p0, .int .u8 c_p1] [] (Val (.int .i64 r)) := by
  unfold m_internal_stringslite_IndexByte at h
  refine Fun.intro Tryd.func66 rfl rfl rfl fun w R => ?_
  refine St.seq ?_
  refine St.region ?_
  refine St.p rfl rfl ?_
  refine St.done ?_
  refine St.thenN ?_
  refine St.prune (Γ' := [(0, _), (1, _)]) ⟨rfl, rfl, trivial⟩ .z ?_
  refine St.seq ?_
  refine St.region ?_
  refine St.p rfl rfl ?_
  refine St.p rfl rfl ?_
  refine St.extIB Tryd.func70 (by kernel_rfl) (by kernel_rfl) (by kernel_rfl) (by kernel_rfl) rfl rfl rfl rfl ?_
  refine St.p rfl rfl ?_
  refine St.done ?_
  refine St.thenN ?_
  refine St.prune (Γ' := [(4, _)]) ⟨rfl, trivial⟩ .z ?_
  refine St.ret ?_
  repeat (first | refine St.thenR ?_ | refine St.blkR ?_)
  injection h with h
  subst h
  exact St.finR Tryd.results66 (.tmp rfl .nil) rfl [] ⟨rfl, rfl⟩ (fun _ w => (.z : Keep _ _).sat w)

theorem ent60 : Ent Tryd.prog 60 := ⟨_, Tryd.func60, by kernel_rfl, by kernel_rfl⟩

noncomputable def m_strings_IndexByte (s_p0 : ByteArray) (c_p1 : Int) : Option Int :=
  bnd (m_internal_stringslite_IndexByte s_p0 c_p1) fun r1 => some r1

theorem c_strings_IndexByte {s_p0 : ByteArray} {c_p1 : Int} {r : Int} (h : m_strings_IndexByte s_p0 c_p1 = some r) :
    Fun Tryd.prog 60 [.string s_p0, .int .u8 c_p1] [] (Val (.int .i64 r)) := by
  unfold m_strings_IndexByte at h
  refine Fun.intro Tryd.func60 rfl rfl rfl fun w R => ?_
  refine St.seq ?_
  refine St.region ?_
  refine St.p rfl rfl ?_
  refine St.done ?_
  refine St.thenN ?_
  refine St.prune (Γ' := [(0, _), (1, _)]) ⟨rfl, rfl, trivial⟩ .z ?_
  refine St.seq ?_
  refine St.region ?_
  refine St.p rfl rfl ?_
  refine St.p rfl rfl ?_
  obtain ⟨r1, hr1, h⟩ := bnd_e h
  refine St.callV (c_internal_stringslite_IndexByte hr1) ent66 rfl rfl rfl rfl trivial ?_
  refine St.p rfl rfl ?_
  refine St.done ?_
  refine St.thenN ?_
  refine St.prune (Γ' := [(4, _)]) ⟨rfl, trivial⟩ .z ?_
  refine St.ret ?_
  repeat (first | refine St.thenR ?_ | refine St.blkR ?_)
  injection h with h
  subst h
  exact St.finR Tryd.results60 (.tmp rfl .nil) rfl [] ⟨rfl, rfl⟩ (fun _ w => (.z : Keep _ _).sat w)

theorem ent61 : Ent Tryd.prog 61 := ⟨_, Tryd.func61, by kernel_rfl, by kernel_rfl⟩

noncomputable def m_fields_pack (s_p0 : ByteArray) : Option (List Int) :=
  bnd (m_fields_sixBytes (s_p0.size : Int)) fun r1 => bnd (mkS 1 0 r1 r1) fun l1 => bnd (loopM (τ := List Int) (fun (s1 : Int × List Int) => bif decide (s1.1 < (s_p0.size : Int)) then (bnd (eltS s_p0 s1.1) fun y1 => bnd (shlM .i64 (IntKind.wrap .i64 (IntKind.wrap .u8 (y1 - 32))) ((IntKind.wrap .i64 (6 * s1.1)).tmod 8)) fun q1 => bnd (elt s1.2 (IntKind.wrap .i64 ((IntKind.wrap .i64 (6 * s1.1)).tdiv 8))) fun x1 => bnd (setE s1.2 (IntKind.wrap .i64 ((IntKind.wrap .i64 (6 * s1.1)).tdiv 8)) (iOr .u8 x1 (IntKind.wrap .u8 q1))) fun l2 => bif decide (q1 > 255) then (bnd (elt l2 (IntKind.wrap .i64 ((IntKind.wrap .i64 ((IntKind.wrap .i64 (6 * s1.1)).tdiv 8)) + 1))) fun x2 => bnd (setE l2 (IntKind.wrap .i64 ((IntKind.wrap .i64 ((IntKind.wrap .i64 (6 * s1.1)).tdiv 8)) + 1)) (iOr .u8 x2 (IntKind.wrap .u8 (iShr .i64 q1 8)))) fun l3 => some (.next (IntKind.wrap .i64 (s1.1 + 1), l3))) else (some (.next (IntKind.wrap .i64 (s1.1 + 1), l2)))) else (some (.done s1.2))) (0, l1)) fun o1 => some o1

theorem c_fields_pack {s_p0 : ByteArray} {r : (List Int)} (h : m_fields_pack s_p0 = some r) :
    Fun Tryd.prog 61 [.string s_p0] [] (fun v_ F_ => ∃ (A1 : Option Addr) (c1 : Nat), v_ = .slice A1 r.length c1 ∧ F_ = [.res (OwnL eu8 5 A1 c1 r)]) := by
  unfold m_fields_pack at h
  refine Fun.intro Tryd.func61 rfl rfl rfl fun w R => ?_
  refine St.seq ?_
  refine St.region ?_
  refine St.p rfl rfl ?_
  refine St.done ?_
  refine St.thenN ?_
  refine St.prune (Γ' := [(0, _)]) ⟨rfl, trivial⟩ .z ?_
  refine St.seq ?_
  refine St.region ?_
  refine St.p rfl rfl ?_
  refine St.p rfl rfl ?_
  obtain ⟨r1, hr1, h⟩ := bnd_e h
  refine St.callV (c_fields_sixBytes hr1) ent40 rfl rfl rfl rfl trivial ?_
  obtain ⟨l1, hl1, h⟩ := bnd_e h
  refine St.mkL (E := eu8) 0 hl1 rfl rfl rfl rfl rfl rfl rfl rfl rfl rfl fun g1 => ?_
  refine St.p rfl rfl ?_
  refine St.done ?_
  refine St.thenN ?_
  refine St.prune (Γ' := [(0, _), (3, _)]) ⟨rfl, rfl, trivial⟩ (.k .z) ?_
  refine St.seq ?_
  refine St.seq ?_
  refine St.region ?_
  iterate 3 refine St.p rfl rfl ?_
  refine St.done ?_
  refine St.thenN ?_
  refine St.prune (Γ' := [(0, _), (3, _), (13, _), (14, _)]) ⟨rfl, rfl, rfl, rfl, trivial⟩ (.k .z) ?_
  obtain ⟨o1, hl1, h⟩ := bnd_e h
  refine St.cutE (fun (e2 : Option Addr × Nat) => [(3, .slice e2.1 o1.length e2.2)]) (fun e2 => .res (OwnL eu8 5 e2.1 e2.2 o1) :: R) ?_ ?_
  · refine St.block ?_
    refine St.loop hl1 (fun (s1 : Int × List Int) (e1 : Option Addr × Nat) => [(0, .string s_p0), (3, .slice e1.1 s1.2.length e1.2), (13, .int .i64 (s_p0.size : Int)), (14, .int .i64 s1.1)]) (fun s1 e1 => .res (OwnL eu8 5 e1.1 e1.2 s1.2) :: R) (fun _ _ => True) ((some ⟨g1, 0, none⟩), (Int.toNat r1)) trivial ⟨rfl, rfl, rfl, rfl, trivial⟩ (fun _ w => ((.k .z) : Keep _ _).sat w) ?_
    rintro s1 ⟨A1, c1⟩ - hit1
    obtain ⟨st1, hm1, hd1⟩ := iter_e hit1
    have h1 := hm1
    refine St.seq ?_
    refine St.region ?_
    refine St.p rfl rfl ?_
    refine St.done ?_
    refine St.thenN ?_
    refine St.seq ?_
    refine St.cond _ rfl (fun hb1 => ?_) (fun hb1 => ?_)
    · replace h1 := bif_t hb1 h1
      refine St.skip ?_
      refine St.thenN ?_
      refine St.prune (Γ' := [(0, _), (3, _), (13, _), (14, _)]) ⟨rfl, rfl, rfl, rfl, trivial⟩ (.k .z) ?_
      refine St.seq ?_
      refine St.block ?_
      refine St.seq ?_
      refine St.region ?_
      refine St.p rfl rfl ?_
      refine St.p rfl rfl ?_
      refine St.done ?_
      refine St.thenN ?_
      refine St.prune (Γ' := [(0, _), (3, _), (4, _), (13, _), (14, _)]) ⟨rfl, rfl, rfl, rfl, rfl, trivial⟩ (.k .z) ?_
      refine St.seq ?_
      refine St.region ?_
      iterate 8 refine St.p rfl rfl ?_
      refine St.done ?_
      refine St.thenN ?_
      refine St.prune (Γ' := [(0, _), (3, _), (4, _), (5, _), (6, _), (13, _), (14, _)]) ⟨rfl, rfl, rfl, rfl, rfl, rfl, rfl, trivial⟩ (.k .z) ?_
      refine St.seq ?_
      refine St.region ?_
      refine St.p rfl rfl ?_
      refine St.p rfl rfl ?_
      obtain ⟨y1, hy1, h1⟩ := bnd_e h1
      refine St.eltS rfl rfl rfl rfl rfl hy1 ?_
      iterate 3 refine St.p rfl rfl ?_
      obtain ⟨q1, hq1, h1⟩ := bnd_e h1
      refine St.shl rfl rfl rfl hq1 ?_
      refine St.p rfl rfl ?_
      refine St.done ?_
      refine St.thenN ?_
      refine St.prune (Γ' := [(0, _), (3, _), (5, _), (7, _), (13, _), (14, _)]) ⟨rfl, rfl, rfl, rfl, rfl, rfl, trivial⟩ (.k .z) ?_
      refine St.seq ?_
      refine St.region ?_
      refine St.p rfl rfl ?_
      refine St.p rfl rfl ?_
      obtain ⟨x1, hx1, h1⟩ := bnd_e h1
      refine St.ixO hx1 rfl rfl rfl (.head _) rfl rfl rfl rfl rfl fun g2 hA => ?_
      subst hA
      refine St.ldO 0 hx1 rfl rfl (.head _) rfl rfl ?_
      iterate 3 refine St.p rfl rfl ?_
      refine St.ixO hx1 rfl rfl rfl (.head _) rfl rfl rfl rfl rfl fun g3 hA => ?_
      cases hA
      obtain ⟨l2, hl2, h1⟩ := bnd_e h1
      refine St.stO 0 hx1 hl2 rfl rfl .z rfl rfl rfl rfl rfl ?_
      refine St.slots (Γ' := [(0, _), (3, .slice (some ⟨g2, 0, none⟩) l2.length c1), (5, _), (7, _), (13, _), (14, _), (30, .slice (some ⟨g2, 0, none⟩) l2.length c1), (31, _), (32, _), (33, _), (34, _), (35, _), (36, _), (37, _)]) ⟨rfl, sl_len hl2, rfl, rfl, rfl, rfl, sl_len hl2, rfl, rfl, rfl, rfl, rfl, rfl, rfl, trivial⟩ ?_
      refine St.done ?_
      refine St.thenN ?_
      refine St.prune (Γ' := [(0, _), (3, _), (5, _), (7, _), (13, _), (14, _)]) ⟨rfl, rfl, rfl, rfl, rfl, rfl, trivial⟩ (.k .z) ?_
      refine St.seq ?_
      refine St.region ?_
      refine St.p rfl rfl ?_
      refine St.p rfl rfl ?_
      refine St.done ?_
      refine St.thenN ?_
      refine St.prune (Γ' := [(0, _), (3, _), (5, _), (7, _), (13, _), (14, _), (39, _)]) ⟨rfl, rfl, rfl, rfl, rfl, rfl, rfl, trivial⟩ (.k .z) ?_
      refine St.cond _ rfl (fun hb2 => ?_) (fun hb2 => ?_)
      · replace h1 := bif_t hb2 h1
        refine St.region ?_
        iterate 3 refine St.p rfl rfl ?_
        obtain ⟨x2, hx2, h1⟩ := bnd_e h1
        refine St.ixO hx2 rfl rfl rfl (.head _) rfl rfl rfl rfl rfl fun g4 hA => ?_
        cases hA
        refine St.ldO 0 hx2 rfl rfl (.head _) rfl rfl ?_
        iterate 4 refine St.p rfl rfl ?_
        refine St.ixO hx2 rfl rfl rfl (.head _) rfl rfl rfl rfl rfl fun g5 hA => ?_
        cases hA
        obtain ⟨l3, hl3, h1⟩ := bnd_e h1
        refine St.stO 0 hx2 hl3 rfl rfl .z rfl rfl rfl rfl rfl ?_
        refine St.slots (Γ' := [(0, _), (3, .slice (some ⟨g2, 0, none⟩) l3.length c1), (5, _), (7, _), (13, _), (14, _), (39, _), (40, .slice (some ⟨g2, 0, none⟩) l3.length c1), (41, _), (42, _), (43, _), (44, _), (45, _), (46, _), (47, _), (48, _), (49, _)]) ⟨rfl, sl_len hl3, rfl, rfl, rfl, rfl, rfl, sl_len hl3, rfl, rfl, rfl, rfl, rfl, rfl, rfl, rfl, rfl, trivial⟩ ?_
        refine St.done ?_
        refine St.blkN ?_
        refine St.thenN ?_
        refine St.prune (Γ' := [(0, _), (3, _), (13, _), (14, _)]) ⟨rfl, rfl, rfl, rfl, trivial⟩ (.k .z) ?_
        refine St.region ?_
        refine St.p rfl rfl ?_
        refine St.p rfl rfl ?_
        refine St.done ?_
        injection h1 with h1
        subst h1
        refine St.thenN ?_
        exact St.again _ ((some ⟨g2, 0, none⟩), c1) hm1 trivial ⟨rfl, rfl, rfl, rfl, trivial⟩ (fun _ w => ((.k .z) : Keep _ _).sat w)
      · replace h1 := bif_f hb2 h1
        refine St.skip ?_
        refine St.blkN ?_
        refine St.thenN ?_
        refine St.prune (Γ' := [(0, _), (3, _), (13, _), (14, _)]) ⟨rfl, rfl, rfl, rfl, trivial⟩ (.k .z) ?_
        refine St.region ?_
        refine St.p rfl rfl ?_
        refine St.p rfl rfl ?_
        refine St.done ?_
        injection h1 with h1
        subst h1
        refine St.thenN ?_
        exact St.again _ ((some ⟨g2, 0, none⟩), c1) hm1 trivial ⟨rfl, rfl, rfl, rfl, trivial⟩ (fun _ w => ((.k .z) : Keep _ _).sat w)
    · replace h1 := bif_f hb1 h1
      refine St.exit ?_
      repeat (first | refine St.thenX ?_ | refine St.blkMiss rfl ?_)
      refine St.blkHit ?_
      injection h1 with h1
      subst h1
      have ho := hd1 _ rfl
      subst ho
      refine St.thenN ?_
      exact St.hereE (A1, c1) ⟨rfl, trivial⟩ (fun _ w => ((.k .z) : Keep _ _).sat w)
  · rintro ⟨A2, c2⟩
    refine St.seq ?_
    refine St.region ?_
    refine St.p rfl rfl ?_
    refine St.p rfl rfl ?_
    refine St.done ?_
    refine St.thenN ?_
    refine St.prune (Γ' := [(2, _)]) ⟨rfl, trivial⟩ (.k .z) ?_
    refine St.ret ?_
    repeat (first | refine St.thenR ?_ | refine St.blkR ?_)
    injection h with h
    subst h
    exact St.finR Tryd.results61 (.tmp rfl .nil) rfl [.res (OwnL eu8 5 A2 c2 o1)] ⟨A2, c2, rfl, rfl⟩ (fun _ w => ((.k .z) : Keep _ _).sat w)

theorem ent50 : Ent Tryd.prog 50 := ⟨_, Tryd.func50, by kernel_rfl, by kernel_rfl⟩

noncomputable def m_fields_data (f_p0 : T_Field) : Option (List Int) :=
  bif (f_p0.Kind == 1) then (bnd (loopM (τ := List Int) (fun (s1 : List Int × Int) => bif decide (s1.2 < (f_p0.Value.size : Int)) then (bnd (eltS f_p0.Value s1.2) fun y1 => bnd (m_strings_IndexByte (⟨#[48, 49, 50, 51, 52, 53, 54, 55, 56, 57, 32, 45, 46]⟩) y1) fun r1 => bnd (eltS f_p0.Value (IntKind.wrap .i64 (s1.2 + 1))) fun y2 => bnd (m_strings_IndexByte (⟨#[48, 49, 50, 51, 52, 53, 54, 55, 56, 57, 32, 45, 46]⟩) y2) fun r2 => bnd (app 1 s1.1 [IntKind.wrap .u8 (iOr .i64 (iShl .i64 r1 4) r2)]) fun l1 => some (.next (l1, IntKind.wrap .i64 (s1.2 + 2)))) else (some (.done s1.1))) ([], 0)) fun o1 => some o1) else (bif (f_p0.Kind == 2) then (bnd (m_fields_pack f_p0.Value) fun r3 => some r3) else (bnd (s2bM f_p0.Value) fun l2 => some l2))

theorem c_fields_data {f_p0 : T_Field} {r : (List Int)} (h : m_fields_data f_p0 = some r) :
    Fun Tryd.prog 50 [.agg #[.int .i64 f_p0.Kind, .string f_p0.Value]] [] (fun v_ F_ => ∃ (A1 : Option Addr) (c1 : Nat), v_ = .slice A1 r.length c1 ∧ F_ = [.res (OwnL eu8 5 A1 c1 r)]) := by
  unfold m_fields_data at h
  refine Fun.intro Tryd.func50 rfl rfl rfl fun w R => ?_
  refine St.seq ?_
  refine St.region ?_
  refine St.box rfl rfl fun g1 => ?_
  refine St.p rfl rfl ?_
  refine St.done ?_
  refine St.thenN ?_
  refine St.prune (Γ' := [(1, _)]) ⟨rfl, trivial⟩ (.k .z) ?_
  refine St.seq ?_
  refine St.seq ?_
  refine St.region ?_
  refine St.p rfl rfl ?_
  refine St.loadB 0 rfl rfl (.head _) rfl rfl ?_
  refine St.done ?_
  refine St.thenN ?_
  refine St.prune (Γ' := [(1, _), (8, _)]) ⟨rfl, rfl, trivial⟩ (.k .z) ?_
  refine St.block ?_
  refine St.seq ?_
  refine St.region ?_
  refine St.p rfl rfl ?_
  refine St.p rfl rfl ?_
  refine St.done ?_
  refine St.thenN ?_
  refine St.prune (Γ' := [(1, _), (8, _), (9, _)]) ⟨rfl, rfl, rfl, trivial⟩ (.k .z) ?_
  refine St.cond _ rfl (fun hb1 => ?_) (fun hb1 => ?_)
  · replace h := bif_t hb1 h
    refine St.seq ?_
    refine St.region ?_
    refine St.p rfl rfl ?_
    refine St.done ?_
    refine St.thenN ?_
    refine St.prune (Γ' := [(1, _), (3, _)]) ⟨rfl, rfl, trivial⟩ (.k .z) ?_
    refine St.seq ?_
    refine St.seq ?_
    refine St.region ?_
    refine St.p rfl rfl ?_
    refine St.done ?_
    refine St.thenN ?_
    refine St.asrt (fun _ w => w.nilL eu8 5) ?_
    obtain ⟨o1, hl1, h⟩ := bnd_e h
    refine St.cutE (fun (e2 : Option Addr × Nat) => [(3, .slice e2.1 o1.length e2.2)]) (fun e2 => .res (OwnL eu8 5 e2.1 e2.2 o1) :: R) ?_ ?_
    · refine St.block ?_
      refine St.loop hl1 (fun (s1 : List Int × Int) (e1 : Option Addr × Nat) => [(1, .pointer (some ⟨g1, 0, none⟩)), (3, .slice e1.1 s1.1.length e1.2), (4, .int .i64 s1.2)]) (fun s1 e1 => .res (OwnL eu8 5 e1.1 e1.2 s1.1) :: .res (Box g1 23 [.int .i64 f_p0.Kind, .string f_p0.Value]) :: R) (fun _ _ => True) (none, 0) trivial ⟨rfl, rfl, rfl, trivial⟩ (fun _ w => ((.k (.k .z)) : Keep _ _).sat w) ?_
      rintro s1 ⟨A1, c1⟩ - hit1
      obtain ⟨st1, hm1, hd1⟩ := iter_e hit1
      have h1 := hm1
      refine St.seq ?_
      refine St.seq ?_
      refine St.region ?_
      refine St.p rfl rfl ?_
      refine St.p rfl rfl ?_
      refine St.loadB 1 rfl rfl (.tail _ (.head _)) rfl rfl ?_
      refine St.p rfl rfl ?_
      refine St.p rfl rfl ?_
      refine St.done ?_
      refine St.thenN ?_
      refine St.prune (Γ' := [(1, _), (3, _), (4, _), (15, _)]) ⟨rfl, rfl, rfl, rfl, trivial⟩ (.k (.k .z)) ?_
      refine St.cond _ rfl (fun hb2 => ?_) (fun hb2 => ?_)
      · replace h1 := bif_t hb2 h1
        refine St.skip ?_
        refine St.thenN ?_
        refine St.prune (Γ' := [(1, _), (3, _), (4, _)]) ⟨rfl, rfl, rfl, trivial⟩ (.k (.k .z)) ?_
        refine St.seq ?_
        refine St.block ?_
        refine St.seq ?_
        refine St.regionF mixed (by kernel_rfl) ?_
        refine St.p rfl rfl ?_
        refine St.loadB 1 rfl rfl (.tail _ (.head _)) rfl rfl ?_
        refine St.p rfl rfl ?_
        obtain ⟨y1, hy1, h1⟩ := bnd_e h1
        refine St.eltS rfl rfl rfl rfl rfl hy1 ?_
        obtain ⟨r1, hr1, h1⟩ := bnd_e h1
        refine St.callV (c_strings_IndexByte hr1) ent60 rfl rfl rfl rfl trivial ?_
        refine St.p rfl rfl ?_
        refine St.loadB 1 rfl rfl (.tail _ (.head _)) rfl rfl ?_
        refine St.p rfl rfl ?_
        refine St.p rfl rfl ?_
        obtain ⟨y2, hy2, h1⟩ := bnd_e h1
        refine St.eltS rfl rfl rfl rfl rfl hy2 ?_
        obtain ⟨r2, hr2, h1⟩ := bnd_e h1
        refine St.callV (c_strings_IndexByte hr2) ent60 rfl rfl rfl rfl trivial ?_
        refine St.p rfl rfl ?_
        refine St.p rfl rfl ?_
        refine St.doneQ ?_
        refine St.thenN ?_
        refine St.prune (Γ' := [(1, _), (3, _), (4, _), (5, _), (6, _)]) ⟨rfl, rfl, rfl, rfl, rfl, trivial⟩ (.k (.k .z)) ?_
        refine St.region ?_
        iterate 6 refine St.p rfl rfl ?_
        refine St.buildSlice rfl rfl rfl rfl rfl rfl rfl rfl fun g2 => ?_
        obtain ⟨l1, hl1, h1⟩ := bnd_e h1
        refine St.app (E := eu8) hl1 rfl rfl rfl (.s .z) rfl rfl rfl rfl rfl rfl rfl rfl (srcB (.head _) rfl rfl) rfl rfl fun A3 c3 => ?_
        refine St.p rfl rfl ?_
        refine St.done ?_
        refine St.blkN ?_
        refine St.thenN ?_
        refine St.prune (Γ' := [(1, _), (3, _), (4, _)]) ⟨rfl, rfl, rfl, trivial⟩ (.k (.d (.k .z))) ?_
        refine St.region ?_
        iterate 3 refine St.p rfl rfl ?_
        refine St.done ?_
        injection h1 with h1
        subst h1
        refine St.thenN ?_
        exact St.again _ (A3, c3) hm1 trivial ⟨rfl, rfl, rfl, trivial⟩ (fun _ w => ((.k (.k .z)) : Keep _ _).sat w)
      · replace h1 := bif_f hb2 h1
        refine St.exit ?_
        repeat (first | refine St.thenX ?_ | refine St.blkMiss rfl ?_)
        refine St.blkHit ?_
        injection h1 with h1
        subst h1
        have ho := hd1 _ rfl
        subst ho
        refine St.thenN ?_
        exact St.hereE (A1, c1) ⟨rfl, trivial⟩ (fun _ w => ((.k (.d .z)) : Keep _ _).sat w)
    · rintro ⟨A2, c2⟩
      refine St.seq ?_
      refine St.region ?_
      refine St.p rfl rfl ?_
      refine St.p rfl rfl ?_
      refine St.done ?_
      refine St.thenN ?_
      refine St.prune (Γ' := [(2, _)]) ⟨rfl, trivial⟩ (.k .z) ?_
      refine St.ret ?_
      repeat (first | refine St.thenR ?_ | refine St.blkR ?_)
      injection h with h
      subst h
      exact St.finR Tryd.results50 (.tmp rfl .nil) rfl [.res (OwnL eu8 5 A2 c2 o1)] ⟨A2, c2, rfl, rfl⟩ (fun _ w => ((.k .z) : Keep _ _).sat w)
  · replace h := bif_f hb1 h
    refine St.seq ?_
    refine St.region ?_
    refine St.p rfl rfl ?_
    refine St.p rfl rfl ?_
    refine St.done ?_
    refine St.thenN ?_
    refine St.prune (Γ' := [(1, _), (38, _)]) ⟨rfl, rfl, trivial⟩ (.k .z) ?_
    refine St.cond _ rfl (fun hb3 => ?_) (fun hb3 => ?_)
    · replace h := bif_t hb3 h
      refine St.seq ?_
      refine St.region ?_
      refine St.p rfl rfl ?_
      refine St.loadB 1 rfl rfl (.head _) rfl rfl ?_
      obtain ⟨r3, hr3, h⟩ := bnd_e h
      refine St.call (c_fields_pack hr3) ent61 rfl rfl rfl (fun _ w => w) ?_
      rintro _ _ ⟨A4, c4, rfl, rfl⟩
      refine St.asrt (F' := .res (OwnL eu8 5 A4 c4 r3) :: .res (Box g1 23 [.int .i64 f_p0.Kind, .string f_p0.Value]) :: R) (fun _ w => w) ?_
      refine St.p rfl rfl ?_
      refine St.done ?_
      refine St.thenN ?_
      refine St.prune (Γ' := [(2, _)]) ⟨rfl, trivial⟩ (.k (.d .z)) ?_
      refine St.ret ?_
      repeat (first | refine St.thenR ?_ | refine St.blkR ?_)
      injection h with h
      subst h
      exact St.finR Tryd.results50 (.tmp rfl .nil) rfl [.res (OwnL eu8 5 A4 c4 r3)] ⟨A4, c4, rfl, rfl⟩ (fun _ w => ((.k .z) : Keep _ _).sat w)
    · replace h := bif_f hb3 h
      refine St.skip ?_
      refine St.blkN ?_
      refine St.thenN ?_
      refine St.prune (Γ' := [(1, _)]) ⟨rfl, trivial⟩ (.k .z) ?_
      refine St.seq ?_
      refine St.region ?_
      refine St.p rfl rfl ?_
      refine St.loadB 1 rfl rfl (.head _) rfl rfl ?_
      obtain ⟨l2, hl2, h⟩ := bnd_e h
      refine St.s2L rfl rfl hl2 rfl rfl rfl rfl rfl rfl fun A5 c5 => ?_
      refine St.p rfl rfl ?_
      refine St.done ?_
      refine St.thenN ?_
      refine St.prune (Γ' := [(2, _)]) ⟨rfl, trivial⟩ (.k (.d .z)) ?_
      refine St.ret ?_
      repeat (first | refine St.thenR ?_ | refine St.blkR ?_)
      injection h with h
      subst h
      exact St.finR Tryd.results50 (.tmp rfl .nil) rfl [.res (OwnL eu8 5 A5 c5 l2)] ⟨A5, c5, rfl, rfl⟩ (fun _ w => ((.k .z) : Keep _ _).sat w)

theorem ent37 : Ent Tryd.prog 37 := ⟨_, Tryd.func37, by kernel_rfl, by kernel_rfl⟩

noncomputable def m_fields_encode (f_p0 : T_Field) : Option (List Int) :=
  bnd (m_fields_data f_p0) fun r1 => bnd (app 1 ([IntKind.wrap .u8 (iOr .i64 (iShl .i64 f_p0.Kind 6) (r1.length : Int))]) r1) fun l1 => some l1

theorem c_fields_encode {f_p0 : T_Field} {r : (List Int)} (h : m_fields_encode f_p0 = some r) :
    Fun Tryd.prog 37 [.agg #[.int .i64 f_p0.Kind, .string f_p0.Value]] [] (fun v_ F_ => ∃ (A1 : Option Addr) (c1 : Nat), v_ = .slice A1 r.length c1 ∧ F_ = [.res (OwnL eu8 5 A1 c1 r)]) := by
  unfold m_fields_encode at h
  refine Fun.intro Tryd.func37 rfl rfl rfl fun w R => ?_
  refine St.seq ?_
  refine St.region ?_
  refine St.box rfl rfl fun g1 => ?_
  refine St.p rfl rfl ?_
  refine St.done ?_
  refine St.thenN ?_
  refine St.prune (Γ' := [(1, _)]) ⟨rfl, trivial⟩ (.k .z) ?_
  refine St.seq ?_
  refine St.region ?_
  refine St.loadB 0 rfl rfl (.head _) rfl rfl ?_
  obtain ⟨r1, hr1, h⟩ := bnd_e h
  refine St.call (c_fields_data hr1) ent50 rfl rfl rfl (fun _ w => w) ?_
  rintro _ _ ⟨A1, c1, rfl, rfl⟩
  refine St.asrt (F' := .res (OwnL eu8 5 A1 c1 r1) :: .res (Box g1 23 [.int .i64 f_p0.Kind, .string f_p0.Value]) :: R) (fun _ w => w) ?_
  refine St.p rfl rfl ?_
  refine St.done ?_
  refine St.thenN ?_
  refine St.prune (Γ' := [(1, _), (3, _)]) ⟨rfl, rfl, trivial⟩ (.k (.k .z)) ?_
  refine St.seq ?_
  refine St.region ?_
  refine St.p rfl rfl ?_
  refine St.loadB 0 rfl rfl (.tail _ (.head _)) rfl rfl ?_
  iterate 5 refine St.p rfl rfl ?_
  refine St.buildSlice rfl rfl rfl rfl rfl rfl rfl rfl fun g2 => ?_
  refine St.p rfl rfl ?_
  refine St.asrt (fun _ w => (w.front (.s .z)).meltL) ?_
  refine St.asrt (fun _ w => (w.front (.s .z)).litL (E := eu8) (e := 5) [IntKind.wrap .u8 (iOr .i64 (iShl .i64 f_p0.Kind 6) (r1.length : Int))] rfl rfl) ?_
  obtain ⟨l1, hl1, h⟩ := bnd_e h
  refine St.app (E := eu8) hl1 rfl rfl rfl .z rfl rfl rfl rfl rfl rfl rfl rfl (srcL (.tail _ (.head _))) rfl rfl fun A2 c2 => ?_
  refine St.p rfl rfl ?_
  refine St.done ?_
  refine St.thenN ?_
  refine St.prune (Γ' := [(2, _)]) ⟨rfl, trivial⟩ (.k (.d (.d .z))) ?_
  refine St.ret ?_
  repeat (first | refine St.thenR ?_ | refine St.blkR ?_)
  injection h with h
  subst h
  exact St.finR Tryd.results37 (.tmp rfl .nil) rfl [.res (OwnL eu8 5 A2 c2 l1)] ⟨A2, c2, rfl, rfl⟩ (fun _ w => ((.k .z) : Keep _ _).sat w)

theorem ent17 : Ent Tryd.prog 17 := ⟨_, Tryd.func17, by kernel_rfl, by kernel_rfl⟩

noncomputable def m_fields_Encode (f_p0 : T_Field) : Option ((List Int) × Int) :=
  bnd (m_fields_Valid f_p0) fun r1 => bif !r1 then (some ([], 1)) else (bnd (m_fields_encode f_p0) fun r2 => some (r2, 0))

theorem c_fields_Encode {f_p0 : T_Field} {r : ((List Int) × Int)} (h : m_fields_Encode f_p0 = some r) :
    Fun Tryd.prog 17 [.agg #[.int .i64 f_p0.Kind, .string f_p0.Value]] [] (fun v_ F_ => ∃ (A1 : Option Addr) (c1 : Nat), v_ = .tuple #[.slice A1 r.1.length c1, .int .i64 r.2] ∧ F_ = [.res (OwnL eu8 5 A1 c1 r.1)]) := by
  unfold m_fields_Encode at h
  refine Fun.intro Tryd.func17 rfl rfl rfl fun w R => ?_
  refine St.seq ?_
  refine St.region ?_
  refine St.box rfl rfl fun g1 => ?_
  refine St.p rfl rfl ?_
  refine St.p rfl rfl ?_
  refine St.done ?_
  refine St.thenN ?_
  refine St.prune (Γ' := [(1, _)]) ⟨rfl, trivial⟩ (.k .z) ?_
  refine St.seq ?_
  refine St.seq ?_
  refine St.region ?_
  refine St.loadB 0 rfl rfl (.head _) rfl rfl ?_
  obtain ⟨r1, hr1, h⟩ := bnd_e h
  refine St.callV (c_fields_Valid hr1) ent19 rfl rfl rfl rfl trivial ?_
  refine St.p rfl rfl ?_
  refine St.done ?_
  refine St.thenN ?_
  refine St.prune (Γ' := [(1, _), (6, _)]) ⟨rfl, rfl, trivial⟩ (.k .z) ?_
  refine St.cond _ rfl (fun hb1 => ?_) (fun hb1 => ?_)
  · replace h := bif_t hb1 h
    refine St.seq ?_
    refine St.region ?_
    refine St.p rfl rfl ?_
    refine St.p rfl rfl ?_
    refine St.done ?_
    refine St.thenN ?_
    refine St.prune (Γ' := [(2, _), (3, _)]) ⟨rfl, rfl, trivial⟩ (.d .z) ?_
    refine St.ret ?_
    repeat (first | refine St.thenR ?_ | refine St.blkR ?_)
    refine St.asrt (fun _ w => w.nilL eu8 5) ?_
    injection h with h
    subst h
    exact St.finR Tryd.results17 (.tmp rfl (.tmp rfl .nil)) rfl [.res (OwnL eu8 5 none 0 ([] : List Int))] ⟨none, 0, rfl, rfl⟩ (fun _ w => ((.k .z) : Keep _ _).sat w)
  · replace h := bif_f hb1 h
    refine St.skip ?_
    refine St.thenN ?_
    refine St.prune (Γ' := [(1, _)]) ⟨rfl, trivial⟩ (.k .z) ?_
    refine St.seq ?_
    refine St.region ?_
    refine St.loadB 0 rfl rfl (.head _) rfl rfl ?_
    obtain ⟨r2, hr2, h⟩ := bnd_e h
    refine St.call (c_fields_encode hr2) ent37 rfl rfl rfl (fun _ w => w) ?_
    rintro _ _ ⟨A1, c1, rfl, rfl⟩
    refine St.asrt (F' := .res (OwnL eu8 5 A1 c1 r2) :: .res (Box g1 23 [.int .i64 f_p0.Kind, .string f_p0.Value]) :: R) (fun _ w => w) ?_
    refine St.p rfl rfl ?_
    refine St.p rfl rfl ?_
    refine St.done ?_
    refine St.thenN ?_
    refine St.prune (Γ' := [(2, _), (3, _)]) ⟨rfl, rfl, trivial⟩ (.k (.d .z)) ?_
    refine St.ret ?_
    repeat (first | refine St.thenR ?_ | refine St.blkR ?_)
    injection h with h
    subst h
    exact St.finR Tryd.results17 (.tmp rfl (.tmp rfl .nil)) rfl [.res (OwnL eu8 5 A1 c1 r2)] ⟨A1, c1, rfl, rfl⟩ (fun _ w => ((.k .z) : Keep _ _).sat w)

theorem ent22 : Ent Tryd.prog 22 := ⟨_, Tryd.func22, by kernel_rfl, by kernel_rfl⟩

noncomputable def m_fields_Best (text : ByteArray) : Option (T_Field × Int) :=
  bnd (loopM (τ := Int × Int × ByteArray) (fun (s1 : Int × Int × Int × ByteArray) => bif decide (s1.2.1 ≤ 3) then (bnd (m_fields_Valid (⟨s1.2.1, text⟩ : T_Field)) fun r1 => bif !r1 then (some (.next (s1.1, IntKind.wrap .i64 (s1.2.1 + 1), s1.2.2.1, s1.2.2.2))) else (bnd (m_fields_encode (⟨s1.2.1, text⟩ : T_Field)) fun r2 => bnd ((bif (s1.1 == 0) then (some true) else (some (decide ((r2.length : Int) < s1.1))) : Option Bool)) fun o2 => bif o2 then (some (.next ((r2.length : Int), IntKind.wrap .i64 (s1.2.1 + 1), s1.2.1, text))) else (some (.next (s1.1, IntKind.wrap .i64 (s1.2.1 + 1), s1.2.2.1, s1.2.2.2))))) else (some (.done (s1.1, s1.2.2.1, s1.2.2.2)))) (0, 1, 0, ⟨#[]⟩)) fun o1 => bif (o1.1 == 0) then (some ((⟨0, ⟨#[]⟩⟩ : T_Field), 6)) else (some ((⟨o1.2.1, o1.2.2⟩ : T_Field), 0))

theorem c_fields_Best {text : ByteArray} {r : (T_Field × Int)} (h : m_fields_Best text = some r) :
    Fun Tryd.prog 22 [.string text] [] (Val (.tuple #[.agg #[.int .i64 r.1.Kind, .string r.1.Value], .int .i64 r.2])) := by
  unfold m_fields_Best at h
  refine Fun.intro Tryd.func22 rfl rfl rfl fun w R => ?_
  refine St.seq ?_
  refine St.region ?_
  refine St.alloc rfl rfl fun g1 => ?_
  refine St.p rfl rfl ?_
  refine St.done ?_
  refine St.thenN ?_
  refine St.prune (Γ' := [(0, _), (2, _)]) ⟨rfl, rfl, trivial⟩ (.k .z) ?_
  refine St.seq ?_
  refine St.region ?_
  refine St.p rfl rfl ?_
  refine St.alloc rfl rfl fun g2 => ?_
  refine St.store 0 rfl rfl rfl rfl rfl rfl .z rfl ?_
  refine St.p rfl rfl ?_
  refine St.done ?_
  refine St.thenN ?_
  refine St.prune (Γ' := [(0, _), (2, _), (4, _), (5, _)]) ⟨rfl, rfl, rfl, rfl, trivial⟩ (.k (.k .z)) ?_
  refine St.seq ?_
  refine St.seq ?_
  refine St.region ?_
  refine St.p rfl rfl ?_
  refine St.done ?_
  refine St.thenN ?_
  obtain ⟨o1, hl1, h⟩ := bnd_e h
  refine St.cutE (fun (e2 : Unit) => [(2, .pointer (some ⟨g1, 0, none⟩)), (4, .pointer (some ⟨g2, 0, none⟩)), (5, .int .i64 o1.1)]) (fun e2 => .res (Box g2 23 [.int .i64 o1.2.1, .string o1.2.2]) :: .res (Box g1 23 [.int .i64 0, .string (⟨#[]⟩)]) :: R) ?_ ?_
  · refine St.block ?_
    refine St.loop hl1 (fun (s1 : Int × Int × Int × ByteArray) (e1 : Unit) => [(0, .string text), (2, .pointer (some ⟨g1, 0, none⟩)), (4, .pointer (some ⟨g2, 0, none⟩)), (5, .int .i64 s1.1), (6, .int .i64 s1.2.1)]) (fun s1 e1 => .res (Box g2 23 [.int .i64 s1.2.2.1, .string s1.2.2.2]) :: .res (Box g1 23 [.int .i64 0, .string (⟨#[]⟩)]) :: R) (fun _ _ => True) () trivial ⟨rfl, rfl, rfl, rfl, rfl, trivial⟩ (fun _ w => ((.k (.k .z)) : Keep _ _).sat w) ?_
    rintro s1 e1 - hit1
    obtain ⟨st1, hm1, hd1⟩ := iter_e hit1
    have h1 := hm1
    refine St.seq ?_
    refine St.seq ?_
    refine St.region ?_
    refine St.p rfl rfl ?_
    refine St.p rfl rfl ?_
    refine St.done ?_
    refine St.thenN ?_
    refine St.prune (Γ' := [(0, _), (2, _), (4, _), (5, _), (6, _), (11, _)]) ⟨rfl, rfl, rfl, rfl, rfl, rfl, trivial⟩ (.k (.k .z)) ?_
    refine St.cond _ rfl (fun hb1 => ?_) (fun hb1 => ?_)
    · replace h1 := bif_t hb1 h1
      refine St.skip ?_
      refine St.thenN ?_
      refine St.prune (Γ' := [(0, _), (2, _), (4, _), (5, _), (6, _)]) ⟨rfl, rfl, rfl, rfl, rfl, trivial⟩ (.k (.k .z)) ?_
      refine St.seq ?_
      refine St.block ?_
      refine St.seq ?_
      refine St.region ?_
      iterate 3 refine St.p rfl rfl ?_
      refine St.alloc rfl rfl fun g3 => ?_
      refine St.store 0 rfl rfl rfl rfl rfl rfl .z rfl ?_
      refine St.done ?_
      refine St.thenN ?_
      refine St.prune (Γ' := [(0, _), (2, _), (4, _), (5, _), (6, _), (7, _)]) ⟨rfl, rfl, rfl, rfl, rfl, rfl, trivial⟩ (.k (.k (.k .z))) ?_
      refine St.seq ?_
      refine St.seq ?_
      refine St.region ?_
      refine St.loadB 0 rfl rfl (.head _) rfl rfl ?_
      obtain ⟨r1, hr1, h1⟩ := bnd_e h1
      refine St.callV (c_fields_Valid hr1) ent19 rfl rfl rfl rfl trivial ?_
      refine St.p rfl rfl ?_
      refine St.done ?_
      refine St.thenN ?_
      refine St.prune (Γ' := [(0, _), (2, _), (4, _), (5, _), (6, _), (7, _), (19, _)]) ⟨rfl, rfl, rfl, rfl, rfl, rfl, rfl, trivial⟩ (.k (.k (.k .z))) ?_
      refine St.cond _ rfl (fun hb2 => ?_) (fun hb2 => ?_)
      · replace h1 := bif_t hb2 h1
        refine St.exit ?_
        repeat (first | refine St.thenX ?_ | refine St.blkMiss rfl ?_)
        refine St.blkHit ?_
        refine St.thenN ?_
        refine St.prune (Γ' := [(0, _), (2, _), (4, _), (5, _), (6, _)]) ⟨rfl, rfl, rfl, rfl, rfl, trivial⟩ (.d (.k (.k .z))) ?_
        refine St.region ?_
        iterate 3 refine St.p rfl rfl ?_
        refine St.done ?_
        injection h1 with h1
        subst h1
        refine St.thenN ?_
        exact St.again _ () hm1 trivial ⟨rfl, rfl, rfl, rfl, rfl, trivial⟩ (fun _ w => ((.k (.k .z)) : Keep _ _).sat w)
      · replace h1 := bif_f hb2 h1
        refine St.skip ?_
        refine St.thenN ?_
        refine St.prune (Γ' := [(0, _), (2, _), (4, _), (5, _), (6, _), (7, _)]) ⟨rfl, rfl, rfl, rfl, rfl, rfl, trivial⟩ (.k (.k (.k .z))) ?_
        refine St.seq ?_
        refine St.region ?_
        refine St.loadB 0 rfl rfl (.head _) rfl rfl ?_
        obtain ⟨r2, hr2, h1⟩ := bnd_e h1
        refine St.call (c_fields_encode hr2) ent37 rfl rfl rfl (fun _ w => w) ?_
        rintro _ _ ⟨A1, c1, rfl, rfl⟩
        refine St.asrt (F' := .res (OwnL eu8 5 A1 c1 r2) :: .res (Box g3 23 [.int .i64 s1.2.1, .string text]) :: .res (Box g2 23 [.int .i64 s1.2.2.1, .string s1.2.2.2]) :: .res (Box g1 23 [.int .i64 0, .string (⟨#[]⟩)]) :: R) (fun _ w => w) ?_
        refine St.p rfl rfl ?_
        refine St.p rfl rfl ?_
        refine St.done ?_
        refine St.thenN ?_
        refine St.prune (Γ' := [(0, _), (2, _), (4, _), (5, _), (6, _), (7, _), (8, _)]) ⟨rfl, rfl, rfl, rfl, rfl, rfl, rfl, trivial⟩ (.d (.k (.k (.k .z)))) ?_
        refine St.seq ?_
        obtain ⟨o2, hj1, h1⟩ := bnd_e h1
        refine St.cutE (fun (e3 : Unit) => [(0, .string text), (2, .pointer (some ⟨g1, 0, none⟩)), (4, .pointer (some ⟨g2, 0, none⟩)), (5, .int .i64 s1.1), (6, .int .i64 s1.2.1), (7, .pointer (some ⟨g3, 0, none⟩)), (8, .int .i64 (r2.length : Int)), (29, .bool o2)]) (fun e3 => .res (Box g3 23 [.int .i64 s1.2.1, .string text]) :: .res (Box g2 23 [.int .i64 s1.2.2.1, .string s1.2.2.2]) :: .res (Box g1 23 [.int .i64 0, .string (⟨#[]⟩)]) :: R) ?_ ?_
        · refine St.region ?_
          iterate 3 refine St.p rfl rfl ?_
          refine St.gSplit (dj := 25) _ rfl (fun hb3 => ?_) (fun hb3 => ?_)
          · replace hj1 := bif_t hb3 hj1
            refine St.gOff (dj := 25) rfl rfl rfl rfl ?_
            refine St.gOff (dj := 25) rfl rfl rfl rfl ?_
            refine St.gOff (dj := 25) rfl rfl rfl rfl ?_
            refine St.p rfl rfl ?_
            refine St.done ?_
            injection hj1 with hj1
            subst hj1
            refine St.thenN ?_
            exact St.hereE () ⟨rfl, rfl, rfl, rfl, rfl, rfl, rfl, rfl, trivial⟩ (fun _ w => ((.k (.k (.k .z))) : Keep _ _).sat w)
          · replace hj1 := bif_f hb3 hj1
            refine St.gOn (dj := 25) rfl rfl ?_
            refine St.p rfl rfl ?_
            refine St.gOn (dj := 25) rfl rfl ?_
            refine St.p rfl rfl ?_
            refine St.gOn (dj := 25) rfl rfl ?_
            refine St.p rfl rfl ?_
            refine St.p rfl rfl ?_
            refine St.done ?_
            injection hj1 with hj1
            subst hj1
            refine St.thenN ?_
            exact St.hereE () ⟨rfl, rfl, rfl, rfl, rfl, rfl, rfl, rfl, trivial⟩ (fun _ w => ((.k (.k (.k .z))) : Keep _ _).sat w)
        · rintro e3
          refine St.cond _ rfl (fun hb4 => ?_) (fun hb4 => ?_)
          · replace h1 := bif_t hb4 h1
            refine St.region ?_
            refine St.loadB 0 rfl rfl (.head _) rfl rfl ?_
            refine St.p rfl rfl ?_
            refine St.store 0 rfl rfl rfl rfl rfl rfl (.s .z) rfl ?_
            refine St.p rfl rfl ?_
            refine St.done ?_
            refine St.blkN ?_
            refine St.thenN ?_
            refine St.prune (Γ' := [(0, _), (2, _), (4, _), (5, _), (6, _)]) ⟨rfl, rfl, rfl, rfl, rfl, trivial⟩ (.k (.d (.k .z))) ?_
            refine St.region ?_
            iterate 3 refine St.p rfl rfl ?_
            refine St.done ?_
            injection h1 with h1
            subst h1
            refine St.thenN ?_
            exact St.again _ () hm1 trivial ⟨rfl, rfl, rfl, rfl, rfl, trivial⟩ (fun _ w => ((.k (.k .z)) : Keep _ _).sat w)
          · replace h1 := bif_f hb4 h1
            refine St.skip ?_
            refine St.blkN ?_
            refine St.thenN ?_
            refine St.prune (Γ' := [(0, _), (2, _), (4, _), (5, _), (6, _)]) ⟨rfl, rfl, rfl, rfl, rfl, trivial⟩ (.d (.k (.k .z))) ?_
            refine St.region ?_
            iterate 3 refine St.p rfl rfl ?_
            refine St.done ?_
            injection h1 with h1
            subst h1
            refine St.thenN ?_
            exact St.again _ () hm1 trivial ⟨rfl, rfl, rfl, rfl, rfl, trivial⟩ (fun _ w => ((.k (.k .z)) : Keep _ _).sat w)
    · replace h1 := bif_f hb1 h1
      refine St.exit ?_
      repeat (first | refine St.thenX ?_ | refine St.blkMiss rfl ?_)
      refine St.blkHit ?_
      injection h1 with h1
      subst h1
      have ho := hd1 _ rfl
      subst ho
      refine St.thenN ?_
      exact St.hereE () ⟨rfl, rfl, rfl, trivial⟩ (fun _ w => ((.k (.k .z)) : Keep _ _).sat w)
  · rintro e2
    refine St.seq ?_
    refine St.seq ?_
    refine St.region ?_
    refine St.p rfl rfl ?_
    refine St.p rfl rfl ?_
    refine St.done ?_
    refine St.thenN ?_
    refine St.prune (Γ' := [(2, _), (4, _), (33, _)]) ⟨rfl, rfl, rfl, trivial⟩ (.k (.k .z)) ?_
    refine St.cond _ rfl (fun hb5 => ?_) (fun hb5 => ?_)
    · replace h := bif_t hb5 h
      refine St.seq ?_
      refine St.region ?_
      refine St.p rfl rfl ?_
      refine St.store 0 rfl rfl rfl rfl rfl rfl (.s .z) rfl ?_
      refine St.p rfl rfl ?_
      refine St.done ?_
      refine St.thenN ?_
      refine St.prune (Γ' := [(2, _), (3, _)]) ⟨rfl, rfl, trivial⟩ (.k (.d .z)) ?_
      refine St.ret ?_
      repeat (first | refine St.thenR ?_ | refine St.blkR ?_)
      injection h with h
      subst h
      exact St.finR Tryd.results22 (.cell rfl (.head _) rfl (.tmp rfl .nil)) rfl [] ⟨rfl, rfl⟩ (fun _ w => ((.d .z) : Keep _ _).sat w)
    · replace h := bif_f hb5 h
      refine St.skip ?_
      refine St.thenN ?_
      refine St.prune (Γ' := [(2, _), (4, _)]) ⟨rfl, rfl, trivial⟩ (.k (.k .z)) ?_
      refine St.seq ?_
      refine St.region ?_
      refine St.loadB 0 rfl rfl (.head _) rfl rfl ?_
      refine St.store 0 rfl rfl rfl rfl rfl rfl (.s .z) rfl ?_
      refine St.p rfl rfl ?_
      refine St.done ?_
      refine St.thenN ?_
      refine St.prune (Γ' := [(2, _), (3, _)]) ⟨rfl, rfl, trivial⟩ (.k (.d .z)) ?_
      refine St.ret ?_
      repeat (first | refine St.thenR ?_ | refine St.blkR ?_)
      injection h with h
      subst h
      exact St.finR Tryd.results22 (.cell rfl (.head _) rfl (.tmp rfl .nil)) rfl [] ⟨rfl, rfl⟩ (fun _ w => ((.d .z) : Keep _ _).sat w)

theorem ent21 : Ent Tryd.prog 21 := ⟨_, Tryd.func21, by kernel_rfl, by kernel_rfl⟩

noncomputable def m_ref01_Same (a_p0 : (List Int)) (b_p1 : (List Int)) : Option Bool :=
  bif ((a_p0.length : Int) != (b_p1.length : Int)) then (some false) else (bnd (loopM (τ := Bool ⊕ Unit) (fun (s1 : Int) => bif decide (s1 < (a_p0.length : Int)) then (bnd (elt a_p0 s1) fun x1 => bnd (elt b_p1 s1) fun x2 => bif (x1 != x2) then (some (.done (.inl false))) else (some (.next (IntKind.wrap .i64 (s1 + 1))))) else (some (.done (.inr ())))) 0) fun o1 => retOr o1 fun o2 => some true)

theorem c_ref01_Same {a_p0 : (List Int)} {b_p1 : (List Int)} {A1 : Option Addr} {c1 : Nat} {A2 : Option Addr} {c2 : Nat} {r : Bool} (h : m_ref01_Same a_p0 b_p1 = some r) :
    Fun Tryd.prog 21 [.slice A1 a_p0.length c1, .slice A2 b_p1.length c2] [.ro (SlL eu8 A1 c1 a_p0), .ro (SlL eu8 A2 c2 b_p1)] (Val (.bool r)) := by
  unfold m_ref01_Same at h
  refine Fun.intro Tryd.func21 rfl rfl rfl fun w R => ?_
  refine St.seq ?_
  refine St.region ?_
  refine St.p rfl rfl ?_
  refine St.done ?_
  refine St.thenN ?_
  refine St.prune (Γ' := [(0, _), (1, _)]) ⟨rfl, rfl, trivial⟩ (.k (.k .z)) ?_
  refine St.seq ?_
  refine St.seq ?_
  refine St.region ?_
  iterate 5 refine St.p rfl rfl ?_
  refine St.done ?_
  refine St.thenN ?_
  refine St.prune (Γ' := [(0, _), (1, _), (10, _)]) ⟨rfl, rfl, rfl, trivial⟩ (.k (.k .z)) ?_
  refine St.cond _ rfl (fun hb1 => ?_) (fun hb1 => ?_)
  · replace h := bif_t hb1 h
    refine St.seq ?_
    refine St.region ?_
    refine St.p rfl rfl ?_
    refine St.done ?_
    refine St.thenN ?_
    refine St.prune (Γ' := [(4, _)]) ⟨rfl, trivial⟩ (.d (.d .z)) ?_
    refine St.ret ?_
    repeat (first | refine St.thenR ?_ | refine St.blkR ?_)
    injection h with h
    subst h
    exact St.finR Tryd.results21 (.tmp rfl .nil) rfl [] ⟨rfl, rfl⟩ (fun _ w => (.z : Keep _ _).sat w)
  · replace h := bif_f hb1 h
    refine St.skip ?_
    refine St.thenN ?_
    refine St.prune (Γ' := [(0, _), (1, _)]) ⟨rfl, rfl, trivial⟩ (.k (.k .z)) ?_
    refine St.seq ?_
    refine St.seq ?_
    refine St.region ?_
    refine St.p rfl rfl ?_
    refine St.done ?_
    refine St.thenN ?_
    obtain ⟨o1, hl1, h⟩ := bnd_e h
    refine St.cutI (fun (o2 : Unit) (e2 : Unit) => []) (fun o2 e2 => R) (fun o2 => o1 = .inr o2) ?_ ?_
    · refine St.block ?_
      refine St.loop hl1 (fun (s1 : Int) (e1 : Unit) => [(0, .slice A1 a_p0.length c1), (1, .slice A2 b_p1.length c2), (5, .int .i64 s1)]) (fun s1 e1 => .ro (SlL eu8 A1 c1 a_p0) :: .ro (SlL eu8 A2 c2 b_p1) :: R) (fun _ _ => True) () trivial ⟨rfl, rfl, rfl, trivial⟩ (fun _ w => ((.k (.k .z)) : Keep _ _).sat w) ?_
      rintro s1 e1 - hit1
      obtain ⟨st1, hm1, hd1⟩ := iter_e hit1
      have h1 := hm1
      refine St.seq ?_
      refine St.seq ?_
      refine St.region ?_
      iterate 4 refine St.p rfl rfl ?_
      refine St.done ?_
      refine St.thenN ?_
      refine St.prune (Γ' := [(0, _), (1, _), (5, _), (14, _)]) ⟨rfl, rfl, rfl, rfl, trivial⟩ (.k (.k .z)) ?_
      refine St.cond _ rfl (fun hb2 => ?_) (fun hb2 => ?_)
      · replace h1 := bif_t hb2 h1
        refine St.skip ?_
        refine St.thenN ?_
        refine St.prune (Γ' := [(0, _), (1, _), (5, _)]) ⟨rfl, rfl, rfl, trivial⟩ (.k (.k .z)) ?_
        refine St.seq ?_
        refine St.block ?_
        refine St.seq ?_
        refine St.regionF mixed (by kernel_rfl) ?_
        refine St.p rfl rfl ?_
        refine St.p rfl rfl ?_
        obtain ⟨x1, hx1, h1⟩ := bnd_e h1
        refine St.ixL hx1 rfl rfl rfl (.head _) rfl rfl rfl rfl rfl fun b1 ob1 => ?_
        refine St.load ob1 0 rfl rfl (.head _) rfl rfl ?_
        refine St.p rfl rfl ?_
        refine St.p rfl rfl ?_
        obtain ⟨x2, hx2, h1⟩ := bnd_e h1
        refine St.ixL hx2 rfl rfl rfl (.tail _ (.tail _ (.head _))) rfl rfl rfl rfl rfl fun b2 ob2 => ?_
        refine St.load ob2 0 rfl rfl (.head _) rfl rfl ?_
        refine St.p rfl rfl ?_
        refine St.doneQ ?_
        refine St.thenN ?_
        refine St.prune (Γ' := [(0, _), (1, _), (5, _), (25, _)]) ⟨rfl, rfl, rfl, rfl, trivial⟩ (.d (.d (.k (.k .z)))) ?_
        refine St.cond _ rfl (fun hb3 => ?_) (fun hb3 => ?_)
        · replace h1 := bif_t hb3 h1
          refine St.seq ?_
          refine St.region ?_
          refine St.p rfl rfl ?_
          refine St.done ?_
          refine St.thenN ?_
          refine St.prune (Γ' := [(4, _)]) ⟨rfl, trivial⟩ (.d (.d .z)) ?_
          refine St.ret ?_
          repeat (first | refine St.thenR ?_ | refine St.blkR ?_)
          injection h1 with h1
          subst h1
          have ho := hd1 _ rfl
          subst ho
          have h : some _ = some _ := h
          injection h with h
          subst h
          exact St.finR Tryd.results21 (.tmp rfl .nil) rfl [] ⟨rfl, rfl⟩ (fun _ w => (.z : Keep _ _).sat w)
        · replace h1 := bif_f hb3 h1
          refine St.skip ?_
          refine St.blkN ?_
          refine St.thenN ?_
          refine St.prune (Γ' := [(0, _), (1, _), (5, _)]) ⟨rfl, rfl, rfl, trivial⟩ (.k (.k .z)) ?_
          refine St.region ?_
          iterate 3 refine St.p rfl rfl ?_
          refine St.done ?_
          injection h1 with h1
          subst h1
          refine St.thenN ?_
          exact St.again _ () hm1 trivial ⟨rfl, rfl, rfl, trivial⟩ (fun _ w => ((.k (.k .z)) : Keep _ _).sat w)
      · replace h1 := bif_f hb2 h1
        refine St.exit ?_
        repeat (first | refine St.thenX ?_ | refine St.blkMiss rfl ?_)
        refine St.blkHit ?_
        injection h1 with h1
        subst h1
        have ho := hd1 _ rfl
        subst ho
        refine St.thenN ?_
        exact St.hereI () () rfl trivial (fun _ w => ((.d (.d .z)) : Keep _ _).sat w)
    · rintro o2 e2 ho
      subst ho
      have h : _ = some _ := h
      refine St.seq ?_
      refine St.region ?_
      refine St.p rfl rfl ?_
      refine St.done ?_
      refine St.thenN ?_
      refine St.ret ?_
      repeat (first | refine St.thenR ?_ | refine St.blkR ?_)
      injection h with h
      subst h
      exact St.finR Tryd.results21 (.tmp rfl .nil) rfl [] ⟨rfl, rfl⟩ (fun _ w => (.z : Keep _ _).sat w)

theorem ent14 : Ent Tryd.prog 14 := ⟨_, Tryd.func14, by kernel_rfl, by kernel_rfl⟩

noncomputable def m_law02_awake  : Option Bool :=
  bnd (m_fields_Encode (⟨2, ⟨#[73, 80, 77, 73]⟩⟩ : T_Field)) fun r1 => bnd (m_fields_Best (⟨#[49, 50, 46, 53]⟩)) fun r2 => bnd (m_fields_Best (⟨#[97]⟩)) fun r3 => bnd ((bif (r1.2 == 0) then (bnd (m_ref01_Same r1.1 ([131, 41, 220, 166])) fun r4 => bif r4 then (bif (r2.2 == 0) then (bif (r2.1.Kind == 1) then (some (r3.2 == 6)) else (some false)) else (some false)) else (some false)) else (some false) : Option Bool)) fun o1 => some o1

theorem c_law02_awake  {r : Bool} (h : m_law02_awake = some r) :
    Fun Tryd.prog 14 [] [] (Val (.bool r)) := by
  unfold m_law02_awake at h
  refine Fun.intro Tryd.func14 rfl rfl rfl fun w R => ?_
  refine St.seq ?_
  refine St.region ?_
  refine St.p rfl rfl ?_
  refine St.done ?_
  refine St.thenN ?_
  refine St.prune (Γ' := []) trivial .z ?_
  refine St.seq ?_
  refine St.region ?_
  refine St.p rfl rfl ?_
  obtain ⟨r1, hr1, h⟩ := bnd_e h
  refine St.call (c_fields_Encode hr1) ent17 rfl rfl rfl (fun _ w => w) ?_
  rintro _ _ ⟨A1, c1, rfl, rfl⟩
  refine St.asrt (F' := .res (OwnL eu8 5 A1 c1 r1.1) :: R) (fun _ w => w) ?_
  iterate 5 refine St.p rfl rfl ?_
  refine St.done ?_
  refine St.thenN ?_
  refine St.prune (Γ' := [(1, _), (2, _)]) ⟨rfl, rfl, trivial⟩ (.k .z) ?_
  refine St.seq ?_
  refine St.region ?_
  obtain ⟨r2, hr2, h⟩ := bnd_e h
  refine St.callV (c_fields_Best hr2) ent22 rfl rfl rfl rfl trivial ?_
  iterate 3 refine St.p rfl rfl ?_
  refine St.alloc rfl rfl fun g1 => ?_
  refine St.store 0 rfl rfl rfl rfl rfl rfl .z rfl ?_
  refine St.p rfl rfl ?_
  refine St.done ?_
  refine St.thenN ?_
  refine St.prune (Γ' := [(1, _), (2, _), (3, _), (4, _)]) ⟨rfl, rfl, rfl, rfl, trivial⟩ (.k (.k .z)) ?_
  refine St.seq ?_
  refine St.region ?_
  obtain ⟨r3, hr3, h⟩ := bnd_e h
  refine St.callV (c_fields_Best hr3) ent22 rfl rfl rfl rfl trivial ?_
  iterate 3 refine St.p rfl rfl ?_
  refine St.alloc rfl rfl fun g2 => ?_
  refine St.store 0 rfl rfl rfl rfl rfl rfl .z rfl ?_
  refine St.p rfl rfl ?_
  refine St.done ?_
  refine St.thenN ?_
  refine St.prune (Γ' := [(1, _), (2, _), (3, _), (4, _), (6, _)]) ⟨rfl, rfl, rfl, rfl, rfl, trivial⟩ (.d (.k (.k .z))) ?_
  refine St.seq ?_
  obtain ⟨o1, hj1, h⟩ := bnd_e h
  refine St.cutE (fun (e1 : Unit) => [(0, .bool o1)]) (fun e1 => R) ?_ ?_
  · refine St.region ?_
    iterate 3 refine St.p rfl rfl ?_
    refine St.gSplit (dj := 22) _ rfl (fun hb1 => ?_) (fun hb1 => ?_)
    · replace hj1 := bif_t hb1 hj1
      refine St.gOn (dj := 22) rfl rfl ?_
      refine St.p rfl rfl ?_
      refine St.gOn (dj := 22) rfl rfl ?_
      refine St.buildSlice rfl rfl rfl rfl rfl rfl rfl rfl fun g3 => ?_
      refine St.gOn (dj := 22) rfl rfl ?_
      refine St.asrt (fun _ w => (w.front (.s (.s .z))).meltL) ?_
      refine St.asrt (fun _ w => (w.front (.s .z)).litL (E := eu8) (e := 5) [131, 41, 220, 166] rfl rfl) ?_
      refine St.asrt (fun _ w => (w.front .z).meltL) ?_
      obtain ⟨r4, hr4, hj1⟩ := bnd_e hj1
      refine St.callV (c_ref01_Same hr4) ent21 rfl rfl rfl rfl ⟨(.tail _ (.head _)), (.head _), trivial⟩ ?_
      refine St.p rfl rfl ?_
      refine St.p rfl rfl ?_
      refine St.gSplit (dj := 27) _ rfl (fun hb2 => ?_) (fun hb2 => ?_)
      · replace hj1 := bif_t hb2 hj1
        refine St.gOn (dj := 27) rfl rfl ?_
        refine St.p rfl rfl ?_
        refine St.gOn (dj := 27) rfl rfl ?_
        iterate 3 refine St.p rfl rfl ?_
        refine St.gSplit (dj := 31) _ rfl (fun hb3 => ?_) (fun hb3 => ?_)
        · replace hj1 := bif_t hb3 hj1
          refine St.gOn (dj := 31) rfl rfl ?_
          refine St.p rfl rfl ?_
          refine St.gOn (dj := 31) rfl rfl ?_
          refine St.loadB 0 rfl rfl (.tail _ (.tail _ (.head _))) rfl rfl ?_
          refine St.gOn (dj := 31) rfl rfl ?_
          iterate 3 refine St.p rfl rfl ?_
          refine St.gSplit (dj := 36) _ rfl (fun hb4 => ?_) (fun hb4 => ?_)
          · replace hj1 := bif_t hb4 hj1
            refine St.gOn (dj := 36) rfl rfl ?_
            refine St.p rfl rfl ?_
            refine St.gOn (dj := 36) rfl rfl ?_
            iterate 3 refine St.p rfl rfl ?_
            refine St.done ?_
            injection hj1 with hj1
            subst hj1
            refine St.thenN ?_
            exact St.hereE () ⟨rfl, trivial⟩ (fun _ w => ((.d (.d (.d .z))) : Keep _ _).sat w)
          · replace hj1 := bif_f hb4 hj1
            refine St.gOff (dj := 36) rfl rfl rfl rfl ?_
            refine St.gOff (dj := 36) rfl rfl rfl rfl ?_
            refine St.p rfl rfl ?_
            refine St.p rfl rfl ?_
            refine St.done ?_
            injection hj1 with hj1
            subst hj1
            refine St.thenN ?_
            exact St.hereE () ⟨rfl, trivial⟩ (fun _ w => ((.d (.d (.d .z))) : Keep _ _).sat w)
        · replace hj1 := bif_f hb3 hj1
          refine St.gOff (dj := 31) rfl rfl rfl rfl ?_
          refine St.gOff (dj := 31) rfl rfl rfl rfl ?_
          refine St.gOff (dj := 31) rfl rfl rfl rfl ?_
          refine St.p rfl rfl ?_
          refine St.p rfl rfl ?_
          refine St.gOff (dj := 36) rfl rfl rfl rfl ?_
          refine St.gOff (dj := 36) rfl rfl rfl rfl ?_
          refine St.p rfl rfl ?_
          refine St.p rfl rfl ?_
          refine St.done ?_
          injection hj1 with hj1
          subst hj1
          refine St.thenN ?_
          exact St.hereE () ⟨rfl, trivial⟩ (fun _ w => ((.d (.d (.d .z))) : Keep _ _).sat w)
      · replace hj1 := bif_f hb2 hj1
        refine St.gOff (dj := 27) rfl rfl rfl rfl ?_
        refine St.gOff (dj := 27) rfl rfl rfl rfl ?_
        refine St.p rfl rfl ?_
        refine St.p rfl rfl ?_
        refine St.gOff (dj := 31) rfl rfl rfl rfl ?_
        refine St.gOff (dj := 31) rfl rfl rfl rfl ?_
        refine St.gOff (dj := 31) rfl rfl rfl rfl ?_
        refine St.p rfl rfl ?_
        refine St.p rfl rfl ?_
        refine St.gOff (dj := 36) rfl rfl rfl rfl ?_
        refine St.gOff (dj := 36) rfl rfl rfl rfl ?_
        refine St.p rfl rfl ?_
        refine St.p rfl rfl ?_
        refine St.done ?_
        injection hj1 with hj1
        subst hj1
        refine St.thenN ?_
        exact St.hereE () ⟨rfl, trivial⟩ (fun _ w => ((.d (.d (.d .z))) : Keep _ _).sat w)
    · replace hj1 := bif_f hb1 hj1
      refine St.gOff (dj := 22) rfl rfl rfl rfl ?_
      refine St.gOff (dj := 22) rfl rfl rfl rfl ?_
      refine St.gOff (dj := 22) rfl rfl rfl rfl ?_
      refine St.p rfl rfl ?_
      refine St.p rfl rfl ?_
      refine St.gOff (dj := 27) rfl rfl rfl rfl ?_
      refine St.gOff (dj := 27) rfl rfl rfl rfl ?_
      refine St.p rfl rfl ?_
      refine St.p rfl rfl ?_
      refine St.gOff (dj := 31) rfl rfl rfl rfl ?_
      refine St.gOff (dj := 31) rfl rfl rfl rfl ?_
      refine St.gOff (dj := 31) rfl rfl rfl rfl ?_
      refine St.p rfl rfl ?_
      refine St.p rfl rfl ?_
      refine St.gOff (dj := 36) rfl rfl rfl rfl ?_
      refine St.gOff (dj := 36) rfl rfl rfl rfl ?_
      refine St.p rfl rfl ?_
      refine St.p rfl rfl ?_
      refine St.done ?_
      injection hj1 with hj1
      subst hj1
      refine St.thenN ?_
      exact St.hereE () ⟨rfl, trivial⟩ (fun _ w => ((.d (.d .z)) : Keep _ _).sat w)
  · rintro e1
    refine St.ret ?_
    repeat (first | refine St.thenR ?_ | refine St.blkR ?_)
    injection h with h
    subst h
    exact St.finR Tryd.results14 (.tmp rfl .nil) rfl [] ⟨rfl, rfl⟩ (fun _ w => (.z : Keep _ _).sat w)

theorem ent15 : Ent Tryd.prog 15 := ⟨_, Tryd.func15, by kernel_rfl, by kernel_rfl⟩

noncomputable def m_made_Roll (l_p0 : (List Int)) : Option T_Dice :=
  some (⟨l_p0, 0⟩ : T_Dice)

theorem c_made_Roll {l_p0 : (List Int)} {A1 : Option Addr} {c1 : Nat} {r : T_Dice} (h : m_made_Roll l_p0 = some r) :
    Fun Tryd.prog 15 [.slice A1 l_p0.length c1] [.ro (SlL ei64 A1 c1 l_p0)] (fun v_ F_ => ∃ (g1 : Nat) (A1 : Option Addr) (c1 : Nat), v_ = .pointer (some ⟨g1, 0, none⟩) ∧ F_ = [.ro (SlL ei64 A1 c1 r.L), .res (Box g1 58 [.slice A1 r.L.length c1, .int .i64 r.At])]) := by
  unfold m_made_Roll at h
  refine Fun.intro Tryd.func15 rfl rfl rfl fun w R => ?_
  refine St.seq ?_
  refine St.region ?_
  refine St.p rfl rfl ?_
  refine St.done ?_
  refine St.thenN ?_
  refine St.prune (Γ' := [(0, _)]) ⟨rfl, trivial⟩ (.k .z) ?_
  refine St.seq ?_
  refine St.region ?_
  refine St.p rfl rfl ?_
  refine St.p rfl rfl ?_
  refine St.box rfl rfl fun g1 => ?_
  refine St.p rfl rfl ?_
  refine St.done ?_
  refine St.thenN ?_
  refine St.prune (Γ' := [(2, _)]) ⟨rfl, trivial⟩ (.k (.k .z)) ?_
  refine St.ret ?_
  repeat (first | refine St.thenR ?_ | refine St.blkR ?_)
  injection h with h
  subst h
  exact St.finR Tryd.results15 (.tmp rfl .nil) rfl [.ro (SlL ei64 A1 c1 l_p0), .res (Box g1 58 [.slice A1 l_p0.length c1, .int .i64 0])] ⟨g1, A1, c1, rfl, rfl⟩ (fun _ w => ((.k (.k (.d .z))) : Keep _ _).sat (Sat.dup (G := [.ro (SlL ei64 A1 c1 l_p0)]) rfl ⟨(.tail _ (.head _)), trivial⟩ w))

theorem ent25 : Ent Tryd.prog 25 := ⟨_, Tryd.func25, by kernel_rfl, by kernel_rfl⟩

noncomputable def m_made_Mod (n_p0 : Int) (m_p1 : Int) : Option Int :=
  bnd (remM n_p0 m_p1) fun q1 => bif decide (q1 < 0) then (some (IntKind.wrap .i64 (q1 + m_p1))) else (some q1)

theorem c_made_Mod {n_p0 : Int} {m_p1 : Int} {r : Int} (h : m_made_Mod n_p0 m_p1 = some r) :
    Fun Tryd.prog 25 [.int .i64 n_p0, .int .i64 m_p1] [] (Val (.int .i64 r)) := by
  unfold m_made_Mod at h
  refine Fun.intro Tryd.func25 rfl rfl rfl fun w R => ?_
  refine St.seq ?_
  refine St.region ?_
  refine St.p rfl rfl ?_
  refine St.done ?_
  refine St.thenN ?_
  refine St.prune (Γ' := [(0, _), (1, _)]) ⟨rfl, rfl, trivial⟩ .z ?_
  refine St.seq ?_
  refine St.region ?_
  refine St.p rfl rfl ?_
  refine St.p rfl rfl ?_
  obtain ⟨q1, hq1, h⟩ := bnd_e h
  refine St.rem rfl rfl rfl hq1 ?_
  refine St.p rfl rfl ?_
  refine St.done ?_
  refine St.thenN ?_
  refine St.prune (Γ' := [(0, _), (1, _)]) ⟨rfl, rfl, trivial⟩ .z ?_
  refine St.seq ?_
  refine St.seq ?_
  refine St.region ?_
  refine St.p rfl rfl ?_
  refine St.p rfl rfl ?_
  refine St.done ?_
  refine St.thenN ?_
  refine St.prune (Γ' := [(0, _), (1, _), (9, _)]) ⟨rfl, rfl, rfl, trivial⟩ .z ?_
  refine St.cond _ rfl (fun hb1 => ?_) (fun hb1 => ?_)
  · replace h := bif_t hb1 h
    refine St.region ?_
    iterate 4 refine St.p rfl rfl ?_
    refine St.done ?_
    refine St.thenN ?_
    refine St.prune (Γ' := [(0, _)]) ⟨rfl, trivial⟩ .z ?_
    refine St.seq ?_
    refine St.region ?_
    refine St.p rfl rfl ?_
    refine St.p rfl rfl ?_
    refine St.done ?_
    refine St.thenN ?_
    refine St.prune (Γ' := [(4, _)]) ⟨rfl, trivial⟩ .z ?_
    refine St.ret ?_
    repeat (first | refine St.thenR ?_ | refine St.blkR ?_)
    injection h with h
    subst h
    exact St.finR Tryd.results25 (.tmp rfl .nil) rfl [] ⟨rfl, rfl⟩ (fun _ w => (.z : Keep _ _).sat w)
  · replace h := bif_f hb1 h
    refine St.skip ?_
    refine St.thenN ?_
    refine St.prune (Γ' := [(0, _)]) ⟨rfl, trivial⟩ .z ?_
    refine St.seq ?_
    refine St.region ?_
    refine St.p rfl rfl ?_
    refine St.p rfl rfl ?_
    refine St.done ?_
    refine St.thenN ?_
    refine St.prune (Γ' := [(4, _)]) ⟨rfl, trivial⟩ .z ?_
    refine St.ret ?_
    repeat (first | refine St.thenR ?_ | refine St.blkR ?_)
    injection h with h
    subst h
    exact St.finR Tryd.results25 (.tmp rfl .nil) rfl [] ⟨rfl, rfl⟩ (fun _ w => (.z : Keep _ _).sat w)

theorem ent36 : Ent Tryd.prog 36 := ⟨_, Tryd.func36, by kernel_rfl, by kernel_rfl⟩

noncomputable def m_made_Dice_Next (d_p0 : T_Dice) (n_p1 : Int) : Option (T_Dice × Int) :=
  bif decide (d_p0.At ≥ (d_p0.L.length : Int)) then (some (d_p0, 0)) else (bnd (elt d_p0.L (IntKind.wrap .i64 ((IntKind.wrap .i64 (d_p0.At + 1)) - 1))) fun x1 => bnd (m_made_Mod x1 n_p1) fun r1 => some ((⟨d_p0.L, IntKind.wrap .i64 (d_p0.At + 1)⟩ : T_Dice), r1))

theorem c_made_Dice_Next {d_p0 : T_Dice} {n_p1 : Int} {A1 : Option Addr} {c1 : Nat} {gb1 : Nat} {r : (T_Dice × Int)} (h : m_made_Dice_Next d_p0 n_p1 = some r) :
    Fun Tryd.prog 36 [.pointer (some ⟨gb1, 0, none⟩), .int .i64 n_p1] [.ro (SlL ei64 A1 c1 d_p0.L), .res (Box gb1 58 [.slice A1 d_p0.L.length c1, .int .i64 d_p0.At])] (fun v_ F_ => ∃ (A1 : Option Addr) (c1 : Nat), v_ = .int .i64 r.2 ∧ F_ = [.ro (SlL ei64 A1 c1 r.1.L), .res (Box gb1 58 [.slice A1 r.1.L.length c1, .int .i64 r.1.At])]) := by
  unfold m_made_Dice_Next at h
  refine Fun.intro Tryd.func36 rfl rfl rfl fun w R => ?_
  refine St.seq ?_
  refine St.region ?_
  refine St.p rfl rfl ?_
  refine St.done ?_
  refine St.thenN ?_
  refine St.prune (Γ' := [(0, _), (1, _)]) ⟨rfl, rfl, trivial⟩ (.k (.k .z)) ?_
  refine St.seq ?_
  refine St.seq ?_
  refine St.regionF mixed (by kernel_rfl) ?_
  iterate 3 refine St.p rfl rfl ?_
  refine St.loadB 1 rfl rfl (.tail _ (.head _)) rfl rfl ?_
  iterate 3 refine St.p rfl rfl ?_
  refine St.loadB 0 rfl rfl (.tail _ (.head _)) rfl rfl ?_
  refine St.p rfl rfl ?_
  refine St.p rfl rfl ?_
  refine St.doneQ ?_
  refine St.thenN ?_
  refine St.prune (Γ' := [(0, _), (1, _), (14, _)]) ⟨rfl, rfl, rfl, trivial⟩ (.k (.k .z)) ?_
  refine St.cond _ rfl (fun hb1 => ?_) (fun hb1 => ?_)
  · replace h := bif_t hb1 h
    refine St.seq ?_
    refine St.region ?_
    refine St.p rfl rfl ?_
    refine St.done ?_
    refine St.thenN ?_
    refine St.prune (Γ' := [(4, _)]) ⟨rfl, trivial⟩ (.k (.k .z)) ?_
    refine St.ret ?_
    repeat (first | refine St.thenR ?_ | refine St.blkR ?_)
    injection h with h
    subst h
    exact St.finR Tryd.results36 (.tmp rfl .nil) rfl [.ro (SlL ei64 A1 c1 d_p0.L), .res (Box gb1 58 [.slice A1 d_p0.L.length c1, .int .i64 d_p0.At])] ⟨A1, c1, rfl, rfl⟩ (fun _ w => ((.k (.k (.d .z))) : Keep _ _).sat (Sat.dup (G := [.ro (SlL ei64 A1 c1 d_p0.L)]) rfl ⟨(.tail _ (.head _)), trivial⟩ (w.front (.s .z))))
  · replace h := bif_f hb1 h
    refine St.skip ?_
    refine St.thenN ?_
    refine St.prune (Γ' := [(0, _), (1, _)]) ⟨rfl, rfl, trivial⟩ (.k (.k .z)) ?_
    refine St.seq ?_
    refine St.region ?_
    iterate 3 refine St.p rfl rfl ?_
    refine St.loadB 1 rfl rfl (.tail _ (.head _)) rfl rfl ?_
    iterate 3 refine St.p rfl rfl ?_
    refine St.store 1 rfl rfl rfl rfl rfl rfl (.s .z) rfl ?_
    refine St.done ?_
    refine St.thenN ?_
    refine St.prune (Γ' := [(0, _), (1, _)]) ⟨rfl, rfl, trivial⟩ (.k (.k .z)) ?_
    refine St.seq ?_
    refine St.regionF mixed (by kernel_rfl) ?_
    iterate 3 refine St.p rfl rfl ?_
    refine St.loadB 0 rfl rfl (.head _) rfl rfl ?_
    iterate 3 refine St.p rfl rfl ?_
    refine St.loadB 1 rfl rfl (.head _) rfl rfl ?_
    refine St.p rfl rfl ?_
    obtain ⟨x1, hx1, h⟩ := bnd_e h
    refine St.ixL hx1 rfl rfl rfl (.tail _ (.head _)) rfl rfl rfl rfl rfl fun b1 ob1 => ?_
    refine St.load ob1 0 rfl rfl (.head _) rfl rfl ?_
    refine St.p rfl rfl ?_
    obtain ⟨r1, hr1, h⟩ := bnd_e h
    refine St.callV (c_made_Mod hr1) ent25 rfl rfl rfl rfl trivial ?_
    refine St.p rfl rfl ?_
    refine St.doneQ ?_
    refine St.thenN ?_
    refine St.prune (Γ' := [(4, _)]) ⟨rfl, trivial⟩ (.d (.k (.k .z))) ?_
    refine St.ret ?_
    repeat (first | refine St.thenR ?_ | refine St.blkR ?_)
    injection h with h
    subst h
    exact St.finR Tryd.results36 (.tmp rfl .nil) rfl [.ro (SlL ei64 A1 c1 d_p0.L), .res (Box gb1 58 [.slice A1 d_p0.L.length c1, .int .i64 (IntKind.wrap .i64 (d_p0.At + 1))])] ⟨A1, c1, rfl, rfl⟩ (fun _ w => ((.k (.k (.d .z))) : Keep _ _).sat (Sat.dup (G := [.ro (SlL ei64 A1 c1 d_p0.L)]) rfl ⟨(.tail _ (.head _)), trivial⟩ w))

theorem ent26 : Ent Tryd.prog 26 := ⟨_, Tryd.func26, by kernel_rfl, by kernel_rfl⟩

noncomputable def m_made_Dice_Text (d_p0 : T_Dice) (alphabet : ByteArray) (n_p2 : Int) : Option (T_Dice × ByteArray) :=
  bnd (loopM (τ := ByteArray × List Int × Int) (fun (s1 : ByteArray × Int × List Int × Int) => bif decide (s1.2.1 < n_p2) then (bnd (m_made_Dice_Next (⟨s1.2.2.1, s1.2.2.2⟩ : T_Dice) (alphabet.size : Int)) fun r1 => bnd (subS alphabet r1.2 (IntKind.wrap .i64 (r1.2 + 1))) fun t1 => bnd (catS s1.1 t1) fun t2 => some (.next (t2, IntKind.wrap .i64 (s1.2.1 + 1), r1.1.L, r1.1.At))) else (some (.done (s1.1, s1.2.2.1, s1.2.2.2)))) (⟨#[]⟩, 0, d_p0.L, d_p0.At)) fun o1 => some ((⟨o1.2.1, o1.2.2⟩ : T_Dice), o1.1)

theorem c_made_Dice_Text {d_p0 : T_Dice} {alphabet : ByteArray} {n_p2 : Int} {A1 : Option Addr} {c1 : Nat} {gb1 : Nat} {r : (T_Dice × ByteArray)} (h : m_made_Dice_Text d_p0 alphabet n_p2 = some r) :
    Fun Tryd.prog 26 [.pointer (some ⟨gb1, 0, none⟩), .string alphabet, .int .i64 n_p2] [.ro (SlL ei64 A1 c1 d_p0.L), .res (Box gb1 58 [.slice A1 d_p0.L.length c1, .int .i64 d_p0.At])] (fun v_ F_ => ∃ (A1 : Option Addr) (c1 : Nat), v_ = .string r.2 ∧ F_ = [.ro (SlL ei64 A1 c1 r.1.L), .res (Box gb1 58 [.slice A1 r.1.L.length c1, .int .i64 r.1.At])]) := by
  unfold m_made_Dice_Text at h
  refine Fun.intro Tryd.func26 rfl rfl rfl fun w R => ?_
  refine St.seq ?_
  refine St.region ?_
  refine St.p rfl rfl ?_
  refine St.done ?_
  refine St.thenN ?_
  refine St.prune (Γ' := [(0, _), (1, _), (2, _)]) ⟨rfl, rfl, rfl, trivial⟩ (.k (.k .z)) ?_
  refine St.seq ?_
  refine St.region ?_
  refine St.p rfl rfl ?_
  refine St.done ?_
  refine St.thenN ?_
  refine St.seq ?_
  refine St.seq ?_
  refine St.region ?_
  refine St.p rfl rfl ?_
  refine St.done ?_
  refine St.thenN ?_
  obtain ⟨o1, hl1, h⟩ := bnd_e h
  refine St.cutE (fun (e2 : Option Addr × Nat) => [(7, .string o1.1)]) (fun e2 => .ro (SlL ei64 e2.1 e2.2 o1.2.1) :: .res (Box gb1 58 [.slice e2.1 o1.2.1.length e2.2, .int .i64 o1.2.2]) :: R) ?_ ?_
  · refine St.block ?_
    refine St.loop hl1 (fun (s1 : ByteArray × Int × List Int × Int) (e1 : Option Addr × Nat) => [(0, .pointer (some ⟨gb1, 0, none⟩)), (1, .string alphabet), (2, .int .i64 n_p2), (7, .string s1.1), (8, .int .i64 s1.2.1)]) (fun s1 e1 => .ro (SlL ei64 e1.1 e1.2 s1.2.2.1) :: .res (Box gb1 58 [.slice e1.1 s1.2.2.1.length e1.2, .int .i64 s1.2.2.2]) :: R) (fun _ _ => True) (A1, c1) trivial ⟨rfl, rfl, rfl, rfl, rfl, trivial⟩ (fun _ w => ((.k (.k .z)) : Keep _ _).sat w) ?_
    rintro s1 ⟨A2, c2⟩ - hit1
    obtain ⟨st1, hm1, hd1⟩ := iter_e hit1
    have h1 := hm1
    refine St.seq ?_
    refine St.seq ?_
    refine St.region ?_
    iterate 3 refine St.p rfl rfl ?_
    refine St.done ?_
    refine St.thenN ?_
    refine St.prune (Γ' := [(0, _), (1, _), (2, _), (7, _), (8, _), (12, _)]) ⟨rfl, rfl, rfl, rfl, rfl, rfl, trivial⟩ (.k (.k .z)) ?_
    refine St.cond _ rfl (fun hb1 => ?_) (fun hb1 => ?_)
    · replace h1 := bif_t hb1 h1
      refine St.skip ?_
      refine St.thenN ?_
      refine St.prune (Γ' := [(0, _), (1, _), (2, _), (7, _), (8, _)]) ⟨rfl, rfl, rfl, rfl, rfl, trivial⟩ (.k (.k .z)) ?_
      refine St.seq ?_
      refine St.block ?_
      refine St.seq ?_
      refine St.region ?_
      iterate 3 refine St.p rfl rfl ?_
      obtain ⟨r1, hr1, h1⟩ := bnd_e h1
      refine St.call (c_made_Dice_Next hr1) ent36 rfl rfl rfl (fun _ w => Sat.dup (G := [.ro (SlL ei64 A2 c2 s1.2.2.1)]) rfl ⟨(.tail _ (.head _)), trivial⟩ (w.front (.s .z))) ?_
      rintro _ _ ⟨A4, c4, rfl, rfl⟩
      refine St.asrt (F' := .ro (SlL ei64 A4 c4 r1.1.L) :: .res (Box gb1 58 [.slice A4 r1.1.L.length c4, .int .i64 r1.1.At]) :: .ro (SlL ei64 A2 c2 s1.2.2.1) :: R) (fun _ w => w) ?_
      refine St.p rfl rfl ?_
      refine St.done ?_
      refine St.thenN ?_
      refine St.prune (Γ' := [(0, _), (1, _), (2, _), (7, _), (8, _), (9, _)]) ⟨rfl, rfl, rfl, rfl, rfl, rfl, trivial⟩ (.k (.k (.d .z))) ?_
      refine St.region ?_
      iterate 5 refine St.p rfl rfl ?_
      obtain ⟨t1, ht1, h1⟩ := bnd_e h1
      refine St.subS rfl rfl rfl rfl rfl rfl ht1 ?_
      obtain ⟨t2, ht2, h1⟩ := bnd_e h1
      refine St.catS rfl rfl rfl ht2 ?_
      refine St.p rfl rfl ?_
      refine St.done ?_
      refine St.blkN ?_
      refine St.thenN ?_
      refine St.prune (Γ' := [(0, _), (1, _), (2, _), (7, _), (8, _)]) ⟨rfl, rfl, rfl, rfl, rfl, trivial⟩ (.k (.k .z)) ?_
      refine St.region ?_
      iterate 3 refine St.p rfl rfl ?_
      refine St.done ?_
      injection h1 with h1
      subst h1
      refine St.thenN ?_
      exact St.again _ (A4, c4) hm1 trivial ⟨rfl, rfl, rfl, rfl, rfl, trivial⟩ (fun _ w => ((.k (.k .z)) : Keep _ _).sat w)
    · replace h1 := bif_f hb1 h1
      refine St.exit ?_
      repeat (first | refine St.thenX ?_ | refine St.blkMiss rfl ?_)
      refine St.blkHit ?_
      injection h1 with h1
      subst h1
      have ho := hd1 _ rfl
      subst ho
      refine St.thenN ?_
      exact St.hereE (A2, c2) ⟨rfl, trivial⟩ (fun _ w => ((.k (.k .z)) : Keep _ _).sat w)
  · rintro ⟨A3, c3⟩
    refine St.seq ?_
    refine St.region ?_
    refine St.p rfl rfl ?_
    refine St.p rfl rfl ?_
    refine St.done ?_
    refine St.thenN ?_
    refine St.prune (Γ' := [(6, _)]) ⟨rfl, trivial⟩ (.k (.k .z)) ?_
    refine St.ret ?_
    repeat (first | refine St.thenR ?_ | refine St.blkR ?_)
    injection h with h
    subst h
    exact St.finR Tryd.results26 (.tmp rfl .nil) rfl [.ro (SlL ei64 A3 c3 o1.2.1), .res (Box gb1 58 [.slice A3 o1.2.1.length c3, .int .i64 o1.2.2])] ⟨A3, c3, rfl, rfl⟩ (fun _ w => ((.k (.k (.d .z))) : Keep _ _).sat (Sat.dup (G := [.ro (SlL ei64 A3 c3 o1.2.1)]) rfl ⟨(.tail _ (.head _)), trivial⟩ (w.front (.s .z))))

theorem ent47 : Ent Tryd.prog 47 := ⟨_, Tryd.func47, by kernel_rfl, by kernel_rfl⟩

noncomputable def m_made_Dice_Bool (d_p0 : T_Dice) (n_p1 : Int) : Option (T_Dice × Bool) :=
  bnd (m_made_Dice_Next d_p0 n_p1) fun r1 => some (r1.1, (r1.2 == (IntKind.wrap .i64 (n_p1 - 1))))

theorem c_made_Dice_Bool {d_p0 : T_Dice} {n_p1 : Int} {A1 : Option Addr} {c1 : Nat} {gb1 : Nat} {r : (T_Dice × Bool)} (h : m_made_Dice_Bool d_p0 n_p1 = some r) :
    Fun Tryd.prog 47 [.pointer (some ⟨gb1, 0, none⟩), .int .i64 n_p1] [.ro (SlL ei64 A1 c1 d_p0.L), .res (Box gb1 58 [.slice A1 d_p0.L.length c1, .int .i64 d_p0.At])] (fun v_ F_ => ∃ (A1 : Option Addr) (c1 : Nat), v_ = .bool r.2 ∧ F_ = [.ro (SlL ei64 A1 c1 r.1.L), .res (Box gb1 58 [.slice A1 r.1.L.length c1, .int .i64 r.1.At])]) := by
  unfold m_made_Dice_Bool at h
  refine Fun.intro Tryd.func47 rfl rfl rfl fun w R => ?_
  refine St.seq ?_
  refine St.region ?_
  refine St.p rfl rfl ?_
  refine St.done ?_
  refine St.thenN ?_
  refine St.prune (Γ' := [(0, _), (1, _)]) ⟨rfl, rfl, trivial⟩ (.k (.k .z)) ?_
  refine St.seq ?_
  refine St.region ?_
  refine St.p rfl rfl ?_
  refine St.p rfl rfl ?_
  obtain ⟨r1, hr1, h⟩ := bnd_e h
  refine St.call (c_made_Dice_Next hr1) ent36 rfl rfl rfl (fun _ w => Sat.dup (G := [.ro (SlL ei64 A1 c1 d_p0.L)]) rfl ⟨(.tail _ (.head _)), trivial⟩ (w.front (.s .z))) ?_
  rintro _ _ ⟨A2, c2, rfl, rfl⟩
  refine St.asrt (F' := .ro (SlL ei64 A2 c2 r1.1.L) :: .res (Box gb1 58 [.slice A2 r1.1.L.length c2, .int .i64 r1.1.At]) :: .ro (SlL ei64 A1 c1 d_p0.L) :: R) (fun _ w => w) ?_
  iterate 4 refine St.p rfl rfl ?_
  refine St.done ?_
  refine St.thenN ?_
  refine St.prune (Γ' := [(4, _)]) ⟨rfl, trivial⟩ (.k (.k (.d .z))) ?_
  refine St.ret ?_
  repeat (first | refine St.thenR ?_ | refine St.blkR ?_)
  injection h with h
  subst h
  exact St.finR Tryd.results47 (.tmp rfl .nil) rfl [.ro (SlL ei64 A2 c2 r1.1.L), .res (Box gb1 58 [.slice A2 r1.1.L.length c2, .int .i64 r1.1.At])] ⟨A2, c2, rfl, rfl⟩ (fun _ w => ((.k (.k (.d .z))) : Keep _ _).sat (Sat.dup (G := [.ro (SlL ei64 A2 c2 r1.1.L)]) rfl ⟨(.tail _ (.head _)), trivial⟩ (w.front (.s .z))))

theorem ent58 : Ent Tryd.prog 58 := ⟨_, Tryd.func58, by kernel_rfl, by kernel_rfl⟩

noncomputable def m_made_Dice_Byte (d_p0 : T_Dice) : Option (T_Dice × Int) :=
  bnd (m_made_Dice_Bool d_p0 3) fun r1 => bif r1.2 then (bnd (m_made_Dice_Next r1.1 8) fun r2 => bnd (elt ([0, 1, 127, 128, 254, 255, 15, 240]) r2.2) fun x1 => some (r2.1, x1)) else (bnd (m_made_Dice_Next r1.1 256) fun r3 => some (r3.1, IntKind.wrap .u8 r3.2))

theorem c_made_Dice_Byte {d_p0 : T_Dice} {A1 : Option Addr} {c1 : Nat} {gb1 : Nat} {r : (T_Dice × Int)} (h : m_made_Dice_Byte d_p0 = some r) :
    Fun Tryd.prog 58 [.pointer (some ⟨gb1, 0, none⟩)] [.ro (SlL ei64 A1 c1 d_p0.L), .res (Box gb1 58 [.slice A1 d_p0.L.length c1, .int .i64 d_p0.At])] (fun v_ F_ => ∃ (A1 : Option Addr) (c1 : Nat), v_ = .int .u8 r.2 ∧ F_ = [.ro (SlL ei64 A1 c1 r.1.L), .res (Box gb1 58 [.slice A1 r.1.L.length c1, .int .i64 r.1.At])]) := by
  unfold m_made_Dice_Byte at h
  refine Fun.intro Tryd.func58 rfl rfl rfl fun w R => ?_
  refine St.seq ?_
  refine St.region ?_
  refine St.p rfl rfl ?_
  refine St.done ?_
  refine St.thenN ?_
  refine St.prune (Γ' := [(0, _)]) ⟨rfl, trivial⟩ (.k (.k .z)) ?_
  refine St.seq ?_
  refine St.region ?_
  refine St.p rfl rfl ?_
  refine St.alloc rfl rfl fun g1 => ?_
  refine St.store 0 rfl rfl rfl rfl rfl rfl .z rfl ?_
  refine St.asrt (fun _ w => (w.front .z).litL (E := eu8) (e := 85) [0, 1, 127, 128, 254, 255, 15, 240] rfl rfl) ?_
  refine St.done ?_
  refine St.thenN ?_
  refine St.prune (Γ' := [(0, _), (3, _)]) ⟨rfl, rfl, trivial⟩ (.k (.k (.k .z))) ?_
  refine St.seq ?_
  refine St.seq ?_
  refine St.region ?_
  refine St.p rfl rfl ?_
  obtain ⟨r1, hr1, h⟩ := bnd_e h
  refine St.call (c_made_Dice_Bool hr1) ent47 rfl rfl rfl (fun _ w => Sat.dup (G := [.ro (SlL ei64 A1 c1 d_p0.L)]) rfl ⟨(.tail _ (.tail _ (.head _))), trivial⟩ (w.front (.s (.s .z)))) ?_
  rintro _ _ ⟨A2, c2, rfl, rfl⟩
  refine St.asrt (F' := .ro (SlL ei64 A2 c2 r1.1.L) :: .res (Box gb1 58 [.slice A2 r1.1.L.length c2, .int .i64 r1.1.At]) :: .res (OwnL eu8 85 (some ⟨g1, 0, none⟩) ([0, 1, 127, 128, 254, 255, 15, 240] : List Int).length ([0, 1, 127, 128, 254, 255, 15, 240])) :: .ro (SlL ei64 A1 c1 d_p0.L) :: R) (fun _ w => w) ?_
  refine St.done ?_
  refine St.thenN ?_
  refine St.prune (Γ' := [(0, _), (3, _), (6, _)]) ⟨rfl, rfl, rfl, trivial⟩ (.k (.k (.k (.d .z)))) ?_
  refine St.cond _ rfl (fun hb1 => ?_) (fun hb1 => ?_)
  · replace h := bif_t hb1 h
    refine St.seq ?_
    refine St.region ?_
    refine St.p rfl rfl ?_
    obtain ⟨r2, hr2, h⟩ := bnd_e h
    refine St.call (c_made_Dice_Next hr2) ent36 rfl rfl rfl (fun _ w => Sat.dup (G := [.ro (SlL ei64 A2 c2 r1.1.L)]) rfl ⟨(.tail _ (.head _)), trivial⟩ (w.front (.s .z))) ?_
    rintro _ _ ⟨A3, c3, rfl, rfl⟩
    refine St.asrt (F' := .ro (SlL ei64 A3 c3 r2.1.L) :: .res (Box gb1 58 [.slice A3 r2.1.L.length c3, .int .i64 r2.1.At]) :: .ro (SlL ei64 A2 c2 r1.1.L) :: .res (OwnL eu8 85 (some ⟨g1, 0, none⟩) ([0, 1, 127, 128, 254, 255, 15, 240] : List Int).length ([0, 1, 127, 128, 254, 255, 15, 240])) :: R) (fun _ w => w) ?_
    obtain ⟨x1, hx1, h⟩ := bnd_e h
    refine St.ixA (sz := 1) hx1 rfl rfl rfl rfl rfl rfl rfl rfl ?_
    refine St.ldO 0 hx1 rfl rfl (.tail _ (.tail _ (.tail _ (.head _)))) rfl rfl ?_
    refine St.p rfl rfl ?_
    refine St.done ?_
    refine St.thenN ?_
    refine St.prune (Γ' := [(2, _)]) ⟨rfl, trivial⟩ (.k (.k (.d (.d .z)))) ?_
    refine St.ret ?_
    repeat (first | refine St.thenR ?_ | refine St.blkR ?_)
    injection h with h
    subst h
    exact St.finR Tryd.results58 (.tmp rfl .nil) rfl [.ro (SlL ei64 A3 c3 r2.1.L), .res (Box gb1 58 [.slice A3 r2.1.L.length c3, .int .i64 r2.1.At])] ⟨A3, c3, rfl, rfl⟩ (fun _ w => ((.k (.k (.d .z))) : Keep _ _).sat (Sat.dup (G := [.ro (SlL ei64 A3 c3 r2.1.L)]) rfl ⟨(.tail _ (.head _)), trivial⟩ (w.front (.s .z))))
  · replace h := bif_f hb1 h
    refine St.skip ?_
    refine St.thenN ?_
    refine St.prune (Γ' := [(0, _)]) ⟨rfl, trivial⟩ (.k (.k (.d .z))) ?_
    refine St.seq ?_
    refine St.region ?_
    refine St.p rfl rfl ?_
    obtain ⟨r3, hr3, h⟩ := bnd_e h
    refine St.call (c_made_Dice_Next hr3) ent36 rfl rfl rfl (fun _ w => Sat.dup (G := [.ro (SlL ei64 A2 c2 r1.1.L)]) rfl ⟨(.tail _ (.head _)), trivial⟩ (w.front (.s .z))) ?_
    rintro _ _ ⟨A4, c4, rfl, rfl⟩
    refine St.asrt (F' := .ro (SlL ei64 A4 c4 r3.1.L) :: .res (Box gb1 58 [.slice A4 r3.1.L.length c4, .int .i64 r3.1.At]) :: .ro (SlL ei64 A2 c2 r1.1.L) :: R) (fun _ w => w) ?_
    refine St.p rfl rfl ?_
    refine St.p rfl rfl ?_
    refine St.done ?_
    refine St.thenN ?_
    refine St.prune (Γ' := [(2, _)]) ⟨rfl, trivial⟩ (.k (.k (.d .z))) ?_
    refine St.ret ?_
    repeat (first | refine St.thenR ?_ | refine St.blkR ?_)
    injection h with h
    subst h
    exact St.finR Tryd.results58 (.tmp rfl .nil) rfl [.ro (SlL ei64 A4 c4 r3.1.L), .res (Box gb1 58 [.slice A4 r3.1.L.length c4, .int .i64 r3.1.At])] ⟨A4, c4, rfl, rfl⟩ (fun _ w => ((.k (.k (.d .z))) : Keep _ _).sat (Sat.dup (G := [.ro (SlL ei64 A4 c4 r3.1.L)]) rfl ⟨(.tail _ (.head _)), trivial⟩ (w.front (.s .z))))

theorem ent46 : Ent Tryd.prog 46 := ⟨_, Tryd.func46, by kernel_rfl, by kernel_rfl⟩

noncomputable def m_made_Dice_Bytes (d_p0 : T_Dice) (n_p1 : Int) : Option (T_Dice × (List Int)) :=
  bnd (m_made_Dice_Next d_p0 (IntKind.wrap .i64 (n_p1 + 1))) fun r1 => bnd (loopM (τ := List Int × List Int × Int) (fun (s1 : List Int × Int × List Int × Int) => bif decide (s1.2.1 > 0) then (bnd (m_made_Dice_Byte (⟨s1.2.2.1, s1.2.2.2⟩ : T_Dice)) fun r2 => bnd (app 1 s1.1 [r2.2]) fun l1 => some (.next (l1, IntKind.wrap .i64 (s1.2.1 - 1), r2.1.L, r2.1.At))) else (some (.done (s1.1, s1.2.2.1, s1.2.2.2)))) ([], r1.2, r1.1.L, r1.1.At)) fun o1 => some ((⟨o1.2.1, o1.2.2⟩ : T_Dice), o1.1)

theorem c_made_Dice_Bytes {d_p0 : T_Dice} {n_p1 : Int} {A1 : Option Addr} {c1 : Nat} {gb1 : Nat} {r : (T_Dice × (List Int))} (h : m_made_Dice_Bytes d_p0 n_p1 = some r) :
    Fun Tryd.prog 46 [.pointer (some ⟨gb1, 0, none⟩), .int .i64 n_p1] [.ro (SlL ei64 A1 c1 d_p0.L), .res (Box gb1 58 [.slice A1 d_p0.L.length c1, .int .i64 d_p0.At])] (fun v_ F_ => ∃ (A1 : Option Addr) (c1 : Nat) (A2 : Option Addr) (c2 : Nat), v_ = .slice A2 r.2.length c2 ∧ F_ = [.ro (SlL ei64 A1 c1 r.1.L), .res (Box gb1 58 [.slice A1 r.1.L.length c1, .int .i64 r.1.At]), .res (OwnL eu8 5 A2 c2 r.2)]) := by
  unfold m_made_Dice_Bytes at h
  refine Fun.intro Tryd.func46 rfl rfl rfl fun w R => ?_
  refine St.seq ?_
  refine St.region ?_
  refine St.p rfl rfl ?_
  refine St.done ?_
  refine St.thenN ?_
  refine St.prune (Γ' := [(0, _), (1, _)]) ⟨rfl, rfl, trivial⟩ (.k (.k .z)) ?_
  refine St.seq ?_
  refine St.region ?_
  refine St.p rfl rfl ?_
  refine St.done ?_
  refine St.thenN ?_
  refine St.seq ?_
  refine St.seq ?_
  refine St.region ?_
  iterate 3 refine St.p rfl rfl ?_
  obtain ⟨r1, hr1, h⟩ := bnd_e h
  refine St.call (c_made_Dice_Next hr1) ent36 rfl rfl rfl (fun _ w => Sat.dup (G := [.ro (SlL ei64 A1 c1 d_p0.L)]) rfl ⟨(.tail _ (.head _)), trivial⟩ (w.front (.s .z))) ?_
  rintro _ _ ⟨A2, c2, rfl, rfl⟩
  refine St.asrt (F' := .ro (SlL ei64 A2 c2 r1.1.L) :: .res (Box gb1 58 [.slice A2 r1.1.L.length c2, .int .i64 r1.1.At]) :: .ro (SlL ei64 A1 c1 d_p0.L) :: R) (fun _ w => w) ?_
  refine St.p rfl rfl ?_
  refine St.done ?_
  refine St.thenN ?_
  refine St.prune (Γ' := [(0, _), (5, _), (6, _)]) ⟨rfl, rfl, rfl, trivial⟩ (.k (.k (.d .z))) ?_
  refine St.asrt (fun _ w => w.nilL eu8 5) ?_
  obtain ⟨o1, hl1, h⟩ := bnd_e h
  refine St.cutE (fun (e2 : Option Addr × Nat × Option Addr × Nat) => [(5, .slice e2.1 o1.1.length e2.2.1)]) (fun e2 => .ro (SlL ei64 e2.2.2.1 e2.2.2.2 o1.2.1) :: .res (OwnL eu8 5 e2.1 e2.2.1 o1.1) :: .res (Box gb1 58 [.slice e2.2.2.1 o1.2.1.length e2.2.2.2, .int .i64 o1.2.2]) :: R) ?_ ?_
  · refine St.block ?_
    refine St.loop hl1 (fun (s1 : List Int × Int × List Int × Int) (e1 : Option Addr × Nat × Option Addr × Nat) => [(0, .pointer (some ⟨gb1, 0, none⟩)), (5, .slice e1.1 s1.1.length e1.2.1), (6, .int .i64 s1.2.1)]) (fun s1 e1 => .ro (SlL ei64 e1.2.2.1 e1.2.2.2 s1.2.2.1) :: .res (OwnL eu8 5 e1.1 e1.2.1 s1.1) :: .res (Box gb1 58 [.slice e1.2.2.1 s1.2.2.1.length e1.2.2.2, .int .i64 s1.2.2.2]) :: R) (fun _ _ => True) (none, 0, A2, c2) trivial ⟨rfl, rfl, rfl, trivial⟩ (fun _ w => ((.k (.k (.k .z))) : Keep _ _).sat (((w.front (.s (.s .z))).front (.s .z)).front (.s (.s .z)))) ?_
    rintro s1 ⟨A3, c3, A4, c4⟩ - hit1
    obtain ⟨st1, hm1, hd1⟩ := iter_e hit1
    have h1 := hm1
    refine St.seq ?_
    refine St.seq ?_
    refine St.region ?_
    refine St.p rfl rfl ?_
    refine St.p rfl rfl ?_
    refine St.done ?_
    refine St.thenN ?_
    refine St.prune (Γ' := [(0, _), (5, _), (6, _), (12, _)]) ⟨rfl, rfl, rfl, rfl, trivial⟩ (.k (.k (.k .z))) ?_
    refine St.cond _ rfl (fun hb1 => ?_) (fun hb1 => ?_)
    · replace h1 := bif_t hb1 h1
      refine St.skip ?_
      refine St.thenN ?_
      refine St.prune (Γ' := [(0, _), (5, _), (6, _)]) ⟨rfl, rfl, rfl, trivial⟩ (.k (.k (.k .z))) ?_
      refine St.seq ?_
      refine St.block ?_
      refine St.region ?_
      refine St.p rfl rfl ?_
      refine St.p rfl rfl ?_
      obtain ⟨r2, hr2, h1⟩ := bnd_e h1
      refine St.call (c_made_Dice_Byte hr2) ent58 rfl rfl rfl (fun _ w => Sat.dup (G := [.ro (SlL ei64 A4 c4 s1.2.2.1)]) rfl ⟨(.tail _ (.head _)), trivial⟩ (w.front (.s (.s .z)))) ?_
      rintro _ _ ⟨A7, c7, rfl, rfl⟩
      refine St.asrt (F' := .ro (SlL ei64 A7 c7 r2.1.L) :: .res (Box gb1 58 [.slice A7 r2.1.L.length c7, .int .i64 r2.1.At]) :: .ro (SlL ei64 A4 c4 s1.2.2.1) :: .res (OwnL eu8 5 A3 c3 s1.1) :: R) (fun _ w => w) ?_
      refine St.buildSlice rfl rfl rfl rfl rfl rfl rfl rfl fun g1 => ?_
      obtain ⟨l1, hl1, h1⟩ := bnd_e h1
      refine St.app (E := eu8) hl1 rfl rfl rfl (.s (.s (.s (.s .z)))) rfl rfl rfl rfl rfl rfl rfl rfl (srcB (.head _) rfl rfl) rfl rfl fun A8 c8 => ?_
      refine St.p rfl rfl ?_
      refine St.done ?_
      refine St.blkN ?_
      refine St.thenN ?_
      refine St.prune (Γ' := [(0, _), (5, _), (6, _)]) ⟨rfl, rfl, rfl, trivial⟩ (.k (.d (.k (.k (.d .z))))) ?_
      refine St.region ?_
      iterate 3 refine St.p rfl rfl ?_
      refine St.done ?_
      injection h1 with h1
      subst h1
      refine St.thenN ?_
      exact St.again _ (A8, c8, A7, c7) hm1 trivial ⟨rfl, rfl, rfl, trivial⟩ (fun _ w => ((.k (.k (.k .z))) : Keep _ _).sat (((w.front (.s (.s .z))).front (.s .z)).front (.s (.s .z))))
    · replace h1 := bif_f hb1 h1
      refine St.exit ?_
      repeat (first | refine St.thenX ?_ | refine St.blkMiss rfl ?_)
      refine St.blkHit ?_
      injection h1 with h1
      subst h1
      have ho := hd1 _ rfl
      subst ho
      refine St.thenN ?_
      exact St.hereE (A3, c3, A4, c4) ⟨rfl, trivial⟩ (fun _ w => ((.k (.k (.k .z))) : Keep _ _).sat w)
  · rintro ⟨A5, c5, A6, c6⟩
    refine St.seq ?_
    refine St.region ?_
    refine St.p rfl rfl ?_
    refine St.p rfl rfl ?_
    refine St.done ?_
    refine St.thenN ?_
    refine St.prune (Γ' := [(4, _)]) ⟨rfl, trivial⟩ (.k (.k (.k .z))) ?_
    refine St.ret ?_
    repeat (first | refine St.thenR ?_ | refine St.blkR ?_)
    injection h with h
    subst h
    exact St.finR Tryd.results46 (.tmp rfl .nil) rfl [.ro (SlL ei64 A6 c6 o1.2.1), .res (Box gb1 58 [.slice A6 o1.2.1.length c6, .int .i64 o1.2.2]), .res (OwnL eu8 5 A5 c5 o1.1)] ⟨A6, c6, A5, c5, rfl, rfl⟩ (fun _ w => ((.k (.k (.k (.d .z)))) : Keep _ _).sat (Sat.dup (G := [.ro (SlL ei64 A6 c6 o1.2.1)]) rfl ⟨(.tail _ (.tail _ (.head _))), trivial⟩ ((w.front (.s .z)).front (.s (.s .z)))))

theorem ent29 : Ent Tryd.prog 29 := ⟨_, Tryd.func29, by kernel_rfl, by kernel_rfl⟩

noncomputable def m_made_Dice_Field (d_p0 : T_Dice) : Option (T_Dice × T_Field) :=
  bnd (m_made_Dice_Next d_p0 4) fun r1 => bnd (m_made_Dice_Next r1.1 9) fun r2 => bif (r1.2 == 1) then (bnd (m_made_Dice_Text r2.1 (⟨#[48, 49, 50, 51, 52, 53, 54, 55, 56, 57, 32, 45, 46]⟩) (IntKind.wrap .i64 (2 * r2.2))) fun r3 => bnd (m_made_Dice_Bool r3.1 40) fun r4 => bif r4.2 then (bnd (mkS 1 0 63 63) fun l1 => some (r4.1, (⟨0, strOf l1⟩ : T_Field))) else (some (r4.1, (⟨r1.2, r3.2⟩ : T_Field)))) else (bif (r1.2 == 2) then (bnd ((bif ((r2.2.tmod 4) == 3) then (some (IntKind.wrap .i64 (r2.2 + 1))) else (some r2.2) : Option Int)) fun o1 => bnd (m_made_Dice_Text r2.1 (⟨#[32, 33, 48, 65, 57, 90, 95, 45, 46, 47]⟩) o1) fun r5 => bnd (m_made_Dice_Bool r5.1 40) fun r6 => bif r6.2 then (bnd (mkS 1 0 63 63) fun l2 => some (r6.1, (⟨0, strOf l2⟩ : T_Field))) else (some (r6.1, (⟨r1.2, r5.2⟩ : T_Field)))) else (bif (r1.2 == 3) then (bnd ((bif (r2.2 == 1) then (some 2) else (some r2.2) : Option Int)) fun o2 => bnd (m_made_Dice_Text r2.1 (⟨#[97, 98, 99, 88, 89, 90, 32, 48, 49, 57, 195, 169]⟩) o2) fun r7 => bnd (m_made_Dice_Bool r7.1 40) fun r8 => bif r8.2 then (bnd (mkS 1 0 63 63) fun l3 => some (r8.1, (⟨0, strOf l3⟩ : T_Field))) else (some (r8.1, (⟨r1.2, r7.2⟩ : T_Field)))) else (bnd (m_made_Dice_Bytes r2.1 r2.2) fun r9 => bnd (m_made_Dice_Bool r9.1 40) fun r10 => bif r10.2 then (bnd (mkS 1 0 63 63) fun l4 => some (r10.1, (⟨0, strOf l4⟩ : T_Field))) else (some (r10.1, (⟨r1.2, strOf r9.2⟩ : T_Field))))))

set_option maxHeartbeats 4000000 in
theorem c_made_Dice_Field {d_p0 : T_Dice} {A1 : Option Addr} {c1 : Nat} {gb1 : Nat} {r : (T_Dice × T_Field)} (h : m_made_Dice_Field d_p0 = some r) :
    Fun Tryd.prog 29 [.pointer (some ⟨gb1, 0, none⟩)] [.ro (SlL ei64 A1 c1 d_p0.L), .res (Box gb1 58 [.slice A1 d_p0.L.length c1, .int .i64 d_p0.At])] (fun v_ F_ => ∃ (A1 : Option Addr) (c1 : Nat), v_ = .agg #[.int .i64 r.2.Kind, .string r.2.Value] ∧ F_ = [.ro (SlL ei64 A1 c1 r.1.L), .res (Box gb1 58 [.slice A1 r.1.L.length c1, .int .i64 r.1.At])]) := by
  unfold m_made_Dice_Field at h
  refine Fun.intro Tryd.func29 rfl rfl rfl fun w R => ?_
  refine St.seq ?_
  refine St.region ?_
  refine St.alloc rfl rfl fun g1 => ?_
  refine St.done ?_
  refine St.thenN ?_
  refine St.seq ?_
  refine St.region ?_
  refine St.p rfl rfl ?_
  obtain ⟨r1, hr1, h⟩ := bnd_e h
  refine St.call (c_made_Dice_Next hr1) ent36 rfl rfl rfl (fun _ w => Sat.dup (G := [.ro (SlL ei64 A1 c1 d_p0.L)]) rfl ⟨(.tail _ (.tail _ (.head _))), trivial⟩ (w.front (.s (.s .z)))) ?_
  rintro _ _ ⟨A2, c2, rfl, rfl⟩
  refine St.asrt (F' := .ro (SlL ei64 A2 c2 r1.1.L) :: .res (Box gb1 58 [.slice A2 r1.1.L.length c2, .int .i64 r1.1.At]) :: .res (Box g1 23 [.int .i64 0, .string (⟨#[]⟩)]) :: .ro (SlL ei64 A1 c1 d_p0.L) :: R) (fun _ w => w) ?_
  refine St.p rfl rfl ?_
  refine St.alloc rfl rfl fun g2 => ?_
  refine St.store 0 rfl rfl rfl rfl rfl rfl .z rfl ?_
  refine St.done ?_
  refine St.thenN ?_
  refine St.prune (Γ' := [(0, _), (2, _), (3, _)]) ⟨rfl, rfl, rfl, trivial⟩ (.k (.k (.k (.k (.d .z))))) ?_
  refine St.seq ?_
  refine St.region ?_
  refine St.p rfl rfl ?_
  obtain ⟨r2, hr2, h⟩ := bnd_e h
  refine St.call (c_made_Dice_Next hr2) ent36 rfl rfl rfl (fun _ w => Sat.dup (G := [.ro (SlL ei64 A2 c2 r1.1.L)]) rfl ⟨(.tail _ (.tail _ (.head _))), trivial⟩ (w.front (.s (.s .z)))) ?_
  rintro _ _ ⟨A3, c3, rfl, rfl⟩
  refine St.asrt (F' := .ro (SlL ei64 A3 c3 r2.1.L) :: .res (Box gb1 58 [.slice A3 r2.1.L.length c3, .int .i64 r2.1.At]) :: .res (Box g2 23 [.int .i64 r1.2, .string (⟨#[]⟩)]) :: .ro (SlL ei64 A2 c2 r1.1.L) :: .res (Box g1 23 [.int .i64 0, .string (⟨#[]⟩)]) :: R) (fun _ w => w) ?_
  refine St.p rfl rfl ?_
  refine St.done ?_
  refine St.thenN ?_
  refine St.prune (Γ' := [(0, _), (2, _), (3, _), (4, _)]) ⟨rfl, rfl, rfl, rfl, trivial⟩ (.k (.k (.k (.d (.k .z))))) ?_
  refine St.seq ?_
  refine St.seq ?_
  refine St.region ?_
  refine St.p rfl rfl ?_
  refine St.loadB 0 rfl rfl (.tail _ (.tail _ (.head _))) rfl rfl ?_
  refine St.done ?_
  refine St.thenN ?_
  refine St.prune (Γ' := [(0, _), (2, _), (3, _), (4, _), (11, _)]) ⟨rfl, rfl, rfl, rfl, rfl, trivial⟩ (.k (.k (.k (.k .z)))) ?_
  refine St.block ?_
  refine St.seq ?_
  refine St.region ?_
  refine St.p rfl rfl ?_
  refine St.p rfl rfl ?_
  refine St.done ?_
  refine St.thenN ?_
  refine St.prune (Γ' := [(0, _), (2, _), (3, _), (4, _), (11, _), (17, _)]) ⟨rfl, rfl, rfl, rfl, rfl, rfl, trivial⟩ (.k (.k (.k (.k .z)))) ?_
  refine St.cond _ rfl (fun hb1 => ?_) (fun hb1 => ?_)
  · replace h := bif_t hb1 h
    refine St.region ?_
    iterate 3 refine St.p rfl rfl ?_
    obtain ⟨r3, hr3, h⟩ := bnd_e h
    refine St.call (c_made_Dice_Text hr3) ent26 rfl rfl rfl (fun _ w => Sat.dup (G := [.ro (SlL ei64 A3 c3 r2.1.L)]) rfl ⟨(.tail _ (.head _)), trivial⟩ (w.front (.s .z))) ?_
    rintro _ _ ⟨A4, c4, rfl, rfl⟩
    refine St.asrt (F' := .ro (SlL ei64 A4 c4 r3.1.L) :: .res (Box gb1 58 [.slice A4 r3.1.L.length c4, .int .i64 r3.1.At]) :: .ro (SlL ei64 A3 c3 r2.1.L) :: .res (Box g2 23 [.int .i64 r1.2, .string (⟨#[]⟩)]) :: .res (Box g1 23 [.int .i64 0, .string (⟨#[]⟩)]) :: R) (fun _ w => w) ?_
    refine St.p rfl rfl ?_
    refine St.store 1 rfl rfl rfl rfl rfl rfl (.s (.s (.s .z))) rfl ?_
    refine St.done ?_
    refine St.blkN ?_
    refine St.thenN ?_
    refine St.prune (Γ' := [(0, _), (2, _), (3, _)]) ⟨rfl, rfl, rfl, trivial⟩ (.k (.k (.k (.d (.k .z))))) ?_
    refine St.seq ?_
    refine St.seq ?_
    refine St.region ?_
    refine St.p rfl rfl ?_
    obtain ⟨r4, hr4, h⟩ := bnd_e h
    refine St.call (c_made_Dice_Bool hr4) ent47 rfl rfl rfl (fun _ w => Sat.dup (G := [.ro (SlL ei64 A4 c4 r3.1.L)]) rfl ⟨(.tail _ (.tail _ (.head _))), trivial⟩ (w.front (.s (.s .z)))) ?_
    rintro _ _ ⟨A5, c5, rfl, rfl⟩
    refine St.asrt (F' := .ro (SlL ei64 A5 c5 r4.1.L) :: .res (Box gb1 58 [.slice A5 r4.1.L.length c5, .int .i64 r4.1.At]) :: .res (Box g2 23 [.int .i64 r1.2, .string r3.2]) :: .ro (SlL ei64 A4 c4 r3.1.L) :: .res (Box g1 23 [.int .i64 0, .string (⟨#[]⟩)]) :: R) (fun _ w => w) ?_
    refine St.done ?_
    refine St.thenN ?_
    refine St.prune (Γ' := [(2, _), (3, _), (44, _)]) ⟨rfl, rfl, rfl, trivial⟩ (.k (.k (.k (.d (.k .z))))) ?_
    refine St.cond _ rfl (fun hb2 => ?_) (fun hb2 => ?_)
    · replace h := bif_t hb2 h
      refine St.region ?_
      obtain ⟨l1, hl1, h⟩ := bnd_e h
      refine St.mkL (E := eu8) 0 hl1 rfl rfl rfl rfl rfl rfl rfl rfl rfl rfl fun g3 => ?_
      refine St.asrt (fun _ w => (w.front .z).meltL) ?_
      refine St.b2s rfl rfl rfl rfl rfl rfl rfl rfl rfl (srcL (E := eu8) (.head _)) ?_
      refine St.p rfl rfl ?_
      refine St.store 0 rfl rfl rfl rfl rfl rfl (.s (.s (.s .z))) rfl ?_
      refine St.done ?_
      refine St.thenN ?_
      refine St.prune (Γ' := [(2, _), (3, _)]) ⟨rfl, rfl, trivial⟩ (.k (.d (.k (.k (.k .z))))) ?_
      refine St.seq ?_
      refine St.region ?_
      refine St.loadB 0 rfl rfl (.head _) rfl rfl ?_
      refine St.store 0 rfl rfl rfl rfl rfl rfl (.s (.s (.s .z))) rfl ?_
      refine St.done ?_
      refine St.thenN ?_
      refine St.prune (Γ' := [(2, _)]) ⟨rfl, trivial⟩ (.k (.d (.k (.k .z)))) ?_
      refine St.ret ?_
      repeat (first | refine St.thenR ?_ | refine St.blkR ?_)
      injection h with h
      subst h
      exact St.finR Tryd.results29 (.cell rfl (.head _) rfl .nil) rfl [.ro (SlL ei64 A5 c5 r4.1.L), .res (Box gb1 58 [.slice A5 r4.1.L.length c5, .int .i64 r4.1.At])] ⟨A5, c5, rfl, rfl⟩ (fun _ w => ((.k (.k (.d (.d .z)))) : Keep _ _).sat (Sat.dup (G := [.ro (SlL ei64 A5 c5 r4.1.L)]) rfl ⟨(.tail _ (.tail _ (.head _))), trivial⟩ (w.front (.s (.s .z)))))
    · replace h := bif_f hb2 h
      refine St.skip ?_
      refine St.thenN ?_
      refine St.prune (Γ' := [(2, _), (3, _)]) ⟨rfl, rfl, trivial⟩ (.k (.k (.k (.k .z)))) ?_
      refine St.seq ?_
      refine St.region ?_
      refine St.loadB 0 rfl rfl (.tail _ (.tail _ (.head _))) rfl rfl ?_
      refine St.store 0 rfl rfl rfl rfl rfl rfl (.s (.s (.s .z))) rfl ?_
      refine St.done ?_
      refine St.thenN ?_
      refine St.prune (Γ' := [(2, _)]) ⟨rfl, trivial⟩ (.k (.k (.k (.d .z)))) ?_
      refine St.ret ?_
      repeat (first | refine St.thenR ?_ | refine St.blkR ?_)
      injection h with h
      subst h
      exact St.finR Tryd.results29 (.cell rfl (.head _) rfl .nil) rfl [.ro (SlL ei64 A5 c5 r4.1.L), .res (Box gb1 58 [.slice A5 r4.1.L.length c5, .int .i64 r4.1.At])] ⟨A5, c5, rfl, rfl⟩ (fun _ w => ((.k (.k (.d (.d .z)))) : Keep _ _).sat (Sat.dup (G := [.ro (SlL ei64 A5 c5 r4.1.L)]) rfl ⟨(.tail _ (.tail _ (.head _))), trivial⟩ (w.front (.s (.s .z)))))
  · replace h := bif_f hb1 h
    refine St.seq ?_
    refine St.region ?_
    refine St.p rfl rfl ?_
    refine St.p rfl rfl ?_
    refine St.done ?_
    refine St.thenN ?_
    refine St.prune (Γ' := [(0, _), (2, _), (3, _), (4, _), (11, _), (24, _)]) ⟨rfl, rfl, rfl, rfl, rfl, rfl, trivial⟩ (.k (.k (.k (.k .z)))) ?_
    refine St.cond _ rfl (fun hb3 => ?_) (fun hb3 => ?_)
    · replace h := bif_t hb3 h
      refine St.seq ?_
      obtain ⟨o1, hj1, h⟩ := bnd_e h
      refine St.cutE (fun (e1 : Unit) => [(0, .pointer (some ⟨gb1, 0, none⟩)), (2, .pointer (some ⟨g1, 0, none⟩)), (3, .pointer (some ⟨g2, 0, none⟩)), (4, .int .i64 o1)]) (fun e1 => .ro (SlL ei64 A3 c3 r2.1.L) :: .res (Box gb1 58 [.slice A3 r2.1.L.length c3, .int .i64 r2.1.At]) :: .res (Box g2 23 [.int .i64 r1.2, .string (⟨#[]⟩)]) :: .res (Box g1 23 [.int .i64 0, .string (⟨#[]⟩)]) :: R) ?_ ?_
      · refine St.seq ?_
        refine St.region ?_
        iterate 3 refine St.p rfl rfl ?_
        refine St.done ?_
        refine St.thenN ?_
        refine St.prune (Γ' := [(0, _), (2, _), (3, _), (4, _), (28, _)]) ⟨rfl, rfl, rfl, rfl, rfl, trivial⟩ (.k (.k (.k (.k .z)))) ?_
        refine St.cond _ rfl (fun hb4 => ?_) (fun hb4 => ?_)
        · replace hj1 := bif_t hb4 hj1
          refine St.region ?_
          iterate 3 refine St.p rfl rfl ?_
          refine St.done ?_
          injection hj1 with hj1
          subst hj1
          refine St.thenN ?_
          exact St.hereE () ⟨rfl, rfl, rfl, rfl, trivial⟩ (fun _ w => ((.k (.k (.k (.k .z)))) : Keep _ _).sat w)
        · replace hj1 := bif_f hb4 hj1
          refine St.skip ?_
          injection hj1 with hj1
          subst hj1
          refine St.thenN ?_
          exact St.hereE () ⟨rfl, rfl, rfl, rfl, trivial⟩ (fun _ w => ((.k (.k (.k (.k .z)))) : Keep _ _).sat w)
      · rintro e1
        refine St.region ?_
        refine St.p rfl rfl ?_
        refine St.p rfl rfl ?_
        obtain ⟨r5, hr5, h⟩ := bnd_e h
        refine St.call (c_made_Dice_Text hr5) ent26 rfl rfl rfl (fun _ w => Sat.dup (G := [.ro (SlL ei64 A3 c3 r2.1.L)]) rfl ⟨(.tail _ (.head _)), trivial⟩ (w.front (.s .z))) ?_
        rintro _ _ ⟨A6, c6, rfl, rfl⟩
        refine St.asrt (F' := .ro (SlL ei64 A6 c6 r5.1.L) :: .res (Box gb1 58 [.slice A6 r5.1.L.length c6, .int .i64 r5.1.At]) :: .ro (SlL ei64 A3 c3 r2.1.L) :: .res (Box g2 23 [.int .i64 r1.2, .string (⟨#[]⟩)]) :: .res (Box g1 23 [.int .i64 0, .string (⟨#[]⟩)]) :: R) (fun _ w => w) ?_
        refine St.p rfl rfl ?_
        refine St.store 1 rfl rfl rfl rfl rfl rfl (.s (.s (.s .z))) rfl ?_
        refine St.done ?_
        refine St.blkN ?_
        refine St.thenN ?_
        refine St.prune (Γ' := [(0, _), (2, _), (3, _)]) ⟨rfl, rfl, rfl, trivial⟩ (.k (.k (.k (.d (.k .z))))) ?_
        refine St.seq ?_
        refine St.seq ?_
        refine St.region ?_
        refine St.p rfl rfl ?_
        obtain ⟨r6, hr6, h⟩ := bnd_e h
        refine St.call (c_made_Dice_Bool hr6) ent47 rfl rfl rfl (fun _ w => Sat.dup (G := [.ro (SlL ei64 A6 c6 r5.1.L)]) rfl ⟨(.tail _ (.tail _ (.head _))), trivial⟩ (w.front (.s (.s .z)))) ?_
        rintro _ _ ⟨A7, c7, rfl, rfl⟩
        refine St.asrt (F' := .ro (SlL ei64 A7 c7 r6.1.L) :: .res (Box gb1 58 [.slice A7 r6.1.L.length c7, .int .i64 r6.1.At]) :: .res (Box g2 23 [.int .i64 r1.2, .string r5.2]) :: .ro (SlL ei64 A6 c6 r5.1.L) :: .res (Box g1 23 [.int .i64 0, .string (⟨#[]⟩)]) :: R) (fun _ w => w) ?_
        refine St.done ?_
        refine St.thenN ?_
        refine St.prune (Γ' := [(2, _), (3, _), (44, _)]) ⟨rfl, rfl, rfl, trivial⟩ (.k (.k (.k (.d (.k .z))))) ?_
        refine St.cond _ rfl (fun hb5 => ?_) (fun hb5 => ?_)
        · replace h := bif_t hb5 h
          refine St.region ?_
          obtain ⟨l2, hl2, h⟩ := bnd_e h
          refine St.mkL (E := eu8) 0 hl2 rfl rfl rfl rfl rfl rfl rfl rfl rfl rfl fun g4 => ?_
          refine St.asrt (fun _ w => (w.front .z).meltL) ?_
          refine St.b2s rfl rfl rfl rfl rfl rfl rfl rfl rfl (srcL (E := eu8) (.head _)) ?_
          refine St.p rfl rfl ?_
          refine St.store 0 rfl rfl rfl rfl rfl rfl (.s (.s (.s .z))) rfl ?_
          refine St.done ?_
          refine St.thenN ?_
          refine St.prune (Γ' := [(2, _), (3, _)]) ⟨rfl, rfl, trivial⟩ (.k (.d (.k (.k (.k .z))))) ?_
          refine St.seq ?_
          refine St.region ?_
          refine St.loadB 0 rfl rfl (.head _) rfl rfl ?_
          refine St.store 0 rfl rfl rfl rfl rfl rfl (.s (.s (.s .z))) rfl ?_
          refine St.done ?_
          refine St.thenN ?_
          refine St.prune (Γ' := [(2, _)]) ⟨rfl, trivial⟩ (.k (.d (.k (.k .z)))) ?_
          refine St.ret ?_
          repeat (first | refine St.thenR ?_ | refine St.blkR ?_)
          injection h with h
          subst h
          exact St.finR Tryd.results29 (.cell rfl (.head _) rfl .nil) rfl [.ro (SlL ei64 A7 c7 r6.1.L), .res (Box gb1 58 [.slice A7 r6.1.L.length c7, .int .i64 r6.1.At])] ⟨A7, c7, rfl, rfl⟩ (fun _ w => ((.k (.k (.d (.d .z)))) : Keep _ _).sat (Sat.dup (G := [.ro (SlL ei64 A7 c7 r6.1.L)]) rfl ⟨(.tail _ (.tail _ (.head _))), trivial⟩ (w.front (.s (.s .z)))))
        · replace h := bif_f hb5 h
          refine St.skip ?_
          refine St.thenN ?_
          refine St.prune (Γ' := [(2, _), (3, _)]) ⟨rfl, rfl, trivial⟩ (.k (.k (.k (.k .z)))) ?_
          refine St.seq ?_
          refine St.region ?_
          refine St.loadB 0 rfl rfl (.tail _ (.tail _ (.head _))) rfl rfl ?_
          refine St.store 0 rfl rfl rfl rfl rfl rfl (.s (.s (.s .z))) rfl ?_
          refine St.done ?_
          refine St.thenN ?_
          refine St.prune (Γ' := [(2, _)]) ⟨rfl, trivial⟩ (.k (.k (.k (.d .z)))) ?_
          refine St.ret ?_
          repeat (first | refine St.thenR ?_ | refine St.blkR ?_)
          injection h with h
          subst h
          exact St.finR Tryd.results29 (.cell rfl (.head _) rfl .nil) rfl [.ro (SlL ei64 A7 c7 r6.1.L), .res (Box gb1 58 [.slice A7 r6.1.L.length c7, .int .i64 r6.1.At])] ⟨A7, c7, rfl, rfl⟩ (fun _ w => ((.k (.k (.d (.d .z)))) : Keep _ _).sat (Sat.dup (G := [.ro (SlL ei64 A7 c7 r6.1.L)]) rfl ⟨(.tail _ (.tail _ (.head _))), trivial⟩ (w.front (.s (.s .z)))))
    · replace h := bif_f hb3 h
      refine St.seq ?_
      refine St.region ?_
      refine St.p rfl rfl ?_
      refine St.p rfl rfl ?_
      refine St.done ?_
      refine St.thenN ?_
      refine St.prune (Γ' := [(0, _), (2, _), (3, _), (4, _), (35, _)]) ⟨rfl, rfl, rfl, rfl, rfl, trivial⟩ (.k (.k (.k (.k .z)))) ?_
      refine St.cond _ rfl (fun hb6 => ?_) (fun hb6 => ?_)
      · replace h := bif_t hb6 h
        refine St.seq ?_
        obtain ⟨o2, hj2, h⟩ := bnd_e h
        refine St.cutE (fun (e2 : Unit) => [(0, .pointer (some ⟨gb1, 0, none⟩)), (2, .pointer (some ⟨g1, 0, none⟩)), (3, .pointer (some ⟨g2, 0, none⟩)), (4, .int .i64 o2)]) (fun e2 => .ro (SlL ei64 A3 c3 r2.1.L) :: .res (Box gb1 58 [.slice A3 r2.1.L.length c3, .int .i64 r2.1.At]) :: .res (Box g2 23 [.int .i64 r1.2, .string (⟨#[]⟩)]) :: .res (Box g1 23 [.int .i64 0, .string (⟨#[]⟩)]) :: R) ?_ ?_
        · refine St.seq ?_
          refine St.region ?_
          refine St.p rfl rfl ?_
          refine St.p rfl rfl ?_
          refine St.done ?_
          refine St.thenN ?_
          refine St.prune (Γ' := [(0, _), (2, _), (3, _), (4, _), (38, _)]) ⟨rfl, rfl, rfl, rfl, rfl, trivial⟩ (.k (.k (.k (.k .z)))) ?_
          refine St.cond _ rfl (fun hb7 => ?_) (fun hb7 => ?_)
          · replace hj2 := bif_t hb7 hj2
            refine St.region ?_
            refine St.p rfl rfl ?_
            refine St.done ?_
            injection hj2 with hj2
            subst hj2
            refine St.thenN ?_
            exact St.hereE () ⟨rfl, rfl, rfl, rfl, trivial⟩ (fun _ w => ((.k (.k (.k (.k .z)))) : Keep _ _).sat w)
          · replace hj2 := bif_f hb7 hj2
            refine St.skip ?_
            injection hj2 with hj2
            subst hj2
            refine St.thenN ?_
            exact St.hereE () ⟨rfl, rfl, rfl, rfl, trivial⟩ (fun _ w => ((.k (.k (.k (.k .z)))) : Keep _ _).sat w)
        · rintro e2
          refine St.region ?_
          refine St.p rfl rfl ?_
          refine St.p rfl rfl ?_
          obtain ⟨r7, hr7, h⟩ := bnd_e h
          refine St.call (c_made_Dice_Text hr7) ent26 rfl rfl rfl (fun _ w => Sat.dup (G := [.ro (SlL ei64 A3 c3 r2.1.L)]) rfl ⟨(.tail _ (.head _)), trivial⟩ (w.front (.s .z))) ?_
          rintro _ _ ⟨A8, c8, rfl, rfl⟩
          refine St.asrt (F' := .ro (SlL ei64 A8 c8 r7.1.L) :: .res (Box gb1 58 [.slice A8 r7.1.L.length c8, .int .i64 r7.1.At]) :: .ro (SlL ei64 A3 c3 r2.1.L) :: .res (Box g2 23 [.int .i64 r1.2, .string (⟨#[]⟩)]) :: .res (Box g1 23 [.int .i64 0, .string (⟨#[]⟩)]) :: R) (fun _ w => w) ?_
          refine St.p rfl rfl ?_
          refine St.store 1 rfl rfl rfl rfl rfl rfl (.s (.s (.s .z))) rfl ?_
          refine St.done ?_
          refine St.blkN ?_
          refine St.thenN ?_
          refine St.prune (Γ' := [(0, _), (2, _), (3, _)]) ⟨rfl, rfl, rfl, trivial⟩ (.k (.k (.k (.d (.k .z))))) ?_
          refine St.seq ?_
          refine St.seq ?_
          refine St.region ?_
          refine St.p rfl rfl ?_
          obtain ⟨r8, hr8, h⟩ := bnd_e h
          refine St.call (c_made_Dice_Bool hr8) ent47 rfl rfl rfl (fun _ w => Sat.dup (G := [.ro (SlL ei64 A8 c8 r7.1.L)]) rfl ⟨(.tail _ (.tail _ (.head _))), trivial⟩ (w.front (.s (.s .z)))) ?_
          rintro _ _ ⟨A9, c9, rfl, rfl⟩
          refine St.asrt (F' := .ro (SlL ei64 A9 c9 r8.1.L) :: .res (Box gb1 58 [.slice A9 r8.1.L.length c9, .int .i64 r8.1.At]) :: .res (Box g2 23 [.int .i64 r1.2, .string r7.2]) :: .ro (SlL ei64 A8 c8 r7.1.L) :: .res (Box g1 23 [.int .i64 0, .string (⟨#[]⟩)]) :: R) (fun _ w => w) ?_
          refine St.done ?_
          refine St.thenN ?_
          refine St.prune (Γ' := [(2, _), (3, _), (44, _)]) ⟨rfl, rfl, rfl, trivial⟩ (.k (.k (.k (.d (.k .z))))) ?_
          refine St.cond _ rfl (fun hb8 => ?_) (fun hb8 => ?_)
          · replace h := bif_t hb8 h
            refine St.region ?_
            obtain ⟨l3, hl3, h⟩ := bnd_e h
            refine St.mkL (E := eu8) 0 hl3 rfl rfl rfl rfl rfl rfl rfl rfl rfl rfl fun g5 => ?_
            refine St.asrt (fun _ w => (w.front .z).meltL) ?_
            refine St.b2s rfl rfl rfl rfl rfl rfl rfl rfl rfl (srcL (E := eu8) (.head _)) ?_
            refine St.p rfl rfl ?_
            refine St.store 0 rfl rfl rfl rfl rfl rfl (.s (.s (.s .z))) rfl ?_
            refine St.done ?_
            refine St.thenN ?_
            refine St.prune (Γ' := [(2, _), (3, _)]) ⟨rfl, rfl, trivial⟩ (.k (.d (.k (.k (.k .z))))) ?_
            refine St.seq ?_
            refine St.region ?_
            refine St.loadB 0 rfl rfl (.head _) rfl rfl ?_
            refine St.store 0 rfl rfl rfl rfl rfl rfl (.s (.s (.s .z))) rfl ?_
            refine St.done ?_
            refine St.thenN ?_
            refine St.prune (Γ' := [(2, _)]) ⟨rfl, trivial⟩ (.k (.d (.k (.k .z)))) ?_
            refine St.ret ?_
            repeat (first | refine St.thenR ?_ | refine St.blkR ?_)
            injection h with h
            subst h
            exact St.finR Tryd.results29 (.cell rfl (.head _) rfl .nil) rfl [.ro (SlL ei64 A9 c9 r8.1.L), .res (Box gb1 58 [.slice A9 r8.1.L.length c9, .int .i64 r8.1.At])] ⟨A9, c9, rfl, rfl⟩ (fun _ w => ((.k (.k (.d (.d .z)))) : Keep _ _).sat (Sat.dup (G := [.ro (SlL ei64 A9 c9 r8.1.L)]) rfl ⟨(.tail _ (.tail _ (.head _))), trivial⟩ (w.front (.s (.s .z)))))
          · replace h := bif_f hb8 h
            refine St.skip ?_
            refine St.thenN ?_
            refine St.prune (Γ' := [(2, _), (3, _)]) ⟨rfl, rfl, trivial⟩ (.k (.k (.k (.k .z)))) ?_
            refine St.seq ?_
            refine St.region ?_
            refine St.loadB 0 rfl rfl (.tail _ (.tail _ (.head _))) rfl rfl ?_
            refine St.store 0 rfl rfl rfl rfl rfl rfl (.s (.s (.s .z))) rfl ?_
            refine St.done ?_
            refine St.thenN ?_
            refine St.prune (Γ' := [(2, _)]) ⟨rfl, trivial⟩ (.k (.k (.k (.d .z)))) ?_
            refine St.ret ?_
            repeat (first | refine St.thenR ?_ | refine St.blkR ?_)
            injection h with h
            subst h
            exact St.finR Tryd.results29 (.cell rfl (.head _) rfl .nil) rfl [.ro (SlL ei64 A9 c9 r8.1.L), .res (Box gb1 58 [.slice A9 r8.1.L.length c9, .int .i64 r8.1.At])] ⟨A9, c9, rfl, rfl⟩ (fun _ w => ((.k (.k (.d (.d .z)))) : Keep _ _).sat (Sat.dup (G := [.ro (SlL ei64 A9 c9 r8.1.L)]) rfl ⟨(.tail _ (.tail _ (.head _))), trivial⟩ (w.front (.s (.s .z)))))
      · replace h := bif_f hb6 h
        refine St.region ?_
        refine St.p rfl rfl ?_
        refine St.p rfl rfl ?_
        obtain ⟨r9, hr9, h⟩ := bnd_e h
        refine St.call (c_made_Dice_Bytes hr9) ent46 rfl rfl rfl (fun _ w => Sat.dup (G := [.ro (SlL ei64 A3 c3 r2.1.L)]) rfl ⟨(.tail _ (.head _)), trivial⟩ (w.front (.s .z))) ?_
        rintro _ _ ⟨A10, c10, A11, c11, rfl, rfl⟩
        refine St.asrt (F' := .ro (SlL ei64 A10 c10 r9.1.L) :: .res (Box gb1 58 [.slice A10 r9.1.L.length c10, .int .i64 r9.1.At]) :: .res (OwnL eu8 5 A11 c11 r9.2) :: .ro (SlL ei64 A3 c3 r2.1.L) :: .res (Box g2 23 [.int .i64 r1.2, .string (⟨#[]⟩)]) :: .res (Box g1 23 [.int .i64 0, .string (⟨#[]⟩)]) :: R) (fun _ w => w) ?_
        refine St.asrt (fun _ w => (w.front (.s (.s .z))).meltL) ?_
        refine St.b2s rfl rfl rfl rfl rfl rfl rfl rfl rfl (srcL (E := eu8) (.head _)) ?_
        refine St.p rfl rfl ?_
        refine St.store 1 rfl rfl rfl rfl rfl rfl (.s (.s (.s (.s .z)))) rfl ?_
        refine St.done ?_
        refine St.blkN ?_
        refine St.thenN ?_
        refine St.prune (Γ' := [(0, _), (2, _), (3, _)]) ⟨rfl, rfl, rfl, trivial⟩ (.k (.d (.k (.k (.d (.k .z)))))) ?_
        refine St.seq ?_
        refine St.seq ?_
        refine St.region ?_
        refine St.p rfl rfl ?_
        obtain ⟨r10, hr10, h⟩ := bnd_e h
        refine St.call (c_made_Dice_Bool hr10) ent47 rfl rfl rfl (fun _ w => Sat.dup (G := [.ro (SlL ei64 A10 c10 r9.1.L)]) rfl ⟨(.tail _ (.tail _ (.head _))), trivial⟩ (w.front (.s (.s .z)))) ?_
        rintro _ _ ⟨A12, c12, rfl, rfl⟩
        refine St.asrt (F' := .ro (SlL ei64 A12 c12 r10.1.L) :: .res (Box gb1 58 [.slice A12 r10.1.L.length c12, .int .i64 r10.1.At]) :: .res (Box g2 23 [.int .i64 r1.2, .string (strOf r9.2)]) :: .ro (SlL ei64 A10 c10 r9.1.L) :: .res (Box g1 23 [.int .i64 0, .string (⟨#[]⟩)]) :: R) (fun _ w => w) ?_
        refine St.done ?_
        refine St.thenN ?_
        refine St.prune (Γ' := [(2, _), (3, _), (44, _)]) ⟨rfl, rfl, rfl, trivial⟩ (.k (.k (.k (.d (.k .z))))) ?_
        refine St.cond _ rfl (fun hb9 => ?_) (fun hb9 => ?_)
        · replace h := bif_t hb9 h
          refine St.region ?_
          obtain ⟨l4, hl4, h⟩ := bnd_e h
          refine St.mkL (E := eu8) 0 hl4 rfl rfl rfl rfl rfl rfl rfl rfl rfl rfl fun g6 => ?_
          refine St.asrt (fun _ w => (w.front .z).meltL) ?_
          refine St.b2s rfl rfl rfl rfl rfl rfl rfl rfl rfl (srcL (E := eu8) (.head _)) ?_
          refine St.p rfl rfl ?_
          refine St.store 0 rfl rfl rfl rfl rfl rfl (.s (.s (.s .z))) rfl ?_
          refine St.done ?_
          refine St.thenN ?_
          refine St.prune (Γ' := [(2, _), (3, _)]) ⟨rfl, rfl, trivial⟩ (.k (.d (.k (.k (.k .z))))) ?_
          refine St.seq ?_
          refine St.region ?_
          refine St.loadB 0 rfl rfl (.head _) rfl rfl ?_
          refine St.store 0 rfl rfl rfl rfl rfl rfl (.s (.s (.s .z))) rfl ?_
          refine St.done ?_
          refine St.thenN ?_
          refine St.prune (Γ' := [(2, _)]) ⟨rfl, trivial⟩ (.k (.d (.k (.k .z)))) ?_
          refine St.ret ?_
          repeat (first | refine St.thenR ?_ | refine St.blkR ?_)
          injection h with h
          subst h
          exact St.finR Tryd.results29 (.cell rfl (.head _) rfl .nil) rfl [.ro (SlL ei64 A12 c12 r10.1.L), .res (Box gb1 58 [.slice A12 r10.1.L.length c12, .int .i64 r10.1.At])] ⟨A12, c12, rfl, rfl⟩ (fun _ w => ((.k (.k (.d (.d .z)))) : Keep _ _).sat (Sat.dup (G := [.ro (SlL ei64 A12 c12 r10.1.L)]) rfl ⟨(.tail _ (.tail _ (.head _))), trivial⟩ (w.front (.s (.s .z)))))
        · replace h := bif_f hb9 h
          refine St.skip ?_
          refine St.thenN ?_
          refine St.prune (Γ' := [(2, _), (3, _)]) ⟨rfl, rfl, trivial⟩ (.k (.k (.k (.k .z)))) ?_
          refine St.seq ?_
          refine St.region ?_
          refine St.loadB 0 rfl rfl (.tail _ (.tail _ (.head _))) rfl rfl ?_
          refine St.store 0 rfl rfl rfl rfl rfl rfl (.s (.s (.s .z))) rfl ?_
          refine St.done ?_
          refine St.thenN ?_
          refine St.prune (Γ' := [(2, _)]) ⟨rfl, trivial⟩ (.k (.k (.k (.d .z)))) ?_
          refine St.ret ?_
          repeat (first | refine St.thenR ?_ | refine St.blkR ?_)
          injection h with h
          subst h
          exact St.finR Tryd.results29 (.cell rfl (.head _) rfl .nil) rfl [.ro (SlL ei64 A12 c12 r10.1.L), .res (Box gb1 58 [.slice A12 r10.1.L.length c12, .int .i64 r10.1.At])] ⟨A12, c12, rfl, rfl⟩ (fun _ w => ((.k (.k (.d (.d .z)))) : Keep _ _).sat (Sat.dup (G := [.ro (SlL ei64 A12 c12 r10.1.L)]) rfl ⟨(.tail _ (.tail _ (.head _))), trivial⟩ (w.front (.s (.s .z)))))

theorem ent16 : Ent Tryd.prog 16 := ⟨_, Tryd.func16, by kernel_rfl, by kernel_rfl⟩

noncomputable def m_made_Dice_OddField (d_p0 : T_Dice) : Option (T_Dice × T_Field) :=
  bnd (m_made_Dice_Field d_p0) fun r1 => bnd (m_made_Dice_Next r1.1 5) fun r2 => bif (r2.2 == 0) then (bnd (m_made_Dice_Next r2.1 7) fun r3 => some (r3.1, (⟨IntKind.wrap .i64 (r3.2 - 1), r1.2.Value⟩ : T_Field))) else (bif (r2.2 == 1) then (bnd (m_made_Dice_Text r2.1 (⟨#[48, 32, 65, 126, 97]⟩) 1) fun r4 => bnd (catS r1.2.Value r4.2) fun t1 => some (r4.1, (⟨r1.2.Kind, t1⟩ : T_Field))) else (bif (r2.2 == 2) then (bnd (m_made_Dice_Next r2.1 70) fun r5 => bnd (m_made_Dice_Text r5.1 (⟨#[48]⟩) (IntKind.wrap .i64 (60 + r5.2))) fun r6 => bnd (catS r1.2.Value r6.2) fun t2 => some (r6.1, (⟨r1.2.Kind, t2⟩ : T_Field))) else (some (r2.1, r1.2))))

theorem c_made_Dice_OddField {d_p0 : T_Dice} {A1 : Option Addr} {c1 : Nat} {gb1 : Nat} {r : (T_Dice × T_Field)} (h : m_made_Dice_OddField d_p0 = some r) :
    Fun Tryd.prog 16 [.pointer (some ⟨gb1, 0, none⟩)] [.ro (SlL ei64 A1 c1 d_p0.L), .res (Box gb1 58 [.slice A1 d_p0.L.length c1, .int .i64 d_p0.At])] (fun v_ F_ => ∃ (A1 : Option Addr) (c1 : Nat), v_ = .agg #[.int .i64 r.2.Kind, .string r.2.Value] ∧ F_ = [.ro (SlL ei64 A1 c1 r.1.L), .res (Box gb1 58 [.slice A1 r.1.L.length c1, .int .i64 r.1.At])]) := by
  unfold m_made_Dice_OddField at h
  refine Fun.intro Tryd.func16 rfl rfl rfl fun w R => ?_
  refine St.seq ?_
  refine St.region ?_
  refine St.alloc rfl rfl fun g1 => ?_
  refine St.done ?_
  refine St.thenN ?_
  refine St.seq ?_
  refine St.region ?_
  refine St.p rfl rfl ?_
  obtain ⟨r1, hr1, h⟩ := bnd_e h
  refine St.call (c_made_Dice_Field hr1) ent29 rfl rfl rfl (fun _ w => Sat.dup (G := [.ro (SlL ei64 A1 c1 d_p0.L)]) rfl ⟨(.tail _ (.tail _ (.head _))), trivial⟩ (w.front (.s (.s .z)))) ?_
  rintro _ _ ⟨A2, c2, rfl, rfl⟩
  refine St.asrt (F' := .ro (SlL ei64 A2 c2 r1.1.L) :: .res (Box gb1 58 [.slice A2 r1.1.L.length c2, .int .i64 r1.1.At]) :: .res (Box g1 23 [.int .i64 0, .string (⟨#[]⟩)]) :: .ro (SlL ei64 A1 c1 d_p0.L) :: R) (fun _ w => w) ?_
  refine St.alloc rfl rfl fun g2 => ?_
  refine St.store 0 rfl rfl rfl rfl rfl rfl .z rfl ?_
  refine St.done ?_
  refine St.thenN ?_
  refine St.prune (Γ' := [(0, _), (2, _), (3, _)]) ⟨rfl, rfl, rfl, trivial⟩ (.k (.k (.k (.k (.d .z))))) ?_
  refine St.seq ?_
  refine St.seq ?_
  refine St.region ?_
  refine St.p rfl rfl ?_
  obtain ⟨r2, hr2, h⟩ := bnd_e h
  refine St.call (c_made_Dice_Next hr2) ent36 rfl rfl rfl (fun _ w => Sat.dup (G := [.ro (SlL ei64 A2 c2 r1.1.L)]) rfl ⟨(.tail _ (.tail _ (.head _))), trivial⟩ (w.front (.s (.s .z)))) ?_
  rintro _ _ ⟨A3, c3, rfl, rfl⟩
  refine St.asrt (F' := .ro (SlL ei64 A3 c3 r2.1.L) :: .res (Box gb1 58 [.slice A3 r2.1.L.length c3, .int .i64 r2.1.At]) :: .res (Box g2 23 [.int .i64 r1.2.Kind, .string r1.2.Value]) :: .ro (SlL ei64 A2 c2 r1.1.L) :: .res (Box g1 23 [.int .i64 0, .string (⟨#[]⟩)]) :: R) (fun _ w => w) ?_
  refine St.done ?_
  refine St.thenN ?_
  refine St.prune (Γ' := [(0, _), (2, _), (3, _), (7, _)]) ⟨rfl, rfl, rfl, rfl, trivial⟩ (.k (.k (.k (.d (.k .z))))) ?_
  refine St.block ?_
  refine St.seq ?_
  refine St.region ?_
  refine St.p rfl rfl ?_
  refine St.p rfl rfl ?_
  refine St.done ?_
  refine St.thenN ?_
  refine St.prune (Γ' := [(0, _), (2, _), (3, _), (7, _), (8, _)]) ⟨rfl, rfl, rfl, rfl, rfl, trivial⟩ (.k (.k (.k (.k .z)))) ?_
  refine St.cond _ rfl (fun hb1 => ?_) (fun hb1 => ?_)
  · replace h := bif_t hb1 h
    refine St.region ?_
    refine St.p rfl rfl ?_
    obtain ⟨r3, hr3, h⟩ := bnd_e h
    refine St.call (c_made_Dice_Next hr3) ent36 rfl rfl rfl (fun _ w => Sat.dup (G := [.ro (SlL ei64 A3 c3 r2.1.L)]) rfl ⟨(.tail _ (.head _)), trivial⟩ (w.front (.s .z))) ?_
    rintro _ _ ⟨A4, c4, rfl, rfl⟩
    refine St.asrt (F' := .ro (SlL ei64 A4 c4 r3.1.L) :: .res (Box gb1 58 [.slice A4 r3.1.L.length c4, .int .i64 r3.1.At]) :: .ro (SlL ei64 A3 c3 r2.1.L) :: .res (Box g2 23 [.int .i64 r1.2.Kind, .string r1.2.Value]) :: .res (Box g1 23 [.int .i64 0, .string (⟨#[]⟩)]) :: R) (fun _ w => w) ?_
    refine St.p rfl rfl ?_
    refine St.p rfl rfl ?_
    refine St.store 0 rfl rfl rfl rfl rfl rfl (.s (.s (.s .z))) rfl ?_
    refine St.done ?_
    refine St.blkN ?_
    refine St.thenN ?_
    refine St.prune (Γ' := [(2, _), (3, _)]) ⟨rfl, rfl, trivial⟩ (.k (.k (.k (.d (.k .z))))) ?_
    refine St.seq ?_
    refine St.region ?_
    refine St.loadB 0 rfl rfl (.head _) rfl rfl ?_
    refine St.store 0 rfl rfl rfl rfl rfl rfl (.s (.s (.s .z))) rfl ?_
    refine St.done ?_
    refine St.thenN ?_
    refine St.prune (Γ' := [(2, _)]) ⟨rfl, trivial⟩ (.k (.d (.k (.k .z)))) ?_
    refine St.ret ?_
    repeat (first | refine St.thenR ?_ | refine St.blkR ?_)
    injection h with h
    subst h
    exact St.finR Tryd.results16 (.cell rfl (.head _) rfl .nil) rfl [.ro (SlL ei64 A4 c4 r3.1.L), .res (Box gb1 58 [.slice A4 r3.1.L.length c4, .int .i64 r3.1.At])] ⟨A4, c4, rfl, rfl⟩ (fun _ w => ((.k (.k (.d (.d .z)))) : Keep _ _).sat (Sat.dup (G := [.ro (SlL ei64 A4 c4 r3.1.L)]) rfl ⟨(.tail _ (.tail _ (.head _))), trivial⟩ (w.front (.s (.s .z)))))
  · replace h := bif_f hb1 h
    refine St.seq ?_
    refine St.region ?_
    refine St.p rfl rfl ?_
    refine St.p rfl rfl ?_
    refine St.done ?_
    refine St.thenN ?_
    refine St.prune (Γ' := [(0, _), (2, _), (3, _), (7, _), (14, _)]) ⟨rfl, rfl, rfl, rfl, rfl, trivial⟩ (.k (.k (.k (.k .z)))) ?_
    refine St.cond _ rfl (fun hb2 => ?_) (fun hb2 => ?_)
    · replace h := bif_t hb2 h
      obtain ⟨r4, hr4, h⟩ := bnd_e h
      obtain ⟨t1, ht1, h⟩ := bnd_e h
      refine St.regionX (iL [(.fl, 0), (.fl, 2)] (.alt (iL [(.ef, 1)] (iL [(.ef, 3), (.fx, 4), (.fl, 5)] (iL [(.ef, 6)] .nil))) (iL [(.ef, 3)] (iL [(.ef, 1), (.fx, 4), (.fl, 5)] (iL [(.ef, 6)] .nil))))) (.ro (SlL ei64 A3 c3 r2.1.L) :: .res (Box g1 23 [.int .i64 0, .string (⟨#[]⟩)]) :: R) mixed (by kernel_rfl) (fun _ w => ((.k (.d (.d (.k .z)))) : Keep _ _).sat w) ?_
      refine St.share (Y := ?Ynd1_0) (fun (e : Option Addr × Nat) => [(0, .pointer (some ⟨gb1, 0, none⟩)), (2, .pointer (some ⟨g1, 0, none⟩)), (3, .pointer (some ⟨g2, 0, none⟩)), (7, .int .i64 r2.2), (14, .bool (r2.2 == 1)), (16, .pointer (some ⟨g2, 1, none⟩)), (17, .string r1.2.Value), (18, .pointer (some ⟨gb1, 0, none⟩)), (19, .string r4.2), (20, .string t1), (21, .pointer (some ⟨g2, 1, none⟩))]) (fun e => .ro (SlL ei64 e.1 e.2 r4.1.L) :: .res (Box gb1 58 [.slice e.1 r4.1.L.length e.2, .int .i64 r4.1.At]) :: .ro (SlL ei64 A3 c3 r2.1.L) :: .res (Box g2 23 [.int .i64 r1.2.Kind, .string r1.2.Value]) :: .res (Box g1 23 [.int .i64 0, .string (⟨#[]⟩)]) :: R) (fun hnd1_0 => ?mnd1_0) ?tnd1_0
      case mnd1_0 =>
        refine St.xfl (fun _ h => h) (Rd.p rfl) rfl ?_
        refine St.xfl (fun _ h => h) (Rd.p rfl) rfl ?_
        refine St.xalt ?_ ?_
        · refine St.xef ?_
          refine St.loadB 1 rfl rfl (.tail _ (.tail _ (.head _))) rfl rfl ?_
          refine St.xk (fun _ w => ((.k (.d (.d (.k .z)))) : Keep _ _).sat w) ?_
          refine St.xef ?_
          refine St.call (c_made_Dice_Text hr4) ent26 rfl rfl rfl (fun _ w => Sat.dup (G := [.ro (SlL ei64 A3 c3 r2.1.L)]) rfl ⟨(.tail _ (.head _)), trivial⟩ (w.front (.s .z))) ?_
          rintro _ _ ⟨A5, c5, rfl, rfl⟩
          refine St.asrt (F' := .ro (SlL ei64 A5 c5 r4.1.L) :: .res (Box gb1 58 [.slice A5 r4.1.L.length c5, .int .i64 r4.1.At]) :: .ro (SlL ei64 A3 c3 r2.1.L) :: .res (Box g2 23 [.int .i64 r1.2.Kind, .string r1.2.Value]) :: .res (Box g1 23 [.int .i64 0, .string (⟨#[]⟩)]) :: R) (fun _ w => w) ?_
          refine St.xk (fun _ w => ((.d (.d (.k (.d (.k .z))))) : Keep _ _).sat w) ?_
          refine St.xfx (Rd.catS ht1 rfl rfl) rfl ?_
          refine St.xfl (fun _ h => h) (Rd.p rfl) rfl ?_
          refine hnd1_0 _ _ (A5, c5) ?_ ?_
          · exact ⟨rfl, rfl, rfl, rfl, rfl, rfl, rfl, rfl, rfl, rfl, rfl, trivial⟩
          · exact fun _ w => ((.k (.k (.k (.k (.k .z))))) : Keep _ _).sat w
        · refine St.xef ?_
          refine St.call (c_made_Dice_Text hr4) ent26 rfl rfl rfl (fun _ w => Sat.dup (G := [.ro (SlL ei64 A3 c3 r2.1.L)]) rfl ⟨(.tail _ (.head _)), trivial⟩ (w.front (.s .z))) ?_
          rintro _ _ ⟨A5, c5, rfl, rfl⟩
          refine St.asrt (F' := .ro (SlL ei64 A5 c5 r4.1.L) :: .res (Box gb1 58 [.slice A5 r4.1.L.length c5, .int .i64 r4.1.At]) :: .ro (SlL ei64 A3 c3 r2.1.L) :: .res (Box g2 23 [.int .i64 r1.2.Kind, .string r1.2.Value]) :: .res (Box g1 23 [.int .i64 0, .string (⟨#[]⟩)]) :: R) (fun _ w => w) ?_
          refine St.xk (fun _ w => ((.d (.d (.k (.d (.k .z))))) : Keep _ _).sat w) ?_
          refine St.xef ?_
          refine St.loadB 1 rfl rfl (.tail _ (.tail _ (.tail _ (.head _)))) rfl rfl ?_
          refine St.xk (fun _ w => ((.d (.d (.k (.d (.k .z))))) : Keep _ _).sat w) ?_
          refine St.xfx (Rd.catS ht1 rfl rfl) rfl ?_
          refine St.xfl (fun _ h => h) (Rd.p rfl) rfl ?_
          refine hnd1_0 _ _ (A5, c5) ?_ ?_
          · exact ⟨rfl, rfl, rfl, rfl, rfl, rfl, rfl, rfl, rfl, rfl, rfl, trivial⟩
          · exact fun _ w => ((.k (.k (.k (.k (.k .z))))) : Keep _ _).sat w
      case tnd1_0 =>
        rintro ⟨A5, c5⟩
        refine St.asrt (F' := .ro (SlL ei64 A5 c5 r4.1.L) :: .res (Box gb1 58 [.slice A5 r4.1.L.length c5, .int .i64 r4.1.At]) :: .ro (SlL ei64 A3 c3 r2.1.L) :: .res (Box g2 23 [.int .i64 r1.2.Kind, .string r1.2.Value]) :: .res (Box g1 23 [.int .i64 0, .string (⟨#[]⟩)]) :: R) (fun _ w => w) ?_
        refine St.xef ?_
        refine St.store 1 rfl rfl rfl rfl rfl rfl (.s (.s (.s .z))) rfl ?_
        refine St.xk (fun _ w => ((.d (.d (.d (.k (.k .z))))) : Keep _ _).sat w) ?_
        refine St.xdone ?_
        refine St.blkN ?_
        refine St.thenN ?_
        refine St.prune (Γ' := [(2, _), (3, _)]) ⟨rfl, rfl, trivial⟩ (.k (.k (.k (.d (.k .z))))) ?_
        refine St.seq ?_
        refine St.region ?_
        refine St.loadB 0 rfl rfl (.head _) rfl rfl ?_
        refine St.store 0 rfl rfl rfl rfl rfl rfl (.s (.s (.s .z))) rfl ?_
        refine St.done ?_
        refine St.thenN ?_
        refine St.prune (Γ' := [(2, _)]) ⟨rfl, trivial⟩ (.k (.d (.k (.k .z)))) ?_
        refine St.ret ?_
        repeat (first | refine St.thenR ?_ | refine St.blkR ?_)
        injection h with h
        subst h
        exact St.finR Tryd.results16 (.cell rfl (.head _) rfl .nil) rfl [.ro (SlL ei64 A5 c5 r4.1.L), .res (Box gb1 58 [.slice A5 r4.1.L.length c5, .int .i64 r4.1.At])] ⟨A5, c5, rfl, rfl⟩ (fun _ w => ((.k (.k (.d (.d .z)))) : Keep _ _).sat (Sat.dup (G := [.ro (SlL ei64 A5 c5 r4.1.L)]) rfl ⟨(.tail _ (.tail _ (.head _))), trivial⟩ (w.front (.s (.s .z)))))
    · replace h := bif_f hb2 h
      refine St.seq ?_
      refine St.region ?_
      refine St.p rfl rfl ?_
      refine St.p rfl rfl ?_
      refine St.done ?_
      refine St.thenN ?_
      refine St.prune (Γ' := [(0, _), (2, _), (3, _), (22, _)]) ⟨rfl, rfl, rfl, rfl, trivial⟩ (.k (.k (.k (.k .z)))) ?_
      refine St.cond _ rfl (fun hb3 => ?_) (fun hb3 => ?_)
      · replace h := bif_t hb3 h
        obtain ⟨r5, hr5, h⟩ := bnd_e h
        obtain ⟨r6, hr6, h⟩ := bnd_e h
        obtain ⟨t2, ht2, h⟩ := bnd_e h
        refine St.regionX (iL [(.fl, 0), (.fl, 2), (.fl, 3)] (.alt (iL [(.ef, 1)] (iL [(.ef, 4), (.fl, 5)] (iL [(.ef, 6), (.fx, 7), (.fl, 8)] (iL [(.ef, 9)] .nil)))) (iL [(.ef, 4), (.fl, 5)] (.alt (iL [(.ef, 1)] (iL [(.ef, 6), (.fx, 7), (.fl, 8)] (iL [(.ef, 9)] .nil))) (iL [(.ef, 6)] (iL [(.ef, 1), (.fx, 7), (.fl, 8)] (iL [(.ef, 9)] .nil))))))) (.ro (SlL ei64 A3 c3 r2.1.L) :: .res (Box g1 23 [.int .i64 0, .string (⟨#[]⟩)]) :: R) mixed (by kernel_rfl) (fun _ w => ((.k (.d (.d (.k .z)))) : Keep _ _).sat w) ?_
        refine St.share (Y := ?Ynd2_0) (fun (e : Option Addr × Nat × Option Addr × Nat) => [(0, .pointer (some ⟨gb1, 0, none⟩)), (2, .pointer (some ⟨g1, 0, none⟩)), (3, .pointer (some ⟨g2, 0, none⟩)), (22, .bool (r2.2 == 2)), (24, .pointer (some ⟨g2, 1, none⟩)), (25, .string r1.2.Value), (26, .pointer (some ⟨gb1, 0, none⟩)), (27, .pointer (some ⟨gb1, 0, none⟩)), (28, .int .i64 r5.2), (29, .int .i64 (IntKind.wrap .i64 (60 + r5.2))), (30, .string r6.2), (31, .string t2), (32, .pointer (some ⟨g2, 1, none⟩))]) (fun e => .ro (SlL ei64 e.1 e.2.1 r6.1.L) :: .res (Box gb1 58 [.slice e.1 r6.1.L.length e.2.1, .int .i64 r6.1.At]) :: .ro (SlL ei64 e.2.2.1 e.2.2.2 r5.1.L) :: .ro (SlL ei64 A3 c3 r2.1.L) :: .res (Box g2 23 [.int .i64 r1.2.Kind, .string r1.2.Value]) :: .res (Box g1 23 [.int .i64 0, .string (⟨#[]⟩)]) :: R) (fun hnd2_0 => ?mnd2_0) ?tnd2_0
        case mnd2_0 =>
          refine St.share (Y := ?Ynd2_1) (fun (e : Option Addr × Nat) => [(0, .pointer (some ⟨gb1, 0, none⟩)), (2, .pointer (some ⟨g1, 0, none⟩)), (3, .pointer (some ⟨g2, 0, none⟩)), (22, .bool (r2.2 == 2)), (24, .pointer (some ⟨g2, 1, none⟩)), (25, .string r1.2.Value), (26, .pointer (some ⟨gb1, 0, none⟩)), (27, .pointer (some ⟨gb1, 0, none⟩)), (28, .int .i64 r5.2), (29, .int .i64 (IntKind.wrap .i64 (60 + r5.2)))]) (fun e => .ro (SlL ei64 e.1 e.2 r5.1.L) :: .res (Box gb1 58 [.slice e.1 r5.1.L.length e.2, .int .i64 r5.1.At]) :: .ro (SlL ei64 A3 c3 r2.1.L) :: .res (Box g2 23 [.int .i64 r1.2.Kind, .string r1.2.Value]) :: .res (Box g1 23 [.int .i64 0, .string (⟨#[]⟩)]) :: R) (fun hnd2_1 => ?mnd2_1) ?tnd2_1
          case mnd2_1 =>
            refine St.xfl (fun _ h => h) (Rd.p rfl) rfl ?_
            refine St.xfl (fun _ h => h) (Rd.p rfl) rfl ?_
            refine St.xfl (fun _ h => h) (Rd.p rfl) rfl ?_
            refine St.xalt ?_ ?_
            · refine St.xef ?_
              refine St.loadB 1 rfl rfl (.tail _ (.tail _ (.head _))) rfl rfl ?_
              refine St.xk (fun _ w => ((.k (.d (.d (.k .z)))) : Keep _ _).sat w) ?_
              refine St.xef ?_
              refine St.call (c_made_Dice_Next hr5) ent36 rfl rfl rfl (fun _ w => Sat.dup (G := [.ro (SlL ei64 A3 c3 r2.1.L)]) rfl ⟨(.tail _ (.head _)), trivial⟩ (w.front (.s .z))) ?_
              rintro _ _ ⟨A6, c6, rfl, rfl⟩
              refine St.asrt (F' := .ro (SlL ei64 A6 c6 r5.1.L) :: .res (Box gb1 58 [.slice A6 r5.1.L.length c6, .int .i64 r5.1.At]) :: .ro (SlL ei64 A3 c3 r2.1.L) :: .res (Box g2 23 [.int .i64 r1.2.Kind, .string r1.2.Value]) :: .res (Box g1 23 [.int .i64 0, .string (⟨#[]⟩)]) :: R) (fun _ w => w) ?_
              refine St.xk (fun _ w => ((.d (.d (.k (.d (.k .z))))) : Keep _ _).sat w) ?_
              refine St.xfl (fun _ h => h) (Rd.p rfl) rfl ?_
              refine hnd2_1 _ _ (A6, c6) ?_ ?_
              · exact ⟨rfl, rfl, rfl, rfl, rfl, rfl, rfl, rfl, rfl, rfl, trivial⟩
              · exact fun _ w => ((.k (.k (.k (.k (.k .z))))) : Keep _ _).sat w
            · refine St.xef ?_
              refine St.call (c_made_Dice_Next hr5) ent36 rfl rfl rfl (fun _ w => Sat.dup (G := [.ro (SlL ei64 A3 c3 r2.1.L)]) rfl ⟨(.tail _ (.head _)), trivial⟩ (w.front (.s .z))) ?_
              rintro _ _ ⟨A6, c6, rfl, rfl⟩
              refine St.asrt (F' := .ro (SlL ei64 A6 c6 r5.1.L) :: .res (Box gb1 58 [.slice A6 r5.1.L.length c6, .int .i64 r5.1.At]) :: .ro (SlL ei64 A3 c3 r2.1.L) :: .res (Box g2 23 [.int .i64 r1.2.Kind, .string r1.2.Value]) :: .res (Box g1 23 [.int .i64 0, .string (⟨#[]⟩)]) :: R) (fun _ w => w) ?_
              refine St.xk (fun _ w => ((.d (.d (.k (.d (.k .z))))) : Keep _ _).sat w) ?_
              refine St.xfl (fun _ h => h) (Rd.p rfl) rfl ?_
              refine St.xalt ?_ ?_
              · refine St.xef ?_
                refine St.loadB 1 rfl rfl (.tail _ (.tail _ (.tail _ (.head _)))) rfl rfl ?_
                refine St.xk (fun _ w => ((.d (.d (.k (.d (.k .z))))) : Keep _ _).sat w) ?_
                refine hnd2_1 _ _ (A6, c6) ?_ ?_
                · exact ⟨rfl, rfl, rfl, rfl, rfl, rfl, rfl, rfl, rfl, rfl, trivial⟩
                · exact fun _ w => ((.k (.k (.k (.k (.k .z))))) : Keep _ _).sat w
              · refine St.xef ?_
                refine St.call (c_made_Dice_Text hr6) ent26 rfl rfl rfl (fun _ w => Sat.dup (G := [.ro (SlL ei64 A6 c6 r5.1.L)]) rfl ⟨(.tail _ (.head _)), trivial⟩ (w.front (.s .z))) ?_
                rintro _ _ ⟨A7, c7, rfl, rfl⟩
                refine St.asrt (F' := .ro (SlL ei64 A7 c7 r6.1.L) :: .res (Box gb1 58 [.slice A7 r6.1.L.length c7, .int .i64 r6.1.At]) :: .ro (SlL ei64 A6 c6 r5.1.L) :: .ro (SlL ei64 A3 c3 r2.1.L) :: .res (Box g2 23 [.int .i64 r1.2.Kind, .string r1.2.Value]) :: .res (Box g1 23 [.int .i64 0, .string (⟨#[]⟩)]) :: R) (fun _ w => w) ?_
                refine St.xk (fun _ w => ((.d (.d (.d (.k (.d (.k .z)))))) : Keep _ _).sat w) ?_
                refine St.xef ?_
                refine St.loadB 1 rfl rfl (.tail _ (.tail _ (.tail _ (.tail _ (.head _))))) rfl rfl ?_
                refine St.xk (fun _ w => ((.d (.d (.d (.k (.d (.k .z)))))) : Keep _ _).sat w) ?_
                refine St.xfx (Rd.catS ht2 rfl rfl) rfl ?_
                refine St.xfl (fun _ h => h) (Rd.p rfl) rfl ?_
                refine hnd2_0 _ _ (A7, c7, A6, c6) ?_ ?_
                · exact ⟨rfl, rfl, rfl, rfl, rfl, rfl, rfl, rfl, rfl, rfl, rfl, rfl, rfl, trivial⟩
                · exact fun _ w => ((.k (.k (.k (.k (.k (.k .z)))))) : Keep _ _).sat w
          case tnd2_1 =>
            rintro ⟨A6, c6⟩
            refine St.asrt (F' := .ro (SlL ei64 A6 c6 r5.1.L) :: .res (Box gb1 58 [.slice A6 r5.1.L.length c6, .int .i64 r5.1.At]) :: .ro (SlL ei64 A3 c3 r2.1.L) :: .res (Box g2 23 [.int .i64 r1.2.Kind, .string r1.2.Value]) :: .res (Box g1 23 [.int .i64 0, .string (⟨#[]⟩)]) :: R) (fun _ w => w) ?_
            refine St.xef ?_
            refine St.call (c_made_Dice_Text hr6) ent26 rfl rfl rfl (fun _ w => Sat.dup (G := [.ro (SlL ei64 A6 c6 r5.1.L)]) rfl ⟨(.tail _ (.head _)), trivial⟩ (w.front (.s .z))) ?_
            rintro _ _ ⟨A7, c7, rfl, rfl⟩
            refine St.asrt (F' := .ro (SlL ei64 A7 c7 r6.1.L) :: .res (Box gb1 58 [.slice A7 r6.1.L.length c7, .int .i64 r6.1.At]) :: .ro (SlL ei64 A6 c6 r5.1.L) :: .ro (SlL ei64 A3 c3 r2.1.L) :: .res (Box g2 23 [.int .i64 r1.2.Kind, .string r1.2.Value]) :: .res (Box g1 23 [.int .i64 0, .string (⟨#[]⟩)]) :: R) (fun _ w => w) ?_
            refine St.xk (fun _ w => ((.d (.d (.d (.k (.d (.k .z)))))) : Keep _ _).sat w) ?_
            refine St.xfx (Rd.catS ht2 rfl rfl) rfl ?_
            refine St.xfl (fun _ h => h) (Rd.p rfl) rfl ?_
            refine hnd2_0 _ _ (A7, c7, A6, c6) ?_ ?_
            · exact ⟨rfl, rfl, rfl, rfl, rfl, rfl, rfl, rfl, rfl, rfl, rfl, rfl, rfl, trivial⟩
            · exact fun _ w => ((.k (.k (.k (.k (.k (.k .z)))))) : Keep _ _).sat w
        case tnd2_0 =>
          rintro ⟨A7, c7, A6, c6⟩
          refine St.asrt (F' := .ro (SlL ei64 A7 c7 r6.1.L) :: .res (Box gb1 58 [.slice A7 r6.1.L.length c7, .int .i64 r6.1.At]) :: .ro (SlL ei64 A6 c6 r5.1.L) :: .ro (SlL ei64 A3 c3 r2.1.L) :: .res (Box g2 23 [.int .i64 r1.2.Kind, .string r1.2.Value]) :: .res (Box g1 23 [.int .i64 0, .string (⟨#[]⟩)]) :: R) (fun _ w => w) ?_
          refine St.xef ?_
          refine St.store 1 rfl rfl rfl rfl rfl rfl (.s (.s (.s (.s .z)))) rfl ?_
          refine St.xk (fun _ w => ((.d (.d (.d (.d (.k (.k .z)))))) : Keep _ _).sat w) ?_
          refine St.xdone ?_
          refine St.blkN ?_
          refine St.thenN ?_
          refine St.prune (Γ' := [(2, _), (3, _)]) ⟨rfl, rfl, trivial⟩ (.k (.k (.k (.d (.d (.k .z)))))) ?_
          refine St.seq ?_
          refine St.region ?_
          refine St.loadB 0 rfl rfl (.head _) rfl rfl ?_
          refine St.store 0 rfl rfl rfl rfl rfl rfl (.s (.s (.s .z))) rfl ?_
          refine St.done ?_
          refine St.thenN ?_
          refine St.prune (Γ' := [(2, _)]) ⟨rfl, trivial⟩ (.k (.d (.k (.k .z)))) ?_
          refine St.ret ?_
          repeat (first | refine St.thenR ?_ | refine St.blkR ?_)
          injection h with h
          subst h
          exact St.finR Tryd.results16 (.cell rfl (.head _) rfl .nil) rfl [.ro (SlL ei64 A7 c7 r6.1.L), .res (Box gb1 58 [.slice A7 r6.1.L.length c7, .int .i64 r6.1.At])] ⟨A7, c7, rfl, rfl⟩ (fun _ w => ((.k (.k (.d (.d .z)))) : Keep _ _).sat (Sat.dup (G := [.ro (SlL ei64 A7 c7 r6.1.L)]) rfl ⟨(.tail _ (.tail _ (.head _))), trivial⟩ (w.front (.s (.s .z)))))
      · replace h := bif_f hb3 h
        refine St.skip ?_
        refine St.blkN ?_
        refine St.thenN ?_
        refine St.prune (Γ' := [(2, _), (3, _)]) ⟨rfl, rfl, trivial⟩ (.k (.k (.k (.k .z)))) ?_
        refine St.seq ?_
        refine St.region ?_
        refine St.loadB 0 rfl rfl (.tail _ (.tail _ (.head _))) rfl rfl ?_
        refine St.store 0 rfl rfl rfl rfl rfl rfl (.s (.s (.s .z))) rfl ?_
        refine St.done ?_
        refine St.thenN ?_
        refine St.prune (Γ' := [(2, _)]) ⟨rfl, trivial⟩ (.k (.k (.k (.d .z)))) ?_
        refine St.ret ?_
        repeat (first | refine St.thenR ?_ | refine St.blkR ?_)
        injection h with h
        subst h
        exact St.finR Tryd.results16 (.cell rfl (.head _) rfl .nil) rfl [.ro (SlL ei64 A3 c3 r2.1.L), .res (Box gb1 58 [.slice A3 r2.1.L.length c3, .int .i64 r2.1.At])] ⟨A3, c3, rfl, rfl⟩ (fun _ w => ((.k (.k (.d (.d .z)))) : Keep _ _).sat (Sat.dup (G := [.ro (SlL ei64 A3 c3 r2.1.L)]) rfl ⟨(.tail _ (.tail _ (.head _))), trivial⟩ (w.front (.s (.s .z)))))

theorem ent42 : Ent Tryd.prog 42 := ⟨_, Tryd.func42, by kernel_rfl, by kernel_rfl⟩

noncomputable def m_ref02_digit (c_p0 : Int) : Option Int :=
  bnd ((bif decide (c_p0 ≥ 48) then (some (decide (c_p0 ≤ 57))) else (some false) : Option Bool)) fun o1 => bif o1 then (some (IntKind.wrap .i64 (IntKind.wrap .u8 (c_p0 - 48)))) else (bif (c_p0 == 32) then (some 10) else (bif (c_p0 == 45) then (some 11) else (bif (c_p0 == 46) then (some 12) else (some (-1)))))

theorem c_ref02_digit {c_p0 : Int} {r : Int} (h : m_ref02_digit c_p0 = some r) :
    Fun Tryd.prog 42 [.int .u8 c_p0] [] (Val (.int .i64 r)) := by
  unfold m_ref02_digit at h
  refine Fun.intro Tryd.func42 rfl rfl rfl fun w R => ?_
  refine St.seq ?_
  refine St.region ?_
  refine St.p rfl rfl ?_
  refine St.done ?_
  refine St.thenN ?_
  refine St.prune (Γ' := [(0, _)]) ⟨rfl, trivial⟩ .z ?_
  refine St.seq ?_
  refine St.block ?_
  refine St.seq ?_
  obtain ⟨o1, hj1, h⟩ := bnd_e h
  refine St.cutE (fun (e1 : Unit) => [(0, .int .u8 c_p0), (3, .bool o1)]) (fun e1 => R) ?_ ?_
  · refine St.region ?_
    iterate 3 refine St.p rfl rfl ?_
    refine St.gSplit (dj := 6) _ rfl (fun hb1 => ?_) (fun hb1 => ?_)
    · replace hj1 := bif_t hb1 hj1
      refine St.gOn (dj := 6) rfl rfl ?_
      refine St.p rfl rfl ?_
      refine St.gOn (dj := 6) rfl rfl ?_
      iterate 3 refine St.p rfl rfl ?_
      refine St.done ?_
      injection hj1 with hj1
      subst hj1
      refine St.thenN ?_
      exact St.hereE () ⟨rfl, rfl, trivial⟩ (fun _ w => (.z : Keep _ _).sat w)
    · replace hj1 := bif_f hb1 hj1
      refine St.gOff (dj := 6) rfl rfl rfl rfl ?_
      refine St.gOff (dj := 6) rfl rfl rfl rfl ?_
      refine St.p rfl rfl ?_
      refine St.p rfl rfl ?_
      refine St.done ?_
      injection hj1 with hj1
      subst hj1
      refine St.thenN ?_
      exact St.hereE () ⟨rfl, rfl, trivial⟩ (fun _ w => (.z : Keep _ _).sat w)
  · rintro e1
    refine St.cond _ rfl (fun hb2 => ?_) (fun hb2 => ?_)
    · replace h := bif_t hb2 h
      refine St.seq ?_
      refine St.region ?_
      iterate 4 refine St.p rfl rfl ?_
      refine St.done ?_
      refine St.thenN ?_
      refine St.prune (Γ' := [(2, _)]) ⟨rfl, trivial⟩ .z ?_
      refine St.ret ?_
      repeat (first | refine St.thenR ?_ | refine St.blkR ?_)
      injection h with h
      subst h
      exact St.finR Tryd.results42 (.tmp rfl .nil) rfl [] ⟨rfl, rfl⟩ (fun _ w => (.z : Keep _ _).sat w)
    · replace h := bif_f hb2 h
      refine St.seq ?_
      refine St.region ?_
      iterate 3 refine St.p rfl rfl ?_
      refine St.done ?_
      refine St.thenN ?_
      refine St.prune (Γ' := [(0, _), (13, _)]) ⟨rfl, rfl, trivial⟩ .z ?_
      refine St.cond _ rfl (fun hb3 => ?_) (fun hb3 => ?_)
      · replace h := bif_t hb3 h
        refine St.seq ?_
        refine St.region ?_
        refine St.p rfl rfl ?_
        refine St.done ?_
        refine St.thenN ?_
        refine St.prune (Γ' := [(2, _)]) ⟨rfl, trivial⟩ .z ?_
        refine St.ret ?_
        repeat (first | refine St.thenR ?_ | refine St.blkR ?_)
        injection h with h
        subst h
        exact St.finR Tryd.results42 (.tmp rfl .nil) rfl [] ⟨rfl, rfl⟩ (fun _ w => (.z : Keep _ _).sat w)
      · replace h := bif_f hb3 h
        refine St.seq ?_
        refine St.region ?_
        iterate 3 refine St.p rfl rfl ?_
        refine St.done ?_
        refine St.thenN ?_
        refine St.prune (Γ' := [(0, _), (16, _)]) ⟨rfl, rfl, trivial⟩ .z ?_
        refine St.cond _ rfl (fun hb4 => ?_) (fun hb4 => ?_)
        · replace h := bif_t hb4 h
          refine St.seq ?_
          refine St.region ?_
          refine St.p rfl rfl ?_
          refine St.done ?_
          refine St.thenN ?_
          refine St.prune (Γ' := [(2, _)]) ⟨rfl, trivial⟩ .z ?_
          refine St.ret ?_
          repeat (first | refine St.thenR ?_ | refine St.blkR ?_)
          injection h with h
          subst h
          exact St.finR Tryd.results42 (.tmp rfl .nil) rfl [] ⟨rfl, rfl⟩ (fun _ w => (.z : Keep _ _).sat w)
        · replace h := bif_f hb4 h
          refine St.seq ?_
          refine St.region ?_
          iterate 3 refine St.p rfl rfl ?_
          refine St.done ?_
          refine St.thenN ?_
          refine St.prune (Γ' := [(19, _)]) ⟨rfl, trivial⟩ .z ?_
          refine St.cond _ rfl (fun hb5 => ?_) (fun hb5 => ?_)
          · replace h := bif_t hb5 h
            refine St.seq ?_
            refine St.region ?_
            refine St.p rfl rfl ?_
            refine St.done ?_
            refine St.thenN ?_
            refine St.prune (Γ' := [(2, _)]) ⟨rfl, trivial⟩ .z ?_
            refine St.ret ?_
            repeat (first | refine St.thenR ?_ | refine St.blkR ?_)
            injection h with h
            subst h
            exact St.finR Tryd.results42 (.tmp rfl .nil) rfl [] ⟨rfl, rfl⟩ (fun _ w => (.z : Keep _ _).sat w)
          · replace h := bif_f hb5 h
            refine St.skip ?_
            refine St.blkN ?_
            refine St.thenN ?_
            refine St.prune (Γ' := []) trivial .z ?_
            refine St.seq ?_
            refine St.region ?_
            refine St.p rfl rfl ?_
            refine St.done ?_
            refine St.thenN ?_
            refine St.ret ?_
            repeat (first | refine St.thenR ?_ | refine St.blkR ?_)
            injection h with h
            subst h
            exact St.finR Tryd.results42 (.tmp rfl .nil) rfl [] ⟨rfl, rfl⟩ (fun _ w => (.z : Keep _ _).sat w)

theorem ent43 : Ent Tryd.prog 43 := ⟨_, Tryd.func43, by kernel_rfl, by kernel_rfl⟩

noncomputable def m_ref02_sixBytes (n_p0 : Int) : Option Int :=
  some (IntKind.wrap .i64 ((IntKind.wrap .i64 ((IntKind.wrap .i64 (6 * n_p0)) + 7)).tdiv 8))

theorem c_ref02_sixBytes {n_p0 : Int} {r : Int} (h : m_ref02_sixBytes n_p0 = some r) :
    Fun Tryd.prog 43 [.int .i64 n_p0] [] (Val (.int .i64 r)) := by
  unfold m_ref02_sixBytes at h
  refine Fun.intro Tryd.func43 rfl rfl rfl fun w R => ?_
  refine St.seq ?_
  refine St.region ?_
  refine St.p rfl rfl ?_
  refine St.done ?_
  refine St.thenN ?_
  refine St.prune (Γ' := [(0, _)]) ⟨rfl, trivial⟩ .z ?_
  refine St.seq ?_
  refine St.region ?_
  iterate 5 refine St.p rfl rfl ?_
  refine St.done ?_
  refine St.thenN ?_
  refine St.prune (Γ' := [(2, _)]) ⟨rfl, trivial⟩ .z ?_
  refine St.ret ?_
  repeat (first | refine St.thenR ?_ | refine St.blkR ?_)
  injection h with h
  subst h
  exact St.finR Tryd.results43 (.tmp rfl .nil) rfl [] ⟨rfl, rfl⟩ (fun _ w => (.z : Keep _ _).sat w)

theorem ent20 : Ent Tryd.prog 20 := ⟨_, Tryd.func20, by kernel_rfl, by kernel_rfl⟩

noncomputable def m_ref02_Valid (f_p0 : T_Field) : Option Bool :=
  bif (f_p0.Kind == 0) then (some (decide ((f_p0.Value.size : Int) ≤ 63))) else (bif (f_p0.Kind == 1) then (bnd ((bif (((f_p0.Value.size : Int).tmod 2) != 0) then (some true) else (some (decide ((f_p0.Value.size : Int) > 126))) : Option Bool)) fun o1 => bif o1 then (some false) else (bnd (loopM (τ := Bool ⊕ Unit) (fun (s1 : Int) => bif decide (s1 < (f_p0.Value.size : Int)) then (bnd (eltS f_p0.Value s1) fun y1 => bnd (m_ref02_digit y1) fun r1 => bif decide (r1 < 0) then (some (.done (.inl false))) else (some (.next (IntKind.wrap .i64 (s1 + 1))))) else (some (.done (.inr ())))) 0) fun o2 => retOr o2 fun o3 => some true)) else (bif (f_p0.Kind == 2) then (bnd ((bif (((f_p0.Value.size : Int).tmod 4) == 3) then (some true) else (bif decide ((f_p0.Value.size : Int) > 126) then (some true) else (bnd (m_ref02_sixBytes (f_p0.Value.size : Int)) fun r2 => some (decide (r2 > 63)))) : Option Bool)) fun o4 => bif o4 then (some false) else (bnd (loopM (τ := Bool ⊕ Unit) (fun (s2 : Int) => bif decide (s2 < (f_p0.Value.size : Int)) then (bnd ((bnd (eltS f_p0.Value s2) fun y2 => bif decide (y2 < 32) then (some true) else (some (decide (y2 > 95))) : Option Bool)) fun o7 => bif o7 then (some (.done (.inl false))) else (some (.next (IntKind.wrap .i64 (s2 + 1))))) else (some (.done (.inr ())))) 0) fun o5 => retOr o5 fun o6 => some true)) else (bif (f_p0.Kind == 3) then (bnd ((bif ((f_p0.Value.size : Int) == 0) then (some true) else (bif decide ((f_p0.Value.size : Int) ≥ 2) then (some (decide ((f_p0.Value.size : Int) ≤ 63))) else (some false)) : Option Bool)) fun o8 => some o8) else (some false))))

set_option maxHeartbeats 4000000 in
theorem c_ref02_Valid {f_p0 : T_Field} {r : Bool} (h : m_ref02_Valid f_p0 = some r) :
    Fun Tryd.prog 20 [.agg #[.int .i64 f_p0.Kind, .string f_p0.Value]] [] (Val (.bool r)) := by
  unfold m_ref02_Valid at h
  refine Fun.intro Tryd.func20 rfl rfl rfl fun w R => ?_
  refine St.seq ?_
  refine St.region ?_
  refine St.box rfl rfl fun g1 => ?_
  refine St.p rfl rfl ?_
  refine St.done ?_
  refine St.thenN ?_
  refine St.prune (Γ' := [(1, _)]) ⟨rfl, trivial⟩ (.k .z) ?_
  refine St.seq ?_
  refine St.region ?_
  refine St.p rfl rfl ?_
  refine St.loadB 1 rfl rfl (.head _) rfl rfl ?_
  refine St.p rfl rfl ?_
  refine St.p rfl rfl ?_
  refine St.done ?_
  refine St.thenN ?_
  refine St.prune (Γ' := [(1, _), (3, _)]) ⟨rfl, rfl, trivial⟩ (.k .z) ?_
  refine St.seq ?_
  refine St.seq ?_
  refine St.region ?_
  refine St.p rfl rfl ?_
  refine St.loadB 0 rfl rfl (.head _) rfl rfl ?_
  refine St.done ?_
  refine St.thenN ?_
  refine St.prune (Γ' := [(1, _), (3, _), (10, _)]) ⟨rfl, rfl, rfl, trivial⟩ (.k .z) ?_
  refine St.block ?_
  refine St.seq ?_
  refine St.region ?_
  refine St.p rfl rfl ?_
  refine St.p rfl rfl ?_
  refine St.done ?_
  refine St.thenN ?_
  refine St.prune (Γ' := [(1, _), (3, _), (10, _), (11, _)]) ⟨rfl, rfl, rfl, rfl, trivial⟩ (.k .z) ?_
  refine St.cond _ rfl (fun hb1 => ?_) (fun hb1 => ?_)
  · replace h := bif_t hb1 h
    refine St.seq ?_
    refine St.region ?_
    iterate 3 refine St.p rfl rfl ?_
    refine St.done ?_
    refine St.thenN ?_
    refine St.prune (Γ' := [(2, _)]) ⟨rfl, trivial⟩ (.d .z) ?_
    refine St.ret ?_
    repeat (first | refine St.thenR ?_ | refine St.blkR ?_)
    injection h with h
    subst h
    exact St.finR Tryd.results20 (.tmp rfl .nil) rfl [] ⟨rfl, rfl⟩ (fun _ w => (.z : Keep _ _).sat w)
  · replace h := bif_f hb1 h
    refine St.seq ?_
    refine St.region ?_
    refine St.p rfl rfl ?_
    refine St.p rfl rfl ?_
    refine St.done ?_
    refine St.thenN ?_
    refine St.prune (Γ' := [(1, _), (3, _), (10, _), (15, _)]) ⟨rfl, rfl, rfl, rfl, trivial⟩ (.k .z) ?_
    refine St.cond _ rfl (fun hb2 => ?_) (fun hb2 => ?_)
    · replace h := bif_t hb2 h
      refine St.seq ?_
      refine St.seq ?_
      obtain ⟨o1, hj1, h⟩ := bnd_e h
      refine St.cutE (fun (e1 : Unit) => [(1, .pointer (some ⟨g1, 0, none⟩)), (3, .int .i64 (f_p0.Value.size : Int)), (23, .bool o1)]) (fun e1 => .res (Box g1 23 [.int .i64 f_p0.Kind, .string f_p0.Value]) :: R) ?_ ?_
      · refine St.region ?_
        iterate 4 refine St.p rfl rfl ?_
        refine St.gSplit (dj := 20) _ rfl (fun hb3 => ?_) (fun hb3 => ?_)
        · replace hj1 := bif_t hb3 hj1
          refine St.gOff (dj := 20) rfl rfl rfl rfl ?_
          refine St.gOff (dj := 20) rfl rfl rfl rfl ?_
          refine St.p rfl rfl ?_
          refine St.done ?_
          injection hj1 with hj1
          subst hj1
          refine St.thenN ?_
          exact St.hereE () ⟨rfl, rfl, rfl, trivial⟩ (fun _ w => ((.k .z) : Keep _ _).sat w)
        · replace hj1 := bif_f hb3 hj1
          refine St.gOn (dj := 20) rfl rfl ?_
          refine St.p rfl rfl ?_
          refine St.gOn (dj := 20) rfl rfl ?_
          refine St.p rfl rfl ?_
          refine St.p rfl rfl ?_
          refine St.done ?_
          injection hj1 with hj1
          subst hj1
          refine St.thenN ?_
          exact St.hereE () ⟨rfl, rfl, rfl, trivial⟩ (fun _ w => ((.k .z) : Keep _ _).sat w)
      · rintro e1
        refine St.cond _ rfl (fun hb4 => ?_) (fun hb4 => ?_)
        · replace h := bif_t hb4 h
          refine St.seq ?_
          refine St.region ?_
          refine St.p rfl rfl ?_
          refine St.done ?_
          refine St.thenN ?_
          refine St.prune (Γ' := [(2, _)]) ⟨rfl, trivial⟩ (.d .z) ?_
          refine St.ret ?_
          repeat (first | refine St.thenR ?_ | refine St.blkR ?_)
          injection h with h
          subst h
          exact St.finR Tryd.results20 (.tmp rfl .nil) rfl [] ⟨rfl, rfl⟩ (fun _ w => (.z : Keep _ _).sat w)
        · replace h := bif_f hb4 h
          refine St.skip ?_
          refine St.thenN ?_
          refine St.prune (Γ' := [(1, _), (3, _)]) ⟨rfl, rfl, trivial⟩ (.k .z) ?_
          refine St.seq ?_
          refine St.seq ?_
          refine St.region ?_
          refine St.p rfl rfl ?_
          refine St.done ?_
          refine St.thenN ?_
          obtain ⟨o2, hl1, h⟩ := bnd_e h
          refine St.cutI (fun (o3 : Unit) (e3 : Unit) => []) (fun o3 e3 => R) (fun o3 => o2 = .inr o3) ?_ ?_
          · refine St.block ?_
            refine St.loop hl1 (fun (s1 : Int) (e2 : Unit) => [(1, .pointer (some ⟨g1, 0, none⟩)), (3, .int .i64 (f_p0.Value.size : Int)), (4, .int .i64 s1)]) (fun s1 e2 => .res (Box g1 23 [.int .i64 f_p0.Kind, .string f_p0.Value]) :: R) (fun _ _ => True) () trivial ⟨rfl, rfl, rfl, trivial⟩ (fun _ w => ((.k .z) : Keep _ _).sat w) ?_
            rintro s1 e2 - hit1
            obtain ⟨st1, hm1, hd1⟩ := iter_e hit1
            have h1 := hm1
            refine St.seq ?_
            refine St.seq ?_
            refine St.region ?_
            iterate 3 refine St.p rfl rfl ?_
            refine St.done ?_
            refine St.thenN ?_
            refine St.prune (Γ' := [(1, _), (3, _), (4, _), (26, _)]) ⟨rfl, rfl, rfl, rfl, trivial⟩ (.k .z) ?_
            refine St.cond _ rfl (fun hb5 => ?_) (fun hb5 => ?_)
            · replace h1 := bif_t hb5 h1
              refine St.skip ?_
              refine St.thenN ?_
              refine St.prune (Γ' := [(1, _), (3, _), (4, _)]) ⟨rfl, rfl, rfl, trivial⟩ (.k .z) ?_
              refine St.seq ?_
              refine St.block ?_
              refine St.seq ?_
              refine St.region ?_
              refine St.p rfl rfl ?_
              refine St.loadB 1 rfl rfl (.head _) rfl rfl ?_
              refine St.p rfl rfl ?_
              obtain ⟨y1, hy1, h1⟩ := bnd_e h1
              refine St.eltS rfl rfl rfl rfl rfl hy1 ?_
              obtain ⟨r1, hr1, h1⟩ := bnd_e h1
              refine St.callV (c_ref02_digit hr1) ent42 rfl rfl rfl rfl trivial ?_
              refine St.p rfl rfl ?_
              refine St.done ?_
              refine St.thenN ?_
              refine St.prune (Γ' := [(1, _), (3, _), (4, _), (34, _)]) ⟨rfl, rfl, rfl, rfl, trivial⟩ (.k .z) ?_
              refine St.cond _ rfl (fun hb6 => ?_) (fun hb6 => ?_)
              · replace h1 := bif_t hb6 h1
                refine St.seq ?_
                refine St.region ?_
                refine St.p rfl rfl ?_
                refine St.done ?_
                refine St.thenN ?_
                refine St.prune (Γ' := [(2, _)]) ⟨rfl, trivial⟩ (.d .z) ?_
                refine St.ret ?_
                repeat (first | refine St.thenR ?_ | refine St.blkR ?_)
                injection h1 with h1
                subst h1
                have ho := hd1 _ rfl
                subst ho
                have h : some _ = some _ := h
                injection h with h
                subst h
                exact St.finR Tryd.results20 (.tmp rfl .nil) rfl [] ⟨rfl, rfl⟩ (fun _ w => (.z : Keep _ _).sat w)
              · replace h1 := bif_f hb6 h1
                refine St.skip ?_
                refine St.blkN ?_
                refine St.thenN ?_
                refine St.prune (Γ' := [(1, _), (3, _), (4, _)]) ⟨rfl, rfl, rfl, trivial⟩ (.k .z) ?_
                refine St.region ?_
                iterate 3 refine St.p rfl rfl ?_
                refine St.done ?_
                injection h1 with h1
                subst h1
                refine St.thenN ?_
                exact St.again _ () hm1 trivial ⟨rfl, rfl, rfl, trivial⟩ (fun _ w => ((.k .z) : Keep _ _).sat w)
            · replace h1 := bif_f hb5 h1
              refine St.exit ?_
              repeat (first | refine St.thenX ?_ | refine St.blkMiss rfl ?_)
              refine St.blkHit ?_
              injection h1 with h1
              subst h1
              have ho := hd1 _ rfl
              subst ho
              refine St.thenN ?_
              exact St.hereI () () rfl trivial (fun _ w => ((.d .z) : Keep _ _).sat w)
          · rintro o3 e3 ho
            subst ho
            have h : _ = some _ := h
            refine St.seq ?_
            refine St.region ?_
            refine St.p rfl rfl ?_
            refine St.done ?_
            refine St.thenN ?_
            refine St.ret ?_
            repeat (first | refine St.thenR ?_ | refine St.blkR ?_)
            injection h with h
            subst h
            exact St.finR Tryd.results20 (.tmp rfl .nil) rfl [] ⟨rfl, rfl⟩ (fun _ w => (.z : Keep _ _).sat w)
    · replace h := bif_f hb2 h
      refine St.seq ?_
      refine St.region ?_
      refine St.p rfl rfl ?_
      refine St.p rfl rfl ?_
      refine St.done ?_
      refine St.thenN ?_
      refine St.prune (Γ' := [(1, _), (3, _), (10, _), (35, _)]) ⟨rfl, rfl, rfl, rfl, trivial⟩ (.k .z) ?_
      refine St.cond _ rfl (fun hb7 => ?_) (fun hb7 => ?_)
      · replace h := bif_t hb7 h
        refine St.seq ?_
        refine St.seq ?_
        obtain ⟨o4, hj2, h⟩ := bnd_e h
        refine St.cutE (fun (e4 : Unit) => [(1, .pointer (some ⟨g1, 0, none⟩)), (3, .int .i64 (f_p0.Value.size : Int)), (48, .bool o4)]) (fun e4 => .res (Box g1 23 [.int .i64 f_p0.Kind, .string f_p0.Value]) :: R) ?_ ?_
        · refine St.region ?_
          iterate 4 refine St.p rfl rfl ?_
          refine St.gSplit (dj := 40) _ rfl (fun hb8 => ?_) (fun hb8 => ?_)
          · replace hj2 := bif_t hb8 hj2
            refine St.gOff (dj := 40) rfl rfl rfl rfl ?_
            refine St.gOff (dj := 40) rfl rfl rfl rfl ?_
            refine St.p rfl rfl ?_
            refine St.p rfl rfl ?_
            refine St.gOff (dj := 44) rfl rfl rfl rfl ?_
            refine St.gOff (dj := 44) rfl rfl rfl rfl ?_
            refine St.gOff (dj := 44) rfl rfl rfl rfl ?_
            refine St.p rfl rfl ?_
            refine St.done ?_
            injection hj2 with hj2
            subst hj2
            refine St.thenN ?_
            exact St.hereE () ⟨rfl, rfl, rfl, trivial⟩ (fun _ w => ((.k .z) : Keep _ _).sat w)
          · replace hj2 := bif_f hb8 hj2
            refine St.gOn (dj := 40) rfl rfl ?_
            refine St.p rfl rfl ?_
            refine St.gOn (dj := 40) rfl rfl ?_
            iterate 3 refine St.p rfl rfl ?_
            refine St.gSplit (dj := 44) _ rfl (fun hb9 => ?_) (fun hb9 => ?_)
            · replace hj2 := bif_t hb9 hj2
              refine St.gOff (dj := 44) rfl rfl rfl rfl ?_
              refine St.gOff (dj := 44) rfl rfl rfl rfl ?_
              refine St.gOff (dj := 44) rfl rfl rfl rfl ?_
              refine St.p rfl rfl ?_
              refine St.done ?_
              injection hj2 with hj2
              subst hj2
              refine St.thenN ?_
              exact St.hereE () ⟨rfl, rfl, rfl, trivial⟩ (fun _ w => ((.k .z) : Keep _ _).sat w)
            · replace hj2 := bif_f hb9 hj2
              refine St.gOn (dj := 44) rfl rfl ?_
              refine St.p rfl rfl ?_
              refine St.gOn (dj := 44) rfl rfl ?_
              obtain ⟨r2, hr2, hj2⟩ := bnd_e hj2
              refine St.callV (c_ref02_sixBytes hr2) ent43 rfl rfl rfl rfl trivial ?_
              refine St.gOn (dj := 44) rfl rfl ?_
              refine St.p rfl rfl ?_
              refine St.p rfl rfl ?_
              refine St.done ?_
              injection hj2 with hj2
              subst hj2
              refine St.thenN ?_
              exact St.hereE () ⟨rfl, rfl, rfl, trivial⟩ (fun _ w => ((.k .z) : Keep _ _).sat w)
        · rintro e4
          refine St.cond _ rfl (fun hb10 => ?_) (fun hb10 => ?_)
          · replace h := bif_t hb10 h
            refine St.seq ?_
            refine St.region ?_
            refine St.p rfl rfl ?_
            refine St.done ?_
            refine St.thenN ?_
            refine St.prune (Γ' := [(2, _)]) ⟨rfl, trivial⟩ (.d .z) ?_
            refine St.ret ?_
            repeat (first | refine St.thenR ?_ | refine St.blkR ?_)
            injection h with h
            subst h
            exact St.finR Tryd.results20 (.tmp rfl .nil) rfl [] ⟨rfl, rfl⟩ (fun _ w => (.z : Keep _ _).sat w)
          · replace h := bif_f hb10 h
            refine St.skip ?_
            refine St.thenN ?_
            refine St.prune (Γ' := [(1, _), (3, _)]) ⟨rfl, rfl, trivial⟩ (.k .z) ?_
            refine St.seq ?_
            refine St.seq ?_
            refine St.region ?_
            refine St.p rfl rfl ?_
            refine St.done ?_
            refine St.thenN ?_
            obtain ⟨o5, hl2, h⟩ := bnd_e h
            refine St.cutI (fun (o6 : Unit) (e6 : Unit) => []) (fun o6 e6 => R) (fun o6 => o5 = .inr o6) ?_ ?_
            · refine St.block ?_
              refine St.loop hl2 (fun (s2 : Int) (e5 : Unit) => [(1, .pointer (some ⟨g1, 0, none⟩)), (3, .int .i64 (f_p0.Value.size : Int)), (5, .int .i64 s2)]) (fun s2 e5 => .res (Box g1 23 [.int .i64 f_p0.Kind, .string f_p0.Value]) :: R) (fun _ _ => True) () trivial ⟨rfl, rfl, rfl, trivial⟩ (fun _ w => ((.k .z) : Keep _ _).sat w) ?_
              rintro s2 e5 - hit2
              obtain ⟨st2, hm2, hd2⟩ := iter_e hit2
              have h2 := hm2
              refine St.seq ?_
              refine St.seq ?_
              refine St.region ?_
              iterate 3 refine St.p rfl rfl ?_
              refine St.done ?_
              refine St.thenN ?_
              refine St.prune (Γ' := [(1, _), (3, _), (5, _), (51, _)]) ⟨rfl, rfl, rfl, rfl, trivial⟩ (.k .z) ?_
              refine St.cond _ rfl (fun hb11 => ?_) (fun hb11 => ?_)
              · replace h2 := bif_t hb11 h2
                refine St.skip ?_
                refine St.thenN ?_
                refine St.prune (Γ' := [(1, _), (3, _), (5, _)]) ⟨rfl, rfl, rfl, trivial⟩ (.k .z) ?_
                refine St.seq ?_
                refine St.block ?_
                refine St.seq ?_
                obtain ⟨o7, hj3, h2⟩ := bnd_e h2
                refine St.cutE (fun (e7 : Unit) => [(1, .pointer (some ⟨g1, 0, none⟩)), (3, .int .i64 (f_p0.Value.size : Int)), (5, .int .i64 s2), (65, .bool o7)]) (fun e7 => .res (Box g1 23 [.int .i64 f_p0.Kind, .string f_p0.Value]) :: R) ?_ ?_
                · refine St.region ?_
                  refine St.p rfl rfl ?_
                  refine St.loadB 1 rfl rfl (.head _) rfl rfl ?_
                  refine St.p rfl rfl ?_
                  obtain ⟨y2, hy2, hj3⟩ := bnd_e hj3
                  refine St.eltS rfl rfl rfl rfl rfl hy2 ?_
                  refine St.p rfl rfl ?_
                  refine St.p rfl rfl ?_
                  refine St.gSplit (dj := 59) _ rfl (fun hb12 => ?_) (fun hb12 => ?_)
                  · replace hj3 := bif_t hb12 hj3
                    refine St.gOff (dj := 59) rfl rfl rfl rfl ?_
                    refine St.gOff (dj := 59) rfl rfl rfl rfl ?_
                    refine St.gOff (dj := 59) rfl rfl rfl rfl ?_
                    refine St.gOff (dj := 59) rfl rfl rfl rfl ?_
                    refine St.gOff (dj := 59) rfl rfl rfl rfl ?_
                    refine St.p rfl rfl ?_
                    refine St.done ?_
                    injection hj3 with hj3
                    subst hj3
                    refine St.thenN ?_
                    exact St.hereE () ⟨rfl, rfl, rfl, rfl, trivial⟩ (fun _ w => ((.k .z) : Keep _ _).sat w)
                  · replace hj3 := bif_f hb12 hj3
                    refine St.gOn (dj := 59) rfl rfl ?_
                    refine St.p rfl rfl ?_
                    refine St.gOn (dj := 59) rfl rfl ?_
                    refine St.loadB 1 rfl rfl (.head _) rfl rfl ?_
                    refine St.gOn (dj := 59) rfl rfl ?_
                    refine St.p rfl rfl ?_
                    refine St.gOn (dj := 59) rfl rfl ?_
                    refine St.eltS rfl rfl rfl rfl rfl hy2 ?_
                    refine St.gOn (dj := 59) rfl rfl ?_
                    refine St.p rfl rfl ?_
                    refine St.p rfl rfl ?_
                    refine St.done ?_
                    injection hj3 with hj3
                    subst hj3
                    refine St.thenN ?_
                    exact St.hereE () ⟨rfl, rfl, rfl, rfl, trivial⟩ (fun _ w => ((.k .z) : Keep _ _).sat w)
                · rintro e7
                  refine St.cond _ rfl (fun hb13 => ?_) (fun hb13 => ?_)
                  · replace h2 := bif_t hb13 h2
                    refine St.seq ?_
                    refine St.region ?_
                    refine St.p rfl rfl ?_
                    refine St.done ?_
                    refine St.thenN ?_
                    refine St.prune (Γ' := [(2, _)]) ⟨rfl, trivial⟩ (.d .z) ?_
                    refine St.ret ?_
                    repeat (first | refine St.thenR ?_ | refine St.blkR ?_)
                    injection h2 with h2
                    subst h2
                    have ho := hd2 _ rfl
                    subst ho
                    have h : some _ = some _ := h
                    injection h with h
                    subst h
                    exact St.finR Tryd.results20 (.tmp rfl .nil) rfl [] ⟨rfl, rfl⟩ (fun _ w => (.z : Keep _ _).sat w)
                  · replace h2 := bif_f hb13 h2
                    refine St.skip ?_
                    refine St.blkN ?_
                    refine St.thenN ?_
                    refine St.prune (Γ' := [(1, _), (3, _), (5, _)]) ⟨rfl, rfl, rfl, trivial⟩ (.k .z) ?_
                    refine St.region ?_
                    iterate 3 refine St.p rfl rfl ?_
                    refine St.done ?_
                    injection h2 with h2
                    subst h2
                    refine St.thenN ?_
                    exact St.again _ () hm2 trivial ⟨rfl, rfl, rfl, trivial⟩ (fun _ w => ((.k .z) : Keep _ _).sat w)
              · replace h2 := bif_f hb11 h2
                refine St.exit ?_
                repeat (first | refine St.thenX ?_ | refine St.blkMiss rfl ?_)
                refine St.blkHit ?_
                injection h2 with h2
                subst h2
                have ho := hd2 _ rfl
                subst ho
                refine St.thenN ?_
                exact St.hereI () () rfl trivial (fun _ w => ((.d .z) : Keep _ _).sat w)
            · rintro o6 e6 ho
              subst ho
              have h : _ = some _ := h
              refine St.seq ?_
              refine St.region ?_
              refine St.p rfl rfl ?_
              refine St.done ?_
              refine St.thenN ?_
              refine St.ret ?_
              repeat (first | refine St.thenR ?_ | refine St.blkR ?_)
              injection h with h
              subst h
              exact St.finR Tryd.results20 (.tmp rfl .nil) rfl [] ⟨rfl, rfl⟩ (fun _ w => (.z : Keep _ _).sat w)
      · replace h := bif_f hb7 h
        refine St.seq ?_
        refine St.region ?_
        refine St.p rfl rfl ?_
        refine St.p rfl rfl ?_
        refine St.done ?_
        refine St.thenN ?_
        refine St.prune (Γ' := [(3, _), (66, _)]) ⟨rfl, rfl, trivial⟩ (.d .z) ?_
        refine St.cond _ rfl (fun hb14 => ?_) (fun hb14 => ?_)
        · replace h := bif_t hb14 h
          refine St.seq ?_
          obtain ⟨o8, hj4, h⟩ := bnd_e h
          refine St.cutE (fun (e8 : Unit) => [(2, .bool o8)]) (fun e8 => R) ?_ ?_
          · refine St.region ?_
            iterate 3 refine St.p rfl rfl ?_
            refine St.gSplit (dj := 70) _ rfl (fun hb15 => ?_) (fun hb15 => ?_)
            · replace hj4 := bif_t hb15 hj4
              refine St.gOff (dj := 70) rfl rfl rfl rfl ?_
              refine St.gOff (dj := 70) rfl rfl rfl rfl ?_
              refine St.gOff (dj := 70) rfl rfl rfl rfl ?_
              refine St.gOff (dj := 73) rfl rfl rfl rfl ?_
              refine St.gOff (dj := 73) rfl rfl rfl rfl ?_
              refine St.gOff (dj := 70) rfl rfl rfl rfl ?_
              refine St.p rfl rfl ?_
              refine St.p rfl rfl ?_
              refine St.done ?_
              injection hj4 with hj4
              subst hj4
              refine St.thenN ?_
              exact St.hereE () ⟨rfl, trivial⟩ (fun _ w => (.z : Keep _ _).sat w)
            · replace hj4 := bif_f hb15 hj4
              refine St.gOn (dj := 70) rfl rfl ?_
              refine St.p rfl rfl ?_
              refine St.gOn (dj := 70) rfl rfl ?_
              refine St.p rfl rfl ?_
              refine St.gOn (dj := 70) rfl rfl ?_
              refine St.p rfl rfl ?_
              refine St.gSplit (dj := 73) _ rfl (fun hb16 => ?_) (fun hb16 => ?_)
              · replace hj4 := bif_t hb16 hj4
                refine St.gOn (dj := 73) rfl rfl ?_
                refine St.p rfl rfl ?_
                refine St.gOn (dj := 73) rfl rfl ?_
                refine St.p rfl rfl ?_
                refine St.gOn (dj := 70) rfl rfl ?_
                iterate 3 refine St.p rfl rfl ?_
                refine St.done ?_
                injection hj4 with hj4
                subst hj4
                refine St.thenN ?_
                exact St.hereE () ⟨rfl, trivial⟩ (fun _ w => (.z : Keep _ _).sat w)
              · replace hj4 := bif_f hb16 hj4
                refine St.gOff (dj := 73) rfl rfl rfl rfl ?_
                refine St.gOff (dj := 73) rfl rfl rfl rfl ?_
                refine St.gOn (dj := 70) rfl rfl ?_
                iterate 3 refine St.p rfl rfl ?_
                refine St.done ?_
                injection hj4 with hj4
                subst hj4
                refine St.thenN ?_
                exact St.hereE () ⟨rfl, trivial⟩ (fun _ w => (.z : Keep _ _).sat w)
          · rintro e8
            refine St.ret ?_
            repeat (first | refine St.thenR ?_ | refine St.blkR ?_)
            injection h with h
            subst h
            exact St.finR Tryd.results20 (.tmp rfl .nil) rfl [] ⟨rfl, rfl⟩ (fun _ w => (.z : Keep _ _).sat w)
        · replace h := bif_f hb14 h
          refine St.skip ?_
          refine St.blkN ?_
          refine St.thenN ?_
          refine St.prune (Γ' := []) trivial .z ?_
          refine St.seq ?_
          refine St.region ?_
          refine St.p rfl rfl ?_
          refine St.done ?_
          refine St.thenN ?_
          refine St.ret ?_
          repeat (first | refine St.thenR ?_ | refine St.blkR ?_)
          injection h with h
          subst h
          exact St.finR Tryd.results20 (.tmp rfl .nil) rfl [] ⟨rfl, rfl⟩ (fun _ w => (.z : Keep _ _).sat w)

theorem ent38 : Ent Tryd.prog 38 := ⟨_, Tryd.func38, by kernel_rfl, by kernel_rfl⟩

noncomputable def m_ref02_data (f_p0 : T_Field) : Option (List Int) :=
  bif (f_p0.Kind == 1) then (bnd (loopM (τ := List Int) (fun (s1 : List Int × Int) => bif decide ((IntKind.wrap .i64 (s1.2 + 1)) < (f_p0.Value.size : Int)) then (bnd (eltS f_p0.Value s1.2) fun y1 => bnd (m_ref02_digit y1) fun r1 => bnd (eltS f_p0.Value (IntKind.wrap .i64 (s1.2 + 1))) fun y2 => bnd (m_ref02_digit y2) fun r2 => bnd (app 1 s1.1 [IntKind.wrap .u8 (IntKind.wrap .i64 ((IntKind.wrap .i64 (16 * r1)) + r2))]) fun l1 => some (.next (l1, IntKind.wrap .i64 (s1.2 + 2)))) else (some (.done s1.1))) ([], 0)) fun o1 => some o1) else (bif (f_p0.Kind == 2) then (bnd (m_ref02_sixBytes (f_p0.Value.size : Int)) fun r3 => bnd (mkS 1 0 r3 r3) fun l2 => bnd (loopM (τ := List Int) (fun (s2 : Int × List Int) => bif decide (s2.1 < (f_p0.Value.size : Int)) then (bnd (eltS f_p0.Value s2.1) fun y3 => bnd (loopM (τ := List Int) (fun (s3 : Int × Int × List Int) => bif decide (s3.2.1 < 6) then (bif ((s3.1.tmod 2) == 1) then (bnd (elt s3.2.2 (IntKind.wrap .i64 ((IntKind.wrap .i64 ((IntKind.wrap .i64 (6 * s2.1)) + s3.2.1)).tdiv 8))) fun x1 => bnd (shlM .u8 1 (IntKind.wrap .u64 ((IntKind.wrap .i64 ((IntKind.wrap .i64 (6 * s2.1)) + s3.2.1)).tmod 8))) fun q1 => bnd (setE s3.2.2 (IntKind.wrap .i64 ((IntKind.wrap .i64 ((IntKind.wrap .i64 (6 * s2.1)) + s3.2.1)).tdiv 8)) (IntKind.wrap .u8 (x1 + q1))) fun l3 => some (.next (IntKind.wrap .i64 (s3.1.tdiv 2), IntKind.wrap .i64 (s3.2.1 + 1), l3))) else (some (.next (IntKind.wrap .i64 (s3.1.tdiv 2), IntKind.wrap .i64 (s3.2.1 + 1), s3.2.2)))) else (some (.done s3.2.2))) (IntKind.wrap .i64 ((IntKind.wrap .i64 y3) - 32), 0, s2.2)) fun o3 => some (.next (IntKind.wrap .i64 (s2.1 + 1), o3))) else (some (.done s2.2))) (0, l2)) fun o2 => some o2) else (bnd (loopM (τ := List Int) (fun (s4 : List Int × Int) => bif decide (s4.2 < (f_p0.Value.size : Int)) then (bnd (eltS f_p0.Value s4.2) fun y4 => bnd (app 1 s4.1 [y4]) fun l4 => some (.next (l4, IntKind.wrap .i64 (s4.2 + 1)))) else (some (.done s4.1))) ([], 0)) fun o4 => some o4))

end Go.Proofs.YtfddmgagikeieaaDoor
