/-
 Models of functions of the program, and that the functions compute them.
 Conditions: none.
-/
import Derived.Test.YtgnmhmnglbbamaaTypes
import Derived.Test.YtgnmhmnglbbamaaCoreT
namespace Go.Proofs.Ytgnmhmnglbbamaa
open Go
set_option linter.unusedVariables false
set_option maxRecDepth 4000

structure T_Version where
 Major : Int
 Minor : Int
 Patch : Int

structure T_Image where
 Name : ByteArray
 Version : T_Version
 Data : (List Int)

structure T_Need where
 Component : ByteArray
 From : T_Version
 On : ByteArray
 At : T_Version

structure T_Bundle where
 Images : (List T_Image)
 Needs : (List T_Need)

abbrev bx_T_Image (x : T_Image) (A1 : Option Addr) (c1 : Nat) : List Value := [.string x.Name, .int .i64 x.Version.Major, .int .i64 x.Version.Minor, .int .i64 x.Version.Patch, .slice A1 x.Data.length c1]

def l_T_Image : List (LC T_Image) := [.v (fun x => .string x.Name) (fun _ => rfl), .v (fun x => .int .i64 x.Version.Major) (fun _ => rfl), .v (fun x => .int .i64 x.Version.Minor) (fun _ => rfl), .v (fun x => .int .i64 x.Version.Patch) (fun _ => rfl), .s (cod eu8) (fun x => x.Data)]

def e_Need : Enc T_Need := ⟨8, fun x => [.string x.Component, .int .i64 x.From.Major, .int .i64 x.From.Minor, .int .i64 x.From.Patch, .string x.On, .int .i64 x.At.Major, .int .i64 x.At.Minor, .int .i64 x.At.Patch], fun _ => rfl, fun _ => List.all_eq_true.1 rfl⟩

structure Arr3 (α : Type) where
 e0 : α
 e1 : α
 e2 : α

def Arr3.set {α : Type} (a : Arr3 α) (q : Int) (y : α) : Option (Arr3 α) := match setE [a.e0, a.e1, a.e2] q y with | some [x0, x1, x2] => some ⟨x0, x1, x2⟩ | _ => none

theorem Arr3.set_e {α : Type} {a b : Arr3 α} {q : Int} {y : α} (h : a.set q y = some b) : setE [a.e0, a.e1, a.e2] q y = some [b.e0, b.e1, b.e2] := by
 unfold Arr3.set at h
 split at h
 ·rename_i hs; injection h with h; subst h; exact hs
 ·cases h

theorem pairs3 {α β : Type} {l : List (α × β)} {a0 a1 a2 : α} (h : l.map (·.1) = [a0, a1, a2]) : ∃ x0 x1 x2, l = [(a0, x0), (a1, x1), (a2, x2)] := by
 match l, h with
 | [(_, x0), (_, x1), (_, x2)], h => simp at h; obtain ⟨rfl, rfl, rfl⟩ := h; exact ⟨x0, x1, x2, rfl⟩

structure T_Installed where
 Name : ByteArray
 Version : T_Version

def e_Installed : Enc T_Installed := ⟨4, fun x => [.string x.Name, .int .i64 x.Version.Major, .int .i64 x.Version.Minor, .int .i64 x.Version.Patch], fun _ => rfl, fun _ => List.all_eq_true.1 rfl⟩

abbrev bx_T_Need (x : T_Need) : List Value := [.string x.Component, .int .i64 x.From.Major, .int .i64 x.From.Minor, .int .i64 x.From.Patch, .string x.On, .int .i64 x.At.Major, .int .i64 x.At.Minor, .int .i64 x.At.Patch]

structure T_bundle_reader where
 b : (List Int)
 at_ : Int
 bad : Bool

structure T_Codes where
 L : (List Int)
 At : Int

def l_T_Bundle : List (LC T_Bundle) := [.s (codL l_T_Image) (fun x => x.Images), .s (cod e_Need) (fun x => x.Needs)]

def l_sl_u8 : List (LC (List Int)) := [.s (cod eu8) (fun x => x)]

def l_u8 : List (LC Int) := [.v (fun x => .int .u8 x) (fun _ => rfl)]

def l_sl_T_Image : List (LC (List T_Image)) := [.s (codL l_T_Image) (fun x => x)]

def l_str : List (LC ByteArray) := [.v (fun x => .string x) (fun _ => rfl)]

def l_T_Version : List (LC T_Version) := [.v (fun x => .int .i64 x.Major) (fun _ => rfl), .v (fun x => .int .i64 x.Minor) (fun _ => rfl), .v (fun x => .int .i64 x.Patch) (fun _ => rfl)]

def l_i64 : List (LC Int) := [.v (fun x => .int .i64 x) (fun _ => rfl)]

def ok_T_Version (x : T_Version) : Prop := (inK .i64) x.Major ∧ (inK .i64) x.Minor ∧ (inK .i64) x.Patch

def ok_T_Image (x : T_Image) : Prop := okS x.Name ∧ ok_T_Version x.Version ∧ (okL (inK .u8)) x.Data

def l_sl_T_Need : List (LC (List T_Need)) := [.s (cod e_Need) (fun x => x)]

def l_T_Need : List (LC T_Need) := [.v (fun x => .string x.Component) (fun _ => rfl), .v (fun x => .int .i64 x.From.Major) (fun _ => rfl), .v (fun x => .int .i64 x.From.Minor) (fun _ => rfl), .v (fun x => .int .i64 x.From.Patch) (fun _ => rfl), .v (fun x => .string x.On) (fun _ => rfl), .v (fun x => .int .i64 x.At.Major) (fun _ => rfl), .v (fun x => .int .i64 x.At.Minor) (fun _ => rfl), .v (fun x => .int .i64 x.At.Patch) (fun _ => rfl)]

def ok_T_Need (x : T_Need) : Prop := okS x.Component ∧ ok_T_Version x.From ∧ okS x.On ∧ ok_T_Version x.At

def ok_T_Bundle (x : T_Bundle) : Prop := (okL ok_T_Image) x.Images ∧ (okL ok_T_Need) x.Needs

structure T_ref28_reader where
 b : (List Int)
 at_ : Int
 bad : Bool

def l_u16 : List (LC Int) := [.v (fun x => .int .u16 x) (fun _ => rfl)]

theorem ent43 : Ent Try.prog 43 := ⟨_, Try.func43, by kernel_rfl, by kernel_rfl⟩

noncomputable def m_version_Name (s_p0 : ByteArray) : Option Bool :=
 bnd ((bif decide ((s_p0.size : Int) < 1) then (some true) else (some (decide ((s_p0.size : Int) > 16))) : Option Bool)) fun o1 => bif o1 then (some false) else (bnd (loopM (τ := Bool ⊕ Unit) (fun (s1 : Int) => bif decide (s1 < (s_p0.size : Int)) then (bnd ((bnd (eltS s_p0 s1) fun y1 => bif decide (y1 ≥ 97) then (some (decide (y1 ≤ 122))) else (some false) : Option Bool)) fun o4 => bnd ((bnd (eltS s_p0 s1) fun y2 => bif decide (y2 ≥ 48) then (bif decide (y2 ≤ 57) then (some true) else (some (y2 == 45))) else (some (y2 == 45)) : Option Bool)) fun o5 => bnd ((bif !o4 then (bif (s1 == 0) then (some true) else (some (!o5))) else (some false) : Option Bool)) fun o6 => bif o6 then (some (.done (.inl false))) else (some (.next (IntKind.wrap .i64 (s1 + 1))))) else (some (.done (.inr ())))) 0) fun o2 => retOr o2 fun o3 => some true)

set_option maxHeartbeats 4000000 in
theorem c_version_Name {s_p0 : ByteArray} {r : Bool} (h : m_version_Name s_p0 = some r) :
  Fun Try.prog 43 [.string s_p0] [] (Val (.bool r)) := by
 unfold m_version_Name at h
 refine Fun.intro Try.func43 rfl rfl rfl fun w R => ?_
 refine St.seq ?_
 refine St.region ?_
 refine St.p rfl rfl ?_
 refine St.done ?_
 refine St.thenN ?_
 refine St.prune (Γ' := [(0, _)]) ⟨rfl, trivial⟩ .z ?_
 refine St.seq ?_
 refine St.seq ?_
 obtain ⟨o1, hj1, h⟩ := bnd_e h
 refine St.cutE (fun (e1 : Unit) => [(0, .string s_p0), (13, .bool o1)]) (fun e1 => R) ?_ ?_
 ·refine St.region ?_
  iterate 4 refine St.p rfl rfl ?_
  refine St.gSplit (dj := 9) _ rfl (fun hb1 => ?_) (fun hb1 => ?_)
  ·replace hj1 := bif_t hb1 hj1
   refine St.gOff (dj := 9) rfl rfl rfl rfl ?_
   refine St.gOff (dj := 9) rfl rfl rfl rfl ?_
   refine St.gOff (dj := 9) rfl rfl rfl rfl ?_
   refine St.p rfl rfl ?_
   refine St.done ?_
   injection hj1 with hj1
   subst hj1
   refine St.thenN ?_
   exact St.hereE () ⟨rfl, rfl, trivial⟩ (fun _ w => (.z : Keep _ _).sat w)
  ·replace hj1 := bif_f hb1 hj1
   refine St.gOn (dj := 9) rfl rfl ?_
   refine St.p rfl rfl ?_
   refine St.gOn (dj := 9) rfl rfl ?_
   refine St.p rfl rfl ?_
   refine St.gOn (dj := 9) rfl rfl ?_
   refine St.p rfl rfl ?_
   refine St.p rfl rfl ?_
   refine St.done ?_
   injection hj1 with hj1
   subst hj1
   refine St.thenN ?_
   exact St.hereE () ⟨rfl, rfl, trivial⟩ (fun _ w => (.z : Keep _ _).sat w)
 ·rintro e1
  refine St.cond _ rfl (fun hb2 => ?_) (fun hb2 => ?_)
  ·replace h := bif_t hb2 h
   refine St.seq ?_
   refine St.region ?_
   refine St.p rfl rfl ?_
   refine St.done ?_
   refine St.thenN ?_
   refine St.prune (Γ' := [(2, _)]) ⟨rfl, trivial⟩ .z ?_
   refine St.ret ?_
   repeat (first | refine St.thenR ?_ | refine St.blkR ?_)
   injection h with h
   subst h
   exact St.finR Try.results43 (.tmp rfl .nil) rfl [] ⟨rfl, rfl⟩ (fun _ w => (.z : Keep _ _).sat w)
  ·replace h := bif_f hb2 h
   refine St.skip ?_
   refine St.thenN ?_
   refine St.prune (Γ' := [(0, _)]) ⟨rfl, trivial⟩ .z ?_
   refine St.seq ?_
   refine St.seq ?_
   refine St.region ?_
   refine St.p rfl rfl ?_
   refine St.done ?_
   refine St.thenN ?_
   obtain ⟨o2, hl1, h⟩ := bnd_e h
   refine St.cutI (fun (o3 : Unit) (e3 : Unit) => []) (fun o3 e3 => R) (fun o3 => o2 = .inr o3) ?_ ?_
   ·refine St.block ?_
    refine St.loop hl1 (fun (s1 : Int) (e2 : Unit) => [(0, .string s_p0), (3, .int .i64 s1)]) (fun s1 e2 => R) (fun _ _ => True) () trivial ⟨rfl, rfl, trivial⟩ (fun _ w => (.z : Keep _ _).sat w) ?_
    rintro s1 e2 - hit1
    obtain ⟨st1, hm1, hd1⟩ := iter_e hit1
    have h1 := hm1
    refine St.seq ?_
    refine St.seq ?_
    refine St.region ?_
    iterate 4 refine St.p rfl rfl ?_
    refine St.done ?_
    refine St.thenN ?_
    refine St.prune (Γ' := [(0, _), (3, _), (17, _)]) ⟨rfl, rfl, rfl, trivial⟩ .z ?_
    refine St.cond _ rfl (fun hb3 => ?_) (fun hb3 => ?_)
    ·replace h1 := bif_t hb3 h1
     refine St.skip ?_
     refine St.thenN ?_
     refine St.prune (Γ' := [(0, _), (3, _)]) ⟨rfl, rfl, trivial⟩ .z ?_
     refine St.seq ?_
     refine St.block ?_
     refine St.seq ?_
     obtain ⟨o4, hj2, h1⟩ := bnd_e h1
     refine St.cutE (fun (e4 : Unit) => [(0, .string s_p0), (3, .int .i64 s1), (4, .bool o4)]) (fun e4 => R) ?_ ?_
     ·refine St.region ?_
      refine St.p rfl rfl ?_
      refine St.p rfl rfl ?_
      obtain ⟨y1, hy1, hj2⟩ := bnd_e hj2
      refine St.eltS rfl rfl rfl rfl rfl hy1 ?_
      refine St.p rfl rfl ?_
      refine St.p rfl rfl ?_
      refine St.gSplit (dj := 24) _ rfl (fun hb4 => ?_) (fun hb4 => ?_)
      ·replace hj2 := bif_t hb4 hj2
       refine St.gOn (dj := 24) rfl rfl ?_
       refine St.p rfl rfl ?_
       refine St.gOn (dj := 24) rfl rfl ?_
       refine St.p rfl rfl ?_
       refine St.gOn (dj := 24) rfl rfl ?_
       refine St.eltS rfl rfl rfl rfl rfl hy1 ?_
       refine St.gOn (dj := 24) rfl rfl ?_
       iterate 3 refine St.p rfl rfl ?_
       refine St.done ?_
       injection hj2 with hj2
       subst hj2
       refine St.thenN ?_
       exact St.hereE () ⟨rfl, rfl, rfl, trivial⟩ (fun _ w => (.z : Keep _ _).sat w)
      ·replace hj2 := bif_f hb4 hj2
       refine St.gOff (dj := 24) rfl rfl rfl rfl ?_
       refine St.gOff (dj := 24) rfl rfl rfl rfl ?_
       refine St.gOff (dj := 24) rfl rfl rfl rfl ?_
       refine St.gOff (dj := 24) rfl rfl rfl rfl ?_
       refine St.p rfl rfl ?_
       refine St.p rfl rfl ?_
       refine St.done ?_
       injection hj2 with hj2
       subst hj2
       refine St.thenN ?_
       exact St.hereE () ⟨rfl, rfl, rfl, trivial⟩ (fun _ w => (.z : Keep _ _).sat w)
     ·rintro e4
      refine St.seq ?_
      obtain ⟨o5, hj3, h1⟩ := bnd_e h1
      refine St.cutE (fun (e5 : Unit) => [(0, .string s_p0), (3, .int .i64 s1), (4, .bool o4), (5, .bool o5)]) (fun e5 => R) ?_ ?_
      ·refine St.region ?_
       refine St.p rfl rfl ?_
       refine St.p rfl rfl ?_
       obtain ⟨y2, hy2, hj3⟩ := bnd_e hj3
       refine St.eltS rfl rfl rfl rfl rfl hy2 ?_
       refine St.p rfl rfl ?_
       refine St.p rfl rfl ?_
       refine St.gSplit (dj := 34) _ rfl (fun hb5 => ?_) (fun hb5 => ?_)
       ·replace hj3 := bif_t hb5 hj3
        refine St.gOn (dj := 34) rfl rfl ?_
        refine St.p rfl rfl ?_
        refine St.gOn (dj := 34) rfl rfl ?_
        refine St.p rfl rfl ?_
        refine St.gOn (dj := 34) rfl rfl ?_
        refine St.eltS rfl rfl rfl rfl rfl hy2 ?_
        refine St.gOn (dj := 34) rfl rfl ?_
        iterate 3 refine St.p rfl rfl ?_
        refine St.gSplit (dj := 40) _ rfl (fun hb6 => ?_) (fun hb6 => ?_)
        ·replace hj3 := bif_t hb6 hj3
         refine St.gOff (dj := 40) rfl rfl rfl rfl ?_
         refine St.gOff (dj := 40) rfl rfl rfl rfl ?_
         refine St.gOff (dj := 40) rfl rfl rfl rfl ?_
         refine St.gOff (dj := 40) rfl rfl rfl rfl ?_
         refine St.p rfl rfl ?_
         refine St.p rfl rfl ?_
         refine St.done ?_
         injection hj3 with hj3
         subst hj3
         refine St.thenN ?_
         exact St.hereE () ⟨rfl, rfl, rfl, rfl, trivial⟩ (fun _ w => (.z : Keep _ _).sat w)
        ·replace hj3 := bif_f hb6 hj3
         refine St.gOn (dj := 40) rfl rfl ?_
         refine St.p rfl rfl ?_
         refine St.gOn (dj := 40) rfl rfl ?_
         refine St.p rfl rfl ?_
         refine St.gOn (dj := 40) rfl rfl ?_
         refine St.eltS rfl rfl rfl rfl rfl hy2 ?_
         refine St.gOn (dj := 40) rfl rfl ?_
         iterate 3 refine St.p rfl rfl ?_
         refine St.done ?_
         injection hj3 with hj3
         subst hj3
         refine St.thenN ?_
         exact St.hereE () ⟨rfl, rfl, rfl, rfl, trivial⟩ (fun _ w => (.z : Keep _ _).sat w)
       ·replace hj3 := bif_f hb5 hj3
        refine St.gOff (dj := 34) rfl rfl rfl rfl ?_
        refine St.gOff (dj := 34) rfl rfl rfl rfl ?_
        refine St.gOff (dj := 34) rfl rfl rfl rfl ?_
        refine St.gOff (dj := 34) rfl rfl rfl rfl ?_
        refine St.p rfl rfl ?_
        refine St.p rfl rfl ?_
        refine St.gOn (dj := 40) rfl rfl ?_
        refine St.p rfl rfl ?_
        refine St.gOn (dj := 40) rfl rfl ?_
        refine St.p rfl rfl ?_
        refine St.gOn (dj := 40) rfl rfl ?_
        refine St.eltS rfl rfl rfl rfl rfl hy2 ?_
        refine St.gOn (dj := 40) rfl rfl ?_
        iterate 3 refine St.p rfl rfl ?_
        refine St.done ?_
        injection hj3 with hj3
        subst hj3
        refine St.thenN ?_
        exact St.hereE () ⟨rfl, rfl, rfl, rfl, trivial⟩ (fun _ w => (.z : Keep _ _).sat w)
      ·rintro e5
       refine St.seq ?_
       obtain ⟨o6, hj4, h1⟩ := bnd_e h1
       refine St.cutE (fun (e6 : Unit) => [(0, .string s_p0), (3, .int .i64 s1), (55, .bool o6)]) (fun e6 => R) ?_ ?_
       ·refine St.region ?_
        iterate 3 refine St.p rfl rfl ?_
        refine St.gSplit (dj := 48) _ rfl (fun hb7 => ?_) (fun hb7 => ?_)
        ·replace hj4 := bif_t hb7 hj4
         refine St.gOn (dj := 48) rfl rfl ?_
         refine St.p rfl rfl ?_
         refine St.gOn (dj := 48) rfl rfl ?_
         refine St.p rfl rfl ?_
         refine St.gOn (dj := 48) rfl rfl ?_
         refine St.p rfl rfl ?_
         refine St.gSplit (dj := 51) _ rfl (fun hb8 => ?_) (fun hb8 => ?_)
         ·replace hj4 := bif_t hb8 hj4
          refine St.gOff (dj := 51) rfl rfl rfl rfl ?_
          refine St.gOff (dj := 51) rfl rfl rfl rfl ?_
          refine St.gOn (dj := 48) rfl rfl ?_
          refine St.p rfl rfl ?_
          refine St.p rfl rfl ?_
          refine St.done ?_
          injection hj4 with hj4
          subst hj4
          refine St.thenN ?_
          exact St.hereE () ⟨rfl, rfl, rfl, trivial⟩ (fun _ w => (.z : Keep _ _).sat w)
         ·replace hj4 := bif_f hb8 hj4
          refine St.gOn (dj := 51) rfl rfl ?_
          refine St.p rfl rfl ?_
          refine St.gOn (dj := 51) rfl rfl ?_
          refine St.p rfl rfl ?_
          refine St.gOn (dj := 48) rfl rfl ?_
          refine St.p rfl rfl ?_
          refine St.p rfl rfl ?_
          refine St.done ?_
          injection hj4 with hj4
          subst hj4
          refine St.thenN ?_
          exact St.hereE () ⟨rfl, rfl, rfl, trivial⟩ (fun _ w => (.z : Keep _ _).sat w)
        ·replace hj4 := bif_f hb7 hj4
         refine St.gOff (dj := 48) rfl rfl rfl rfl ?_
         refine St.gOff (dj := 48) rfl rfl rfl rfl ?_
         refine St.gOff (dj := 48) rfl rfl rfl rfl ?_
         refine St.gOff (dj := 51) rfl rfl rfl rfl ?_
         refine St.gOff (dj := 51) rfl rfl rfl rfl ?_
         refine St.gOff (dj := 48) rfl rfl rfl rfl ?_
         refine St.p rfl rfl ?_
         refine St.done ?_
         injection hj4 with hj4
         subst hj4
         refine St.thenN ?_
         exact St.hereE () ⟨rfl, rfl, rfl, trivial⟩ (fun _ w => (.z : Keep _ _).sat w)
       ·rintro e6
        refine St.cond _ rfl (fun hb9 => ?_) (fun hb9 => ?_)
        ·replace h1 := bif_t hb9 h1
         refine St.seq ?_
         refine St.region ?_
         refine St.p rfl rfl ?_
         refine St.done ?_
         refine St.thenN ?_
         refine St.prune (Γ' := [(2, _)]) ⟨rfl, trivial⟩ .z ?_
         refine St.ret ?_
         repeat (first | refine St.thenR ?_ | refine St.blkR ?_)
         injection h1 with h1
         subst h1
         have ho := hd1 _ rfl
         subst ho
         have h : some _ = some _ := h
         injection h with h
         subst h
         exact St.finR Try.results43 (.tmp rfl .nil) rfl [] ⟨rfl, rfl⟩ (fun _ w => (.z : Keep _ _).sat w)
        ·replace h1 := bif_f hb9 h1
         refine St.skip ?_
         refine St.blkN ?_
         refine St.thenN ?_
         refine St.prune (Γ' := [(0, _), (3, _)]) ⟨rfl, rfl, trivial⟩ .z ?_
         refine St.region ?_
         iterate 3 refine St.p rfl rfl ?_
         refine St.done ?_
         injection h1 with h1
         subst h1
         refine St.thenN ?_
         exact St.again _ () hm1 trivial ⟨rfl, rfl, trivial⟩ (fun _ w => (.z : Keep _ _).sat w)
    ·replace h1 := bif_f hb3 h1
     refine St.exit ?_
     repeat (first | refine St.thenX ?_ | refine St.blkMiss rfl ?_)
     refine St.blkHit ?_
     injection h1 with h1
     subst h1
     have ho := hd1 _ rfl
     subst ho
     refine St.thenN ?_
     exact St.hereI () () rfl trivial (fun _ w => (.z : Keep _ _).sat w)
   ·rintro o3 e3 ho
    subst ho
    have h : _ = some _ := h
    refine St.seq ?_
    refine St.region ?_
    refine St.p rfl rfl ?_
    refine St.done ?_
    refine St.thenN ?_
    refine St.ret ?_
    repeat (first | refine St.thenR ?_ | refine St.blkR ?_)
    injection h with h
    subst h
    exact St.finR Try.results43 (.tmp rfl .nil) rfl [] ⟨rfl, rfl⟩ (fun _ w => (.z : Keep _ _).sat w)

theorem ent67 : Ent Try.prog 67 := ⟨_, Try.func67, by kernel_rfl, by kernel_rfl⟩

noncomputable def m_version_numbers (v_p0 : T_Version) : Option (Arr3 Int) :=
 some (⟨v_p0.Major, v_p0.Minor, v_p0.Patch⟩ : (Arr3 Int))

theorem c_version_numbers {v_p0 : T_Version} {r : (Arr3 Int)} (h : m_version_numbers v_p0 = some r) :
  Fun Try.prog 67 [.agg #[.int .i64 v_p0.Major, .int .i64 v_p0.Minor, .int .i64 v_p0.Patch]] [] (Val (.agg #[.int .i64 r.e0, .int .i64 r.e1, .int .i64 r.e2])) := by
 unfold m_version_numbers at h
 refine Fun.intro Try.func67 rfl rfl rfl fun w R => ?_
 refine St.seq ?_
 refine St.region ?_
 refine St.box rfl rfl fun g1 => ?_
 refine St.alloc rfl rfl fun g2 => ?_
 refine St.done ?_
 refine St.thenN ?_
 refine St.prune (Γ' := [(1, _), (2, _)]) ⟨rfl, rfl, trivial⟩ (.k (.k .z)) ?_
 refine St.seq ?_
 refine St.region ?_
 refine St.p rfl rfl ?_
 refine St.loadB 0 rfl rfl (.tail _ (.head _)) rfl rfl ?_
 refine St.p rfl rfl ?_
 refine St.loadB 1 rfl rfl (.tail _ (.head _)) rfl rfl ?_
 refine St.p rfl rfl ?_
 refine St.loadB 2 rfl rfl (.tail _ (.head _)) rfl rfl ?_
 refine St.p rfl rfl ?_
 refine St.store 0 rfl rfl rfl rfl rfl rfl .z rfl ?_
 refine St.done ?_
 refine St.thenN ?_
 refine St.prune (Γ' := [(2, _)]) ⟨rfl, trivial⟩ (.k (.d .z)) ?_
 refine St.ret ?_
 repeat (first | refine St.thenR ?_ | refine St.blkR ?_)
 injection h with h
 subst h
 exact St.finR Try.results67 (.cell rfl (.head _) rfl .nil) rfl [] ⟨rfl, rfl⟩ (fun _ w => ((.d .z) : Keep _ _).sat w)

theorem ent44 : Ent Try.prog 44 := ⟨_, Try.func44, by kernel_rfl, by kernel_rfl⟩

noncomputable def m_version_Valid (v_p0 : T_Version) : Option Bool :=
 bnd (m_version_numbers v_p0) fun r1 => bnd ((bif decide (r1.e0 < 0) then (some true) else (some (decide (r1.e0 > 999))) : Option Bool)) fun o1 => bif o1 then (some false) else (bnd ((bif decide (r1.e1 < 0) then (some true) else (some (decide (r1.e1 > 999))) : Option Bool)) fun o2 => bif o2 then (some false) else (bnd ((bif decide (r1.e2 < 0) then (some true) else (some (decide (r1.e2 > 999))) : Option Bool)) fun o3 => bif o3 then (some false) else (some true)))

set_option maxHeartbeats 4000000 in
theorem c_version_Valid {v_p0 : T_Version} {r : Bool} (h : m_version_Valid v_p0 = some r) :
  Fun Try.prog 44 [.agg #[.int .i64 v_p0.Major, .int .i64 v_p0.Minor, .int .i64 v_p0.Patch]] [] (Val (.bool r)) := by
 unfold m_version_Valid at h
 refine Fun.intro Try.func44 rfl rfl rfl fun w R => ?_
 refine St.seq ?_
 refine St.region ?_
 refine St.box rfl rfl fun g1 => ?_
 refine St.p rfl rfl ?_
 refine St.done ?_
 refine St.thenN ?_
 refine St.prune (Γ' := [(1, _)]) ⟨rfl, trivial⟩ (.k .z) ?_
 refine St.seq ?_
 refine St.seq ?_
 refine St.region ?_
 refine St.loadB 0 rfl rfl (.head _) rfl rfl ?_
 obtain ⟨r1, hr1, h⟩ := bnd_e h
 refine St.callV (c_version_numbers hr1) ent67 rfl rfl rfl rfl trivial ?_
 refine St.p rfl rfl ?_
 refine St.done ?_
 refine St.thenN ?_
 refine St.prune (Γ' := [(6, _), (7, _)]) ⟨rfl, rfl, trivial⟩ (.d .z) ?_
 refine St.block ?_
 refine St.rounds 9 ?_
 refine St.round ?_
 refine St.seq ?_
 refine St.region ?_
 refine St.p rfl rfl ?_
 refine St.done ?_
 refine St.thenN ?_
 refine St.seq ?_
 refine St.condT rfl ?_
 refine St.skip ?_
 refine St.thenN ?_
 refine St.prune (Γ' := [(6, _), (7, _)]) ⟨rfl, rfl, trivial⟩ .z ?_
 refine St.seq ?_
 refine St.block ?_
 refine St.seq ?_
 refine St.region ?_
 refine St.p rfl rfl ?_
 refine St.p rfl rfl ?_
 refine St.done ?_
 refine St.thenN ?_
 refine St.prune (Γ' := [(4, _), (6, _), (7, _)]) ⟨rfl, rfl, rfl, trivial⟩ .z ?_
 refine St.seq ?_
 obtain ⟨o1, hj1, h⟩ := bnd_e h
 refine St.cutE (fun (e1 : Unit) => [(6, .agg #[.int .i64 r1.e0, .int .i64 r1.e1, .int .i64 r1.e2]), (7, .int .i64 0), (15, .bool o1)]) (fun e1 => R) ?_ ?_
 ·refine St.region ?_
  iterate 3 refine St.p rfl rfl ?_
  refine St.gSplit (dj := 12) _ rfl (fun hb1 => ?_) (fun hb1 => ?_)
  ·replace hj1 := bif_t hb1 hj1
   refine St.gOff (dj := 12) rfl rfl rfl rfl ?_
   refine St.gOff (dj := 12) rfl rfl rfl rfl ?_
   refine St.p rfl rfl ?_
   refine St.done ?_
   injection hj1 with hj1
   subst hj1
   refine St.thenN ?_
   exact St.hereE () ⟨rfl, rfl, rfl, trivial⟩ (fun _ w => (.z : Keep _ _).sat w)
  ·replace hj1 := bif_f hb1 hj1
   refine St.gOn (dj := 12) rfl rfl ?_
   refine St.p rfl rfl ?_
   refine St.gOn (dj := 12) rfl rfl ?_
   refine St.p rfl rfl ?_
   refine St.p rfl rfl ?_
   refine St.done ?_
   injection hj1 with hj1
   subst hj1
   refine St.thenN ?_
   exact St.hereE () ⟨rfl, rfl, rfl, trivial⟩ (fun _ w => (.z : Keep _ _).sat w)
 ·rintro e1
  refine St.cond _ rfl (fun hb2 => ?_) (fun hb2 => ?_)
  ·replace h := bif_t hb2 h
   refine St.seq ?_
   refine St.region ?_
   refine St.p rfl rfl ?_
   refine St.done ?_
   refine St.thenN ?_
   refine St.prune (Γ' := [(2, _)]) ⟨rfl, trivial⟩ .z ?_
   refine St.ret ?_
   repeat (first | refine St.thenR ?_ | refine St.blkR ?_)
   injection h with h
   subst h
   exact St.finR Try.results44 (.tmp rfl .nil) rfl [] ⟨rfl, rfl⟩ (fun _ w => (.z : Keep _ _).sat w)
  ·replace h := bif_f hb2 h
   refine St.skip ?_
   refine St.blkN ?_
   refine St.thenN ?_
   refine St.prune (Γ' := [(6, _), (7, _)]) ⟨rfl, rfl, trivial⟩ .z ?_
   refine St.region ?_
   refine St.p rfl rfl ?_
   refine St.p rfl rfl ?_
   refine St.done ?_
   refine St.thenN ?_
   refine St.round ?_
   refine St.prune (Γ' := [(6, _), (7, _)]) ⟨rfl, rfl, trivial⟩ .z ?_
   refine St.seq ?_
   refine St.region ?_
   refine St.p rfl rfl ?_
   refine St.done ?_
   refine St.thenN ?_
   refine St.seq ?_
   refine St.condT rfl ?_
   refine St.skip ?_
   refine St.thenN ?_
   refine St.prune (Γ' := [(6, _), (7, _)]) ⟨rfl, rfl, trivial⟩ .z ?_
   refine St.seq ?_
   refine St.block ?_
   refine St.seq ?_
   refine St.region ?_
   refine St.p rfl rfl ?_
   refine St.p rfl rfl ?_
   refine St.done ?_
   refine St.thenN ?_
   refine St.prune (Γ' := [(4, _), (6, _), (7, _)]) ⟨rfl, rfl, rfl, trivial⟩ .z ?_
   refine St.seq ?_
   obtain ⟨o2, hj2, h⟩ := bnd_e h
   refine St.cutE (fun (e2 : Unit) => [(6, .agg #[.int .i64 r1.e0, .int .i64 r1.e1, .int .i64 r1.e2]), (7, .int .i64 1), (15, .bool o2)]) (fun e2 => R) ?_ ?_
   ·refine St.region ?_
    iterate 3 refine St.p rfl rfl ?_
    refine St.gSplit (dj := 12) _ rfl (fun hb3 => ?_) (fun hb3 => ?_)
    ·replace hj2 := bif_t hb3 hj2
     refine St.gOff (dj := 12) rfl rfl rfl rfl ?_
     refine St.gOff (dj := 12) rfl rfl rfl rfl ?_
     refine St.p rfl rfl ?_
     refine St.done ?_
     injection hj2 with hj2
     subst hj2
     refine St.thenN ?_
     exact St.hereE () ⟨rfl, rfl, rfl, trivial⟩ (fun _ w => (.z : Keep _ _).sat w)
    ·replace hj2 := bif_f hb3 hj2
     refine St.gOn (dj := 12) rfl rfl ?_
     refine St.p rfl rfl ?_
     refine St.gOn (dj := 12) rfl rfl ?_
     refine St.p rfl rfl ?_
     refine St.p rfl rfl ?_
     refine St.done ?_
     injection hj2 with hj2
     subst hj2
     refine St.thenN ?_
     exact St.hereE () ⟨rfl, rfl, rfl, trivial⟩ (fun _ w => (.z : Keep _ _).sat w)
   ·rintro e2
    refine St.cond _ rfl (fun hb4 => ?_) (fun hb4 => ?_)
    ·replace h := bif_t hb4 h
     refine St.seq ?_
     refine St.region ?_
     refine St.p rfl rfl ?_
     refine St.done ?_
     refine St.thenN ?_
     refine St.prune (Γ' := [(2, _)]) ⟨rfl, trivial⟩ .z ?_
     refine St.ret ?_
     repeat (first | refine St.thenR ?_ | refine St.blkR ?_)
     injection h with h
     subst h
     exact St.finR Try.results44 (.tmp rfl .nil) rfl [] ⟨rfl, rfl⟩ (fun _ w => (.z : Keep _ _).sat w)
    ·replace h := bif_f hb4 h
     refine St.skip ?_
     refine St.blkN ?_
     refine St.thenN ?_
     refine St.prune (Γ' := [(6, _), (7, _)]) ⟨rfl, rfl, trivial⟩ .z ?_
     refine St.region ?_
     refine St.p rfl rfl ?_
     refine St.p rfl rfl ?_
     refine St.done ?_
     refine St.thenN ?_
     refine St.round ?_
     refine St.prune (Γ' := [(6, _), (7, _)]) ⟨rfl, rfl, trivial⟩ .z ?_
     refine St.seq ?_
     refine St.region ?_
     refine St.p rfl rfl ?_
     refine St.done ?_
     refine St.thenN ?_
     refine St.seq ?_
     refine St.condT rfl ?_
     refine St.skip ?_
     refine St.thenN ?_
     refine St.prune (Γ' := [(6, _), (7, _)]) ⟨rfl, rfl, trivial⟩ .z ?_
     refine St.seq ?_
     refine St.block ?_
     refine St.seq ?_
     refine St.region ?_
     refine St.p rfl rfl ?_
     refine St.p rfl rfl ?_
     refine St.done ?_
     refine St.thenN ?_
     refine St.prune (Γ' := [(4, _), (6, _), (7, _)]) ⟨rfl, rfl, rfl, trivial⟩ .z ?_
     refine St.seq ?_
     obtain ⟨o3, hj3, h⟩ := bnd_e h
     refine St.cutE (fun (e3 : Unit) => [(6, .agg #[.int .i64 r1.e0, .int .i64 r1.e1, .int .i64 r1.e2]), (7, .int .i64 2), (15, .bool o3)]) (fun e3 => R) ?_ ?_
     ·refine St.region ?_
      iterate 3 refine St.p rfl rfl ?_
      refine St.gSplit (dj := 12) _ rfl (fun hb5 => ?_) (fun hb5 => ?_)
      ·replace hj3 := bif_t hb5 hj3
       refine St.gOff (dj := 12) rfl rfl rfl rfl ?_
       refine St.gOff (dj := 12) rfl rfl rfl rfl ?_
       refine St.p rfl rfl ?_
       refine St.done ?_
       injection hj3 with hj3
       subst hj3
       refine St.thenN ?_
       exact St.hereE () ⟨rfl, rfl, rfl, trivial⟩ (fun _ w => (.z : Keep _ _).sat w)
      ·replace hj3 := bif_f hb5 hj3
       refine St.gOn (dj := 12) rfl rfl ?_
       refine St.p rfl rfl ?_
       refine St.gOn (dj := 12) rfl rfl ?_
       refine St.p rfl rfl ?_
       refine St.p rfl rfl ?_
       refine St.done ?_
       injection hj3 with hj3
       subst hj3
       refine St.thenN ?_
       exact St.hereE () ⟨rfl, rfl, rfl, trivial⟩ (fun _ w => (.z : Keep _ _).sat w)
     ·rintro e3
      refine St.cond _ rfl (fun hb6 => ?_) (fun hb6 => ?_)
      ·replace h := bif_t hb6 h
       refine St.seq ?_
       refine St.region ?_
       refine St.p rfl rfl ?_
       refine St.done ?_
       refine St.thenN ?_
       refine St.prune (Γ' := [(2, _)]) ⟨rfl, trivial⟩ .z ?_
       refine St.ret ?_
       repeat (first | refine St.thenR ?_ | refine St.blkR ?_)
       injection h with h
       subst h
       exact St.finR Try.results44 (.tmp rfl .nil) rfl [] ⟨rfl, rfl⟩ (fun _ w => (.z : Keep _ _).sat w)
      ·replace h := bif_f hb6 h
       refine St.skip ?_
       refine St.blkN ?_
       refine St.thenN ?_
       refine St.prune (Γ' := [(6, _), (7, _)]) ⟨rfl, rfl, trivial⟩ .z ?_
       refine St.region ?_
       refine St.p rfl rfl ?_
       refine St.p rfl rfl ?_
       refine St.done ?_
       refine St.thenN ?_
       refine St.round ?_
       refine St.prune (Γ' := [(6, _), (7, _)]) ⟨rfl, rfl, trivial⟩ .z ?_
       refine St.seq ?_
       refine St.region ?_
       refine St.p rfl rfl ?_
       refine St.done ?_
       refine St.thenN ?_
       refine St.seq ?_
       refine St.condF rfl ?_
       refine St.exit ?_
       repeat (first | refine St.thenX ?_ | refine St.blkMiss rfl ?_)
       refine St.blkHit ?_
       refine St.thenN ?_
       refine St.prune (Γ' := []) trivial .z ?_
       refine St.seq ?_
       refine St.region ?_
       refine St.p rfl rfl ?_
       refine St.done ?_
       refine St.thenN ?_
       refine St.ret ?_
       repeat (first | refine St.thenR ?_ | refine St.blkR ?_)
       injection h with h
       subst h
       exact St.finR Try.results44 (.tmp rfl .nil) rfl [] ⟨rfl, rfl⟩ (fun _ w => (.z : Keep _ _).sat w)

theorem ent17 : Ent Try.prog 17 := ⟨_, Try.func17, by kernel_rfl, by kernel_rfl⟩

noncomputable def m_bundle_Right (i_p0 : T_Image) : Option Bool :=
 bnd ((bnd (m_version_Name i_p0.Name) fun r1 => bif r1 then (bnd (m_version_Valid i_p0.Version) fun r2 => bif r2 then (bif decide ((i_p0.Data.length : Int) ≥ 1) then (some (decide ((i_p0.Data.length : Int) ≤ 512))) else (some false)) else (some false)) else (some false) : Option Bool)) fun o1 => some o1

theorem c_bundle_Right {i_p0 : T_Image} {A1 : Option Addr} {c1 : Nat} {r : Bool} (h : m_bundle_Right i_p0 = some r) :
  Fun Try.prog 17 [.agg (bx_T_Image i_p0 A1 c1).toArray] [.ro (SlL eu8 A1 c1 i_p0.Data)] (Val (.bool r)) := by
 unfold m_bundle_Right at h
 refine Fun.intro Try.func17 rfl rfl rfl fun w R => ?_
 refine St.seq ?_
 refine St.region ?_
 refine St.box rfl rfl fun g1 => ?_
 refine St.p rfl rfl ?_
 refine St.done ?_
 refine St.thenN ?_
 refine St.prune (Γ' := [(1, _)]) ⟨rfl, trivial⟩ (.k (.k .z)) ?_
 refine St.seq ?_
 obtain ⟨o1, hj1, h⟩ := bnd_e h
 refine St.cutE (fun (e1 : Unit) => [(2, .bool o1)]) (fun e1 => R) ?_ ?_
 ·refine St.region ?_
  refine St.p rfl rfl ?_
  refine St.loadB 0 rfl rfl (.head _) rfl rfl ?_
  obtain ⟨r1, hr1, hj1⟩ := bnd_e hj1
  refine St.callV (c_version_Name hr1) ent43 rfl rfl rfl rfl trivial ?_
  refine St.p rfl rfl ?_
  refine St.gSplit (dj := 6) _ rfl (fun hb1 => ?_) (fun hb1 => ?_)
  ·replace hj1 := bif_t hb1 hj1
   refine St.gOn (dj := 6) rfl rfl ?_
   refine St.p rfl rfl ?_
   refine St.gOn (dj := 6) rfl rfl ?_
   refine St.loadB 1 rfl rfl (.head _) rfl rfl ?_
   refine St.gOn (dj := 6) rfl rfl ?_
   obtain ⟨r2, hr2, hj1⟩ := bnd_e hj1
   refine St.callV (c_version_Valid hr2) ent44 rfl rfl rfl rfl trivial ?_
   refine St.p rfl rfl ?_
   refine St.p rfl rfl ?_
   refine St.gSplit (dj := 11) _ rfl (fun hb2 => ?_) (fun hb2 => ?_)
   ·replace hj1 := bif_t hb2 hj1
    refine St.gOn (dj := 11) rfl rfl ?_
    refine St.p rfl rfl ?_
    refine St.gOn (dj := 11) rfl rfl ?_
    refine St.loadB 4 rfl rfl (.head _) rfl rfl ?_
    refine St.gOn (dj := 11) rfl rfl ?_
    refine St.p rfl rfl ?_
    refine St.gOn (dj := 11) rfl rfl ?_
    iterate 3 refine St.p rfl rfl ?_
    refine St.gSplit (dj := 17) _ rfl (fun hb3 => ?_) (fun hb3 => ?_)
    ·replace hj1 := bif_t hb3 hj1
     refine St.gOn (dj := 17) rfl rfl ?_
     refine St.p rfl rfl ?_
     refine St.gOn (dj := 17) rfl rfl ?_
     refine St.loadB 4 rfl rfl (.head _) rfl rfl ?_
     refine St.gOn (dj := 17) rfl rfl ?_
     refine St.p rfl rfl ?_
     refine St.gOn (dj := 17) rfl rfl ?_
     iterate 3 refine St.p rfl rfl ?_
     refine St.done ?_
     injection hj1 with hj1
     subst hj1
     refine St.thenN ?_
     exact St.hereE () ⟨rfl, trivial⟩ (fun _ w => ((.d (.d .z)) : Keep _ _).sat w)
    ·replace hj1 := bif_f hb3 hj1
     refine St.gOff (dj := 17) rfl rfl rfl rfl ?_
     refine St.gOff (dj := 17) rfl rfl rfl rfl ?_
     refine St.gOff (dj := 17) rfl rfl rfl rfl ?_
     refine St.gOff (dj := 17) rfl rfl rfl rfl ?_
     refine St.p rfl rfl ?_
     refine St.p rfl rfl ?_
     refine St.done ?_
     injection hj1 with hj1
     subst hj1
     refine St.thenN ?_
     exact St.hereE () ⟨rfl, trivial⟩ (fun _ w => ((.d (.d .z)) : Keep _ _).sat w)
   ·replace hj1 := bif_f hb2 hj1
    refine St.gOff (dj := 11) rfl rfl rfl rfl ?_
    refine St.gOff (dj := 11) rfl rfl rfl rfl ?_
    refine St.gOff (dj := 11) rfl rfl rfl rfl ?_
    refine St.gOff (dj := 11) rfl rfl rfl rfl ?_
    refine St.p rfl rfl ?_
    refine St.p rfl rfl ?_
    refine St.gOff (dj := 17) rfl rfl rfl rfl ?_
    refine St.gOff (dj := 17) rfl rfl rfl rfl ?_
    refine St.gOff (dj := 17) rfl rfl rfl rfl ?_
    refine St.gOff (dj := 17) rfl rfl rfl rfl ?_
    refine St.p rfl rfl ?_
    refine St.p rfl rfl ?_
    refine St.done ?_
    injection hj1 with hj1
    subst hj1
    refine St.thenN ?_
    exact St.hereE () ⟨rfl, trivial⟩ (fun _ w => ((.d (.d .z)) : Keep _ _).sat w)
  ·replace hj1 := bif_f hb1 hj1
   refine St.gOff (dj := 6) rfl rfl rfl rfl ?_
   refine St.gOff (dj := 6) rfl rfl rfl rfl ?_
   refine St.gOff (dj := 6) rfl rfl rfl rfl ?_
   refine St.p rfl rfl ?_
   refine St.p rfl rfl ?_
   refine St.gOff (dj := 11) rfl rfl rfl rfl ?_
   refine St.gOff (dj := 11) rfl rfl rfl rfl ?_
   refine St.gOff (dj := 11) rfl rfl rfl rfl ?_
   refine St.gOff (dj := 11) rfl rfl rfl rfl ?_
   refine St.p rfl rfl ?_
   refine St.p rfl rfl ?_
   refine St.gOff (dj := 17) rfl rfl rfl rfl ?_
   refine St.gOff (dj := 17) rfl rfl rfl rfl ?_
   refine St.gOff (dj := 17) rfl rfl rfl rfl ?_
   refine St.gOff (dj := 17) rfl rfl rfl rfl ?_
   refine St.p rfl rfl ?_
   refine St.p rfl rfl ?_
   refine St.done ?_
   injection hj1 with hj1
   subst hj1
   refine St.thenN ?_
   exact St.hereE () ⟨rfl, trivial⟩ (fun _ w => ((.d (.d .z)) : Keep _ _).sat w)
 ·rintro e1
  refine St.ret ?_
  repeat (first | refine St.thenR ?_ | refine St.blkR ?_)
  injection h with h
  subst h
  exact St.finR Try.results17 (.tmp rfl .nil) rfl [] ⟨rfl, rfl⟩ (fun _ w => (.z : Keep _ _).sat w)

theorem ent64 : Ent Try.prog 64 := ⟨_, Try.func64, by kernel_rfl, by kernel_rfl⟩

noncomputable def m_version_components (l_p0 : (List T_Installed)) : Option Bool :=
 bif decide ((l_p0.length : Int) > 8) then (some false) else (bnd (loopM (τ := Bool ⊕ Unit) (fun (s1 : Int) => bif decide (s1 < (l_p0.length : Int)) then (bnd (elt l_p0 s1) fun x1 => bnd ((bnd (m_version_Name x1.Name) fun r1 => bif !r1 then (some true) else (bnd (m_version_Valid x1.Version) fun r2 => bif !r2 then (some true) else (bif decide (s1 > 0) then (bnd (elt l_p0 (IntKind.wrap .i64 (s1 - 1))) fun x2 => some (Op.bytesLess x1.Name.toList x2.Name.toList || (x1.Name.toList == x2.Name.toList))) else (some false))) : Option Bool)) fun o3 => bif o3 then (some (.done (.inl false))) else (some (.next (IntKind.wrap .i64 (s1 + 1))))) else (some (.done (.inr ())))) 0) fun o1 => retOr o1 fun o2 => some true)

theorem c_version_components {l_p0 : (List T_Installed)} {A1 : Option Addr} {c1 : Nat} {r : Bool} (h : m_version_components l_p0 = some r) :
  Fun Try.prog 64 [.slice A1 l_p0.length c1] [.ro (SlL e_Installed A1 c1 l_p0)] (Val (.bool r)) := by
 unfold m_version_components at h
 refine Fun.intro Try.func64 rfl rfl rfl fun w R => ?_
 refine St.seq ?_
 refine St.region ?_
 refine St.p rfl rfl ?_
 refine St.done ?_
 refine St.thenN ?_
 refine St.prune (Γ' := [(0, _)]) ⟨rfl, trivial⟩ (.k .z) ?_
 refine St.seq ?_
 refine St.seq ?_
 refine St.region ?_
 iterate 3 refine St.p rfl rfl ?_
 refine St.done ?_
 refine St.thenN ?_
 refine St.prune (Γ' := [(0, _), (7, _)]) ⟨rfl, rfl, trivial⟩ (.k .z) ?_
 refine St.cond _ rfl (fun hb1 => ?_) (fun hb1 => ?_)
 ·replace h := bif_t hb1 h
  refine St.seq ?_
  refine St.region ?_
  refine St.p rfl rfl ?_
  refine St.done ?_
  refine St.thenN ?_
  refine St.prune (Γ' := [(2, _)]) ⟨rfl, trivial⟩ (.d .z) ?_
  refine St.ret ?_
  repeat (first | refine St.thenR ?_ | refine St.blkR ?_)
  injection h with h
  subst h
  exact St.finR Try.results64 (.tmp rfl .nil) rfl [] ⟨rfl, rfl⟩ (fun _ w => (.z : Keep _ _).sat w)
 ·replace h := bif_f hb1 h
  refine St.skip ?_
  refine St.thenN ?_
  refine St.prune (Γ' := [(0, _)]) ⟨rfl, trivial⟩ (.k .z) ?_
  refine St.seq ?_
  refine St.seq ?_
  refine St.region ?_
  iterate 3 refine St.p rfl rfl ?_
  refine St.done ?_
  refine St.thenN ?_
  obtain ⟨o1, hl1, h⟩ := bnd_e h
  refine St.cutI (fun (o2 : Unit) (e2 : Unit) => []) (fun o2 e2 => R) (fun o2 => o1 = .inr o2) ?_ ?_
  ·refine St.block ?_
   refine St.loop hl1 (fun (s1 : Int) (e1 : Unit) => [(0, .slice A1 l_p0.length c1), (8, .slice A1 l_p0.length c1), (9, .int .i64 (l_p0.length : Int)), (10, .int .i64 s1)]) (fun s1 e1 => .ro (SlL e_Installed A1 c1 l_p0) :: R) (fun _ _ => True) () trivial ⟨rfl, rfl, rfl, rfl, trivial⟩ (fun _ w => ((.k .z) : Keep _ _).sat w) ?_
   rintro s1 e1 - hit1
   obtain ⟨st1, hm1, hd1⟩ := iter_e hit1
   have h1 := hm1
   refine St.seq ?_
   refine St.region ?_
   refine St.p rfl rfl ?_
   refine St.done ?_
   refine St.thenN ?_
   refine St.seq ?_
   refine St.cond _ rfl (fun hb2 => ?_) (fun hb2 => ?_)
   ·replace h1 := bif_t hb2 h1
    refine St.skip ?_
    refine St.thenN ?_
    refine St.prune (Γ' := [(0, _), (8, _), (9, _), (10, _)]) ⟨rfl, rfl, rfl, rfl, trivial⟩ (.k .z) ?_
    refine St.seq ?_
    refine St.block ?_
    refine St.seq ?_
    refine St.region ?_
    refine St.p rfl rfl ?_
    obtain ⟨x1, hx1, h1⟩ := bnd_e h1
    refine St.ixL hx1 rfl rfl rfl (.head _) rfl rfl rfl rfl rfl fun b1 ob1 => ?_
    refine St.load ob1 0 rfl rfl (.head _) rfl rfl ?_
    refine St.alloc rfl rfl fun g1 => ?_
    refine St.p rfl rfl ?_
    refine St.store 0 rfl rfl rfl rfl rfl rfl .z rfl ?_
    refine St.done ?_
    refine St.thenN ?_
    refine St.prune (Γ' := [(0, _), (3, _), (4, _), (8, _), (9, _), (10, _)]) ⟨rfl, rfl, rfl, rfl, rfl, rfl, trivial⟩ (.k (.d (.k .z))) ?_
    refine St.seq ?_
    obtain ⟨o3, hj1, h1⟩ := bnd_e h1
    refine St.cutE (fun (e3 : Unit) => [(0, .slice A1 l_p0.length c1), (8, .slice A1 l_p0.length c1), (9, .int .i64 (l_p0.length : Int)), (10, .int .i64 s1), (39, .bool o3)]) (fun e3 => .ro (SlL e_Installed A1 c1 l_p0) :: R) ?_ ?_
    ·refine St.regionF mixed (by kernel_rfl) ?_
     refine St.p rfl rfl ?_
     refine St.loadB 0 rfl rfl (.head _) rfl rfl ?_
     obtain ⟨r1, hr1, hj1⟩ := bnd_e hj1
     refine St.callV (c_version_Name hr1) ent43 rfl rfl rfl rfl trivial ?_
     refine St.p rfl rfl ?_
     refine St.p rfl rfl ?_
     refine St.gSplit (dj := 19) _ rfl (fun hb3 => ?_) (fun hb3 => ?_)
     ·replace hj1 := bif_t hb3 hj1
      refine St.gOff (dj := 19) rfl rfl rfl rfl ?_
      refine St.gOff (dj := 19) rfl rfl rfl rfl ?_
      refine St.gOff (dj := 19) rfl rfl rfl rfl ?_
      refine St.gOff (dj := 19) rfl rfl rfl rfl ?_
      refine St.p rfl rfl ?_
      refine St.p rfl rfl ?_
      refine St.gOff (dj := 25) rfl rfl rfl rfl ?_
      refine St.gOff (dj := 25) rfl rfl rfl rfl ?_
      refine St.gOff (dj := 25) rfl rfl rfl rfl ?_
      refine St.gOff (dj := 28) rfl rfl rfl rfl ?_
      refine St.gOff (dj := 28) rfl rfl rfl rfl ?_
      refine St.gOff (dj := 28) rfl rfl rfl rfl ?_
      refine St.gOff (dj := 28) rfl rfl rfl rfl ?_
      refine St.gOff (dj := 28) rfl rfl rfl rfl ?_
      refine St.gOff (dj := 28) rfl rfl rfl rfl ?_
      refine St.gOff (dj := 28) rfl rfl rfl rfl ?_
      refine St.gOff (dj := 28) rfl rfl rfl rfl ?_
      refine St.gOff (dj := 28) rfl rfl rfl rfl ?_
      refine St.gOff (dj := 25) rfl rfl rfl rfl ?_
      refine St.p rfl rfl ?_
      refine St.doneQ ?_
      injection hj1 with hj1
      subst hj1
      refine St.thenN ?_
      exact St.hereE () ⟨rfl, rfl, rfl, rfl, rfl, trivial⟩ (fun _ w => ((.d (.k .z)) : Keep _ _).sat w)
     ·replace hj1 := bif_f hb3 hj1
      refine St.gOn (dj := 19) rfl rfl ?_
      refine St.p rfl rfl ?_
      refine St.gOn (dj := 19) rfl rfl ?_
      refine St.loadB 1 rfl rfl (.head _) rfl rfl ?_
      refine St.gOn (dj := 19) rfl rfl ?_
      obtain ⟨r2, hr2, hj1⟩ := bnd_e hj1
      refine St.callV (c_version_Valid hr2) ent44 rfl rfl rfl rfl trivial ?_
      refine St.gOn (dj := 19) rfl rfl ?_
      iterate 3 refine St.p rfl rfl ?_
      refine St.gSplit (dj := 25) _ rfl (fun hb4 => ?_) (fun hb4 => ?_)
      ·replace hj1 := bif_t hb4 hj1
       refine St.gOff (dj := 25) rfl rfl rfl rfl ?_
       refine St.gOff (dj := 25) rfl rfl rfl rfl ?_
       refine St.gOff (dj := 25) rfl rfl rfl rfl ?_
       refine St.gOff (dj := 28) rfl rfl rfl rfl ?_
       refine St.gOff (dj := 28) rfl rfl rfl rfl ?_
       refine St.gOff (dj := 28) rfl rfl rfl rfl ?_
       refine St.gOff (dj := 28) rfl rfl rfl rfl ?_
       refine St.gOff (dj := 28) rfl rfl rfl rfl ?_
       refine St.gOff (dj := 28) rfl rfl rfl rfl ?_
       refine St.gOff (dj := 28) rfl rfl rfl rfl ?_
       refine St.gOff (dj := 28) rfl rfl rfl rfl ?_
       refine St.gOff (dj := 28) rfl rfl rfl rfl ?_
       refine St.gOff (dj := 25) rfl rfl rfl rfl ?_
       refine St.p rfl rfl ?_
       refine St.doneQ ?_
       injection hj1 with hj1
       subst hj1
       refine St.thenN ?_
       exact St.hereE () ⟨rfl, rfl, rfl, rfl, rfl, trivial⟩ (fun _ w => ((.d (.k .z)) : Keep _ _).sat w)
      ·replace hj1 := bif_f hb4 hj1
       refine St.gOn (dj := 25) rfl rfl ?_
       refine St.p rfl rfl ?_
       refine St.gOn (dj := 25) rfl rfl ?_
       refine St.p rfl rfl ?_
       refine St.gOn (dj := 25) rfl rfl ?_
       refine St.p rfl rfl ?_
       refine St.gSplit (dj := 28) _ rfl (fun hb5 => ?_) (fun hb5 => ?_)
       ·replace hj1 := bif_t hb5 hj1
        refine St.gOn (dj := 28) rfl rfl ?_
        refine St.p rfl rfl ?_
        refine St.gOn (dj := 28) rfl rfl ?_
        refine St.loadB 0 rfl rfl (.head _) rfl rfl ?_
        refine St.gOn (dj := 28) rfl rfl ?_
        refine St.p rfl rfl ?_
        refine St.gOn (dj := 28) rfl rfl ?_
        refine St.p rfl rfl ?_
        refine St.gOn (dj := 28) rfl rfl ?_
        refine St.p rfl rfl ?_
        refine St.gOn (dj := 28) rfl rfl ?_
        obtain ⟨x2, hx2, hj1⟩ := bnd_e hj1
        refine St.ixL hx2 rfl rfl rfl (.tail _ (.head _)) rfl rfl rfl rfl rfl fun b2 ob2 => ?_
        refine St.gOn (dj := 28) rfl rfl ?_
        refine St.p rfl rfl ?_
        refine St.gOn (dj := 28) rfl rfl ?_
        refine St.load ob2 0 rfl rfl (.head _) rfl rfl ?_
        refine St.gOn (dj := 28) rfl rfl ?_
        refine St.p rfl rfl ?_
        refine St.gOn (dj := 25) rfl rfl ?_
        refine St.p rfl rfl ?_
        refine St.p rfl rfl ?_
        refine St.doneQ ?_
        injection hj1 with hj1
        subst hj1
        refine St.thenN ?_
        exact St.hereE () ⟨rfl, rfl, rfl, rfl, rfl, trivial⟩ (fun _ w => ((.d (.d (.k .z))) : Keep _ _).sat w)
       ·replace hj1 := bif_f hb5 hj1
        refine St.gOff (dj := 28) rfl rfl rfl rfl ?_
        refine St.gOff (dj := 28) rfl rfl rfl rfl ?_
        refine St.gOff (dj := 28) rfl rfl rfl rfl ?_
        refine St.gOff (dj := 28) rfl rfl rfl rfl ?_
        refine St.gOff (dj := 28) rfl rfl rfl rfl ?_
        refine St.gOff (dj := 28) rfl rfl rfl rfl ?_
        refine St.gOff (dj := 28) rfl rfl rfl rfl ?_
        refine St.gOff (dj := 28) rfl rfl rfl rfl ?_
        refine St.gOff (dj := 28) rfl rfl rfl rfl ?_
        refine St.gOn (dj := 25) rfl rfl ?_
        refine St.p rfl rfl ?_
        refine St.p rfl rfl ?_
        refine St.doneQ ?_
        injection hj1 with hj1
        subst hj1
        refine St.thenN ?_
        exact St.hereE () ⟨rfl, rfl, rfl, rfl, rfl, trivial⟩ (fun _ w => ((.d (.k .z)) : Keep _ _).sat w)
    ·rintro e3
     refine St.cond _ rfl (fun hb6 => ?_) (fun hb6 => ?_)
     ·replace h1 := bif_t hb6 h1
      refine St.seq ?_
      refine St.region ?_
      refine St.p rfl rfl ?_
      refine St.done ?_
      refine St.thenN ?_
      refine St.prune (Γ' := [(2, _)]) ⟨rfl, trivial⟩ (.d .z) ?_
      refine St.ret ?_
      repeat (first | refine St.thenR ?_ | refine St.blkR ?_)
      injection h1 with h1
      subst h1
      have ho := hd1 _ rfl
      subst ho
      have h : some _ = some _ := h
      injection h with h
      subst h
      exact St.finR Try.results64 (.tmp rfl .nil) rfl [] ⟨rfl, rfl⟩ (fun _ w => (.z : Keep _ _).sat w)
     ·replace h1 := bif_f hb6 h1
      refine St.skip ?_
      refine St.blkN ?_
      refine St.thenN ?_
      refine St.prune (Γ' := [(0, _), (8, _), (9, _), (10, _)]) ⟨rfl, rfl, rfl, rfl, trivial⟩ (.k .z) ?_
      refine St.region ?_
      refine St.p rfl rfl ?_
      refine St.p rfl rfl ?_
      refine St.done ?_
      injection h1 with h1
      subst h1
      refine St.thenN ?_
      exact St.again _ () hm1 trivial ⟨rfl, rfl, rfl, rfl, trivial⟩ (fun _ w => ((.k .z) : Keep _ _).sat w)
   ·replace h1 := bif_f hb2 h1
    refine St.exit ?_
    repeat (first | refine St.thenX ?_ | refine St.blkMiss rfl ?_)
    refine St.blkHit ?_
    injection h1 with h1
    subst h1
    have ho := hd1 _ rfl
    subst ho
    refine St.thenN ?_
    exact St.hereI () () rfl trivial (fun _ w => ((.d .z) : Keep _ _).sat w)
  ·rintro o2 e2 ho
   subst ho
   have h : _ = some _ := h
   refine St.seq ?_
   refine St.region ?_
   refine St.p rfl rfl ?_
   refine St.done ?_
   refine St.thenN ?_
   refine St.ret ?_
   repeat (first | refine St.thenR ?_ | refine St.blkR ?_)
   injection h with h
   subst h
   exact St.finR Try.results64 (.tmp rfl .nil) rfl [] ⟨rfl, rfl⟩ (fun _ w => (.z : Keep _ _).sat w)

theorem ent65 : Ent Try.prog 65 := ⟨_, Try.func65, by kernel_rfl, by kernel_rfl⟩

noncomputable def m_version_right (needs : (List T_Need)) : Option Bool :=
 bif decide ((needs.length : Int) > 16) then (some false) else (bnd (loopM (τ := Bool ⊕ Unit) (fun (s1 : Int) => bif decide (s1 < (needs.length : Int)) then (bnd (elt needs s1) fun x1 => bnd ((bnd (m_version_Name x1.Component) fun r1 => bif !r1 then (some true) else (bnd (m_version_Name x1.On) fun r2 => bif !r2 then (some true) else (bif (x1.Component.toList == x1.On.toList) then (some true) else (bnd (m_version_Valid x1.From) fun r3 => bif !r3 then (some true) else (bnd (m_version_Valid x1.At) fun r4 => some (!r4))))) : Option Bool)) fun o3 => bif o3 then (some (.done (.inl false))) else (some (.next (IntKind.wrap .i64 (s1 + 1))))) else (some (.done (.inr ())))) 0) fun o1 => retOr o1 fun o2 => some true)

set_option maxHeartbeats 4000000 in
theorem c_version_right {needs : (List T_Need)} {A1 : Option Addr} {c1 : Nat} {r : Bool} (h : m_version_right needs = some r) :
  Fun Try.prog 65 [.slice A1 needs.length c1] [.ro (SlL e_Need A1 c1 needs)] (Val (.bool r)) := by
 unfold m_version_right at h
 refine Fun.intro Try.func65 rfl rfl rfl fun w R => ?_
 refine St.seq ?_
 refine St.region ?_
 refine St.p rfl rfl ?_
 refine St.done ?_
 refine St.thenN ?_
 refine St.prune (Γ' := [(0, _)]) ⟨rfl, trivial⟩ (.k .z) ?_
 refine St.seq ?_
 refine St.seq ?_
 refine St.region ?_
 iterate 3 refine St.p rfl rfl ?_
 refine St.done ?_
 refine St.thenN ?_
 refine St.prune (Γ' := [(0, _), (7, _)]) ⟨rfl, rfl, trivial⟩ (.k .z) ?_
 refine St.cond _ rfl (fun hb1 => ?_) (fun hb1 => ?_)
 ·replace h := bif_t hb1 h
  refine St.seq ?_
  refine St.region ?_
  refine St.p rfl rfl ?_
  refine St.done ?_
  refine St.thenN ?_
  refine St.prune (Γ' := [(2, _)]) ⟨rfl, trivial⟩ (.d .z) ?_
  refine St.ret ?_
  repeat (first | refine St.thenR ?_ | refine St.blkR ?_)
  injection h with h
  subst h
  exact St.finR Try.results65 (.tmp rfl .nil) rfl [] ⟨rfl, rfl⟩ (fun _ w => (.z : Keep _ _).sat w)
 ·replace h := bif_f hb1 h
  refine St.skip ?_
  refine St.thenN ?_
  refine St.prune (Γ' := [(0, _)]) ⟨rfl, trivial⟩ (.k .z) ?_
  refine St.seq ?_
  refine St.seq ?_
  refine St.region ?_
  iterate 3 refine St.p rfl rfl ?_
  refine St.done ?_
  refine St.thenN ?_
  refine St.prune (Γ' := [(8, _), (9, _), (10, _)]) ⟨rfl, rfl, rfl, trivial⟩ (.k .z) ?_
  obtain ⟨o1, hl1, h⟩ := bnd_e h
  refine St.cutI (fun (o2 : Unit) (e2 : Unit) => []) (fun o2 e2 => R) (fun o2 => o1 = .inr o2) ?_ ?_
  ·refine St.block ?_
   refine St.loop hl1 (fun (s1 : Int) (e1 : Unit) => [(8, .slice A1 needs.length c1), (9, .int .i64 (needs.length : Int)), (10, .int .i64 s1)]) (fun s1 e1 => .ro (SlL e_Need A1 c1 needs) :: R) (fun _ _ => True) () trivial ⟨rfl, rfl, rfl, trivial⟩ (fun _ w => ((.k .z) : Keep _ _).sat w) ?_
   rintro s1 e1 - hit1
   obtain ⟨st1, hm1, hd1⟩ := iter_e hit1
   have h1 := hm1
   refine St.seq ?_
   refine St.region ?_
   refine St.p rfl rfl ?_
   refine St.done ?_
   refine St.thenN ?_
   refine St.seq ?_
   refine St.cond _ rfl (fun hb2 => ?_) (fun hb2 => ?_)
   ·replace h1 := bif_t hb2 h1
    refine St.skip ?_
    refine St.thenN ?_
    refine St.prune (Γ' := [(8, _), (9, _), (10, _)]) ⟨rfl, rfl, rfl, trivial⟩ (.k .z) ?_
    refine St.seq ?_
    refine St.block ?_
    refine St.seq ?_
    refine St.region ?_
    obtain ⟨x1, hx1, h1⟩ := bnd_e h1
    refine St.ixL hx1 rfl rfl rfl (.head _) rfl rfl rfl rfl rfl fun b1 ob1 => ?_
    refine St.load ob1 0 rfl rfl (.head _) rfl rfl ?_
    refine St.alloc rfl rfl fun g1 => ?_
    refine St.store 0 rfl rfl rfl rfl rfl rfl .z rfl ?_
    refine St.done ?_
    refine St.thenN ?_
    refine St.prune (Γ' := [(4, _), (8, _), (9, _), (10, _)]) ⟨rfl, rfl, rfl, rfl, trivial⟩ (.k (.d (.k .z))) ?_
    refine St.seq ?_
    obtain ⟨o3, hj1, h1⟩ := bnd_e h1
    refine St.cutE (fun (e3 : Unit) => [(8, .slice A1 needs.length c1), (9, .int .i64 (needs.length : Int)), (10, .int .i64 s1), (42, .bool o3)]) (fun e3 => .ro (SlL e_Need A1 c1 needs) :: R) ?_ ?_
    ·refine St.region ?_
     refine St.p rfl rfl ?_
     refine St.loadB 0 rfl rfl (.head _) rfl rfl ?_
     obtain ⟨r1, hr1, hj1⟩ := bnd_e hj1
     refine St.callV (c_version_Name hr1) ent43 rfl rfl rfl rfl trivial ?_
     refine St.p rfl rfl ?_
     refine St.p rfl rfl ?_
     refine St.gSplit (dj := 18) _ rfl (fun hb3 => ?_) (fun hb3 => ?_)
     ·replace hj1 := bif_t hb3 hj1
      refine St.gOff (dj := 18) rfl rfl rfl rfl ?_
      refine St.gOff (dj := 18) rfl rfl rfl rfl ?_
      refine St.gOff (dj := 18) rfl rfl rfl rfl ?_
      refine St.gOff (dj := 18) rfl rfl rfl rfl ?_
      refine St.p rfl rfl ?_
      refine St.p rfl rfl ?_
      refine St.gOff (dj := 24) rfl rfl rfl rfl ?_
      refine St.gOff (dj := 24) rfl rfl rfl rfl ?_
      refine St.gOff (dj := 24) rfl rfl rfl rfl ?_
      refine St.gOff (dj := 24) rfl rfl rfl rfl ?_
      refine St.gOff (dj := 24) rfl rfl rfl rfl ?_
      refine St.p rfl rfl ?_
      refine St.p rfl rfl ?_
      refine St.gOff (dj := 31) rfl rfl rfl rfl ?_
      refine St.gOff (dj := 31) rfl rfl rfl rfl ?_
      refine St.gOff (dj := 31) rfl rfl rfl rfl ?_
      refine St.gOff (dj := 31) rfl rfl rfl rfl ?_
      refine St.p rfl rfl ?_
      refine St.p rfl rfl ?_
      refine St.gOff (dj := 37) rfl rfl rfl rfl ?_
      refine St.gOff (dj := 37) rfl rfl rfl rfl ?_
      refine St.gOff (dj := 37) rfl rfl rfl rfl ?_
      refine St.gOff (dj := 37) rfl rfl rfl rfl ?_
      refine St.p rfl rfl ?_
      refine St.done ?_
      injection hj1 with hj1
      subst hj1
      refine St.thenN ?_
      exact St.hereE () ⟨rfl, rfl, rfl, rfl, trivial⟩ (fun _ w => ((.d (.k .z)) : Keep _ _).sat w)
     ·replace hj1 := bif_f hb3 hj1
      refine St.gOn (dj := 18) rfl rfl ?_
      refine St.p rfl rfl ?_
      refine St.gOn (dj := 18) rfl rfl ?_
      refine St.loadB 4 rfl rfl (.head _) rfl rfl ?_
      refine St.gOn (dj := 18) rfl rfl ?_
      obtain ⟨r2, hr2, hj1⟩ := bnd_e hj1
      refine St.callV (c_version_Name hr2) ent43 rfl rfl rfl rfl trivial ?_
      refine St.gOn (dj := 18) rfl rfl ?_
      iterate 3 refine St.p rfl rfl ?_
      refine St.gSplit (dj := 24) _ rfl (fun hb4 => ?_) (fun hb4 => ?_)
      ·replace hj1 := bif_t hb4 hj1
       refine St.gOff (dj := 24) rfl rfl rfl rfl ?_
       refine St.gOff (dj := 24) rfl rfl rfl rfl ?_
       refine St.gOff (dj := 24) rfl rfl rfl rfl ?_
       refine St.gOff (dj := 24) rfl rfl rfl rfl ?_
       refine St.gOff (dj := 24) rfl rfl rfl rfl ?_
       refine St.p rfl rfl ?_
       refine St.p rfl rfl ?_
       refine St.gOff (dj := 31) rfl rfl rfl rfl ?_
       refine St.gOff (dj := 31) rfl rfl rfl rfl ?_
       refine St.gOff (dj := 31) rfl rfl rfl rfl ?_
       refine St.gOff (dj := 31) rfl rfl rfl rfl ?_
       refine St.p rfl rfl ?_
       refine St.p rfl rfl ?_
       refine St.gOff (dj := 37) rfl rfl rfl rfl ?_
       refine St.gOff (dj := 37) rfl rfl rfl rfl ?_
       refine St.gOff (dj := 37) rfl rfl rfl rfl ?_
       refine St.gOff (dj := 37) rfl rfl rfl rfl ?_
       refine St.p rfl rfl ?_
       refine St.done ?_
       injection hj1 with hj1
       subst hj1
       refine St.thenN ?_
       exact St.hereE () ⟨rfl, rfl, rfl, rfl, trivial⟩ (fun _ w => ((.d (.k .z)) : Keep _ _).sat w)
      ·replace hj1 := bif_f hb4 hj1
       refine St.gOn (dj := 24) rfl rfl ?_
       refine St.p rfl rfl ?_
       refine St.gOn (dj := 24) rfl rfl ?_
       refine St.loadB 0 rfl rfl (.head _) rfl rfl ?_
       refine St.gOn (dj := 24) rfl rfl ?_
       refine St.p rfl rfl ?_
       refine St.gOn (dj := 24) rfl rfl ?_
       refine St.loadB 4 rfl rfl (.head _) rfl rfl ?_
       refine St.gOn (dj := 24) rfl rfl ?_
       iterate 3 refine St.p rfl rfl ?_
       refine St.gSplit (dj := 31) _ rfl (fun hb5 => ?_) (fun hb5 => ?_)
       ·replace hj1 := bif_t hb5 hj1
        refine St.gOff (dj := 31) rfl rfl rfl rfl ?_
        refine St.gOff (dj := 31) rfl rfl rfl rfl ?_
        refine St.gOff (dj := 31) rfl rfl rfl rfl ?_
        refine St.gOff (dj := 31) rfl rfl rfl rfl ?_
        refine St.p rfl rfl ?_
        refine St.p rfl rfl ?_
        refine St.gOff (dj := 37) rfl rfl rfl rfl ?_
        refine St.gOff (dj := 37) rfl rfl rfl rfl ?_
        refine St.gOff (dj := 37) rfl rfl rfl rfl ?_
        refine St.gOff (dj := 37) rfl rfl rfl rfl ?_
        refine St.p rfl rfl ?_
        refine St.done ?_
        injection hj1 with hj1
        subst hj1
        refine St.thenN ?_
        exact St.hereE () ⟨rfl, rfl, rfl, rfl, trivial⟩ (fun _ w => ((.d (.k .z)) : Keep _ _).sat w)
       ·replace hj1 := bif_f hb5 hj1
        refine St.gOn (dj := 31) rfl rfl ?_
        refine St.p rfl rfl ?_
        refine St.gOn (dj := 31) rfl rfl ?_
        refine St.loadB 1 rfl rfl (.head _) rfl rfl ?_
        refine St.gOn (dj := 31) rfl rfl ?_
        obtain ⟨r3, hr3, hj1⟩ := bnd_e hj1
        refine St.callV (c_version_Valid hr3) ent44 rfl rfl rfl rfl trivial ?_
        refine St.gOn (dj := 31) rfl rfl ?_
        iterate 3 refine St.p rfl rfl ?_
        refine St.gSplit (dj := 37) _ rfl (fun hb6 => ?_) (fun hb6 => ?_)
        ·replace hj1 := bif_t hb6 hj1
         refine St.gOff (dj := 37) rfl rfl rfl rfl ?_
         refine St.gOff (dj := 37) rfl rfl rfl rfl ?_
         refine St.gOff (dj := 37) rfl rfl rfl rfl ?_
         refine St.gOff (dj := 37) rfl rfl rfl rfl ?_
         refine St.p rfl rfl ?_
         refine St.done ?_
         injection hj1 with hj1
         subst hj1
         refine St.thenN ?_
         exact St.hereE () ⟨rfl, rfl, rfl, rfl, trivial⟩ (fun _ w => ((.d (.k .z)) : Keep _ _).sat w)
        ·replace hj1 := bif_f hb6 hj1
         refine St.gOn (dj := 37) rfl rfl ?_
         refine St.p rfl rfl ?_
         refine St.gOn (dj := 37) rfl rfl ?_
         refine St.loadB 5 rfl rfl (.head _) rfl rfl ?_
         refine St.gOn (dj := 37) rfl rfl ?_
         obtain ⟨r4, hr4, hj1⟩ := bnd_e hj1
         refine St.callV (c_version_Valid hr4) ent44 rfl rfl rfl rfl trivial ?_
         refine St.gOn (dj := 37) rfl rfl ?_
         refine St.p rfl rfl ?_
         refine St.p rfl rfl ?_
         refine St.done ?_
         injection hj1 with hj1
         subst hj1
         refine St.thenN ?_
         exact St.hereE () ⟨rfl, rfl, rfl, rfl, trivial⟩ (fun _ w => ((.d (.k .z)) : Keep _ _).sat w)
    ·rintro e3
     refine St.cond _ rfl (fun hb7 => ?_) (fun hb7 => ?_)
     ·replace h1 := bif_t hb7 h1
      refine St.seq ?_
      refine St.region ?_
      refine St.p rfl rfl ?_
      refine St.done ?_
      refine St.thenN ?_
      refine St.prune (Γ' := [(2, _)]) ⟨rfl, trivial⟩ (.d .z) ?_
      refine St.ret ?_
      repeat (first | refine St.thenR ?_ | refine St.blkR ?_)
      injection h1 with h1
      subst h1
      have ho := hd1 _ rfl
      subst ho
      have h : some _ = some _ := h
      injection h with h
      subst h
      exact St.finR Try.results65 (.tmp rfl .nil) rfl [] ⟨rfl, rfl⟩ (fun _ w => (.z : Keep _ _).sat w)
     ·replace h1 := bif_f hb7 h1
      refine St.skip ?_
      refine St.blkN ?_
      refine St.thenN ?_
      refine St.prune (Γ' := [(8, _), (9, _), (10, _)]) ⟨rfl, rfl, rfl, trivial⟩ (.k .z) ?_
      refine St.region ?_
      refine St.p rfl rfl ?_
      refine St.p rfl rfl ?_
      refine St.done ?_
      injection h1 with h1
      subst h1
      refine St.thenN ?_
      exact St.again _ () hm1 trivial ⟨rfl, rfl, rfl, trivial⟩ (fun _ w => ((.k .z) : Keep _ _).sat w)
   ·replace h1 := bif_f hb2 h1
    refine St.exit ?_
    repeat (first | refine St.thenX ?_ | refine St.blkMiss rfl ?_)
    refine St.blkHit ?_
    injection h1 with h1
    subst h1
    have ho := hd1 _ rfl
    subst ho
    refine St.thenN ?_
    exact St.hereI () () rfl trivial (fun _ w => ((.d .z) : Keep _ _).sat w)
  ·rintro o2 e2 ho
   subst ho
   have h : _ = some _ := h
   refine St.seq ?_
   refine St.region ?_
   refine St.p rfl rfl ?_
   refine St.done ?_
   refine St.thenN ?_
   refine St.ret ?_
   repeat (first | refine St.thenR ?_ | refine St.blkR ?_)
   injection h with h
   subst h
   exact St.finR Try.results65 (.tmp rfl .nil) rfl [] ⟨rfl, rfl⟩ (fun _ w => (.z : Keep _ _).sat w)

theorem ent68 : Ent Try.prog 68 := ⟨_, Try.func68, by kernel_rfl, by kernel_rfl⟩

noncomputable def m_version_find (l_p0 : (List T_Installed)) (name : ByteArray) : Option (T_Version × Bool) :=
 bnd (loopM (τ := (T_Version × Bool) ⊕ Unit) (fun (s1 : Int) => bif decide (s1 < (l_p0.length : Int)) then (bnd (elt l_p0 s1) fun x1 => bif (x1.Name.toList == name.toList) then (some (.done (.inl (x1.Version, true)))) else (some (.next (IntKind.wrap .i64 (s1 + 1))))) else (some (.done (.inr ())))) 0) fun o1 => retOr o1 fun o2 => some ((⟨0, 0, 0⟩ : T_Version), false)

theorem c_version_find {l_p0 : (List T_Installed)} {name : ByteArray} {A1 : Option Addr} {c1 : Nat} {r : (T_Version × Bool)} (h : m_version_find l_p0 name = some r) :
  Fun Try.prog 68 [.slice A1 l_p0.length c1, .string name] [.ro (SlL e_Installed A1 c1 l_p0)] (Val (.tuple #[.agg #[.int .i64 r.1.Major, .int .i64 r.1.Minor, .int .i64 r.1.Patch], .bool r.2])) := by
 unfold m_version_find at h
 refine Fun.intro Try.func68 rfl rfl rfl fun w R => ?_
 refine St.seq ?_
 refine St.region ?_
 refine St.alloc rfl rfl fun g1 => ?_
 refine St.p rfl rfl ?_
 refine St.done ?_
 refine St.thenN ?_
 refine St.prune (Γ' := [(0, _), (1, _), (4, _)]) ⟨rfl, rfl, rfl, trivial⟩ (.k (.k .z)) ?_
 refine St.seq ?_
 refine St.seq ?_
 refine St.region ?_
 iterate 3 refine St.p rfl rfl ?_
 refine St.done ?_
 refine St.thenN ?_
 refine St.prune (Γ' := [(1, _), (4, _), (8, _), (9, _), (10, _)]) ⟨rfl, rfl, rfl, rfl, rfl, trivial⟩ (.k (.k .z)) ?_
 obtain ⟨o1, hl1, h⟩ := bnd_e h
 refine St.cutI (fun (o2 : Unit) (e2 : Unit) => [(4, .pointer (some ⟨g1, 0, none⟩))]) (fun o2 e2 => .res (Box g1 39 [.int .i64 0, .int .i64 0, .int .i64 0]) :: R) (fun o2 => o1 = .inr o2) ?_ ?_
 ·refine St.block ?_
  refine St.loop hl1 (fun (s1 : Int) (e1 : Unit) => [(1, .string name), (4, .pointer (some ⟨g1, 0, none⟩)), (8, .slice A1 l_p0.length c1), (9, .int .i64 (l_p0.length : Int)), (10, .int .i64 s1)]) (fun s1 e1 => .res (Box g1 39 [.int .i64 0, .int .i64 0, .int .i64 0]) :: .ro (SlL e_Installed A1 c1 l_p0) :: R) (fun _ _ => True) () trivial ⟨rfl, rfl, rfl, rfl, rfl, trivial⟩ (fun _ w => ((.k (.k .z)) : Keep _ _).sat w) ?_
  rintro s1 e1 - hit1
  obtain ⟨st1, hm1, hd1⟩ := iter_e hit1
  have h1 := hm1
  refine St.seq ?_
  refine St.region ?_
  refine St.p rfl rfl ?_
  refine St.done ?_
  refine St.thenN ?_
  refine St.seq ?_
  refine St.cond _ rfl (fun hb1 => ?_) (fun hb1 => ?_)
  ·replace h1 := bif_t hb1 h1
   refine St.skip ?_
   refine St.thenN ?_
   refine St.prune (Γ' := [(1, _), (4, _), (8, _), (9, _), (10, _)]) ⟨rfl, rfl, rfl, rfl, rfl, trivial⟩ (.k (.k .z)) ?_
   refine St.seq ?_
   refine St.block ?_
   refine St.seq ?_
   refine St.region ?_
   obtain ⟨x1, hx1, h1⟩ := bnd_e h1
   refine St.ixL hx1 rfl rfl rfl (.tail _ (.head _)) rfl rfl rfl rfl rfl fun b1 ob1 => ?_
   refine St.load ob1 0 rfl rfl (.head _) rfl rfl ?_
   refine St.alloc rfl rfl fun g2 => ?_
   refine St.store 0 rfl rfl rfl rfl rfl rfl .z rfl ?_
   refine St.done ?_
   refine St.thenN ?_
   refine St.prune (Γ' := [(1, _), (4, _), (7, _), (8, _), (9, _), (10, _)]) ⟨rfl, rfl, rfl, rfl, rfl, rfl, trivial⟩ (.k (.d (.k (.k .z)))) ?_
   refine St.seq ?_
   refine St.region ?_
   refine St.p rfl rfl ?_
   refine St.loadB 0 rfl rfl (.head _) rfl rfl ?_
   refine St.p rfl rfl ?_
   refine St.p rfl rfl ?_
   refine St.done ?_
   refine St.thenN ?_
   refine St.prune (Γ' := [(1, _), (4, _), (7, _), (8, _), (9, _), (10, _), (17, _)]) ⟨rfl, rfl, rfl, rfl, rfl, rfl, rfl, trivial⟩ (.k (.k (.k .z))) ?_
   refine St.cond _ rfl (fun hb2 => ?_) (fun hb2 => ?_)
   ·replace h1 := bif_t hb2 h1
    refine St.seq ?_
    refine St.region ?_
    refine St.p rfl rfl ?_
    refine St.loadB 1 rfl rfl (.head _) rfl rfl ?_
    refine St.store 0 rfl rfl rfl rfl rfl rfl (.s .z) rfl ?_
    refine St.p rfl rfl ?_
    refine St.done ?_
    refine St.thenN ?_
    refine St.prune (Γ' := [(4, _), (5, _)]) ⟨rfl, rfl, trivial⟩ (.k (.d (.d .z))) ?_
    refine St.ret ?_
    repeat (first | refine St.thenR ?_ | refine St.blkR ?_)
    injection h1 with h1
    subst h1
    have ho := hd1 _ rfl
    subst ho
    have h : some _ = some _ := h
    injection h with h
    subst h
    exact St.finR Try.results68 (.cell rfl (.head _) rfl (.tmp rfl .nil)) rfl [] ⟨rfl, rfl⟩ (fun _ w => ((.d .z) : Keep _ _).sat w)
   ·replace h1 := bif_f hb2 h1
    refine St.skip ?_
    refine St.blkN ?_
    refine St.thenN ?_
    refine St.prune (Γ' := [(1, _), (4, _), (8, _), (9, _), (10, _)]) ⟨rfl, rfl, rfl, rfl, rfl, trivial⟩ (.d (.k (.k .z))) ?_
    refine St.region ?_
    refine St.p rfl rfl ?_
    refine St.p rfl rfl ?_
    refine St.done ?_
    injection h1 with h1
    subst h1
    refine St.thenN ?_
    exact St.again _ () hm1 trivial ⟨rfl, rfl, rfl, rfl, rfl, trivial⟩ (fun _ w => ((.k (.k .z)) : Keep _ _).sat w)
  ·replace h1 := bif_f hb1 h1
   refine St.exit ?_
   repeat (first | refine St.thenX ?_ | refine St.blkMiss rfl ?_)
   refine St.blkHit ?_
   injection h1 with h1
   subst h1
   have ho := hd1 _ rfl
   subst ho
   refine St.thenN ?_
   exact St.hereI () () rfl ⟨rfl, trivial⟩ (fun _ w => ((.k (.d .z)) : Keep _ _).sat w)
 ·rintro o2 e2 ho
  subst ho
  have h : _ = some _ := h
  refine St.seq ?_
  refine St.region ?_
  refine St.p rfl rfl ?_
  refine St.store 0 rfl rfl rfl rfl rfl rfl .z rfl ?_
  refine St.p rfl rfl ?_
  refine St.done ?_
  refine St.thenN ?_
  refine St.prune (Γ' := [(4, _), (5, _)]) ⟨rfl, rfl, trivial⟩ (.k .z) ?_
  refine St.ret ?_
  repeat (first | refine St.thenR ?_ | refine St.blkR ?_)
  injection h with h
  subst h
  exact St.finR Try.results68 (.cell rfl (.head _) rfl (.tmp rfl .nil)) rfl [] ⟨rfl, rfl⟩ (fun _ w => ((.d .z) : Keep _ _).sat w)

theorem ent72 : Ent Try.prog 72 := ⟨_, Try.func72, by kernel_rfl, by kernel_rfl⟩

noncomputable def m_cmp_isNaN_int (x_p0 : Int) : Option Bool :=
 some (x_p0 != x_p0)

theorem c_cmp_isNaN_int {x_p0 : Int} {r : Bool} (h : m_cmp_isNaN_int x_p0 = some r) :
  Fun Try.prog 72 [.int .i64 x_p0] [] (Val (.bool r)) := by
 unfold m_cmp_isNaN_int at h
 refine Fun.intro Try.func72 rfl rfl rfl fun w R => ?_
 refine St.seq ?_
 refine St.region ?_
 refine St.p rfl rfl ?_
 refine St.done ?_
 refine St.thenN ?_
 refine St.prune (Γ' := [(0, _)]) ⟨rfl, trivial⟩ .z ?_
 refine St.seq ?_
 refine St.region ?_
 iterate 4 refine St.p rfl rfl ?_
 refine St.done ?_
 refine St.thenN ?_
 refine St.prune (Γ' := [(2, _)]) ⟨rfl, trivial⟩ .z ?_
 refine St.ret ?_
 repeat (first | refine St.thenR ?_ | refine St.blkR ?_)
 injection h with h
 subst h
 exact St.finR Try.results72 (.tmp rfl .nil) rfl [] ⟨rfl, rfl⟩ (fun _ w => (.z : Keep _ _).sat w)

theorem ent71 : Ent Try.prog 71 := ⟨_, Try.func71, by kernel_rfl, by kernel_rfl⟩

noncomputable def m_cmp_Compare_int (x_p0 : Int) (y_p1 : Int) : Option Int :=
 bnd (m_cmp_isNaN_int x_p0) fun r1 => bnd (m_cmp_isNaN_int y_p1) fun r2 => bif r1 then (bif r2 then (some 0) else (some (-1))) else (bif r2 then (some 1) else (bif decide (x_p0 < y_p1) then (some (-1)) else (bif decide (x_p0 > y_p1) then (some 1) else (some 0))))

theorem c_cmp_Compare_int {x_p0 : Int} {y_p1 : Int} {r : Int} (h : m_cmp_Compare_int x_p0 y_p1 = some r) :
  Fun Try.prog 71 [.int .i64 x_p0, .int .i64 y_p1] [] (Val (.int .i64 r)) := by
 unfold m_cmp_Compare_int at h
 refine Fun.intro Try.func71 rfl rfl rfl fun w R => ?_
 refine St.seq ?_
 refine St.region ?_
 refine St.p rfl rfl ?_
 refine St.done ?_
 refine St.thenN ?_
 refine St.prune (Γ' := [(0, _), (1, _)]) ⟨rfl, rfl, trivial⟩ .z ?_
 refine St.seq ?_
 refine St.region ?_
 refine St.p rfl rfl ?_
 obtain ⟨r1, hr1, h⟩ := bnd_e h
 refine St.callV (c_cmp_isNaN_int hr1) ent72 rfl rfl rfl rfl trivial ?_
 refine St.p rfl rfl ?_
 refine St.done ?_
 refine St.thenN ?_
 refine St.prune (Γ' := [(0, _), (1, _), (5, _)]) ⟨rfl, rfl, rfl, trivial⟩ .z ?_
 refine St.seq ?_
 refine St.region ?_
 refine St.p rfl rfl ?_
 obtain ⟨r2, hr2, h⟩ := bnd_e h
 refine St.callV (c_cmp_isNaN_int hr2) ent72 rfl rfl rfl rfl trivial ?_
 refine St.p rfl rfl ?_
 refine St.done ?_
 refine St.thenN ?_
 refine St.prune (Γ' := [(0, _), (1, _), (5, _), (6, _)]) ⟨rfl, rfl, rfl, rfl, trivial⟩ .z ?_
 refine St.seq ?_
 refine St.seq ?_
 refine St.region ?_
 refine St.p rfl rfl ?_
 refine St.done ?_
 refine St.thenN ?_
 refine St.prune (Γ' := [(0, _), (1, _), (6, _), (11, _)]) ⟨rfl, rfl, rfl, rfl, trivial⟩ .z ?_
 refine St.cond _ rfl (fun hb1 => ?_) (fun hb1 => ?_)
 ·replace h := bif_t hb1 h
  refine St.seq ?_
  refine St.seq ?_
  refine St.region ?_
  refine St.p rfl rfl ?_
  refine St.done ?_
  refine St.thenN ?_
  refine St.prune (Γ' := [(12, _)]) ⟨rfl, trivial⟩ .z ?_
  refine St.cond _ rfl (fun hb2 => ?_) (fun hb2 => ?_)
  ·replace h := bif_t hb2 h
   refine St.seq ?_
   refine St.region ?_
   refine St.p rfl rfl ?_
   refine St.done ?_
   refine St.thenN ?_
   refine St.prune (Γ' := [(4, _)]) ⟨rfl, trivial⟩ .z ?_
   refine St.ret ?_
   repeat (first | refine St.thenR ?_ | refine St.blkR ?_)
   injection h with h
   subst h
   exact St.finR Try.results71 (.tmp rfl .nil) rfl [] ⟨rfl, rfl⟩ (fun _ w => (.z : Keep _ _).sat w)
  ·replace h := bif_f hb2 h
   refine St.skip ?_
   refine St.thenN ?_
   refine St.prune (Γ' := []) trivial .z ?_
   refine St.seq ?_
   refine St.region ?_
   refine St.p rfl rfl ?_
   refine St.done ?_
   refine St.thenN ?_
   refine St.ret ?_
   repeat (first | refine St.thenR ?_ | refine St.blkR ?_)
   injection h with h
   subst h
   exact St.finR Try.results71 (.tmp rfl .nil) rfl [] ⟨rfl, rfl⟩ (fun _ w => (.z : Keep _ _).sat w)
 ·replace h := bif_f hb1 h
  refine St.skip ?_
  refine St.thenN ?_
  refine St.prune (Γ' := [(0, _), (1, _), (6, _)]) ⟨rfl, rfl, rfl, trivial⟩ .z ?_
  refine St.seq ?_
  refine St.seq ?_
  refine St.region ?_
  refine St.p rfl rfl ?_
  refine St.done ?_
  refine St.thenN ?_
  refine St.prune (Γ' := [(0, _), (1, _), (13, _)]) ⟨rfl, rfl, rfl, trivial⟩ .z ?_
  refine St.cond _ rfl (fun hb3 => ?_) (fun hb3 => ?_)
  ·replace h := bif_t hb3 h
   refine St.seq ?_
   refine St.region ?_
   refine St.p rfl rfl ?_
   refine St.done ?_
   refine St.thenN ?_
   refine St.prune (Γ' := [(4, _)]) ⟨rfl, trivial⟩ .z ?_
   refine St.ret ?_
   repeat (first | refine St.thenR ?_ | refine St.blkR ?_)
   injection h with h
   subst h
   exact St.finR Try.results71 (.tmp rfl .nil) rfl [] ⟨rfl, rfl⟩ (fun _ w => (.z : Keep _ _).sat w)
  ·replace h := bif_f hb3 h
   refine St.skip ?_
   refine St.thenN ?_
   refine St.prune (Γ' := [(0, _), (1, _)]) ⟨rfl, rfl, trivial⟩ .z ?_
   refine St.seq ?_
   refine St.seq ?_
   refine St.region ?_
   iterate 3 refine St.p rfl rfl ?_
   refine St.done ?_
   refine St.thenN ?_
   refine St.prune (Γ' := [(0, _), (1, _), (16, _)]) ⟨rfl, rfl, rfl, trivial⟩ .z ?_
   refine St.cond _ rfl (fun hb4 => ?_) (fun hb4 => ?_)
   ·replace h := bif_t hb4 h
    refine St.seq ?_
    refine St.region ?_
    refine St.p rfl rfl ?_
    refine St.done ?_
    refine St.thenN ?_
    refine St.prune (Γ' := [(4, _)]) ⟨rfl, trivial⟩ .z ?_
    refine St.ret ?_
    repeat (first | refine St.thenR ?_ | refine St.blkR ?_)
    injection h with h
    subst h
    exact St.finR Try.results71 (.tmp rfl .nil) rfl [] ⟨rfl, rfl⟩ (fun _ w => (.z : Keep _ _).sat w)
   ·replace h := bif_f hb4 h
    refine St.skip ?_
    refine St.thenN ?_
    refine St.prune (Γ' := [(0, _), (1, _)]) ⟨rfl, rfl, trivial⟩ .z ?_
    refine St.seq ?_
    refine St.seq ?_
    refine St.region ?_
    iterate 3 refine St.p rfl rfl ?_
    refine St.done ?_
    refine St.thenN ?_
    refine St.prune (Γ' := [(19, _)]) ⟨rfl, trivial⟩ .z ?_
    refine St.cond _ rfl (fun hb5 => ?_) (fun hb5 => ?_)
    ·replace h := bif_t hb5 h
     refine St.seq ?_
     refine St.region ?_
     refine St.p rfl rfl ?_
     refine St.done ?_
     refine St.thenN ?_
     refine St.prune (Γ' := [(4, _)]) ⟨rfl, trivial⟩ .z ?_
     refine St.ret ?_
     repeat (first | refine St.thenR ?_ | refine St.blkR ?_)
     injection h with h
     subst h
     exact St.finR Try.results71 (.tmp rfl .nil) rfl [] ⟨rfl, rfl⟩ (fun _ w => (.z : Keep _ _).sat w)
    ·replace h := bif_f hb5 h
     refine St.skip ?_
     refine St.thenN ?_
     refine St.prune (Γ' := []) trivial .z ?_
     refine St.seq ?_
     refine St.region ?_
     refine St.p rfl rfl ?_
     refine St.done ?_
     refine St.thenN ?_
     refine St.ret ?_
     repeat (first | refine St.thenR ?_ | refine St.blkR ?_)
     injection h with h
     subst h
     exact St.finR Try.results71 (.tmp rfl .nil) rfl [] ⟨rfl, rfl⟩ (fun _ w => (.z : Keep _ _).sat w)

theorem ent70 : Ent Try.prog 70 := ⟨_, Try.func70, by kernel_rfl, by kernel_rfl⟩

noncomputable def m_version_compare_int (a_p0 : (Arr3 Int)) (b_p1 : (Arr3 Int)) : Option Int :=
 bnd (m_cmp_Compare_int a_p0.e0 b_p1.e0) fun r1 => bif (r1 != 0) then (some r1) else (bnd (m_cmp_Compare_int a_p0.e1 b_p1.e1) fun r2 => bif (r2 != 0) then (some r2) else (bnd (m_cmp_Compare_int a_p0.e2 b_p1.e2) fun r3 => bif (r3 != 0) then (some r3) else (some 0)))

theorem c_version_compare_int {a_p0 : (Arr3 Int)} {b_p1 : (Arr3 Int)} {r : Int} (h : m_version_compare_int a_p0 b_p1 = some r) :
  Fun Try.prog 70 [.agg #[.int .i64 a_p0.e0, .int .i64 a_p0.e1, .int .i64 a_p0.e2], .agg #[.int .i64 b_p1.e0, .int .i64 b_p1.e1, .int .i64 b_p1.e2]] [] (Val (.int .i64 r)) := by
 unfold m_version_compare_int at h
 refine Fun.intro Try.func70 rfl rfl rfl fun w R => ?_
 refine St.seq ?_
 refine St.region ?_
 refine St.box rfl rfl fun g1 => ?_
 refine St.box rfl rfl fun g2 => ?_
 refine St.p rfl rfl ?_
 refine St.done ?_
 refine St.thenN ?_
 refine St.prune (Γ' := [(2, _), (3, _)]) ⟨rfl, rfl, trivial⟩ (.k (.k .z)) ?_
 refine St.seq ?_
 refine St.seq ?_
 refine St.region ?_
 refine St.p rfl rfl ?_
 refine St.done ?_
 refine St.thenN ?_
 refine St.block ?_
 refine St.rounds 9 ?_
 refine St.round ?_
 refine St.seq ?_
 refine St.region ?_
 refine St.p rfl rfl ?_
 refine St.done ?_
 refine St.thenN ?_
 refine St.seq ?_
 refine St.condT rfl ?_
 refine St.skip ?_
 refine St.thenN ?_
 refine St.prune (Γ' := [(2, _), (3, _), (7, _)]) ⟨rfl, rfl, rfl, trivial⟩ (.k (.k .z)) ?_
 refine St.seq ?_
 refine St.block ?_
 refine St.seq ?_
 refine St.region ?_
 refine St.p rfl rfl ?_
 refine St.p rfl rfl ?_
 refine St.done ?_
 refine St.thenN ?_
 refine St.prune (Γ' := [(2, _), (3, _), (5, _), (7, _)]) ⟨rfl, rfl, rfl, rfl, trivial⟩ (.k (.k .z)) ?_
 refine St.seq ?_
 refine St.regionF mixed (by kernel_rfl) ?_
 refine St.p rfl rfl ?_
 refine St.p rfl rfl ?_
 refine St.loadB 0 rfl rfl (.tail _ (.head _)) rfl rfl ?_
 refine St.p rfl rfl ?_
 refine St.p rfl rfl ?_
 refine St.loadB 0 rfl rfl (.head _) rfl rfl ?_
 obtain ⟨r1, hr1, h⟩ := bnd_e h
 refine St.callV (c_cmp_Compare_int hr1) ent71 rfl rfl rfl rfl trivial ?_
 refine St.p rfl rfl ?_
 refine St.doneQ ?_
 refine St.thenN ?_
 refine St.prune (Γ' := [(2, _), (3, _), (6, _), (7, _)]) ⟨rfl, rfl, rfl, rfl, trivial⟩ (.k (.k .z)) ?_
 refine St.seq ?_
 refine St.region ?_
 refine St.p rfl rfl ?_
 refine St.p rfl rfl ?_
 refine St.done ?_
 refine St.thenN ?_
 refine St.prune (Γ' := [(2, _), (3, _), (6, _), (7, _), (18, _)]) ⟨rfl, rfl, rfl, rfl, rfl, trivial⟩ (.k (.k .z)) ?_
 refine St.cond _ rfl (fun hb1 => ?_) (fun hb1 => ?_)
 ·replace h := bif_t hb1 h
  refine St.seq ?_
  refine St.region ?_
  refine St.p rfl rfl ?_
  refine St.p rfl rfl ?_
  refine St.done ?_
  refine St.thenN ?_
  refine St.prune (Γ' := [(4, _)]) ⟨rfl, trivial⟩ (.d (.d .z)) ?_
  refine St.ret ?_
  repeat (first | refine St.thenR ?_ | refine St.blkR ?_)
  injection h with h
  subst h
  exact St.finR Try.results70 (.tmp rfl .nil) rfl [] ⟨rfl, rfl⟩ (fun _ w => (.z : Keep _ _).sat w)
 ·replace h := bif_f hb1 h
  refine St.skip ?_
  refine St.blkN ?_
  refine St.thenN ?_
  refine St.prune (Γ' := [(2, _), (3, _), (7, _)]) ⟨rfl, rfl, rfl, trivial⟩ (.k (.k .z)) ?_
  refine St.region ?_
  refine St.p rfl rfl ?_
  refine St.p rfl rfl ?_
  refine St.done ?_
  refine St.thenN ?_
  refine St.round ?_
  refine St.prune (Γ' := [(2, _), (3, _), (7, _)]) ⟨rfl, rfl, rfl, trivial⟩ (.k (.k .z)) ?_
  refine St.seq ?_
  refine St.region ?_
  refine St.p rfl rfl ?_
  refine St.done ?_
  refine St.thenN ?_
  refine St.seq ?_
  refine St.condT rfl ?_
  refine St.skip ?_
  refine St.thenN ?_
  refine St.prune (Γ' := [(2, _), (3, _), (7, _)]) ⟨rfl, rfl, rfl, trivial⟩ (.k (.k .z)) ?_
  refine St.seq ?_
  refine St.block ?_
  refine St.seq ?_
  refine St.region ?_
  refine St.p rfl rfl ?_
  refine St.p rfl rfl ?_
  refine St.done ?_
  refine St.thenN ?_
  refine St.prune (Γ' := [(2, _), (3, _), (5, _), (7, _)]) ⟨rfl, rfl, rfl, rfl, trivial⟩ (.k (.k .z)) ?_
  refine St.seq ?_
  refine St.regionF mixed (by kernel_rfl) ?_
  refine St.p rfl rfl ?_
  refine St.p rfl rfl ?_
  refine St.loadB 1 rfl rfl (.tail _ (.head _)) rfl rfl ?_
  refine St.p rfl rfl ?_
  refine St.p rfl rfl ?_
  refine St.loadB 1 rfl rfl (.head _) rfl rfl ?_
  obtain ⟨r2, hr2, h⟩ := bnd_e h
  refine St.callV (c_cmp_Compare_int hr2) ent71 rfl rfl rfl rfl trivial ?_
  refine St.p rfl rfl ?_
  refine St.doneQ ?_
  refine St.thenN ?_
  refine St.prune (Γ' := [(2, _), (3, _), (6, _), (7, _)]) ⟨rfl, rfl, rfl, rfl, trivial⟩ (.k (.k .z)) ?_
  refine St.seq ?_
  refine St.region ?_
  refine St.p rfl rfl ?_
  refine St.p rfl rfl ?_
  refine St.done ?_
  refine St.thenN ?_
  refine St.prune (Γ' := [(2, _), (3, _), (6, _), (7, _), (18, _)]) ⟨rfl, rfl, rfl, rfl, rfl, trivial⟩ (.k (.k .z)) ?_
  refine St.cond _ rfl (fun hb2 => ?_) (fun hb2 => ?_)
  ·replace h := bif_t hb2 h
   refine St.seq ?_
   refine St.region ?_
   refine St.p rfl rfl ?_
   refine St.p rfl rfl ?_
   refine St.done ?_
   refine St.thenN ?_
   refine St.prune (Γ' := [(4, _)]) ⟨rfl, trivial⟩ (.d (.d .z)) ?_
   refine St.ret ?_
   repeat (first | refine St.thenR ?_ | refine St.blkR ?_)
   injection h with h
   subst h
   exact St.finR Try.results70 (.tmp rfl .nil) rfl [] ⟨rfl, rfl⟩ (fun _ w => (.z : Keep _ _).sat w)
  ·replace h := bif_f hb2 h
   refine St.skip ?_
   refine St.blkN ?_
   refine St.thenN ?_
   refine St.prune (Γ' := [(2, _), (3, _), (7, _)]) ⟨rfl, rfl, rfl, trivial⟩ (.k (.k .z)) ?_
   refine St.region ?_
   refine St.p rfl rfl ?_
   refine St.p rfl rfl ?_
   refine St.done ?_
   refine St.thenN ?_
   refine St.round ?_
   refine St.prune (Γ' := [(2, _), (3, _), (7, _)]) ⟨rfl, rfl, rfl, trivial⟩ (.k (.k .z)) ?_
   refine St.seq ?_
   refine St.region ?_
   refine St.p rfl rfl ?_
   refine St.done ?_
   refine St.thenN ?_
   refine St.seq ?_
   refine St.condT rfl ?_
   refine St.skip ?_
   refine St.thenN ?_
   refine St.prune (Γ' := [(2, _), (3, _), (7, _)]) ⟨rfl, rfl, rfl, trivial⟩ (.k (.k .z)) ?_
   refine St.seq ?_
   refine St.block ?_
   refine St.seq ?_
   refine St.region ?_
   refine St.p rfl rfl ?_
   refine St.p rfl rfl ?_
   refine St.done ?_
   refine St.thenN ?_
   refine St.prune (Γ' := [(2, _), (3, _), (5, _), (7, _)]) ⟨rfl, rfl, rfl, rfl, trivial⟩ (.k (.k .z)) ?_
   refine St.seq ?_
   refine St.regionF mixed (by kernel_rfl) ?_
   refine St.p rfl rfl ?_
   refine St.p rfl rfl ?_
   refine St.loadB 2 rfl rfl (.tail _ (.head _)) rfl rfl ?_
   refine St.p rfl rfl ?_
   refine St.p rfl rfl ?_
   refine St.loadB 2 rfl rfl (.head _) rfl rfl ?_
   obtain ⟨r3, hr3, h⟩ := bnd_e h
   refine St.callV (c_cmp_Compare_int hr3) ent71 rfl rfl rfl rfl trivial ?_
   refine St.p rfl rfl ?_
   refine St.doneQ ?_
   refine St.thenN ?_
   refine St.prune (Γ' := [(2, _), (3, _), (6, _), (7, _)]) ⟨rfl, rfl, rfl, rfl, trivial⟩ (.k (.k .z)) ?_
   refine St.seq ?_
   refine St.region ?_
   refine St.p rfl rfl ?_
   refine St.p rfl rfl ?_
   refine St.done ?_
   refine St.thenN ?_
   refine St.prune (Γ' := [(2, _), (3, _), (6, _), (7, _), (18, _)]) ⟨rfl, rfl, rfl, rfl, rfl, trivial⟩ (.k (.k .z)) ?_
   refine St.cond _ rfl (fun hb3 => ?_) (fun hb3 => ?_)
   ·replace h := bif_t hb3 h
    refine St.seq ?_
    refine St.region ?_
    refine St.p rfl rfl ?_
    refine St.p rfl rfl ?_
    refine St.done ?_
    refine St.thenN ?_
    refine St.prune (Γ' := [(4, _)]) ⟨rfl, trivial⟩ (.d (.d .z)) ?_
    refine St.ret ?_
    repeat (first | refine St.thenR ?_ | refine St.blkR ?_)
    injection h with h
    subst h
    exact St.finR Try.results70 (.tmp rfl .nil) rfl [] ⟨rfl, rfl⟩ (fun _ w => (.z : Keep _ _).sat w)
   ·replace h := bif_f hb3 h
    refine St.skip ?_
    refine St.blkN ?_
    refine St.thenN ?_
    refine St.prune (Γ' := [(2, _), (3, _), (7, _)]) ⟨rfl, rfl, rfl, trivial⟩ (.k (.k .z)) ?_
    refine St.region ?_
    refine St.p rfl rfl ?_
    refine St.p rfl rfl ?_
    refine St.done ?_
    refine St.thenN ?_
    refine St.round ?_
    refine St.prune (Γ' := [(2, _), (3, _), (7, _)]) ⟨rfl, rfl, rfl, trivial⟩ (.k (.k .z)) ?_
    refine St.seq ?_
    refine St.region ?_
    refine St.p rfl rfl ?_
    refine St.done ?_
    refine St.thenN ?_
    refine St.seq ?_
    refine St.condF rfl ?_
    refine St.exit ?_
    repeat (first | refine St.thenX ?_ | refine St.blkMiss rfl ?_)
    refine St.blkHit ?_
    refine St.thenN ?_
    refine St.prune (Γ' := []) trivial (.d (.d .z)) ?_
    refine St.seq ?_
    refine St.region ?_
    refine St.p rfl rfl ?_
    refine St.done ?_
    refine St.thenN ?_
    refine St.ret ?_
    repeat (first | refine St.thenR ?_ | refine St.blkR ?_)
    injection h with h
    subst h
    exact St.finR Try.results70 (.tmp rfl .nil) rfl [] ⟨rfl, rfl⟩ (fun _ w => (.z : Keep _ _).sat w)

theorem ent69 : Ent Try.prog 69 := ⟨_, Try.func69, by kernel_rfl, by kernel_rfl⟩

noncomputable def m_version_Compare (a_p0 : T_Version) (b_p1 : T_Version) : Option Int :=
 bnd (m_version_numbers a_p0) fun r1 => bnd (m_version_numbers b_p1) fun r2 => bnd (m_version_compare_int r1 r2) fun r3 => some r3

theorem c_version_Compare {a_p0 : T_Version} {b_p1 : T_Version} {r : Int} (h : m_version_Compare a_p0 b_p1 = some r) :
  Fun Try.prog 69 [.agg #[.int .i64 a_p0.Major, .int .i64 a_p0.Minor, .int .i64 a_p0.Patch], .agg #[.int .i64 b_p1.Major, .int .i64 b_p1.Minor, .int .i64 b_p1.Patch]] [] (Val (.int .i64 r)) := by
 unfold m_version_Compare at h
 refine Fun.intro Try.func69 rfl rfl rfl fun w R => ?_
 refine St.seq ?_
 refine St.region ?_
 refine St.box rfl rfl fun g1 => ?_
 refine St.box rfl rfl fun g2 => ?_
 refine St.p rfl rfl ?_
 refine St.done ?_
 refine St.thenN ?_
 refine St.prune (Γ' := [(2, _), (3, _)]) ⟨rfl, rfl, trivial⟩ (.k (.k .z)) ?_
 refine St.seq ?_
 refine St.regionF mixed (by kernel_rfl) ?_
 refine St.loadB 0 rfl rfl (.tail _ (.head _)) rfl rfl ?_
 obtain ⟨r1, hr1, h⟩ := bnd_e h
 refine St.callV (c_version_numbers hr1) ent67 rfl rfl rfl rfl trivial ?_
 refine St.loadB 0 rfl rfl (.head _) rfl rfl ?_
 obtain ⟨r2, hr2, h⟩ := bnd_e h
 refine St.callV (c_version_numbers hr2) ent67 rfl rfl rfl rfl trivial ?_
 obtain ⟨r3, hr3, h⟩ := bnd_e h
 refine St.callV (c_version_compare_int hr3) ent70 rfl rfl rfl rfl trivial ?_
 refine St.p rfl rfl ?_
 refine St.doneQ ?_
 refine St.thenN ?_
 refine St.prune (Γ' := [(4, _)]) ⟨rfl, trivial⟩ (.d (.d .z)) ?_
 refine St.ret ?_
 repeat (first | refine St.thenR ?_ | refine St.blkR ?_)
 injection h with h
 subst h
 exact St.finR Try.results69 (.tmp rfl .nil) rfl [] ⟨rfl, rfl⟩ (fun _ w => (.z : Keep _ _).sat w)

theorem ent66 : Ent Try.prog 66 := ⟨_, Try.func66, by kernel_rfl, by kernel_rfl⟩

noncomputable def m_version_Met (l_p0 : (List T_Installed)) (n_p1 : T_Need) : Option Bool :=
 bnd (m_version_find l_p0 n_p1.Component) fun r1 => bnd ((bif !r1.2 then (some true) else (bnd (m_version_Compare r1.1 n_p1.From) fun r2 => some (decide (r2 < 0))) : Option Bool)) fun o1 => bif o1 then (some true) else (bnd (m_version_find l_p0 n_p1.On) fun r3 => bnd ((bif r3.2 then (bnd (m_version_Compare r3.1 n_p1.At) fun r4 => some (decide (r4 ≥ 0))) else (some false) : Option Bool)) fun o2 => some o2)

theorem c_version_Met {l_p0 : (List T_Installed)} {n_p1 : T_Need} {A1 : Option Addr} {c1 : Nat} {r : Bool} (h : m_version_Met l_p0 n_p1 = some r) :
  Fun Try.prog 66 [.slice A1 l_p0.length c1, .agg (bx_T_Need n_p1).toArray] [.ro (SlL e_Installed A1 c1 l_p0)] (Val (.bool r)) := by
 unfold m_version_Met at h
 refine Fun.intro Try.func66 rfl rfl rfl fun w R => ?_
 refine St.seq ?_
 refine St.region ?_
 refine St.box rfl rfl fun g1 => ?_
 refine St.p rfl rfl ?_
 refine St.done ?_
 refine St.thenN ?_
 refine St.prune (Γ' := [(0, _), (3, _)]) ⟨rfl, rfl, trivial⟩ (.k (.k .z)) ?_
 refine St.seq ?_
 refine St.region ?_
 refine St.p rfl rfl ?_
 refine St.p rfl rfl ?_
 refine St.loadB 0 rfl rfl (.head _) rfl rfl ?_
 obtain ⟨r1, hr1, h⟩ := bnd_e h
 refine St.callV (c_version_find hr1) ent68 rfl rfl rfl rfl ⟨(.tail _ (.head _)), trivial⟩ ?_
 iterate 3 refine St.p rfl rfl ?_
 refine St.alloc rfl rfl fun g2 => ?_
 refine St.store 0 rfl rfl rfl rfl rfl rfl .z rfl ?_
 refine St.p rfl rfl ?_
 refine St.done ?_
 refine St.thenN ?_
 refine St.prune (Γ' := [(0, _), (3, _), (5, _), (6, _)]) ⟨rfl, rfl, rfl, rfl, trivial⟩ (.k (.k (.k .z))) ?_
 refine St.seq ?_
 refine St.seq ?_
 obtain ⟨o1, hj1, h⟩ := bnd_e h
 refine St.cutE (fun (e1 : Unit) => [(0, .slice A1 l_p0.length c1), (3, .pointer (some ⟨g1, 0, none⟩)), (23, .bool o1)]) (fun e1 => .res (Box g1 67 (bx_T_Need n_p1)) :: .ro (SlL e_Installed A1 c1 l_p0) :: R) ?_ ?_
 ·refine St.region ?_
  iterate 3 refine St.p rfl rfl ?_
  refine St.gSplit (dj := 17) _ rfl (fun hb1 => ?_) (fun hb1 => ?_)
  ·replace hj1 := bif_t hb1 hj1
   refine St.gOff (dj := 17) rfl rfl rfl rfl ?_
   refine St.gOff (dj := 17) rfl rfl rfl rfl ?_
   refine St.gOff (dj := 17) rfl rfl rfl rfl ?_
   refine St.gOff (dj := 17) rfl rfl rfl rfl ?_
   refine St.gOff (dj := 17) rfl rfl rfl rfl ?_
   refine St.p rfl rfl ?_
   refine St.done ?_
   injection hj1 with hj1
   subst hj1
   refine St.thenN ?_
   exact St.hereE () ⟨rfl, rfl, rfl, trivial⟩ (fun _ w => ((.d (.k (.k .z))) : Keep _ _).sat w)
  ·replace hj1 := bif_f hb1 hj1
   refine St.gOn (dj := 17) rfl rfl ?_
   refine St.loadB 0 rfl rfl (.head _) rfl rfl ?_
   refine St.gOn (dj := 17) rfl rfl ?_
   refine St.p rfl rfl ?_
   refine St.gOn (dj := 17) rfl rfl ?_
   refine St.loadB 1 rfl rfl (.tail _ (.head _)) rfl rfl ?_
   refine St.gOn (dj := 17) rfl rfl ?_
   obtain ⟨r2, hr2, hj1⟩ := bnd_e hj1
   refine St.callV (c_version_Compare hr2) ent69 rfl rfl rfl rfl trivial ?_
   refine St.gOn (dj := 17) rfl rfl ?_
   refine St.p rfl rfl ?_
   refine St.p rfl rfl ?_
   refine St.done ?_
   injection hj1 with hj1
   subst hj1
   refine St.thenN ?_
   exact St.hereE () ⟨rfl, rfl, rfl, trivial⟩ (fun _ w => ((.d (.k (.k .z))) : Keep _ _).sat w)
 ·rintro e1
  refine St.cond _ rfl (fun hb2 => ?_) (fun hb2 => ?_)
  ·replace h := bif_t hb2 h
   refine St.seq ?_
   refine St.region ?_
   refine St.p rfl rfl ?_
   refine St.done ?_
   refine St.thenN ?_
   refine St.prune (Γ' := [(4, _)]) ⟨rfl, trivial⟩ (.d (.d .z)) ?_
   refine St.ret ?_
   repeat (first | refine St.thenR ?_ | refine St.blkR ?_)
   injection h with h
   subst h
   exact St.finR Try.results66 (.tmp rfl .nil) rfl [] ⟨rfl, rfl⟩ (fun _ w => (.z : Keep _ _).sat w)
  ·replace h := bif_f hb2 h
   refine St.skip ?_
   refine St.thenN ?_
   refine St.prune (Γ' := [(0, _), (3, _)]) ⟨rfl, rfl, trivial⟩ (.k (.k .z)) ?_
   refine St.seq ?_
   refine St.region ?_
   refine St.p rfl rfl ?_
   refine St.p rfl rfl ?_
   refine St.loadB 4 rfl rfl (.head _) rfl rfl ?_
   obtain ⟨r3, hr3, h⟩ := bnd_e h
   refine St.callV (c_version_find hr3) ent68 rfl rfl rfl rfl ⟨(.tail _ (.head _)), trivial⟩ ?_
   iterate 3 refine St.p rfl rfl ?_
   refine St.alloc rfl rfl fun g3 => ?_
   refine St.store 0 rfl rfl rfl rfl rfl rfl .z rfl ?_
   refine St.p rfl rfl ?_
   refine St.done ?_
   refine St.thenN ?_
   refine St.prune (Γ' := [(3, _), (6, _), (7, _)]) ⟨rfl, rfl, rfl, trivial⟩ (.k (.k (.d .z))) ?_
   refine St.seq ?_
   obtain ⟨o2, hj2, h⟩ := bnd_e h
   refine St.cutE (fun (e2 : Unit) => [(4, .bool o2)]) (fun e2 => R) ?_ ?_
   ·refine St.region ?_
    refine St.p rfl rfl ?_
    refine St.p rfl rfl ?_
    refine St.gSplit (dj := 32) _ rfl (fun hb3 => ?_) (fun hb3 => ?_)
    ·replace hj2 := bif_t hb3 hj2
     refine St.gOn (dj := 32) rfl rfl ?_
     refine St.loadB 0 rfl rfl (.head _) rfl rfl ?_
     refine St.gOn (dj := 32) rfl rfl ?_
     refine St.p rfl rfl ?_
     refine St.gOn (dj := 32) rfl rfl ?_
     refine St.loadB 5 rfl rfl (.tail _ (.head _)) rfl rfl ?_
     refine St.gOn (dj := 32) rfl rfl ?_
     obtain ⟨r4, hr4, hj2⟩ := bnd_e hj2
     refine St.callV (c_version_Compare hr4) ent69 rfl rfl rfl rfl trivial ?_
     refine St.gOn (dj := 32) rfl rfl ?_
     iterate 3 refine St.p rfl rfl ?_
     refine St.done ?_
     injection hj2 with hj2
     subst hj2
     refine St.thenN ?_
     exact St.hereE () ⟨rfl, trivial⟩ (fun _ w => ((.d (.d .z)) : Keep _ _).sat w)
    ·replace hj2 := bif_f hb3 hj2
     refine St.gOff (dj := 32) rfl rfl rfl rfl ?_
     refine St.gOff (dj := 32) rfl rfl rfl rfl ?_
     refine St.gOff (dj := 32) rfl rfl rfl rfl ?_
     refine St.gOff (dj := 32) rfl rfl rfl rfl ?_
     refine St.gOff (dj := 32) rfl rfl rfl rfl ?_
     refine St.p rfl rfl ?_
     refine St.p rfl rfl ?_
     refine St.done ?_
     injection hj2 with hj2
     subst hj2
     refine St.thenN ?_
     exact St.hereE () ⟨rfl, trivial⟩ (fun _ w => ((.d (.d .z)) : Keep _ _).sat w)
   ·rintro e2
    refine St.ret ?_
    repeat (first | refine St.thenR ?_ | refine St.blkR ?_)
    injection h with h
    subst h
    exact St.finR Try.results66 (.tmp rfl .nil) rfl [] ⟨rfl, rfl⟩ (fun _ w => (.z : Keep _ _).sat w)

theorem ent39 : Ent Try.prog 39 := ⟨_, Try.func39, by kernel_rfl, by kernel_rfl⟩

noncomputable def m_version_Check (l_p0 : (List T_Installed)) (needs : (List T_Need)) : Option (Int × Int) :=
 bnd (m_version_components l_p0) fun r1 => bif !r1 then (some (0, 1)) else (bnd (m_version_right needs) fun r2 => bif !r2 then (some (0, 2)) else (bnd (loopM (τ := (Int × Int) ⊕ Unit) (fun (s1 : Int) => bif decide (s1 < (needs.length : Int)) then (bnd (elt needs s1) fun x1 => bnd (m_version_Met l_p0 x1) fun r3 => bif !r3 then (some (.done (.inl (s1, 0)))) else (some (.next (IntKind.wrap .i64 (s1 + 1))))) else (some (.done (.inr ())))) 0) fun o1 => retOr o1 fun o2 => some ((-1), 0)))

theorem c_version_Check {l_p0 : (List T_Installed)} {needs : (List T_Need)} {A1 : Option Addr} {c1 : Nat} {A2 : Option Addr} {c2 : Nat} {r : (Int × Int)} (h : m_version_Check l_p0 needs = some r) :
  Fun Try.prog 39 [.slice A1 l_p0.length c1, .slice A2 needs.length c2] [.ro (SlL e_Installed A1 c1 l_p0), .ro (SlL e_Need A2 c2 needs)] (Val (.tuple #[.int .i64 r.1, .int .i64 r.2])) := by
 unfold m_version_Check at h
 refine Fun.intro Try.func39 rfl rfl rfl fun w R => ?_
 refine St.seq ?_
 refine St.region ?_
 refine St.p rfl rfl ?_
 refine St.p rfl rfl ?_
 refine St.done ?_
 refine St.thenN ?_
 refine St.prune (Γ' := [(0, _), (1, _)]) ⟨rfl, rfl, trivial⟩ (.k (.k .z)) ?_
 refine St.seq ?_
 refine St.seq ?_
 refine St.region ?_
 refine St.p rfl rfl ?_
 obtain ⟨r1, hr1, h⟩ := bnd_e h
 refine St.callV (c_version_components hr1) ent64 rfl rfl rfl rfl ⟨(.head _), trivial⟩ ?_
 refine St.p rfl rfl ?_
 refine St.done ?_
 refine St.thenN ?_
 refine St.prune (Γ' := [(0, _), (1, _), (10, _)]) ⟨rfl, rfl, rfl, trivial⟩ (.k (.k .z)) ?_
 refine St.cond _ rfl (fun hb1 => ?_) (fun hb1 => ?_)
 ·replace h := bif_t hb1 h
  refine St.seq ?_
  refine St.region ?_
  refine St.p rfl rfl ?_
  refine St.p rfl rfl ?_
  refine St.done ?_
  refine St.thenN ?_
  refine St.prune (Γ' := [(4, _), (5, _)]) ⟨rfl, rfl, trivial⟩ (.d (.d .z)) ?_
  refine St.ret ?_
  repeat (first | refine St.thenR ?_ | refine St.blkR ?_)
  injection h with h
  subst h
  exact St.finR Try.results39 (.tmp rfl (.tmp rfl .nil)) rfl [] ⟨rfl, rfl⟩ (fun _ w => (.z : Keep _ _).sat w)
 ·replace h := bif_f hb1 h
  refine St.skip ?_
  refine St.thenN ?_
  refine St.prune (Γ' := [(0, _), (1, _)]) ⟨rfl, rfl, trivial⟩ (.k (.k .z)) ?_
  refine St.seq ?_
  refine St.seq ?_
  refine St.region ?_
  refine St.p rfl rfl ?_
  obtain ⟨r2, hr2, h⟩ := bnd_e h
  refine St.callV (c_version_right hr2) ent65 rfl rfl rfl rfl ⟨(.tail _ (.head _)), trivial⟩ ?_
  refine St.p rfl rfl ?_
  refine St.done ?_
  refine St.thenN ?_
  refine St.prune (Γ' := [(0, _), (1, _), (13, _)]) ⟨rfl, rfl, rfl, trivial⟩ (.k (.k .z)) ?_
  refine St.cond _ rfl (fun hb2 => ?_) (fun hb2 => ?_)
  ·replace h := bif_t hb2 h
   refine St.seq ?_
   refine St.region ?_
   refine St.p rfl rfl ?_
   refine St.p rfl rfl ?_
   refine St.done ?_
   refine St.thenN ?_
   refine St.prune (Γ' := [(4, _), (5, _)]) ⟨rfl, rfl, trivial⟩ (.d (.d .z)) ?_
   refine St.ret ?_
   repeat (first | refine St.thenR ?_ | refine St.blkR ?_)
   injection h with h
   subst h
   exact St.finR Try.results39 (.tmp rfl (.tmp rfl .nil)) rfl [] ⟨rfl, rfl⟩ (fun _ w => (.z : Keep _ _).sat w)
  ·replace h := bif_f hb2 h
   refine St.skip ?_
   refine St.thenN ?_
   refine St.prune (Γ' := [(0, _), (1, _)]) ⟨rfl, rfl, trivial⟩ (.k (.k .z)) ?_
   refine St.seq ?_
   refine St.seq ?_
   refine St.region ?_
   iterate 3 refine St.p rfl rfl ?_
   refine St.done ?_
   refine St.thenN ?_
   refine St.prune (Γ' := [(0, _), (14, _), (15, _), (16, _)]) ⟨rfl, rfl, rfl, rfl, trivial⟩ (.k (.k .z)) ?_
   obtain ⟨o1, hl1, h⟩ := bnd_e h
   refine St.cutI (fun (o2 : Unit) (e2 : Unit) => []) (fun o2 e2 => R) (fun o2 => o1 = .inr o2) ?_ ?_
   ·refine St.block ?_
    refine St.loop hl1 (fun (s1 : Int) (e1 : Unit) => [(0, .slice A1 l_p0.length c1), (14, .slice A2 needs.length c2), (15, .int .i64 (needs.length : Int)), (16, .int .i64 s1)]) (fun s1 e1 => .ro (SlL e_Installed A1 c1 l_p0) :: .ro (SlL e_Need A2 c2 needs) :: R) (fun _ _ => True) () trivial ⟨rfl, rfl, rfl, rfl, trivial⟩ (fun _ w => ((.k (.k .z)) : Keep _ _).sat w) ?_
    rintro s1 e1 - hit1
    obtain ⟨st1, hm1, hd1⟩ := iter_e hit1
    have h1 := hm1
    refine St.seq ?_
    refine St.region ?_
    refine St.p rfl rfl ?_
    refine St.done ?_
    refine St.thenN ?_
    refine St.seq ?_
    refine St.cond _ rfl (fun hb3 => ?_) (fun hb3 => ?_)
    ·replace h1 := bif_t hb3 h1
     refine St.skip ?_
     refine St.thenN ?_
     refine St.prune (Γ' := [(0, _), (14, _), (15, _), (16, _)]) ⟨rfl, rfl, rfl, rfl, trivial⟩ (.k (.k .z)) ?_
     refine St.seq ?_
     refine St.block ?_
     refine St.seq ?_
     refine St.region ?_
     refine St.p rfl rfl ?_
     obtain ⟨x1, hx1, h1⟩ := bnd_e h1
     refine St.ixL hx1 rfl rfl rfl (.tail _ (.head _)) rfl rfl rfl rfl rfl fun b1 ob1 => ?_
     refine St.load ob1 0 rfl rfl (.head _) rfl rfl ?_
     refine St.alloc rfl rfl fun g1 => ?_
     refine St.p rfl rfl ?_
     refine St.store 0 rfl rfl rfl rfl rfl rfl .z rfl ?_
     refine St.done ?_
     refine St.thenN ?_
     refine St.prune (Γ' := [(0, _), (6, _), (7, _), (14, _), (15, _), (16, _)]) ⟨rfl, rfl, rfl, rfl, rfl, rfl, trivial⟩ (.k (.d (.k (.k .z)))) ?_
     refine St.seq ?_
     refine St.region ?_
     refine St.p rfl rfl ?_
     refine St.loadB 0 rfl rfl (.head _) rfl rfl ?_
     obtain ⟨r3, hr3, h1⟩ := bnd_e h1
     refine St.callV (c_version_Met hr3) ent66 rfl rfl rfl rfl ⟨(.tail _ (.head _)), trivial⟩ ?_
     refine St.p rfl rfl ?_
     refine St.done ?_
     refine St.thenN ?_
     refine St.prune (Γ' := [(0, _), (6, _), (14, _), (15, _), (16, _), (24, _)]) ⟨rfl, rfl, rfl, rfl, rfl, rfl, trivial⟩ (.d (.k (.k .z))) ?_
     refine St.cond _ rfl (fun hb4 => ?_) (fun hb4 => ?_)
     ·replace h1 := bif_t hb4 h1
      refine St.seq ?_
      refine St.region ?_
      iterate 3 refine St.p rfl rfl ?_
      refine St.done ?_
      refine St.thenN ?_
      refine St.prune (Γ' := [(4, _), (5, _)]) ⟨rfl, rfl, trivial⟩ (.d (.d .z)) ?_
      refine St.ret ?_
      repeat (first | refine St.thenR ?_ | refine St.blkR ?_)
      injection h1 with h1
      subst h1
      have ho := hd1 _ rfl
      subst ho
      have h : some _ = some _ := h
      injection h with h
      subst h
      exact St.finR Try.results39 (.tmp rfl (.tmp rfl .nil)) rfl [] ⟨rfl, rfl⟩ (fun _ w => (.z : Keep _ _).sat w)
     ·replace h1 := bif_f hb4 h1
      refine St.skip ?_
      refine St.blkN ?_
      refine St.thenN ?_
      refine St.prune (Γ' := [(0, _), (14, _), (15, _), (16, _)]) ⟨rfl, rfl, rfl, rfl, trivial⟩ (.k (.k .z)) ?_
      refine St.region ?_
      refine St.p rfl rfl ?_
      refine St.p rfl rfl ?_
      refine St.done ?_
      injection h1 with h1
      subst h1
      refine St.thenN ?_
      exact St.again _ () hm1 trivial ⟨rfl, rfl, rfl, rfl, trivial⟩ (fun _ w => ((.k (.k .z)) : Keep _ _).sat w)
    ·replace h1 := bif_f hb3 h1
     refine St.exit ?_
     repeat (first | refine St.thenX ?_ | refine St.blkMiss rfl ?_)
     refine St.blkHit ?_
     injection h1 with h1
     subst h1
     have ho := hd1 _ rfl
     subst ho
     refine St.thenN ?_
     exact St.hereI () () rfl trivial (fun _ w => ((.d (.d .z)) : Keep _ _).sat w)
   ·rintro o2 e2 ho
    subst ho
    have h : _ = some _ := h
    refine St.seq ?_
    refine St.region ?_
    refine St.p rfl rfl ?_
    refine St.p rfl rfl ?_
    refine St.done ?_
    refine St.thenN ?_
    refine St.ret ?_
    repeat (first | refine St.thenR ?_ | refine St.blkR ?_)
    injection h with h
    subst h
    exact St.finR Try.results39 (.tmp rfl (.tmp rfl .nil)) rfl [] ⟨rfl, rfl⟩ (fun _ w => (.z : Keep _ _).sat w)

theorem ent13 : Ent Try.prog 13 := ⟨_, Try.func13, by kernel_rfl, by kernel_rfl⟩

noncomputable def m_bundle_Valid (b_p0 : T_Bundle) : Option Int :=
 bnd ((bif decide ((b_p0.Images.length : Int) < 1) then (some true) else (some (decide ((b_p0.Images.length : Int) > 8))) : Option Bool)) fun o1 => bif o1 then (some 2) else (bnd (loopM (τ := Int ⊕ Unit) (fun (s1 : Int) => bif decide (s1 < (b_p0.Images.length : Int)) then (bnd (elt b_p0.Images s1) fun x1 => bnd (m_bundle_Right x1) fun r1 => bif !r1 then (some (.done (.inl 1))) else (bnd ((bif decide (s1 > 0) then (bnd (elt b_p0.Images (IntKind.wrap .i64 (s1 - 1))) fun x2 => some (Op.bytesLess x1.Name.toList x2.Name.toList || (x1.Name.toList == x2.Name.toList))) else (some false) : Option Bool)) fun o4 => bif o4 then (some (.done (.inl 7))) else (some (.next (IntKind.wrap .i64 (s1 + 1)))))) else (some (.done (.inr ())))) 0) fun o2 => retOr o2 fun o3 => bif decide ((b_p0.Needs.length : Int) > 16) then (some 3) else (bnd (m_version_Check ([]) b_p0.Needs) fun r2 => bif (r2.2 != 0) then (some 1) else (some 0)))

set_option maxHeartbeats 4000000 in
theorem c_bundle_Valid {b_p0 : T_Bundle} {A1 : Option Addr} {c1 : Nat} {A2 : Option Addr} {c2 : Nat} {r : Int} (h : m_bundle_Valid b_p0 = some r) :
  Fun Try.prog 13 [.agg #[.slice A1 b_p0.Images.length c1, .slice A2 b_p0.Needs.length c2]] [.ro (Sl (codL l_T_Image) A1 c1 b_p0.Images), .ro (SlL e_Need A2 c2 b_p0.Needs)] (Val (.int .i64 r)) := by
 unfold m_bundle_Valid at h
 refine Fun.intro Try.func13 rfl rfl rfl fun w R => ?_
 refine St.seq ?_
 refine St.region ?_
 refine St.box rfl rfl fun g1 => ?_
 refine St.p rfl rfl ?_
 refine St.done ?_
 refine St.thenN ?_
 refine St.prune (Γ' := [(1, _)]) ⟨rfl, trivial⟩ (.k (.k (.k .z))) ?_
 refine St.seq ?_
 refine St.seq ?_
 obtain ⟨o1, hj1, h⟩ := bnd_e h
 refine St.cutE (fun (e1 : Unit) => [(1, .pointer (some ⟨g1, 0, none⟩)), (16, .bool o1)]) (fun e1 => .res (Box g1 26 [.slice A1 b_p0.Images.length c1, .slice A2 b_p0.Needs.length c2]) :: .ro (Sl (codL l_T_Image) A1 c1 b_p0.Images) :: .ro (SlL e_Need A2 c2 b_p0.Needs) :: R) ?_ ?_
 ·refine St.region ?_
  refine St.p rfl rfl ?_
  refine St.loadB 0 rfl rfl (.head _) rfl rfl ?_
  iterate 3 refine St.p rfl rfl ?_
  refine St.gSplit (dj := 11) _ rfl (fun hb1 => ?_) (fun hb1 => ?_)
  ·replace hj1 := bif_t hb1 hj1
   refine St.gOff (dj := 11) rfl rfl rfl rfl ?_
   refine St.gOff (dj := 11) rfl rfl rfl rfl ?_
   refine St.gOff (dj := 11) rfl rfl rfl rfl ?_
   refine St.gOff (dj := 11) rfl rfl rfl rfl ?_
   refine St.p rfl rfl ?_
   refine St.done ?_
   injection hj1 with hj1
   subst hj1
   refine St.thenN ?_
   exact St.hereE () ⟨rfl, rfl, trivial⟩ (fun _ w => ((.k (.k (.k .z))) : Keep _ _).sat w)
  ·replace hj1 := bif_f hb1 hj1
   refine St.gOn (dj := 11) rfl rfl ?_
   refine St.p rfl rfl ?_
   refine St.gOn (dj := 11) rfl rfl ?_
   refine St.loadB 0 rfl rfl (.head _) rfl rfl ?_
   refine St.gOn (dj := 11) rfl rfl ?_
   refine St.p rfl rfl ?_
   refine St.gOn (dj := 11) rfl rfl ?_
   refine St.p rfl rfl ?_
   refine St.p rfl rfl ?_
   refine St.done ?_
   injection hj1 with hj1
   subst hj1
   refine St.thenN ?_
   exact St.hereE () ⟨rfl, rfl, trivial⟩ (fun _ w => ((.k (.k (.k .z))) : Keep _ _).sat w)
 ·rintro e1
  refine St.cond _ rfl (fun hb2 => ?_) (fun hb2 => ?_)
  ·replace h := bif_t hb2 h
   refine St.seq ?_
   refine St.region ?_
   refine St.p rfl rfl ?_
   refine St.done ?_
   refine St.thenN ?_
   refine St.prune (Γ' := [(2, _)]) ⟨rfl, trivial⟩ (.d (.d (.d .z))) ?_
   refine St.ret ?_
   repeat (first | refine St.thenR ?_ | refine St.blkR ?_)
   injection h with h
   subst h
   exact St.finR Try.results13 (.tmp rfl .nil) rfl [] ⟨rfl, rfl⟩ (fun _ w => (.z : Keep _ _).sat w)
  ·replace h := bif_f hb2 h
   refine St.skip ?_
   refine St.thenN ?_
   refine St.prune (Γ' := [(1, _)]) ⟨rfl, trivial⟩ (.k (.k (.k .z))) ?_
   refine St.seq ?_
   refine St.seq ?_
   refine St.region ?_
   refine St.p rfl rfl ?_
   refine St.loadB 0 rfl rfl (.head _) rfl rfl ?_
   refine St.p rfl rfl ?_
   refine St.p rfl rfl ?_
   refine St.done ?_
   refine St.thenN ?_
   refine St.prune (Γ' := [(1, _), (18, _), (19, _), (20, _)]) ⟨rfl, rfl, rfl, rfl, trivial⟩ (.k (.k (.k .z))) ?_
   obtain ⟨o2, hl1, h⟩ := bnd_e h
   refine St.cutI (fun (o3 : Unit) (e3 : Unit) => [(1, .pointer (some ⟨g1, 0, none⟩))]) (fun o3 e3 => .res (Box g1 26 [.slice A1 b_p0.Images.length c1, .slice A2 b_p0.Needs.length c2]) :: .ro (Sl (codL l_T_Image) A1 c1 b_p0.Images) :: .ro (SlL e_Need A2 c2 b_p0.Needs) :: R) (fun o3 => o2 = .inr o3) ?_ ?_
   ·refine St.block ?_
    refine St.loop hl1 (fun (s1 : Int) (e2 : Unit) => [(1, .pointer (some ⟨g1, 0, none⟩)), (18, .slice A1 b_p0.Images.length c1), (19, .int .i64 (b_p0.Images.length : Int)), (20, .int .i64 s1)]) (fun s1 e2 => .res (Box g1 26 [.slice A1 b_p0.Images.length c1, .slice A2 b_p0.Needs.length c2]) :: .ro (Sl (codL l_T_Image) A1 c1 b_p0.Images) :: .ro (SlL e_Need A2 c2 b_p0.Needs) :: R) (fun _ _ => True) () trivial ⟨rfl, rfl, rfl, rfl, trivial⟩ (fun _ w => ((.k (.k (.k .z))) : Keep _ _).sat w) ?_
    rintro s1 e2 - hit1
    obtain ⟨st1, hm1, hd1⟩ := iter_e hit1
    have h1 := hm1
    refine St.seq ?_
    refine St.region ?_
    refine St.p rfl rfl ?_
    refine St.done ?_
    refine St.thenN ?_
    refine St.seq ?_
    refine St.cond _ rfl (fun hb3 => ?_) (fun hb3 => ?_)
    ·replace h1 := bif_t hb3 h1
     refine St.skip ?_
     refine St.thenN ?_
     refine St.prune (Γ' := [(1, _), (18, _), (19, _), (20, _)]) ⟨rfl, rfl, rfl, rfl, trivial⟩ (.k (.k (.k .z))) ?_
     refine St.seq ?_
     refine St.block ?_
     refine St.seq ?_
     refine St.region ?_
     refine St.p rfl rfl ?_
     obtain ⟨x1, hx1, h1⟩ := bnd_e h1
     refine St.ixN hx1 rfl rfl rfl (.tail _ (.head _)) rfl rfl rfl rfl rfl fun b1 ob1 ex1 => ?_
     obtain ⟨⟨A3, c3⟩, _⟩ := ex1
     refine St.asrt (F' := .ro (Cells b1 ob1 (bx_T_Image x1 A3 c3)) :: .ro (SlL eu8 A3 c3 x1.Data) :: .res (Box g1 26 [.slice A1 b_p0.Images.length c1, .slice A2 b_p0.Needs.length c2]) :: .ro (Sl (codL l_T_Image) A1 c1 b_p0.Images) :: .ro (SlL e_Need A2 c2 b_p0.Needs) :: R) (fun _ w => w) ?_
     refine St.load ob1 0 rfl rfl (.head _) rfl rfl ?_
     refine St.alloc rfl rfl fun g2 => ?_
     refine St.p rfl rfl ?_
     refine St.store 0 rfl rfl rfl rfl rfl rfl .z rfl ?_
     refine St.done ?_
     refine St.thenN ?_
     refine St.prune (Γ' := [(1, _), (3, _), (4, _), (18, _), (19, _), (20, _)]) ⟨rfl, rfl, rfl, rfl, rfl, rfl, trivial⟩ (.k (.d (.k (.k (.k (.k .z)))))) ?_
     refine St.seq ?_
     refine St.seq ?_
     refine St.region ?_
     refine St.loadB 0 rfl rfl (.head _) rfl rfl ?_
     obtain ⟨r1, hr1, h1⟩ := bnd_e h1
     refine St.callV (c_bundle_Right hr1) ent17 rfl rfl rfl rfl ⟨(.tail _ (.head _)), trivial⟩ ?_
     refine St.p rfl rfl ?_
     refine St.done ?_
     refine St.thenN ?_
     refine St.prune (Γ' := [(1, _), (3, _), (4, _), (18, _), (19, _), (20, _), (27, _)]) ⟨rfl, rfl, rfl, rfl, rfl, rfl, rfl, trivial⟩ (.k (.k (.k (.k (.k .z))))) ?_
     refine St.cond _ rfl (fun hb4 => ?_) (fun hb4 => ?_)
     ·replace h1 := bif_t hb4 h1
      refine St.seq ?_
      refine St.region ?_
      refine St.p rfl rfl ?_
      refine St.done ?_
      refine St.thenN ?_
      refine St.prune (Γ' := [(2, _)]) ⟨rfl, trivial⟩ (.d (.d (.d (.d (.d .z))))) ?_
      refine St.ret ?_
      repeat (first | refine St.thenR ?_ | refine St.blkR ?_)
      injection h1 with h1
      subst h1
      have ho := hd1 _ rfl
      subst ho
      have h : some _ = some _ := h
      injection h with h
      subst h
      exact St.finR Try.results13 (.tmp rfl .nil) rfl [] ⟨rfl, rfl⟩ (fun _ w => (.z : Keep _ _).sat w)
     ·replace h1 := bif_f hb4 h1
      refine St.skip ?_
      refine St.thenN ?_
      refine St.prune (Γ' := [(1, _), (3, _), (4, _), (18, _), (19, _), (20, _)]) ⟨rfl, rfl, rfl, rfl, rfl, rfl, trivial⟩ (.k (.k (.k (.k (.k .z))))) ?_
      refine St.seq ?_
      obtain ⟨o4, hj2, h1⟩ := bnd_e h1
      refine St.cutE (fun (e4 : Unit) => [(1, .pointer (some ⟨g1, 0, none⟩)), (18, .slice A1 b_p0.Images.length c1), (19, .int .i64 (b_p0.Images.length : Int)), (20, .int .i64 s1), (41, .bool o4)]) (fun e4 => .res (Box g1 26 [.slice A1 b_p0.Images.length c1, .slice A2 b_p0.Needs.length c2]) :: .ro (Sl (codL l_T_Image) A1 c1 b_p0.Images) :: .ro (SlL e_Need A2 c2 b_p0.Needs) :: R) ?_ ?_
      ·refine St.regionF mixed (by kernel_rfl) ?_
       iterate 3 refine St.p rfl rfl ?_
       refine St.gSplit (dj := 30) _ rfl (fun hb5 => ?_) (fun hb5 => ?_)
       ·replace hj2 := bif_t hb5 hj2
        refine St.gOn (dj := 30) rfl rfl ?_
        refine St.p rfl rfl ?_
        refine St.gOn (dj := 30) rfl rfl ?_
        refine St.loadB 0 rfl rfl (.head _) rfl rfl ?_
        refine St.gOn (dj := 30) rfl rfl ?_
        refine St.p rfl rfl ?_
        refine St.gOn (dj := 30) rfl rfl ?_
        refine St.loadB 0 rfl rfl (.tail _ (.tail _ (.head _))) rfl rfl ?_
        refine St.gOn (dj := 30) rfl rfl ?_
        refine St.p rfl rfl ?_
        refine St.gOn (dj := 30) rfl rfl ?_
        refine St.p rfl rfl ?_
        refine St.gOn (dj := 30) rfl rfl ?_
        obtain ⟨x2, hx2, hj2⟩ := bnd_e hj2
        refine St.ixN hx2 rfl rfl rfl (.tail _ (.tail _ (.tail _ (.head _)))) rfl rfl rfl rfl rfl fun b2 ob2 ex2 => ?_
        obtain ⟨⟨A4, c4⟩, _⟩ := ex2
        refine St.asrt (F' := .ro (Cells b2 ob2 (bx_T_Image x2 A4 c4)) :: .ro (SlL eu8 A4 c4 x2.Data) :: .res (Box g2 41 (bx_T_Image x1 A3 c3)) :: .ro (SlL eu8 A3 c3 x1.Data) :: .res (Box g1 26 [.slice A1 b_p0.Images.length c1, .slice A2 b_p0.Needs.length c2]) :: .ro (Sl (codL l_T_Image) A1 c1 b_p0.Images) :: .ro (SlL e_Need A2 c2 b_p0.Needs) :: R) (fun _ w => w) ?_
        refine St.gOn (dj := 30) rfl rfl ?_
        refine St.p rfl rfl ?_
        refine St.gOn (dj := 30) rfl rfl ?_
        refine St.load ob2 0 rfl rfl (.head _) rfl rfl ?_
        refine St.gOn (dj := 30) rfl rfl ?_
        refine St.p rfl rfl ?_
        refine St.p rfl rfl ?_
        refine St.doneQ ?_
        injection hj2 with hj2
        subst hj2
        refine St.thenN ?_
        exact St.hereE () ⟨rfl, rfl, rfl, rfl, rfl, trivial⟩ (fun _ w => ((.d (.d (.d (.d (.k (.k (.k .z))))))) : Keep _ _).sat w)
       ·replace hj2 := bif_f hb5 hj2
        refine St.gOff (dj := 30) rfl rfl rfl rfl ?_
        refine St.gOff (dj := 30) rfl rfl rfl rfl ?_
        refine St.gOff (dj := 30) rfl rfl rfl rfl ?_
        refine St.gOff (dj := 30) rfl rfl rfl rfl ?_
        refine St.gOff (dj := 30) rfl rfl rfl rfl ?_
        refine St.gOff (dj := 30) rfl rfl rfl rfl ?_
        refine St.gOff (dj := 30) rfl rfl rfl rfl ?_
        refine St.gOff (dj := 30) rfl rfl rfl rfl ?_
        refine St.gOff (dj := 30) rfl rfl rfl rfl ?_
        refine St.gOff (dj := 30) rfl rfl rfl rfl ?_
        refine St.p rfl rfl ?_
        refine St.doneQ ?_
        injection hj2 with hj2
        subst hj2
        refine St.thenN ?_
        exact St.hereE () ⟨rfl, rfl, rfl, rfl, rfl, trivial⟩ (fun _ w => ((.d (.d (.k (.k (.k .z))))) : Keep _ _).sat w)
      ·rintro e4
       refine St.cond _ rfl (fun hb6 => ?_) (fun hb6 => ?_)
       ·replace h1 := bif_t hb6 h1
        refine St.seq ?_
        refine St.region ?_
        refine St.p rfl rfl ?_
        refine St.done ?_
        refine St.thenN ?_
        refine St.prune (Γ' := [(2, _)]) ⟨rfl, trivial⟩ (.d (.d (.d .z))) ?_
        refine St.ret ?_
        repeat (first | refine St.thenR ?_ | refine St.blkR ?_)
        injection h1 with h1
        subst h1
        have ho := hd1 _ rfl
        subst ho
        have h : some _ = some _ := h
        injection h with h
        subst h
        exact St.finR Try.results13 (.tmp rfl .nil) rfl [] ⟨rfl, rfl⟩ (fun _ w => (.z : Keep _ _).sat w)
       ·replace h1 := bif_f hb6 h1
        refine St.skip ?_
        refine St.blkN ?_
        refine St.thenN ?_
        refine St.prune (Γ' := [(1, _), (18, _), (19, _), (20, _)]) ⟨rfl, rfl, rfl, rfl, trivial⟩ (.k (.k (.k .z))) ?_
        refine St.region ?_
        refine St.p rfl rfl ?_
        refine St.p rfl rfl ?_
        refine St.done ?_
        injection h1 with h1
        subst h1
        refine St.thenN ?_
        exact St.again _ () hm1 trivial ⟨rfl, rfl, rfl, rfl, trivial⟩ (fun _ w => ((.k (.k (.k .z))) : Keep _ _).sat w)
    ·replace h1 := bif_f hb3 h1
     refine St.exit ?_
     repeat (first | refine St.thenX ?_ | refine St.blkMiss rfl ?_)
     refine St.blkHit ?_
     injection h1 with h1
     subst h1
     have ho := hd1 _ rfl
     subst ho
     refine St.thenN ?_
     exact St.hereI () () rfl ⟨rfl, trivial⟩ (fun _ w => ((.k (.k (.k .z))) : Keep _ _).sat w)
   ·rintro o3 e3 ho
    subst ho
    have h : _ = some _ := h
    refine St.seq ?_
    refine St.seq ?_
    refine St.region ?_
    refine St.p rfl rfl ?_
    refine St.loadB 1 rfl rfl (.head _) rfl rfl ?_
    refine St.p rfl rfl ?_
    refine St.p rfl rfl ?_
    refine St.done ?_
    refine St.thenN ?_
    refine St.prune (Γ' := [(1, _), (46, _)]) ⟨rfl, rfl, trivial⟩ (.k (.k (.k .z))) ?_
    refine St.cond _ rfl (fun hb7 => ?_) (fun hb7 => ?_)
    ·replace h := bif_t hb7 h
     refine St.seq ?_
     refine St.region ?_
     refine St.p rfl rfl ?_
     refine St.done ?_
     refine St.thenN ?_
     refine St.prune (Γ' := [(2, _)]) ⟨rfl, trivial⟩ (.d (.d (.d .z))) ?_
     refine St.ret ?_
     repeat (first | refine St.thenR ?_ | refine St.blkR ?_)
     injection h with h
     subst h
     exact St.finR Try.results13 (.tmp rfl .nil) rfl [] ⟨rfl, rfl⟩ (fun _ w => (.z : Keep _ _).sat w)
    ·replace h := bif_f hb7 h
     refine St.skip ?_
     refine St.thenN ?_
     refine St.prune (Γ' := [(1, _)]) ⟨rfl, trivial⟩ (.k (.k (.k .z))) ?_
     refine St.seq ?_
     refine St.seq ?_
     refine St.region ?_
     refine St.p rfl rfl ?_
     refine St.loadB 1 rfl rfl (.head _) rfl rfl ?_
     refine St.asrt (fun _ w => w.nilSl (cod e_Installed)) ?_
     obtain ⟨r2, hr2, h⟩ := bnd_e h
     refine St.callV (c_version_Check hr2) ent39 rfl rfl rfl rfl ⟨(.head _), (.tail _ (.tail _ (.tail _ (.head _)))), trivial⟩ ?_
     iterate 5 refine St.p rfl rfl ?_
     refine St.done ?_
     refine St.thenN ?_
     refine St.prune (Γ' := [(6, _)]) ⟨rfl, trivial⟩ (.d (.d (.d (.d .z)))) ?_
     refine St.seq ?_
     refine St.region ?_
     refine St.p rfl rfl ?_
     refine St.p rfl rfl ?_
     refine St.done ?_
     refine St.thenN ?_
     refine St.prune (Γ' := [(54, _)]) ⟨rfl, trivial⟩ .z ?_
     refine St.cond _ rfl (fun hb8 => ?_) (fun hb8 => ?_)
     ·replace h := bif_t hb8 h
      refine St.seq ?_
      refine St.region ?_
      refine St.p rfl rfl ?_
      refine St.done ?_
      refine St.thenN ?_
      refine St.prune (Γ' := [(2, _)]) ⟨rfl, trivial⟩ .z ?_
      refine St.ret ?_
      repeat (first | refine St.thenR ?_ | refine St.blkR ?_)
      injection h with h
      subst h
      exact St.finR Try.results13 (.tmp rfl .nil) rfl [] ⟨rfl, rfl⟩ (fun _ w => (.z : Keep _ _).sat w)
     ·replace h := bif_f hb8 h
      refine St.skip ?_
      refine St.thenN ?_
      refine St.prune (Γ' := []) trivial .z ?_
      refine St.seq ?_
      refine St.region ?_
      refine St.p rfl rfl ?_
      refine St.done ?_
      refine St.thenN ?_
      refine St.ret ?_
      repeat (first | refine St.thenR ?_ | refine St.blkR ?_)
      injection h with h
      subst h
      exact St.finR Try.results13 (.tmp rfl .nil) rfl [] ⟨rfl, rfl⟩ (fun _ w => (.z : Keep _ _).sat w)

theorem ent33 : Ent Try.prog 33 := ⟨_, Try.func33, by kernel_rfl, by kernel_rfl⟩

noncomputable def m_bundle_text (b_p0 : (List Int)) (s_p1 : ByteArray) : Option (List Int) :=
 bnd (app 1 b_p0 [IntKind.wrap .u8 (s_p1.size : Int)]) fun l1 => bnd (app 1 l1 (bytesOf s_p1)) fun l2 => some l2

theorem c_bundle_text {b_p0 : (List Int)} {s_p1 : ByteArray} {A1 : Option Addr} {c1 : Nat} {r : (List Int)} (h : m_bundle_text b_p0 s_p1 = some r) :
  Fun Try.prog 33 [.slice A1 b_p0.length c1, .string s_p1] [.res (OwnL eu8 5 A1 c1 b_p0)] (fun v_ F_ => ∃ (A1 : Option Addr) (c1 : Nat), v_ = .slice A1 r.length c1 ∧ F_ = [.res (OwnL eu8 5 A1 c1 r)]) := by
 unfold m_bundle_text at h
 refine Fun.intro Try.func33 rfl rfl rfl fun w R => ?_
 refine St.seq ?_
 refine St.region ?_
 refine St.p rfl rfl ?_
 refine St.done ?_
 refine St.thenN ?_
 refine St.prune (Γ' := [(0, _), (1, _)]) ⟨rfl, rfl, trivial⟩ (.k .z) ?_
 refine St.seq ?_
 refine St.region ?_
 iterate 4 refine St.p rfl rfl ?_
 refine St.buildSlice rfl rfl rfl rfl rfl rfl rfl rfl fun g1 => ?_
 obtain ⟨l1, hl1, h⟩ := bnd_e h
 refine St.app (E := eu8) hl1 rfl rfl rfl (.s .z) rfl rfl rfl rfl rfl rfl rfl rfl (srcB (.head _) rfl rfl) rfl rfl fun A2 c2 => ?_
 refine St.p rfl rfl ?_
 obtain ⟨l2, hl2, h⟩ := bnd_e h
 refine St.app (E := eu8) hl2 rfl rfl rfl .z rfl rfl rfl rfl rfl rfl rfl (by simp [bytesOf, ByteArray.toList_eq]) (srcS s_p1) rfl rfl fun A3 c3 => ?_
 refine St.p rfl rfl ?_
 refine St.done ?_
 refine St.thenN ?_
 refine St.prune (Γ' := [(4, _)]) ⟨rfl, trivial⟩ (.k (.d .z)) ?_
 refine St.ret ?_
 repeat (first | refine St.thenR ?_ | refine St.blkR ?_)
 injection h with h
 subst h
 exact St.finR Try.results33 (.tmp rfl .nil) rfl [.res (OwnL eu8 5 A3 c3 l2)] ⟨A3, c3, rfl, rfl⟩ (fun _ w => ((.k .z) : Keep _ _).sat w)

theorem ent62 : Ent Try.prog 62 := ⟨_, Try.func62, by kernel_rfl, by kernel_rfl⟩

noncomputable def m_bundle_short (b_p0 : (List Int)) (n_p1 : Int) : Option (List Int) :=
 bnd (app 1 b_p0 [IntKind.wrap .u8 (iShr .i64 n_p1 8), IntKind.wrap .u8 n_p1]) fun l1 => some l1

theorem c_bundle_short {b_p0 : (List Int)} {n_p1 : Int} {A1 : Option Addr} {c1 : Nat} {r : (List Int)} (h : m_bundle_short b_p0 n_p1 = some r) :
  Fun Try.prog 62 [.slice A1 b_p0.length c1, .int .i64 n_p1] [.res (OwnL eu8 5 A1 c1 b_p0)] (fun v_ F_ => ∃ (A1 : Option Addr) (c1 : Nat), v_ = .slice A1 r.length c1 ∧ F_ = [.res (OwnL eu8 5 A1 c1 r)]) := by
 unfold m_bundle_short at h
 refine Fun.intro Try.func62 rfl rfl rfl fun w R => ?_
 refine St.seq ?_
 refine St.region ?_
 refine St.p rfl rfl ?_
 refine St.done ?_
 refine St.thenN ?_
 refine St.prune (Γ' := [(0, _), (1, _)]) ⟨rfl, rfl, trivial⟩ (.k .z) ?_
 refine St.seq ?_
 refine St.region ?_
 iterate 6 refine St.p rfl rfl ?_
 refine St.buildSlice rfl rfl rfl rfl rfl rfl rfl rfl fun g1 => ?_
 obtain ⟨l1, hl1, h⟩ := bnd_e h
 refine St.app (E := eu8) hl1 rfl rfl rfl (.s .z) rfl rfl rfl rfl rfl rfl rfl rfl (srcB (.head _) rfl rfl) rfl rfl fun A2 c2 => ?_
 refine St.p rfl rfl ?_
 refine St.done ?_
 refine St.thenN ?_
 refine St.prune (Γ' := [(4, _)]) ⟨rfl, trivial⟩ (.k (.d .z)) ?_
 refine St.ret ?_
 repeat (first | refine St.thenR ?_ | refine St.blkR ?_)
 injection h with h
 subst h
 exact St.finR Try.results62 (.tmp rfl .nil) rfl [.res (OwnL eu8 5 A2 c2 l1)] ⟨A2, c2, rfl, rfl⟩ (fun _ w => ((.k .z) : Keep _ _).sat w)

theorem ent32 : Ent Try.prog 32 := ⟨_, Try.func32, by kernel_rfl, by kernel_rfl⟩

noncomputable def m_bundle_numbers (b_p0 : (List Int)) (v_p1 : T_Version) : Option (List Int) :=
 bnd (m_bundle_short b_p0 v_p1.Major) fun r1 => bnd (m_bundle_short r1 v_p1.Minor) fun r2 => bnd (m_bundle_short r2 v_p1.Patch) fun r3 => some r3

theorem c_bundle_numbers {b_p0 : (List Int)} {v_p1 : T_Version} {A1 : Option Addr} {c1 : Nat} {r : (List Int)} (h : m_bundle_numbers b_p0 v_p1 = some r) :
  Fun Try.prog 32 [.slice A1 b_p0.length c1, .agg #[.int .i64 v_p1.Major, .int .i64 v_p1.Minor, .int .i64 v_p1.Patch]] [.res (OwnL eu8 5 A1 c1 b_p0)] (fun v_ F_ => ∃ (A1 : Option Addr) (c1 : Nat), v_ = .slice A1 r.length c1 ∧ F_ = [.res (OwnL eu8 5 A1 c1 r)]) := by
 unfold m_bundle_numbers at h
 refine Fun.intro Try.func32 rfl rfl rfl fun w R => ?_
 refine St.seq ?_
 refine St.region ?_
 refine St.box rfl rfl fun g1 => ?_
 refine St.p rfl rfl ?_
 refine St.done ?_
 refine St.thenN ?_
 refine St.prune (Γ' := [(0, _), (3, _)]) ⟨rfl, rfl, trivial⟩ (.k (.k .z)) ?_
 refine St.seq ?_
 refine St.regionX (iL [(.fl, 0), (.fl, 1), (.fx, 2), (.fl, 4), (.fl, 5), (.fl, 7), (.fl, 8), (.ef, 3), (.ef, 6), (.ef, 9), (.fl, 10)] .nil) (.res (Box g1 39 [.int .i64 v_p1.Major, .int .i64 v_p1.Minor, .int .i64 v_p1.Patch]) :: R) mixed (by kernel_rfl) (fun _ w => ((.k (.d .z)) : Keep _ _).sat w) ?_
 refine St.xfl (fun _ h => h) (Rd.p rfl) rfl ?_
 refine St.xfl (fun _ h => h) (Rd.p rfl) rfl ?_
 refine St.xfx (Rd.loadB 0 rfl (.head _) rfl rfl) rfl ?_
 refine St.xfl (fun _ h => h) (Rd.p rfl) rfl ?_
 refine St.xfl (fun _ h => h) (Rd.loadB 1 rfl (.head _) rfl rfl) rfl ?_
 refine St.xfl (fun _ h => h) (Rd.p rfl) rfl ?_
 refine St.xfl (fun _ h => h) (Rd.loadB 2 rfl (.head _) rfl rfl) rfl ?_
 refine St.xef ?_
 obtain ⟨r1, hr1, h⟩ := bnd_e h
 refine St.call (c_bundle_short hr1) ent62 rfl rfl rfl (fun _ w => (w.front (.s .z))) ?_
 rintro _ _ ⟨A2, c2, rfl, rfl⟩
 refine St.asrt (F' := .res (OwnL eu8 5 A2 c2 r1) :: .res (Box g1 39 [.int .i64 v_p1.Major, .int .i64 v_p1.Minor, .int .i64 v_p1.Patch]) :: R) (fun _ w => w) ?_
 refine St.xk (fun _ w => ((.d (.k .z)) : Keep _ _).sat w) ?_
 refine St.xef ?_
 obtain ⟨r2, hr2, h⟩ := bnd_e h
 refine St.call (c_bundle_short hr2) ent62 rfl rfl rfl (fun _ w => (w.front .z)) ?_
 rintro _ _ ⟨A3, c3, rfl, rfl⟩
 refine St.asrt (F' := .res (OwnL eu8 5 A3 c3 r2) :: .res (Box g1 39 [.int .i64 v_p1.Major, .int .i64 v_p1.Minor, .int .i64 v_p1.Patch]) :: R) (fun _ w => w) ?_
 refine St.xk (fun _ w => ((.d (.k .z)) : Keep _ _).sat w) ?_
 refine St.xef ?_
 obtain ⟨r3, hr3, h⟩ := bnd_e h
 refine St.call (c_bundle_short hr3) ent62 rfl rfl rfl (fun _ w => (w.front .z)) ?_
 rintro _ _ ⟨A4, c4, rfl, rfl⟩
 refine St.asrt (F' := .res (OwnL eu8 5 A4 c4 r3) :: .res (Box g1 39 [.int .i64 v_p1.Major, .int .i64 v_p1.Minor, .int .i64 v_p1.Patch]) :: R) (fun _ w => w) ?_
 refine St.xk (fun _ w => ((.d (.k .z)) : Keep _ _).sat w) ?_
 refine St.xfl (fun _ h => h) (Rd.p rfl) rfl ?_
 refine St.xdone ?_
 refine St.thenN ?_
 refine St.prune (Γ' := [(4, _)]) ⟨rfl, trivial⟩ (.k (.d .z)) ?_
 refine St.ret ?_
 repeat (first | refine St.thenR ?_ | refine St.blkR ?_)
 injection h with h
 subst h
 exact St.finR Try.results32 (.tmp rfl .nil) rfl [.res (OwnL eu8 5 A4 c4 r3)] ⟨A4, c4, rfl, rfl⟩ (fun _ w => ((.k .z) : Keep _ _).sat w)

theorem ent31 : Ent Try.prog 31 := ⟨_, Try.func31, by kernel_rfl, by kernel_rfl⟩

noncomputable def m_bundle_bytes (i_p0 : T_Image) : Option (List Int) :=
 bnd (m_bundle_text ([]) i_p0.Name) fun r1 => bnd (m_bundle_numbers r1 i_p0.Version) fun r2 => bnd (m_bundle_short r2 (i_p0.Data.length : Int)) fun r3 => bnd (app 1 r3 i_p0.Data) fun l1 => some l1

theorem c_bundle_bytes {i_p0 : T_Image} {A1 : Option Addr} {c1 : Nat} {r : (List Int)} (h : m_bundle_bytes i_p0 = some r) :
  Fun Try.prog 31 [.agg (bx_T_Image i_p0 A1 c1).toArray] [.ro (SlL eu8 A1 c1 i_p0.Data)] (fun v_ F_ => ∃ (A1 : Option Addr) (c1 : Nat), v_ = .slice A1 r.length c1 ∧ F_ = [.res (OwnL eu8 5 A1 c1 r)]) := by
 unfold m_bundle_bytes at h
 refine Fun.intro Try.func31 rfl rfl rfl fun w R => ?_
 refine St.seq ?_
 refine St.region ?_
 refine St.box rfl rfl fun g1 => ?_
 refine St.p rfl rfl ?_
 refine St.done ?_
 refine St.thenN ?_
 refine St.prune (Γ' := [(1, _)]) ⟨rfl, trivial⟩ (.k (.k .z)) ?_
 refine St.seq ?_
 refine St.regionX (iL [(.fl, 0), (.fx, 1), (.fl, 3), (.fl, 4), (.fl, 6), (.fl, 7), (.fl, 8), (.fl, 10), (.fl, 11), (.ef, 2), (.ef, 5), (.ef, 9), (.ef, 12), (.fl, 13)] .nil) (.res (Box g1 41 (bx_T_Image i_p0 A1 c1)) :: .ro (SlL eu8 A1 c1 i_p0.Data) :: R) mixed (by kernel_rfl) (fun _ w => ((.k (.k .z)) : Keep _ _).sat w) ?_
 refine St.xfl (fun _ h => h) (Rd.p rfl) rfl ?_
 refine St.xfx (Rd.loadB 0 rfl (.head _) rfl rfl) rfl ?_
 refine St.xfl (fun _ h => h) (Rd.p rfl) rfl ?_
 refine St.xfl (fun _ h => h) (Rd.loadB 1 rfl (.head _) rfl rfl) rfl ?_
 refine St.xfl (fun _ h => h) (Rd.p rfl) rfl ?_
 refine St.xfl (fun _ h => h) (Rd.loadB 4 rfl (.head _) rfl rfl) rfl ?_
 refine St.xfl (fun _ h => h) (Rd.p rfl) rfl ?_
 refine St.xfl (fun _ h => h) (Rd.p rfl) rfl ?_
 refine St.xfl (fun _ h => h) (Rd.loadB 4 rfl (.head _) rfl rfl) rfl ?_
 refine St.xef ?_
 refine St.asrt (fun _ w => w.nilL eu8 5) ?_
 obtain ⟨r1, hr1, h⟩ := bnd_e h
 refine St.call (c_bundle_text hr1) ent33 rfl rfl rfl (fun _ w => (w.front .z)) ?_
 rintro _ _ ⟨A2, c2, rfl, rfl⟩
 refine St.asrt (F' := .res (OwnL eu8 5 A2 c2 r1) :: .res (Box g1 41 (bx_T_Image i_p0 A1 c1)) :: .ro (SlL eu8 A1 c1 i_p0.Data) :: R) (fun _ w => w) ?_
 refine St.xk (fun _ w => ((.d (.k (.k .z))) : Keep _ _).sat w) ?_
 refine St.xef ?_
 obtain ⟨r2, hr2, h⟩ := bnd_e h
 refine St.call (c_bundle_numbers hr2) ent32 rfl rfl rfl (fun _ w => (w.front .z)) ?_
 rintro _ _ ⟨A3, c3, rfl, rfl⟩
 refine St.asrt (F' := .res (OwnL eu8 5 A3 c3 r2) :: .res (Box g1 41 (bx_T_Image i_p0 A1 c1)) :: .ro (SlL eu8 A1 c1 i_p0.Data) :: R) (fun _ w => w) ?_
 refine St.xk (fun _ w => ((.d (.k (.k .z))) : Keep _ _).sat w) ?_
 refine St.xef ?_
 obtain ⟨r3, hr3, h⟩ := bnd_e h
 refine St.call (c_bundle_short hr3) ent62 rfl rfl rfl (fun _ w => (w.front .z)) ?_
 rintro _ _ ⟨A4, c4, rfl, rfl⟩
 refine St.asrt (F' := .res (OwnL eu8 5 A4 c4 r3) :: .res (Box g1 41 (bx_T_Image i_p0 A1 c1)) :: .ro (SlL eu8 A1 c1 i_p0.Data) :: R) (fun _ w => w) ?_
 refine St.xk (fun _ w => ((.d (.k (.k .z))) : Keep _ _).sat w) ?_
 refine St.xef ?_
 obtain ⟨l1, hl1, h⟩ := bnd_e h
 refine St.app (E := eu8) hl1 rfl rfl rfl .z rfl rfl rfl rfl rfl rfl rfl rfl (srcL (.tail _ (.tail _ (.head _)))) rfl rfl fun A5 c5 => ?_
 refine St.xk (fun _ w => ((.d (.k (.k .z))) : Keep _ _).sat w) ?_
 refine St.xfl (fun _ h => h) (Rd.p rfl) rfl ?_
 refine St.xdone ?_
 refine St.thenN ?_
 refine St.prune (Γ' := [(2, _)]) ⟨rfl, trivial⟩ (.k (.d (.d .z))) ?_
 refine St.ret ?_
 repeat (first | refine St.thenR ?_ | refine St.blkR ?_)
 injection h with h
 subst h
 exact St.finR Try.results31 (.tmp rfl .nil) rfl [.res (OwnL eu8 5 A5 c5 l1)] ⟨A5, c5, rfl, rfl⟩ (fun _ w => ((.k .z) : Keep _ _).sat w)

theorem ent25 : Ent Try.prog 25 := ⟨_, Try.func25, by kernel_rfl, by kernel_rfl⟩

noncomputable def m_checksum_CRC32 (b_p0 : (List Int)) : Option Int :=
 bnd (loopM (τ := Int) (fun (s1 : Int × Int) => bif decide (s1.2 < (b_p0.length : Int)) then (bnd (elt b_p0 s1.2) fun x1 => bnd (loopM (τ := Int) (fun (s2 : Int × Int) => bif decide (s2.2 < 8) then (some (.next (iXor .u32 (iShr .u32 s2.1 1) (IntKind.wrap .u32 ((iAnd .u32 s2.1 1) * 3988292384)), IntKind.wrap .i64 (s2.2 + 1)))) else (some (.done s2.1))) (iXor .u32 s1.1 (IntKind.wrap .u32 x1), 0)) fun o2 => some (.next (o2, IntKind.wrap .i64 (s1.2 + 1)))) else (some (.done s1.1))) (4294967295, 0)) fun o1 => some (iXor .u32 (if IntKind.signed .u32 then -1 else IntKind.max .u32) o1)

theorem c_checksum_CRC32 {b_p0 : (List Int)} {A1 : Option Addr} {c1 : Nat} {r : Int} (h : m_checksum_CRC32 b_p0 = some r) :
  Fun Try.prog 25 [.slice A1 b_p0.length c1] [.ro (SlL eu8 A1 c1 b_p0)] (Val (.int .u32 r)) := by
 unfold m_checksum_CRC32 at h
 refine Fun.intro Try.func25 rfl rfl rfl fun w R => ?_
 refine St.seq ?_
 refine St.region ?_
 refine St.p rfl rfl ?_
 refine St.done ?_
 refine St.thenN ?_
 refine St.prune (Γ' := [(0, _)]) ⟨rfl, trivial⟩ (.k .z) ?_
 refine St.seq ?_
 refine St.region ?_
 refine St.p rfl rfl ?_
 refine St.done ?_
 refine St.thenN ?_
 refine St.seq ?_
 refine St.seq ?_
 refine St.region ?_
 iterate 3 refine St.p rfl rfl ?_
 refine St.done ?_
 refine St.thenN ?_
 refine St.prune (Γ' := [(3, _), (7, _), (8, _), (9, _)]) ⟨rfl, rfl, rfl, rfl, trivial⟩ (.k .z) ?_
 obtain ⟨o1, hl1, h⟩ := bnd_e h
 refine St.cutE (fun (e2 : Unit) => [(3, .int .u32 o1)]) (fun e2 => R) ?_ ?_
 ·refine St.block ?_
  refine St.loop hl1 (fun (s1 : Int × Int) (e1 : Unit) => [(3, .int .u32 s1.1), (7, .slice A1 b_p0.length c1), (8, .int .i64 (b_p0.length : Int)), (9, .int .i64 s1.2)]) (fun s1 e1 => .ro (SlL eu8 A1 c1 b_p0) :: R) (fun _ _ => True) () trivial ⟨rfl, rfl, rfl, rfl, trivial⟩ (fun _ w => ((.k .z) : Keep _ _).sat w) ?_
  rintro s1 e1 - hit1
  obtain ⟨st1, hm1, hd1⟩ := iter_e hit1
  have h1 := hm1
  refine St.seq ?_
  refine St.region ?_
  refine St.p rfl rfl ?_
  refine St.done ?_
  refine St.thenN ?_
  refine St.seq ?_
  refine St.cond _ rfl (fun hb1 => ?_) (fun hb1 => ?_)
  ·replace h1 := bif_t hb1 h1
   refine St.skip ?_
   refine St.thenN ?_
   refine St.prune (Γ' := [(3, _), (7, _), (8, _), (9, _)]) ⟨rfl, rfl, rfl, rfl, trivial⟩ (.k .z) ?_
   refine St.seq ?_
   refine St.block ?_
   refine St.seq ?_
   refine St.region ?_
   obtain ⟨x1, hx1, h1⟩ := bnd_e h1
   refine St.ixL hx1 rfl rfl rfl (.head _) rfl rfl rfl rfl rfl fun b1 ob1 => ?_
   refine St.load ob1 0 rfl rfl (.head _) rfl rfl ?_
   refine St.p rfl rfl ?_
   refine St.done ?_
   refine St.thenN ?_
   refine St.prune (Γ' := [(3, _), (5, _), (7, _), (8, _), (9, _)]) ⟨rfl, rfl, rfl, rfl, rfl, trivial⟩ (.d (.k .z)) ?_
   refine St.seq ?_
   refine St.region ?_
   iterate 5 refine St.p rfl rfl ?_
   refine St.done ?_
   refine St.thenN ?_
   refine St.prune (Γ' := [(3, _), (7, _), (8, _), (9, _)]) ⟨rfl, rfl, rfl, rfl, trivial⟩ (.k .z) ?_
   refine St.seq ?_
   refine St.region ?_
   refine St.p rfl rfl ?_
   refine St.done ?_
   refine St.thenN ?_
   obtain ⟨o2, hl2, h1⟩ := bnd_e h1
   refine St.selfThen ?_
   refine St.cutE (fun (e4 : Unit) => [(3, .int .u32 o2), (7, .slice A1 b_p0.length c1), (8, .int .i64 (b_p0.length : Int)), (9, .int .i64 s1.2)]) (fun e4 => .ro (SlL eu8 A1 c1 b_p0) :: R) ?_ ?_
   ·refine St.block ?_
    refine St.loop hl2 (fun (s2 : Int × Int) (e3 : Unit) => [(3, .int .u32 s2.1), (7, .slice A1 b_p0.length c1), (8, .int .i64 (b_p0.length : Int)), (9, .int .i64 s1.2), (17, .int .i64 s2.2)]) (fun s2 e3 => .ro (SlL eu8 A1 c1 b_p0) :: R) (fun _ _ => True) () trivial ⟨rfl, rfl, rfl, rfl, rfl, trivial⟩ (fun _ w => ((.k .z) : Keep _ _).sat w) ?_
    rintro s2 e3 - hit2
    obtain ⟨st2, hm2, hd2⟩ := iter_e hit2
    have h2 := hm2
    refine St.seq ?_
    refine St.region ?_
    refine St.p rfl rfl ?_
    refine St.done ?_
    refine St.thenN ?_
    refine St.seq ?_
    refine St.cond _ rfl (fun hb2 => ?_) (fun hb2 => ?_)
    ·replace h2 := bif_t hb2 h2
     refine St.skip ?_
     refine St.thenN ?_
     refine St.prune (Γ' := [(3, _), (7, _), (8, _), (9, _), (17, _)]) ⟨rfl, rfl, rfl, rfl, rfl, trivial⟩ (.k .z) ?_
     refine St.seq ?_
     refine St.block ?_
     refine St.seq ?_
     refine St.region ?_
     iterate 3 refine St.p rfl rfl ?_
     refine St.done ?_
     refine St.thenN ?_
     refine St.prune (Γ' := [(3, _), (6, _), (7, _), (8, _), (9, _), (17, _)]) ⟨rfl, rfl, rfl, rfl, rfl, rfl, trivial⟩ (.k .z) ?_
     refine St.region ?_
     iterate 6 refine St.p rfl rfl ?_
     refine St.done ?_
     refine St.blkN ?_
     refine St.thenN ?_
     refine St.prune (Γ' := [(3, _), (7, _), (8, _), (9, _), (17, _)]) ⟨rfl, rfl, rfl, rfl, rfl, trivial⟩ (.k .z) ?_
     refine St.region ?_
     refine St.p rfl rfl ?_
     refine St.p rfl rfl ?_
     refine St.done ?_
     injection h2 with h2
     subst h2
     refine St.thenN ?_
     exact St.again _ () hm2 trivial ⟨rfl, rfl, rfl, rfl, rfl, trivial⟩ (fun _ w => ((.k .z) : Keep _ _).sat w)
    ·replace h2 := bif_f hb2 h2
     refine St.exit ?_
     repeat (first | refine St.thenX ?_ | refine St.blkMiss rfl ?_)
     refine St.blkHit ?_
     injection h2 with h2
     subst h2
     have ho := hd2 _ rfl
     subst ho
     refine St.thenN ?_
     exact St.hereE () ⟨rfl, rfl, rfl, rfl, trivial⟩ (fun _ w => ((.k .z) : Keep _ _).sat w)
   ·rintro e4
    refine St.blkN ?_
    refine St.thenN ?_
    refine St.region ?_
    refine St.p rfl rfl ?_
    refine St.p rfl rfl ?_
    refine St.done ?_
    injection h1 with h1
    subst h1
    refine St.thenN ?_
    exact St.again _ () hm1 trivial ⟨rfl, rfl, rfl, rfl, trivial⟩ (fun _ w => ((.k .z) : Keep _ _).sat w)
  ·replace h1 := bif_f hb1 h1
   refine St.exit ?_
   repeat (first | refine St.thenX ?_ | refine St.blkMiss rfl ?_)
   refine St.blkHit ?_
   injection h1 with h1
   subst h1
   have ho := hd1 _ rfl
   subst ho
   refine St.thenN ?_
   exact St.hereE () ⟨rfl, trivial⟩ (fun _ w => ((.d .z) : Keep _ _).sat w)
 ·rintro e2
  refine St.seq ?_
  refine St.region ?_
  iterate 3 refine St.p rfl rfl ?_
  refine St.done ?_
  refine St.thenN ?_
  refine St.prune (Γ' := [(2, _)]) ⟨rfl, trivial⟩ .z ?_
  refine St.ret ?_
  repeat (first | refine St.thenR ?_ | refine St.blkR ?_)
  injection h with h
  subst h
  exact St.finR Try.results25 (.tmp rfl .nil) rfl [] ⟨rfl, rfl⟩ (fun _ w => (.z : Keep _ _).sat w)

theorem ent19 : Ent Try.prog 19 := ⟨_, Try.func19, by kernel_rfl, by kernel_rfl⟩

noncomputable def m_bundle_Sum (i_p0 : T_Image) : Option Int :=
 bnd (m_bundle_Right i_p0) fun r1 => bif !r1 then (some 0) else (bnd (m_bundle_bytes i_p0) fun r2 => bnd (m_checksum_CRC32 r2) fun r3 => some r3)

theorem c_bundle_Sum {i_p0 : T_Image} {A1 : Option Addr} {c1 : Nat} {r : Int} (h : m_bundle_Sum i_p0 = some r) :
  Fun Try.prog 19 [.agg (bx_T_Image i_p0 A1 c1).toArray] [.ro (SlL eu8 A1 c1 i_p0.Data)] (Val (.int .u32 r)) := by
 unfold m_bundle_Sum at h
 refine Fun.intro Try.func19 rfl rfl rfl fun w R => ?_
 refine St.seq ?_
 refine St.region ?_
 refine St.box rfl rfl fun g1 => ?_
 refine St.p rfl rfl ?_
 refine St.done ?_
 refine St.thenN ?_
 refine St.prune (Γ' := [(1, _)]) ⟨rfl, trivial⟩ (.k (.k .z)) ?_
 refine St.seq ?_
 refine St.seq ?_
 refine St.region ?_
 refine St.loadB 0 rfl rfl (.head _) rfl rfl ?_
 obtain ⟨r1, hr1, h⟩ := bnd_e h
 refine St.callV (c_bundle_Right hr1) ent17 rfl rfl rfl rfl ⟨(.tail _ (.head _)), trivial⟩ ?_
 refine St.p rfl rfl ?_
 refine St.done ?_
 refine St.thenN ?_
 refine St.prune (Γ' := [(1, _), (5, _)]) ⟨rfl, rfl, trivial⟩ (.k (.k .z)) ?_
 refine St.cond _ rfl (fun hb1 => ?_) (fun hb1 => ?_)
 ·replace h := bif_t hb1 h
  refine St.seq ?_
  refine St.region ?_
  refine St.p rfl rfl ?_
  refine St.done ?_
  refine St.thenN ?_
  refine St.prune (Γ' := [(2, _)]) ⟨rfl, trivial⟩ (.d (.d .z)) ?_
  refine St.ret ?_
  repeat (first | refine St.thenR ?_ | refine St.blkR ?_)
  injection h with h
  subst h
  exact St.finR Try.results19 (.tmp rfl .nil) rfl [] ⟨rfl, rfl⟩ (fun _ w => (.z : Keep _ _).sat w)
 ·replace h := bif_f hb1 h
  refine St.skip ?_
  refine St.thenN ?_
  refine St.prune (Γ' := [(1, _)]) ⟨rfl, trivial⟩ (.k (.k .z)) ?_
  refine St.seq ?_
  refine St.region ?_
  refine St.loadB 0 rfl rfl (.head _) rfl rfl ?_
  obtain ⟨r2, hr2, h⟩ := bnd_e h
  refine St.call (c_bundle_bytes hr2) ent31 rfl rfl rfl (fun _ w => Sat.dup (G := [.ro (SlL eu8 A1 c1 i_p0.Data)]) rfl ⟨(.tail _ (.head _)), trivial⟩ w) ?_
  rintro _ _ ⟨A2, c2, rfl, rfl⟩
  refine St.asrt (F' := .res (OwnL eu8 5 A2 c2 r2) :: .res (Box g1 41 (bx_T_Image i_p0 A1 c1)) :: .ro (SlL eu8 A1 c1 i_p0.Data) :: R) (fun _ w => w) ?_
  refine St.asrt (fun _ w => (w.front .z).meltL) ?_
  obtain ⟨r3, hr3, h⟩ := bnd_e h
  refine St.callV (c_checksum_CRC32 hr3) ent25 rfl rfl rfl rfl ⟨(.head _), trivial⟩ ?_
  refine St.p rfl rfl ?_
  refine St.done ?_
  refine St.thenN ?_
  refine St.prune (Γ' := [(2, _)]) ⟨rfl, trivial⟩ (.d (.d (.d .z))) ?_
  refine St.ret ?_
  repeat (first | refine St.thenR ?_ | refine St.blkR ?_)
  injection h with h
  subst h
  exact St.finR Try.results19 (.tmp rfl .nil) rfl [] ⟨rfl, rfl⟩ (fun _ w => (.z : Keep _ _).sat w)

theorem ent30 : Ent Try.prog 30 := ⟨_, Try.func30, by kernel_rfl, by kernel_rfl⟩

noncomputable def m_bundle_long (b_p0 : (List Int)) (n_p1 : Int) : Option (List Int) :=
 bnd (app 1 b_p0 [IntKind.wrap .u8 (iShr .u32 n_p1 24), IntKind.wrap .u8 (iShr .u32 n_p1 16), IntKind.wrap .u8 (iShr .u32 n_p1 8), IntKind.wrap .u8 n_p1]) fun l1 => some l1

theorem c_bundle_long {b_p0 : (List Int)} {n_p1 : Int} {A1 : Option Addr} {c1 : Nat} {r : (List Int)} (h : m_bundle_long b_p0 n_p1 = some r) :
  Fun Try.prog 30 [.slice A1 b_p0.length c1, .int .u32 n_p1] [.res (OwnL eu8 5 A1 c1 b_p0)] (fun v_ F_ => ∃ (A1 : Option Addr) (c1 : Nat), v_ = .slice A1 r.length c1 ∧ F_ = [.res (OwnL eu8 5 A1 c1 r)]) := by
 unfold m_bundle_long at h
 refine Fun.intro Try.func30 rfl rfl rfl fun w R => ?_
 refine St.seq ?_
 refine St.region ?_
 refine St.p rfl rfl ?_
 refine St.done ?_
 refine St.thenN ?_
 refine St.prune (Γ' := [(0, _), (1, _)]) ⟨rfl, rfl, trivial⟩ (.k .z) ?_
 refine St.seq ?_
 refine St.region ?_
 iterate 12 refine St.p rfl rfl ?_
 refine St.buildSlice rfl rfl rfl rfl rfl rfl rfl rfl fun g1 => ?_
 obtain ⟨l1, hl1, h⟩ := bnd_e h
 refine St.app (E := eu8) hl1 rfl rfl rfl (.s .z) rfl rfl rfl rfl rfl rfl rfl rfl (srcB (.head _) rfl rfl) rfl rfl fun A2 c2 => ?_
 refine St.p rfl rfl ?_
 refine St.done ?_
 refine St.thenN ?_
 refine St.prune (Γ' := [(4, _)]) ⟨rfl, trivial⟩ (.k (.d .z)) ?_
 refine St.ret ?_
 repeat (first | refine St.thenR ?_ | refine St.blkR ?_)
 injection h with h
 subst h
 exact St.finR Try.results30 (.tmp rfl .nil) rfl [.res (OwnL eu8 5 A2 c2 l1)] ⟨A2, c2, rfl, rfl⟩ (fun _ w => ((.k .z) : Keep _ _).sat w)

noncomputable def m_checksum_CRC32_o0 (b_p0 : (List Int)) : Option Int :=
 bnd (loopM (τ := Int) (fun (s1 : Int × Int) => bif decide (s1.2 < (b_p0.length : Int)) then (bnd (elt b_p0 s1.2) fun x1 => bnd (loopM (τ := Int) (fun (s2 : Int × Int) => bif decide (s2.2 < 8) then (some (.next (iXor .u32 (iShr .u32 s2.1 1) (IntKind.wrap .u32 ((iAnd .u32 s2.1 1) * 3988292384)), IntKind.wrap .i64 (s2.2 + 1)))) else (some (.done s2.1))) (iXor .u32 s1.1 (IntKind.wrap .u32 x1), 0)) fun o2 => some (.next (o2, IntKind.wrap .i64 (s1.2 + 1)))) else (some (.done s1.1))) (4294967295, 0)) fun o1 => some (iXor .u32 (if IntKind.signed .u32 then -1 else IntKind.max .u32) o1)

theorem c_checksum_CRC32_o0 {b_p0 : (List Int)} {A1 : Option Addr} {c1 : Nat} {r : Int} (h : m_checksum_CRC32_o0 b_p0 = some r) :
  Fun Try.prog 25 [.slice A1 b_p0.length c1] [.res (OwnL eu8 5 A1 c1 b_p0)] (fun v_ F_ => v_ = .int .u32 r ∧ F_ = [.res (OwnL eu8 5 A1 c1 b_p0)]) := by
 unfold m_checksum_CRC32_o0 at h
 refine Fun.intro Try.func25 rfl rfl rfl fun w R => ?_
 refine St.seq ?_
 refine St.region ?_
 refine St.p rfl rfl ?_
 refine St.done ?_
 refine St.thenN ?_
 refine St.prune (Γ' := [(0, _)]) ⟨rfl, trivial⟩ (.k .z) ?_
 refine St.seq ?_
 refine St.region ?_
 refine St.p rfl rfl ?_
 refine St.done ?_
 refine St.thenN ?_
 refine St.seq ?_
 refine St.seq ?_
 refine St.region ?_
 iterate 3 refine St.p rfl rfl ?_
 refine St.done ?_
 refine St.thenN ?_
 refine St.prune (Γ' := [(3, _), (7, _), (8, _), (9, _)]) ⟨rfl, rfl, rfl, rfl, trivial⟩ (.k .z) ?_
 obtain ⟨o1, hl1, h⟩ := bnd_e h
 refine St.cutE (fun (e2 : Unit) => [(3, .int .u32 o1)]) (fun e2 => .res (OwnL eu8 5 A1 c1 b_p0) :: R) ?_ ?_
 ·refine St.block ?_
  refine St.loop hl1 (fun (s1 : Int × Int) (e1 : Unit) => [(3, .int .u32 s1.1), (7, .slice A1 b_p0.length c1), (8, .int .i64 (b_p0.length : Int)), (9, .int .i64 s1.2)]) (fun s1 e1 => .res (OwnL eu8 5 A1 c1 b_p0) :: R) (fun _ _ => True) () trivial ⟨rfl, rfl, rfl, rfl, trivial⟩ (fun _ w => ((.k .z) : Keep _ _).sat w) ?_
  rintro s1 e1 - hit1
  obtain ⟨st1, hm1, hd1⟩ := iter_e hit1
  have h1 := hm1
  refine St.seq ?_
  refine St.region ?_
  refine St.p rfl rfl ?_
  refine St.done ?_
  refine St.thenN ?_
  refine St.seq ?_
  refine St.cond _ rfl (fun hb1 => ?_) (fun hb1 => ?_)
  ·replace h1 := bif_t hb1 h1
   refine St.skip ?_
   refine St.thenN ?_
   refine St.prune (Γ' := [(3, _), (7, _), (8, _), (9, _)]) ⟨rfl, rfl, rfl, rfl, trivial⟩ (.k .z) ?_
   refine St.seq ?_
   refine St.block ?_
   refine St.seq ?_
   refine St.region ?_
   obtain ⟨x1, hx1, h1⟩ := bnd_e h1
   refine St.ixO hx1 rfl rfl rfl (.head _) rfl rfl rfl rfl rfl fun g1 hA => ?_
   subst hA
   refine St.ldO 0 hx1 rfl rfl (.head _) rfl rfl ?_
   refine St.p rfl rfl ?_
   refine St.done ?_
   refine St.thenN ?_
   refine St.prune (Γ' := [(3, _), (5, _), (7, _), (8, _), (9, _)]) ⟨rfl, rfl, rfl, rfl, rfl, trivial⟩ (.k .z) ?_
   refine St.seq ?_
   refine St.region ?_
   iterate 5 refine St.p rfl rfl ?_
   refine St.done ?_
   refine St.thenN ?_
   refine St.prune (Γ' := [(3, _), (7, _), (8, _), (9, _)]) ⟨rfl, rfl, rfl, rfl, trivial⟩ (.k .z) ?_
   refine St.seq ?_
   refine St.region ?_
   refine St.p rfl rfl ?_
   refine St.done ?_
   refine St.thenN ?_
   obtain ⟨o2, hl2, h1⟩ := bnd_e h1
   refine St.selfThen ?_
   refine St.cutE (fun (e4 : Unit) => [(3, .int .u32 o2), (7, .slice (some ⟨g1, 0, none⟩) b_p0.length c1), (8, .int .i64 (b_p0.length : Int)), (9, .int .i64 s1.2)]) (fun e4 => .res (OwnL eu8 5 (some ⟨g1, 0, none⟩) c1 b_p0) :: R) ?_ ?_
   ·refine St.block ?_
    refine St.loop hl2 (fun (s2 : Int × Int) (e3 : Unit) => [(3, .int .u32 s2.1), (7, .slice (some ⟨g1, 0, none⟩) b_p0.length c1), (8, .int .i64 (b_p0.length : Int)), (9, .int .i64 s1.2), (17, .int .i64 s2.2)]) (fun s2 e3 => .res (OwnL eu8 5 (some ⟨g1, 0, none⟩) c1 b_p0) :: R) (fun _ _ => True) () trivial ⟨rfl, rfl, rfl, rfl, rfl, trivial⟩ (fun _ w => ((.k .z) : Keep _ _).sat w) ?_
    rintro s2 e3 - hit2
    obtain ⟨st2, hm2, hd2⟩ := iter_e hit2
    have h2 := hm2
    refine St.seq ?_
    refine St.region ?_
    refine St.p rfl rfl ?_
    refine St.done ?_
    refine St.thenN ?_
    refine St.seq ?_
    refine St.cond _ rfl (fun hb2 => ?_) (fun hb2 => ?_)
    ·replace h2 := bif_t hb2 h2
     refine St.skip ?_
     refine St.thenN ?_
     refine St.prune (Γ' := [(3, _), (7, _), (8, _), (9, _), (17, _)]) ⟨rfl, rfl, rfl, rfl, rfl, trivial⟩ (.k .z) ?_
     refine St.seq ?_
     refine St.block ?_
     refine St.seq ?_
     refine St.region ?_
     iterate 3 refine St.p rfl rfl ?_
     refine St.done ?_
     refine St.thenN ?_
     refine St.prune (Γ' := [(3, _), (6, _), (7, _), (8, _), (9, _), (17, _)]) ⟨rfl, rfl, rfl, rfl, rfl, rfl, trivial⟩ (.k .z) ?_
     refine St.region ?_
     iterate 6 refine St.p rfl rfl ?_
     refine St.done ?_
     refine St.blkN ?_
     refine St.thenN ?_
     refine St.prune (Γ' := [(3, _), (7, _), (8, _), (9, _), (17, _)]) ⟨rfl, rfl, rfl, rfl, rfl, trivial⟩ (.k .z) ?_
     refine St.region ?_
     refine St.p rfl rfl ?_
     refine St.p rfl rfl ?_
     refine St.done ?_
     injection h2 with h2
     subst h2
     refine St.thenN ?_
     exact St.again _ () hm2 trivial ⟨rfl, rfl, rfl, rfl, rfl, trivial⟩ (fun _ w => ((.k .z) : Keep _ _).sat w)
    ·replace h2 := bif_f hb2 h2
     refine St.exit ?_
     repeat (first | refine St.thenX ?_ | refine St.blkMiss rfl ?_)
     refine St.blkHit ?_
     injection h2 with h2
     subst h2
     have ho := hd2 _ rfl
     subst ho
     refine St.thenN ?_
     exact St.hereE () ⟨rfl, rfl, rfl, rfl, trivial⟩ (fun _ w => ((.k .z) : Keep _ _).sat w)
   ·rintro e4
    refine St.blkN ?_
    refine St.thenN ?_
    refine St.region ?_
    refine St.p rfl rfl ?_
    refine St.p rfl rfl ?_
    refine St.done ?_
    injection h1 with h1
    subst h1
    refine St.thenN ?_
    exact St.again _ () hm1 trivial ⟨rfl, rfl, rfl, rfl, trivial⟩ (fun _ w => ((.k .z) : Keep _ _).sat w)
  ·replace h1 := bif_f hb1 h1
   refine St.exit ?_
   repeat (first | refine St.thenX ?_ | refine St.blkMiss rfl ?_)
   refine St.blkHit ?_
   injection h1 with h1
   subst h1
   have ho := hd1 _ rfl
   subst ho
   refine St.thenN ?_
   exact St.hereE () ⟨rfl, trivial⟩ (fun _ w => ((.k .z) : Keep _ _).sat w)
 ·rintro e2
  refine St.seq ?_
  refine St.region ?_
  iterate 3 refine St.p rfl rfl ?_
  refine St.done ?_
  refine St.thenN ?_
  refine St.prune (Γ' := [(2, _)]) ⟨rfl, trivial⟩ (.k .z) ?_
  refine St.ret ?_
  repeat (first | refine St.thenR ?_ | refine St.blkR ?_)
  injection h with h
  subst h
  exact St.finR Try.results25 (.tmp rfl .nil) rfl [.res (OwnL eu8 5 A1 c1 b_p0)] ⟨rfl, rfl⟩ (fun _ w => ((.k .z) : Keep _ _).sat w)

theorem ent11 : Ent Try.prog 11 := ⟨_, Try.func11, by kernel_rfl, by kernel_rfl⟩

noncomputable def m_bundle_Encode (b_p0 : T_Bundle) : Option ((List Int) × Int) :=
 bnd (m_bundle_Valid b_p0) fun r1 => bif (r1 != 0) then (some ([], r1)) else (bnd (app 1 ([66, 77, 67, 70]) [IntKind.wrap .u8 (b_p0.Images.length : Int)]) fun l1 => bnd (loopM (τ := List Int) (fun (s1 : List Int × Int) => bif decide (s1.2 < (b_p0.Images.length : Int)) then (bnd (elt b_p0.Images s1.2) fun x1 => bnd (m_bundle_bytes x1) fun r2 => bnd (app 1 s1.1 r2) fun l2 => bnd (m_bundle_Sum x1) fun r3 => bnd (m_bundle_long l2 r3) fun r4 => some (.next (r4, IntKind.wrap .i64 (s1.2 + 1)))) else (some (.done s1.1))) (l1, 0)) fun o1 => bnd (app 1 o1 [IntKind.wrap .u8 (b_p0.Needs.length : Int)]) fun l3 => bnd (loopM (τ := List Int) (fun (s2 : List Int × Int) => bif decide (s2.2 < (b_p0.Needs.length : Int)) then (bnd (elt b_p0.Needs s2.2) fun x2 => bnd (m_bundle_text s2.1 x2.Component) fun r5 => bnd (m_bundle_numbers r5 x2.From) fun r6 => bnd (m_bundle_text r6 x2.On) fun r7 => bnd (m_bundle_numbers r7 x2.At) fun r8 => some (.next (r8, IntKind.wrap .i64 (s2.2 + 1)))) else (some (.done s2.1))) (l3, 0)) fun o2 => bnd (m_checksum_CRC32_o0 o2) fun r9 => bnd (m_bundle_long o2 r9) fun r10 => bif decide ((r10.length : Int) > 8192) then (some ([], 3)) else (some (r10, 0)))

set_option maxHeartbeats 4000000 in
theorem c_bundle_Encode {b_p0 : T_Bundle} {A1 : Option Addr} {c1 : Nat} {A2 : Option Addr} {c2 : Nat} {r : ((List Int) × Int)} (h : m_bundle_Encode b_p0 = some r) :
  Fun Try.prog 11 [.agg #[.slice A1 b_p0.Images.length c1, .slice A2 b_p0.Needs.length c2]] [.ro (Sl (codL l_T_Image) A1 c1 b_p0.Images), .ro (SlL e_Need A2 c2 b_p0.Needs)] (fun v_ F_ => ∃ (A1 : Option Addr) (c1 : Nat), v_ = .tuple #[.slice A1 r.1.length c1, .int .i64 r.2] ∧ F_ = [.res (OwnL eu8 5 A1 c1 r.1)]) := by
 unfold m_bundle_Encode at h
 refine Fun.intro Try.func11 rfl rfl rfl fun w R => ?_
 refine St.seq ?_
 refine St.region ?_
 refine St.box rfl rfl fun g1 => ?_
 refine St.p rfl rfl ?_
 refine St.p rfl rfl ?_
 refine St.done ?_
 refine St.thenN ?_
 refine St.prune (Γ' := [(1, _)]) ⟨rfl, trivial⟩ (.k (.k (.k .z))) ?_
 refine St.seq ?_
 refine St.seq ?_
 refine St.region ?_
 refine St.loadB 0 rfl rfl (.head _) rfl rfl ?_
 obtain ⟨r1, hr1, h⟩ := bnd_e h
 refine St.callV (c_bundle_Valid hr1) ent13 rfl rfl rfl rfl ⟨(.tail _ (.head _)), (.tail _ (.tail _ (.head _))), trivial⟩ ?_
 refine St.p rfl rfl ?_
 refine St.done ?_
 refine St.thenN ?_
 refine St.prune (Γ' := [(1, _), (4, _)]) ⟨rfl, rfl, trivial⟩ (.k (.k (.k .z))) ?_
 refine St.seq ?_
 refine St.region ?_
 refine St.p rfl rfl ?_
 refine St.p rfl rfl ?_
 refine St.done ?_
 refine St.thenN ?_
 refine St.prune (Γ' := [(1, _), (4, _), (13, _)]) ⟨rfl, rfl, rfl, trivial⟩ (.k (.k (.k .z))) ?_
 refine St.cond _ rfl (fun hb1 => ?_) (fun hb1 => ?_)
 ·replace h := bif_t hb1 h
  refine St.seq ?_
  refine St.region ?_
  iterate 3 refine St.p rfl rfl ?_
  refine St.done ?_
  refine St.thenN ?_
  refine St.prune (Γ' := [(2, _), (3, _)]) ⟨rfl, rfl, trivial⟩ (.d (.d (.d .z))) ?_
  refine St.ret ?_
  repeat (first | refine St.thenR ?_ | refine St.blkR ?_)
  refine St.asrt (fun _ w => w.nilL eu8 5) ?_
  injection h with h
  subst h
  exact St.finR Try.results11 (.tmp rfl (.tmp rfl .nil)) rfl [.res (OwnL eu8 5 none 0 ([] : List Int))] ⟨none, 0, rfl, rfl⟩ (fun _ w => ((.k .z) : Keep _ _).sat w)
 ·replace h := bif_f hb1 h
  refine St.skip ?_
  refine St.thenN ?_
  refine St.prune (Γ' := [(1, _)]) ⟨rfl, trivial⟩ (.k (.k (.k .z))) ?_
  refine St.seq ?_
  refine St.region ?_
  refine St.buildSlice0 rfl rfl rfl rfl rfl rfl rfl rfl fun g2 => ?_
  refine St.markB rfl rfl rfl rfl rfl rfl ?_
  refine St.p rfl rfl ?_
  refine St.loadB 0 rfl rfl (.tail _ (.head _)) rfl rfl ?_
  refine St.p rfl rfl ?_
  refine St.p rfl rfl ?_
  refine St.buildSlice rfl rfl rfl rfl rfl rfl rfl rfl fun g3 => ?_
  refine St.asrt (fun _ w => (w.front (.s .z)).litL (E := eu8) (e := 5) [66, 77, 67, 70] rfl rfl) ?_
  obtain ⟨l1, hl1, h⟩ := bnd_e h
  refine St.app (E := eu8) hl1 rfl rfl rfl .z rfl rfl rfl rfl rfl rfl rfl rfl (srcB (.tail _ (.head _)) rfl rfl) rfl rfl fun A3 c3 => ?_
  refine St.p rfl rfl ?_
  refine St.done ?_
  refine St.thenN ?_
  refine St.prune (Γ' := [(1, _), (5, _)]) ⟨rfl, rfl, trivial⟩ (.k (.d (.k (.k (.k .z))))) ?_
  refine St.seq ?_
  refine St.seq ?_
  refine St.region ?_
  refine St.p rfl rfl ?_
  refine St.loadB 0 rfl rfl (.tail _ (.head _)) rfl rfl ?_
  refine St.p rfl rfl ?_
  refine St.p rfl rfl ?_
  refine St.done ?_
  refine St.thenN ?_
  refine St.prune (Γ' := [(1, _), (5, _), (24, _), (25, _), (26, _)]) ⟨rfl, rfl, rfl, rfl, rfl, trivial⟩ (.k (.k (.k (.k .z)))) ?_
  obtain ⟨o1, hl1, h⟩ := bnd_e h
  refine St.cutE (fun (e2 : Option Addr × Nat) => [(1, .pointer (some ⟨g1, 0, none⟩)), (5, .slice e2.1 o1.length e2.2)]) (fun e2 => .res (OwnL eu8 5 e2.1 e2.2 o1) :: .res (Box g1 26 [.slice A1 b_p0.Images.length c1, .slice A2 b_p0.Needs.length c2]) :: .ro (Sl (codL l_T_Image) A1 c1 b_p0.Images) :: .ro (SlL e_Need A2 c2 b_p0.Needs) :: R) ?_ ?_
  ·refine St.block ?_
   refine St.loop hl1 (fun (s1 : List Int × Int) (e1 : Option Addr × Nat) => [(1, .pointer (some ⟨g1, 0, none⟩)), (5, .slice e1.1 s1.1.length e1.2), (24, .slice A1 b_p0.Images.length c1), (25, .int .i64 (b_p0.Images.length : Int)), (26, .int .i64 s1.2)]) (fun s1 e1 => .res (OwnL eu8 5 e1.1 e1.2 s1.1) :: .res (Box g1 26 [.slice A1 b_p0.Images.length c1, .slice A2 b_p0.Needs.length c2]) :: .ro (Sl (codL l_T_Image) A1 c1 b_p0.Images) :: .ro (SlL e_Need A2 c2 b_p0.Needs) :: R) (fun _ _ => True) (A3, c3) trivial ⟨rfl, rfl, rfl, rfl, rfl, trivial⟩ (fun _ w => ((.k (.k (.k (.k .z)))) : Keep _ _).sat w) ?_
   rintro s1 ⟨A4, c4⟩ - hit1
   obtain ⟨st1, hm1, hd1⟩ := iter_e hit1
   have h1 := hm1
   refine St.seq ?_
   refine St.region ?_
   refine St.p rfl rfl ?_
   refine St.done ?_
   refine St.thenN ?_
   refine St.seq ?_
   refine St.cond _ rfl (fun hb2 => ?_) (fun hb2 => ?_)
   ·replace h1 := bif_t hb2 h1
    refine St.skip ?_
    refine St.thenN ?_
    refine St.prune (Γ' := [(1, _), (5, _), (24, _), (25, _), (26, _)]) ⟨rfl, rfl, rfl, rfl, rfl, trivial⟩ (.k (.k (.k (.k .z)))) ?_
    refine St.seq ?_
    refine St.block ?_
    refine St.seq ?_
    refine St.region ?_
    obtain ⟨x1, hx1, h1⟩ := bnd_e h1
    refine St.ixN hx1 rfl rfl rfl (.tail _ (.tail _ (.head _))) rfl rfl rfl rfl rfl fun b1 ob1 ex1 => ?_
    obtain ⟨⟨A6, c6⟩, _⟩ := ex1
    refine St.asrt (F' := .ro (Cells b1 ob1 (bx_T_Image x1 A6 c6)) :: .ro (SlL eu8 A6 c6 x1.Data) :: .res (OwnL eu8 5 A4 c4 s1.1) :: .res (Box g1 26 [.slice A1 b_p0.Images.length c1, .slice A2 b_p0.Needs.length c2]) :: .ro (Sl (codL l_T_Image) A1 c1 b_p0.Images) :: .ro (SlL e_Need A2 c2 b_p0.Needs) :: R) (fun _ w => w) ?_
    refine St.load ob1 0 rfl rfl (.head _) rfl rfl ?_
    refine St.alloc rfl rfl fun g4 => ?_
    refine St.store 0 rfl rfl rfl rfl rfl rfl .z rfl ?_
    refine St.done ?_
    refine St.thenN ?_
    refine St.prune (Γ' := [(1, _), (5, _), (7, _), (24, _), (25, _), (26, _)]) ⟨rfl, rfl, rfl, rfl, rfl, rfl, trivial⟩ (.k (.d (.k (.k (.k (.k (.k .z))))))) ?_
    refine St.regionX (iL [(.fl, 0), (.fx, 1), (.fl, 4), (.ef, 2), (.ef, 3), (.qc, 5), (.ef, 6), (.fl, 7)] .nil) (.res (Box g4 41 (bx_T_Image x1 A6 c6)) :: .ro (SlL eu8 A6 c6 x1.Data) :: .res (Box g1 26 [.slice A1 b_p0.Images.length c1, .slice A2 b_p0.Needs.length c2]) :: .ro (Sl (codL l_T_Image) A1 c1 b_p0.Images) :: .ro (SlL e_Need A2 c2 b_p0.Needs) :: R) mixed (by kernel_rfl) (fun _ w => ((.k (.k (.d (.k (.k (.k .z)))))) : Keep _ _).sat w) ?_
    refine St.xfl (fun _ h => h) (Rd.p rfl) rfl ?_
    refine St.xfx (Rd.loadB 0 rfl (.head _) rfl rfl) rfl ?_
    refine St.xfl (fun _ h => h) (Rd.loadB 0 rfl (.head _) rfl rfl) rfl ?_
    refine St.xef ?_
    obtain ⟨r2, hr2, h1⟩ := bnd_e h1
    refine St.call (c_bundle_bytes hr2) ent31 rfl rfl rfl (fun _ w => Sat.dup (G := [.ro (SlL eu8 A6 c6 x1.Data)]) rfl ⟨(.tail _ (.head _)), trivial⟩ w) ?_
    rintro _ _ ⟨A7, c7, rfl, rfl⟩
    refine St.asrt (F' := .res (OwnL eu8 5 A7 c7 r2) :: .res (Box g4 41 (bx_T_Image x1 A6 c6)) :: .ro (SlL eu8 A6 c6 x1.Data) :: .res (OwnL eu8 5 A4 c4 s1.1) :: .res (Box g1 26 [.slice A1 b_p0.Images.length c1, .slice A2 b_p0.Needs.length c2]) :: .ro (Sl (codL l_T_Image) A1 c1 b_p0.Images) :: .ro (SlL e_Need A2 c2 b_p0.Needs) :: R) (fun _ w => w) ?_
    refine St.xk (fun _ w => ((.d (.k (.k (.d (.k (.k (.k .z))))))) : Keep _ _).sat w) ?_
    refine St.xef ?_
    refine St.asrt (fun _ w => (w.front .z).meltL) ?_
    obtain ⟨l2, hl2, h1⟩ := bnd_e h1
    refine St.app (E := eu8) hl2 rfl rfl rfl (.s (.s (.s .z))) rfl rfl rfl rfl rfl rfl rfl rfl (srcL (.head _)) rfl rfl fun A8 c8 => ?_
    refine St.xk (fun _ w => ((.d (.d (.k (.k (.k (.k (.k .z))))))) : Keep _ _).sat w) ?_
    obtain ⟨r3, hr3, h1⟩ := bnd_e h1
    refine St.xqc (fun _ h => h) (c_bundle_Sum hr3) ent19 rfl rfl rfl rfl ⟨(.tail _ (.head _)), trivial⟩ ?_
    refine St.xef ?_
    obtain ⟨r4, hr4, h1⟩ := bnd_e h1
    refine St.call (c_bundle_long hr4) ent30 rfl rfl rfl (fun _ w => (w.front .z)) ?_
    rintro _ _ ⟨A9, c9, rfl, rfl⟩
    refine St.asrt (F' := .res (OwnL eu8 5 A9 c9 r4) :: .ro (SlL eu8 A7 c7 r2) :: .res (Box g4 41 (bx_T_Image x1 A6 c6)) :: .ro (SlL eu8 A6 c6 x1.Data) :: .res (Box g1 26 [.slice A1 b_p0.Images.length c1, .slice A2 b_p0.Needs.length c2]) :: .ro (Sl (codL l_T_Image) A1 c1 b_p0.Images) :: .ro (SlL e_Need A2 c2 b_p0.Needs) :: R) (fun _ w => w) ?_
    refine St.xk (fun _ w => ((.d (.d (.k (.k (.k (.k (.k .z))))))) : Keep _ _).sat w) ?_
    refine St.xfl (fun _ h => h) (Rd.p rfl) rfl ?_
    refine St.xdone ?_
    refine St.blkN ?_
    refine St.thenN ?_
    refine St.prune (Γ' := [(1, _), (5, _), (24, _), (25, _), (26, _)]) ⟨rfl, rfl, rfl, rfl, rfl, trivial⟩ (.k (.d (.d (.d (.k (.k (.k .z))))))) ?_
    refine St.region ?_
    refine St.p rfl rfl ?_
    refine St.p rfl rfl ?_
    refine St.done ?_
    injection h1 with h1
    subst h1
    refine St.thenN ?_
    exact St.again _ (A9, c9) hm1 trivial ⟨rfl, rfl, rfl, rfl, rfl, trivial⟩ (fun _ w => ((.k (.k (.k (.k .z)))) : Keep _ _).sat w)
   ·replace h1 := bif_f hb2 h1
    refine St.exit ?_
    repeat (first | refine St.thenX ?_ | refine St.blkMiss rfl ?_)
    refine St.blkHit ?_
    injection h1 with h1
    subst h1
    have ho := hd1 _ rfl
    subst ho
    refine St.thenN ?_
    exact St.hereE (A4, c4) ⟨rfl, rfl, trivial⟩ (fun _ w => ((.k (.k (.k (.k .z)))) : Keep _ _).sat w)
  ·rintro ⟨A5, c5⟩
   refine St.seq ?_
   refine St.region ?_
   refine St.p rfl rfl ?_
   refine St.p rfl rfl ?_
   refine St.loadB 1 rfl rfl (.tail _ (.head _)) rfl rfl ?_
   refine St.p rfl rfl ?_
   refine St.p rfl rfl ?_
   refine St.buildSlice rfl rfl rfl rfl rfl rfl rfl rfl fun g5 => ?_
   obtain ⟨l3, hl3, h⟩ := bnd_e h
   refine St.app (E := eu8) hl3 rfl rfl rfl (.s .z) rfl rfl rfl rfl rfl rfl rfl rfl (srcB (.head _) rfl rfl) rfl rfl fun A10 c10 => ?_
   refine St.p rfl rfl ?_
   refine St.done ?_
   refine St.thenN ?_
   refine St.prune (Γ' := [(1, _), (5, _)]) ⟨rfl, rfl, trivial⟩ (.k (.d (.k (.k (.k .z))))) ?_
   refine St.seq ?_
   refine St.seq ?_
   refine St.region ?_
   refine St.p rfl rfl ?_
   refine St.loadB 1 rfl rfl (.tail _ (.head _)) rfl rfl ?_
   refine St.p rfl rfl ?_
   refine St.p rfl rfl ?_
   refine St.done ?_
   refine St.thenN ?_
   refine St.prune (Γ' := [(5, _), (46, _), (47, _), (48, _)]) ⟨rfl, rfl, rfl, rfl, trivial⟩ (.k (.d (.d (.k .z)))) ?_
   obtain ⟨o2, hl2, h⟩ := bnd_e h
   refine St.cutE (fun (e4 : Option Addr × Nat) => [(5, .slice e4.1 o2.length e4.2)]) (fun e4 => .res (OwnL eu8 5 e4.1 e4.2 o2) :: R) ?_ ?_
   ·refine St.block ?_
    refine St.loop hl2 (fun (s2 : List Int × Int) (e3 : Option Addr × Nat) => [(5, .slice e3.1 s2.1.length e3.2), (46, .slice A2 b_p0.Needs.length c2), (47, .int .i64 (b_p0.Needs.length : Int)), (48, .int .i64 s2.2)]) (fun s2 e3 => .res (OwnL eu8 5 e3.1 e3.2 s2.1) :: .ro (SlL e_Need A2 c2 b_p0.Needs) :: R) (fun _ _ => True) (A10, c10) trivial ⟨rfl, rfl, rfl, rfl, trivial⟩ (fun _ w => ((.k (.k .z)) : Keep _ _).sat w) ?_
    rintro s2 ⟨A11, c11⟩ - hit2
    obtain ⟨st2, hm2, hd2⟩ := iter_e hit2
    have h2 := hm2
    refine St.seq ?_
    refine St.region ?_
    refine St.p rfl rfl ?_
    refine St.done ?_
    refine St.thenN ?_
    refine St.seq ?_
    refine St.cond _ rfl (fun hb3 => ?_) (fun hb3 => ?_)
    ·replace h2 := bif_t hb3 h2
     refine St.skip ?_
     refine St.thenN ?_
     refine St.prune (Γ' := [(5, _), (46, _), (47, _), (48, _)]) ⟨rfl, rfl, rfl, rfl, trivial⟩ (.k (.k .z)) ?_
     refine St.seq ?_
     refine St.block ?_
     refine St.seq ?_
     refine St.region ?_
     obtain ⟨x2, hx2, h2⟩ := bnd_e h2
     refine St.ixL hx2 rfl rfl rfl (.tail _ (.head _)) rfl rfl rfl rfl rfl fun b2 ob2 => ?_
     refine St.load ob2 0 rfl rfl (.head _) rfl rfl ?_
     refine St.alloc rfl rfl fun g6 => ?_
     refine St.store 0 rfl rfl rfl rfl rfl rfl .z rfl ?_
     refine St.done ?_
     refine St.thenN ?_
     refine St.prune (Γ' := [(5, _), (9, _), (46, _), (47, _), (48, _)]) ⟨rfl, rfl, rfl, rfl, rfl, trivial⟩ (.k (.d (.k (.k .z)))) ?_
     refine St.seq ?_
     refine St.regionX (iL [(.fl, 0), (.fl, 1), (.fx, 2), (.fl, 4), (.fl, 5), (.ef, 3), (.ef, 6), (.fl, 7)] .nil) (.res (Box g6 67 (bx_T_Need x2)) :: .ro (SlL e_Need A2 c2 b_p0.Needs) :: R) mixed (by kernel_rfl) (fun _ w => ((.k (.d (.k .z))) : Keep _ _).sat w) ?_
     refine St.xfl (fun _ h => h) (Rd.p rfl) rfl ?_
     refine St.xfl (fun _ h => h) (Rd.p rfl) rfl ?_
     refine St.xfx (Rd.loadB 0 rfl (.head _) rfl rfl) rfl ?_
     refine St.xfl (fun _ h => h) (Rd.p rfl) rfl ?_
     refine St.xfl (fun _ h => h) (Rd.loadB 1 rfl (.head _) rfl rfl) rfl ?_
     refine St.xef ?_
     obtain ⟨r5, hr5, h2⟩ := bnd_e h2
     refine St.call (c_bundle_text hr5) ent33 rfl rfl rfl (fun _ w => (w.front (.s .z))) ?_
     rintro _ _ ⟨A13, c13, rfl, rfl⟩
     refine St.asrt (F' := .res (OwnL eu8 5 A13 c13 r5) :: .res (Box g6 67 (bx_T_Need x2)) :: .ro (SlL e_Need A2 c2 b_p0.Needs) :: R) (fun _ w => w) ?_
     refine St.xk (fun _ w => ((.d (.k (.k .z))) : Keep _ _).sat w) ?_
     refine St.xef ?_
     obtain ⟨r6, hr6, h2⟩ := bnd_e h2
     refine St.call (c_bundle_numbers hr6) ent32 rfl rfl rfl (fun _ w => (w.front .z)) ?_
     rintro _ _ ⟨A14, c14, rfl, rfl⟩
     refine St.asrt (F' := .res (OwnL eu8 5 A14 c14 r6) :: .res (Box g6 67 (bx_T_Need x2)) :: .ro (SlL e_Need A2 c2 b_p0.Needs) :: R) (fun _ w => w) ?_
     refine St.xk (fun _ w => ((.d (.k (.k .z))) : Keep _ _).sat w) ?_
     refine St.xfl (fun _ h => h) (Rd.p rfl) rfl ?_
     refine St.xdone ?_
     refine St.thenN ?_
     refine St.prune (Γ' := [(5, _), (9, _), (46, _), (47, _), (48, _)]) ⟨rfl, rfl, rfl, rfl, rfl, trivial⟩ (.k (.k (.k .z))) ?_
     refine St.regionX (iL [(.fl, 0), (.fl, 1), (.fx, 2), (.fl, 4), (.fl, 5), (.ef, 3), (.ef, 6), (.fl, 7)] .nil) (.res (Box g6 67 (bx_T_Need x2)) :: .ro (SlL e_Need A2 c2 b_p0.Needs) :: R) mixed (by kernel_rfl) (fun _ w => ((.d (.k (.k .z))) : Keep _ _).sat w) ?_
     refine St.xfl (fun _ h => h) (Rd.p rfl) rfl ?_
     refine St.xfl (fun _ h => h) (Rd.p rfl) rfl ?_
     refine St.xfx (Rd.loadB 4 rfl (.tail _ (.head _)) rfl rfl) rfl ?_
     refine St.xfl (fun _ h => h) (Rd.p rfl) rfl ?_
     refine St.xfl (fun _ h => h) (Rd.loadB 5 rfl (.head _) rfl rfl) rfl ?_
     refine St.xef ?_
     obtain ⟨r7, hr7, h2⟩ := bnd_e h2
     refine St.call (c_bundle_text hr7) ent33 rfl rfl rfl (fun _ w => (w.front .z)) ?_
     rintro _ _ ⟨A15, c15, rfl, rfl⟩
     refine St.asrt (F' := .res (OwnL eu8 5 A15 c15 r7) :: .res (Box g6 67 (bx_T_Need x2)) :: .ro (SlL e_Need A2 c2 b_p0.Needs) :: R) (fun _ w => w) ?_
     refine St.xk (fun _ w => ((.d (.k (.k .z))) : Keep _ _).sat w) ?_
     refine St.xef ?_
     obtain ⟨r8, hr8, h2⟩ := bnd_e h2
     refine St.call (c_bundle_numbers hr8) ent32 rfl rfl rfl (fun _ w => (w.front .z)) ?_
     rintro _ _ ⟨A16, c16, rfl, rfl⟩
     refine St.asrt (F' := .res (OwnL eu8 5 A16 c16 r8) :: .res (Box g6 67 (bx_T_Need x2)) :: .ro (SlL e_Need A2 c2 b_p0.Needs) :: R) (fun _ w => w) ?_
     refine St.xk (fun _ w => ((.d (.k (.k .z))) : Keep _ _).sat w) ?_
     refine St.xfl (fun _ h => h) (Rd.p rfl) rfl ?_
     refine St.xdone ?_
     refine St.blkN ?_
     refine St.thenN ?_
     refine St.prune (Γ' := [(5, _), (46, _), (47, _), (48, _)]) ⟨rfl, rfl, rfl, rfl, trivial⟩ (.k (.d (.k .z))) ?_
     refine St.region ?_
     refine St.p rfl rfl ?_
     refine St.p rfl rfl ?_
     refine St.done ?_
     injection h2 with h2
     subst h2
     refine St.thenN ?_
     exact St.again _ (A16, c16) hm2 trivial ⟨rfl, rfl, rfl, rfl, trivial⟩ (fun _ w => ((.k (.k .z)) : Keep _ _).sat w)
    ·replace h2 := bif_f hb3 h2
     refine St.exit ?_
     repeat (first | refine St.thenX ?_ | refine St.blkMiss rfl ?_)
     refine St.blkHit ?_
     injection h2 with h2
     subst h2
     have ho := hd2 _ rfl
     subst ho
     refine St.thenN ?_
     exact St.hereE (A11, c11) ⟨rfl, trivial⟩ (fun _ w => ((.k (.d .z)) : Keep _ _).sat w)
   ·rintro ⟨A12, c12⟩
    refine St.seq ?_
    refine St.region ?_
    refine St.p rfl rfl ?_
    refine St.p rfl rfl ?_
    obtain ⟨r9, hr9, h⟩ := bnd_e h
    refine St.call (c_checksum_CRC32_o0 hr9) ent25 rfl rfl rfl (fun _ w => (w.front .z)) ?_
    rintro _ _ ⟨rfl, rfl⟩
    refine St.asrt (F' := .res (OwnL eu8 5 A12 c12 o2) :: R) (fun _ w => w) ?_
    obtain ⟨r10, hr10, h⟩ := bnd_e h
    refine St.call (c_bundle_long hr10) ent30 rfl rfl rfl (fun _ w => (w.front .z)) ?_
    rintro _ _ ⟨A17, c17, rfl, rfl⟩
    refine St.asrt (F' := .res (OwnL eu8 5 A17 c17 r10) :: R) (fun _ w => w) ?_
    refine St.p rfl rfl ?_
    refine St.done ?_
    refine St.thenN ?_
    refine St.prune (Γ' := [(5, _)]) ⟨rfl, trivial⟩ (.k .z) ?_
    refine St.seq ?_
    refine St.seq ?_
    refine St.region ?_
    iterate 3 refine St.p rfl rfl ?_
    refine St.done ?_
    refine St.thenN ?_
    refine St.prune (Γ' := [(5, _), (73, _)]) ⟨rfl, rfl, trivial⟩ (.k .z) ?_
    refine St.cond _ rfl (fun hb4 => ?_) (fun hb4 => ?_)
    ·replace h := bif_t hb4 h
     refine St.seq ?_
     refine St.region ?_
     refine St.p rfl rfl ?_
     refine St.p rfl rfl ?_
     refine St.done ?_
     refine St.thenN ?_
     refine St.prune (Γ' := [(2, _), (3, _)]) ⟨rfl, rfl, trivial⟩ (.d .z) ?_
     refine St.ret ?_
     repeat (first | refine St.thenR ?_ | refine St.blkR ?_)
     refine St.asrt (fun _ w => w.nilL eu8 5) ?_
     injection h with h
     subst h
     exact St.finR Try.results11 (.tmp rfl (.tmp rfl .nil)) rfl [.res (OwnL eu8 5 none 0 ([] : List Int))] ⟨none, 0, rfl, rfl⟩ (fun _ w => ((.k .z) : Keep _ _).sat w)
    ·replace h := bif_f hb4 h
     refine St.skip ?_
     refine St.thenN ?_
     refine St.prune (Γ' := [(5, _)]) ⟨rfl, trivial⟩ (.k .z) ?_
     refine St.seq ?_
     refine St.region ?_
     iterate 3 refine St.p rfl rfl ?_
     refine St.done ?_
     refine St.thenN ?_
     refine St.prune (Γ' := [(2, _), (3, _)]) ⟨rfl, rfl, trivial⟩ (.k .z) ?_
     refine St.ret ?_
     repeat (first | refine St.thenR ?_ | refine St.blkR ?_)
     injection h with h
     subst h
     exact St.finR Try.results11 (.tmp rfl (.tmp rfl .nil)) rfl [.res (OwnL eu8 5 A17 c17 r10)] ⟨A17, c17, rfl, rfl⟩ (fun _ w => ((.k .z) : Keep _ _).sat w)

theorem ent48 : Ent Try.prog 48 := ⟨_, Try.func48, by kernel_rfl, by kernel_rfl⟩

noncomputable def m_bundle_reader_take (r_p0 : T_bundle_reader) (n_p1 : Int) : Option (T_bundle_reader × (List Int)) :=
 bnd ((bif r_p0.bad then (some true) else (some (decide (n_p1 > (IntKind.wrap .i64 ((r_p0.b.length : Int) - r_p0.at_))))) : Option Bool)) fun o1 => bif o1 then (bnd (mkS 1 0 n_p1 n_p1) fun l1 => some ((⟨r_p0.b, r_p0.at_, true⟩ : T_bundle_reader), l1)) else (bnd (sub r_p0.b (IntKind.wrap .i64 ((IntKind.wrap .i64 (r_p0.at_ + n_p1)) - n_p1)) (IntKind.wrap .i64 (r_p0.at_ + n_p1))) fun l2 => some ((⟨r_p0.b, IntKind.wrap .i64 (r_p0.at_ + n_p1), r_p0.bad⟩ : T_bundle_reader), l2))

theorem c_bundle_reader_take {r_p0 : T_bundle_reader} {n_p1 : Int} {A1 : Option Addr} {c1 : Nat} {gb1 : Nat} {r : (T_bundle_reader × (List Int))} (h : m_bundle_reader_take r_p0 n_p1 = some r) :
  Fun Try.prog 48 [.pointer (some ⟨gb1, 0, none⟩), .int .i64 n_p1] [.ro (SlL eu8 A1 c1 r_p0.b), .res (Box gb1 81 [.slice A1 r_p0.b.length c1, .int .i64 r_p0.at_, .bool r_p0.bad])] (fun v_ F_ => ∃ (A1 : Option Addr) (c1 : Nat) (A2 : Option Addr) (c2 : Nat), v_ = .slice A2 r.2.length c2 ∧ F_ = [.ro (SlL eu8 A1 c1 r.1.b), .ro (SlL eu8 A2 c2 r.2), .res (Box gb1 81 [.slice A1 r.1.b.length c1, .int .i64 r.1.at_, .bool r.1.bad])]) := by
 unfold m_bundle_reader_take at h
 refine Fun.intro Try.func48 rfl rfl rfl fun w R => ?_
 refine St.seq ?_
 refine St.region ?_
 refine St.p rfl rfl ?_
 refine St.done ?_
 refine St.thenN ?_
 refine St.prune (Γ' := [(0, _), (1, _)]) ⟨rfl, rfl, trivial⟩ (.k (.k .z)) ?_
 refine St.seq ?_
 refine St.seq ?_
 obtain ⟨o1, hj1, h⟩ := bnd_e h
 refine St.cutE (fun (e1 : Unit) => [(0, .pointer (some ⟨gb1, 0, none⟩)), (1, .int .i64 n_p1), (22, .bool o1)]) (fun e1 => .ro (SlL eu8 A1 c1 r_p0.b) :: .res (Box gb1 81 [.slice A1 r_p0.b.length c1, .int .i64 r_p0.at_, .bool r_p0.bad]) :: R) ?_ ?_
 ·refine St.regionF mixed (by kernel_rfl) ?_
  iterate 3 refine St.p rfl rfl ?_
  refine St.loadB 2 rfl rfl (.tail _ (.head _)) rfl rfl ?_
  refine St.p rfl rfl ?_
  refine St.gSplit (dj := 9) _ rfl (fun hb1 => ?_) (fun hb1 => ?_)
  ·replace hj1 := bif_t hb1 hj1
   refine St.gOff (dj := 9) rfl rfl rfl rfl ?_
   refine St.gOff (dj := 9) rfl rfl rfl rfl ?_
   refine St.gOff (dj := 9) rfl rfl rfl rfl ?_
   refine St.gOff (dj := 9) rfl rfl rfl rfl ?_
   refine St.gOff (dj := 9) rfl rfl rfl rfl ?_
   refine St.gOff (dj := 9) rfl rfl rfl rfl ?_
   refine St.gOff (dj := 9) rfl rfl rfl rfl ?_
   refine St.gOff (dj := 9) rfl rfl rfl rfl ?_
   refine St.gOff (dj := 9) rfl rfl rfl rfl ?_
   refine St.gOff (dj := 9) rfl rfl rfl rfl ?_
   refine St.gOff (dj := 9) rfl rfl rfl rfl ?_
   refine St.gOff (dj := 9) rfl rfl rfl rfl ?_
   refine St.p rfl rfl ?_
   refine St.doneQ ?_
   injection hj1 with hj1
   subst hj1
   refine St.thenN ?_
   exact St.hereE () ⟨rfl, rfl, rfl, trivial⟩ (fun _ w => ((.k (.k .z)) : Keep _ _).sat w)
  ·replace hj1 := bif_f hb1 hj1
   refine St.gOn (dj := 9) rfl rfl ?_
   refine St.p rfl rfl ?_
   refine St.gOn (dj := 9) rfl rfl ?_
   refine St.p rfl rfl ?_
   refine St.gOn (dj := 9) rfl rfl ?_
   refine St.p rfl rfl ?_
   refine St.gOn (dj := 9) rfl rfl ?_
   refine St.p rfl rfl ?_
   refine St.gOn (dj := 9) rfl rfl ?_
   refine St.loadB 0 rfl rfl (.tail _ (.head _)) rfl rfl ?_
   refine St.gOn (dj := 9) rfl rfl ?_
   refine St.p rfl rfl ?_
   refine St.gOn (dj := 9) rfl rfl ?_
   refine St.p rfl rfl ?_
   refine St.gOn (dj := 9) rfl rfl ?_
   refine St.p rfl rfl ?_
   refine St.gOn (dj := 9) rfl rfl ?_
   refine St.p rfl rfl ?_
   refine St.gOn (dj := 9) rfl rfl ?_
   refine St.loadB 1 rfl rfl (.tail _ (.head _)) rfl rfl ?_
   refine St.gOn (dj := 9) rfl rfl ?_
   refine St.p rfl rfl ?_
   refine St.gOn (dj := 9) rfl rfl ?_
   refine St.p rfl rfl ?_
   refine St.p rfl rfl ?_
   refine St.doneQ ?_
   injection hj1 with hj1
   subst hj1
   refine St.thenN ?_
   exact St.hereE () ⟨rfl, rfl, rfl, trivial⟩ (fun _ w => ((.k (.k .z)) : Keep _ _).sat w)
 ·rintro e1
  refine St.cond _ rfl (fun hb2 => ?_) (fun hb2 => ?_)
  ·replace h := bif_t hb2 h
   refine St.seq ?_
   refine St.region ?_
   iterate 3 refine St.p rfl rfl ?_
   refine St.store 2 rfl rfl rfl rfl rfl rfl (.s .z) rfl ?_
   refine St.done ?_
   refine St.thenN ?_
   refine St.prune (Γ' := [(1, _)]) ⟨rfl, trivial⟩ (.k (.k .z)) ?_
   refine St.seq ?_
   refine St.region ?_
   refine St.p rfl rfl ?_
   obtain ⟨l1, hl1, h⟩ := bnd_e h
   refine St.mkL (E := eu8) 0 hl1 rfl rfl rfl rfl rfl rfl rfl rfl rfl rfl fun g1 => ?_
   refine St.p rfl rfl ?_
   refine St.done ?_
   refine St.thenN ?_
   refine St.prune (Γ' := [(4, _)]) ⟨rfl, trivial⟩ (.k (.k (.k .z))) ?_
   refine St.ret ?_
   repeat (first | refine St.thenR ?_ | refine St.blkR ?_)
   refine St.asrt (fun _ w => (w.front .z).meltL) ?_
   injection h with h
   subst h
   exact St.finR Try.results48 (.tmp rfl .nil) rfl [.ro (SlL eu8 A1 c1 r_p0.b), .ro (SlL eu8 (some ⟨g1, 0, none⟩) (Int.toNat n_p1) l1), .res (Box gb1 81 [.slice A1 r_p0.b.length c1, .int .i64 r_p0.at_, .bool true])] ⟨A1, c1, (some ⟨g1, 0, none⟩), (Int.toNat n_p1), rfl, rfl⟩ (fun _ w => ((.k (.k (.k (.d (.d .z))))) : Keep _ _).sat (Sat.dup (G := [.ro (SlL eu8 A1 c1 r_p0.b), .ro (SlL eu8 (some ⟨g1, 0, none⟩) (Int.toNat n_p1) l1)]) rfl ⟨(.tail _ (.tail _ (.head _))), (.tail _ (.head _)), trivial⟩ (w.front (.s .z))))
  ·replace h := bif_f hb2 h
   refine St.skip ?_
   refine St.thenN ?_
   refine St.prune (Γ' := [(0, _), (1, _)]) ⟨rfl, rfl, trivial⟩ (.k (.k .z)) ?_
   refine St.seq ?_
   refine St.region ?_
   iterate 3 refine St.p rfl rfl ?_
   refine St.loadB 1 rfl rfl (.tail _ (.head _)) rfl rfl ?_
   iterate 4 refine St.p rfl rfl ?_
   refine St.store 1 rfl rfl rfl rfl rfl rfl (.s .z) rfl ?_
   refine St.done ?_
   refine St.thenN ?_
   refine St.prune (Γ' := [(0, _), (1, _)]) ⟨rfl, rfl, trivial⟩ (.k (.k .z)) ?_
   refine St.seq ?_
   refine St.regionF mixed (by kernel_rfl) ?_
   iterate 3 refine St.p rfl rfl ?_
   refine St.loadB 0 rfl rfl (.head _) rfl rfl ?_
   iterate 3 refine St.p rfl rfl ?_
   refine St.loadB 1 rfl rfl (.head _) rfl rfl ?_
   iterate 5 refine St.p rfl rfl ?_
   refine St.loadB 1 rfl rfl (.head _) rfl rfl ?_
   obtain ⟨l2, hl2, h⟩ := bnd_e h
   refine St.sub (E := (cod eu8)) rfl rfl (.tail _ (.head _)) rfl rfl rfl rfl rfl rfl rfl hl2 fun A2 c2 => ?_
   refine St.p rfl rfl ?_
   refine St.doneQ ?_
   refine St.thenN ?_
   refine St.prune (Γ' := [(4, _)]) ⟨rfl, trivial⟩ (.k (.k (.k .z))) ?_
   refine St.ret ?_
   repeat (first | refine St.thenR ?_ | refine St.blkR ?_)
   injection h with h
   subst h
   exact St.finR Try.results48 (.tmp rfl .nil) rfl [.ro (SlL eu8 A1 c1 r_p0.b), .ro (SlL eu8 A2 c2 l2), .res (Box gb1 81 [.slice A1 r_p0.b.length c1, .int .i64 (IntKind.wrap .i64 (r_p0.at_ + n_p1)), .bool r_p0.bad])] ⟨A1, c1, A2, c2, rfl, rfl⟩ (fun _ w => ((.k (.k (.k (.d (.d .z))))) : Keep _ _).sat (Sat.dup (G := [.ro (SlL eu8 A1 c1 r_p0.b), .ro (SlL eu8 A2 c2 l2)]) rfl ⟨(.tail _ (.tail _ (.head _))), (.tail _ (.head _)), trivial⟩ (w.front (.s .z))))

theorem ent47 : Ent Try.prog 47 := ⟨_, Try.func47, by kernel_rfl, by kernel_rfl⟩

noncomputable def m_bundle_reader_number (r_p0 : T_bundle_reader) (n_p1 : Int) : Option (T_bundle_reader × Int) :=
 bnd (m_bundle_reader_take r_p0 n_p1) fun r1 => bnd (loopM (τ := Int) (fun (s1 : Int × Int) => bif decide (s1.2 < (r1.2.length : Int)) then (bnd (elt r1.2 s1.2) fun x1 => some (.next (iOr .i64 (iShl .i64 s1.1 8) (IntKind.wrap .i64 x1), IntKind.wrap .i64 (s1.2 + 1)))) else (some (.done s1.1))) (0, 0)) fun o1 => some (r1.1, o1)

theorem c_bundle_reader_number {r_p0 : T_bundle_reader} {n_p1 : Int} {A1 : Option Addr} {c1 : Nat} {gb1 : Nat} {r : (T_bundle_reader × Int)} (h : m_bundle_reader_number r_p0 n_p1 = some r) :
  Fun Try.prog 47 [.pointer (some ⟨gb1, 0, none⟩), .int .i64 n_p1] [.ro (SlL eu8 A1 c1 r_p0.b), .res (Box gb1 81 [.slice A1 r_p0.b.length c1, .int .i64 r_p0.at_, .bool r_p0.bad])] (fun v_ F_ => ∃ (A1 : Option Addr) (c1 : Nat), v_ = .int .i64 r.2 ∧ F_ = [.ro (SlL eu8 A1 c1 r.1.b), .res (Box gb1 81 [.slice A1 r.1.b.length c1, .int .i64 r.1.at_, .bool r.1.bad])]) := by
 unfold m_bundle_reader_number at h
 refine Fun.intro Try.func47 rfl rfl rfl fun w R => ?_
 refine St.seq ?_
 refine St.region ?_
 refine St.p rfl rfl ?_
 refine St.done ?_
 refine St.thenN ?_
 refine St.prune (Γ' := [(0, _), (1, _)]) ⟨rfl, rfl, trivial⟩ (.k (.k .z)) ?_
 refine St.seq ?_
 refine St.region ?_
 refine St.p rfl rfl ?_
 refine St.done ?_
 refine St.thenN ?_
 refine St.seq ?_
 refine St.seq ?_
 refine St.region ?_
 refine St.p rfl rfl ?_
 refine St.p rfl rfl ?_
 obtain ⟨r1, hr1, h⟩ := bnd_e h
 refine St.call (c_bundle_reader_take hr1) ent48 rfl rfl rfl (fun _ w => Sat.dup (G := [.ro (SlL eu8 A1 c1 r_p0.b)]) rfl ⟨(.tail _ (.head _)), trivial⟩ (w.front (.s .z))) ?_
 rintro _ _ ⟨A2, c2, A3, c3, rfl, rfl⟩
 refine St.asrt (F' := .ro (SlL eu8 A2 c2 r1.1.b) :: .ro (SlL eu8 A3 c3 r1.2) :: .res (Box gb1 81 [.slice A2 r1.1.b.length c2, .int .i64 r1.1.at_, .bool r1.1.bad]) :: .ro (SlL eu8 A1 c1 r_p0.b) :: R) (fun _ w => w) ?_
 refine St.p rfl rfl ?_
 refine St.p rfl rfl ?_
 refine St.done ?_
 refine St.thenN ?_
 refine St.prune (Γ' := [(5, _), (10, _), (11, _), (12, _)]) ⟨rfl, rfl, rfl, rfl, trivial⟩ (.k (.k (.k (.d .z)))) ?_
 obtain ⟨o1, hl1, h⟩ := bnd_e h
 refine St.cutE (fun (e2 : Unit) => [(5, .int .i64 o1)]) (fun e2 => .ro (SlL eu8 A2 c2 r1.1.b) :: .res (Box gb1 81 [.slice A2 r1.1.b.length c2, .int .i64 r1.1.at_, .bool r1.1.bad]) :: R) ?_ ?_
 ·refine St.block ?_
  refine St.loop hl1 (fun (s1 : Int × Int) (e1 : Unit) => [(5, .int .i64 s1.1), (10, .slice A3 r1.2.length c3), (11, .int .i64 (r1.2.length : Int)), (12, .int .i64 s1.2)]) (fun s1 e1 => .ro (SlL eu8 A2 c2 r1.1.b) :: .ro (SlL eu8 A3 c3 r1.2) :: .res (Box gb1 81 [.slice A2 r1.1.b.length c2, .int .i64 r1.1.at_, .bool r1.1.bad]) :: R) (fun _ _ => True) () trivial ⟨rfl, rfl, rfl, rfl, trivial⟩ (fun _ w => ((.k (.k (.k .z))) : Keep _ _).sat w) ?_
  rintro s1 e1 - hit1
  obtain ⟨st1, hm1, hd1⟩ := iter_e hit1
  have h1 := hm1
  refine St.seq ?_
  refine St.region ?_
  refine St.p rfl rfl ?_
  refine St.done ?_
  refine St.thenN ?_
  refine St.seq ?_
  refine St.cond _ rfl (fun hb1 => ?_) (fun hb1 => ?_)
  ·replace h1 := bif_t hb1 h1
   refine St.skip ?_
   refine St.thenN ?_
   refine St.prune (Γ' := [(5, _), (10, _), (11, _), (12, _)]) ⟨rfl, rfl, rfl, rfl, trivial⟩ (.k (.k (.k .z))) ?_
   refine St.seq ?_
   refine St.block ?_
   refine St.seq ?_
   refine St.region ?_
   obtain ⟨x1, hx1, h1⟩ := bnd_e h1
   refine St.ixL hx1 rfl rfl rfl (.tail _ (.head _)) rfl rfl rfl rfl rfl fun b1 ob1 => ?_
   refine St.load ob1 0 rfl rfl (.head _) rfl rfl ?_
   refine St.p rfl rfl ?_
   refine St.done ?_
   refine St.thenN ?_
   refine St.prune (Γ' := [(5, _), (7, _), (10, _), (11, _), (12, _)]) ⟨rfl, rfl, rfl, rfl, rfl, trivial⟩ (.d (.k (.k (.k .z)))) ?_
   refine St.region ?_
   iterate 6 refine St.p rfl rfl ?_
   refine St.done ?_
   refine St.blkN ?_
   refine St.thenN ?_
   refine St.prune (Γ' := [(5, _), (10, _), (11, _), (12, _)]) ⟨rfl, rfl, rfl, rfl, trivial⟩ (.k (.k (.k .z))) ?_
   refine St.region ?_
   refine St.p rfl rfl ?_
   refine St.p rfl rfl ?_
   refine St.done ?_
   injection h1 with h1
   subst h1
   refine St.thenN ?_
   exact St.again _ () hm1 trivial ⟨rfl, rfl, rfl, rfl, trivial⟩ (fun _ w => ((.k (.k (.k .z))) : Keep _ _).sat w)
  ·replace h1 := bif_f hb1 h1
   refine St.exit ?_
   repeat (first | refine St.thenX ?_ | refine St.blkMiss rfl ?_)
   refine St.blkHit ?_
   injection h1 with h1
   subst h1
   have ho := hd1 _ rfl
   subst ho
   refine St.thenN ?_
   exact St.hereE () ⟨rfl, trivial⟩ (fun _ w => ((.k (.d (.k .z))) : Keep _ _).sat w)
 ·rintro e2
  refine St.seq ?_
  refine St.region ?_
  refine St.p rfl rfl ?_
  refine St.p rfl rfl ?_
  refine St.done ?_
  refine St.thenN ?_
  refine St.prune (Γ' := [(4, _)]) ⟨rfl, trivial⟩ (.k (.k .z)) ?_
  refine St.ret ?_
  repeat (first | refine St.thenR ?_ | refine St.blkR ?_)
  injection h with h
  subst h
  exact St.finR Try.results47 (.tmp rfl .nil) rfl [.ro (SlL eu8 A2 c2 r1.1.b), .res (Box gb1 81 [.slice A2 r1.1.b.length c2, .int .i64 r1.1.at_, .bool r1.1.bad])] ⟨A2, c2, rfl, rfl⟩ (fun _ w => ((.k (.k (.d .z))) : Keep _ _).sat (Sat.dup (G := [.ro (SlL eu8 A2 c2 r1.1.b)]) rfl ⟨(.tail _ (.head _)), trivial⟩ (w.front (.s .z))))

theorem ent49 : Ent Try.prog 49 := ⟨_, Try.func49, by kernel_rfl, by kernel_rfl⟩

noncomputable def m_bundle_reader_text (r_p0 : T_bundle_reader) : Option (T_bundle_reader × ByteArray) :=
 bnd (m_bundle_reader_number r_p0 1) fun r1 => bnd (m_bundle_reader_take r1.1 r1.2) fun r2 => some (r2.1, strOf r2.2)

theorem c_bundle_reader_text {r_p0 : T_bundle_reader} {A1 : Option Addr} {c1 : Nat} {gb1 : Nat} {r : (T_bundle_reader × ByteArray)} (h : m_bundle_reader_text r_p0 = some r) :
  Fun Try.prog 49 [.pointer (some ⟨gb1, 0, none⟩)] [.ro (SlL eu8 A1 c1 r_p0.b), .res (Box gb1 81 [.slice A1 r_p0.b.length c1, .int .i64 r_p0.at_, .bool r_p0.bad])] (fun v_ F_ => ∃ (A1 : Option Addr) (c1 : Nat), v_ = .string r.2 ∧ F_ = [.ro (SlL eu8 A1 c1 r.1.b), .res (Box gb1 81 [.slice A1 r.1.b.length c1, .int .i64 r.1.at_, .bool r.1.bad])]) := by
 unfold m_bundle_reader_text at h
 refine Fun.intro Try.func49 rfl rfl rfl fun w R => ?_
 refine St.seq ?_
 refine St.region ?_
 refine St.p rfl rfl ?_
 refine St.done ?_
 refine St.thenN ?_
 refine St.prune (Γ' := [(0, _)]) ⟨rfl, trivial⟩ (.k (.k .z)) ?_
 refine St.seq ?_
 refine St.region ?_
 refine St.p rfl rfl ?_
 refine St.p rfl rfl ?_
 obtain ⟨r1, hr1, h⟩ := bnd_e h
 refine St.call (c_bundle_reader_number hr1) ent47 rfl rfl rfl (fun _ w => Sat.dup (G := [.ro (SlL eu8 A1 c1 r_p0.b)]) rfl ⟨(.tail _ (.head _)), trivial⟩ (w.front (.s .z))) ?_
 rintro _ _ ⟨A2, c2, rfl, rfl⟩
 refine St.asrt (F' := .ro (SlL eu8 A2 c2 r1.1.b) :: .res (Box gb1 81 [.slice A2 r1.1.b.length c2, .int .i64 r1.1.at_, .bool r1.1.bad]) :: .ro (SlL eu8 A1 c1 r_p0.b) :: R) (fun _ w => w) ?_
 obtain ⟨r2, hr2, h⟩ := bnd_e h
 refine St.call (c_bundle_reader_take hr2) ent48 rfl rfl rfl (fun _ w => Sat.dup (G := [.ro (SlL eu8 A2 c2 r1.1.b)]) rfl ⟨(.tail _ (.head _)), trivial⟩ (w.front (.s .z))) ?_
 rintro _ _ ⟨A3, c3, A4, c4, rfl, rfl⟩
 refine St.asrt (F' := .ro (SlL eu8 A3 c3 r2.1.b) :: .ro (SlL eu8 A4 c4 r2.2) :: .res (Box gb1 81 [.slice A3 r2.1.b.length c3, .int .i64 r2.1.at_, .bool r2.1.bad]) :: .ro (SlL eu8 A2 c2 r1.1.b) :: .ro (SlL eu8 A1 c1 r_p0.b) :: R) (fun _ w => w) ?_
 refine St.b2s rfl rfl rfl rfl rfl rfl rfl rfl rfl (srcL (E := eu8) (.tail _ (.head _))) ?_
 refine St.p rfl rfl ?_
 refine St.done ?_
 refine St.thenN ?_
 refine St.prune (Γ' := [(2, _)]) ⟨rfl, trivial⟩ (.k (.d (.k (.d (.d .z))))) ?_
 refine St.ret ?_
 repeat (first | refine St.thenR ?_ | refine St.blkR ?_)
 injection h with h
 subst h
 exact St.finR Try.results49 (.tmp rfl .nil) rfl [.ro (SlL eu8 A3 c3 r2.1.b), .res (Box gb1 81 [.slice A3 r2.1.b.length c3, .int .i64 r2.1.at_, .bool r2.1.bad])] ⟨A3, c3, rfl, rfl⟩ (fun _ w => ((.k (.k (.d .z))) : Keep _ _).sat (Sat.dup (G := [.ro (SlL eu8 A3 c3 r2.1.b)]) rfl ⟨(.tail _ (.head _)), trivial⟩ (w.front (.s .z))))

theorem ent50 : Ent Try.prog 50 := ⟨_, Try.func50, by kernel_rfl, by kernel_rfl⟩

noncomputable def m_bundle_reader_version (r_p0 : T_bundle_reader) : Option (T_bundle_reader × T_Version) :=
 bnd (m_bundle_reader_number r_p0 2) fun r1 => bnd (m_bundle_reader_number r1.1 2) fun r2 => bnd (m_bundle_reader_number r2.1 2) fun r3 => some (r3.1, (⟨r1.2, r2.2, r3.2⟩ : T_Version))

theorem c_bundle_reader_version {r_p0 : T_bundle_reader} {A1 : Option Addr} {c1 : Nat} {gb1 : Nat} {r : (T_bundle_reader × T_Version)} (h : m_bundle_reader_version r_p0 = some r) :
  Fun Try.prog 50 [.pointer (some ⟨gb1, 0, none⟩)] [.ro (SlL eu8 A1 c1 r_p0.b), .res (Box gb1 81 [.slice A1 r_p0.b.length c1, .int .i64 r_p0.at_, .bool r_p0.bad])] (fun v_ F_ => ∃ (A1 : Option Addr) (c1 : Nat), v_ = .agg #[.int .i64 r.2.Major, .int .i64 r.2.Minor, .int .i64 r.2.Patch] ∧ F_ = [.ro (SlL eu8 A1 c1 r.1.b), .res (Box gb1 81 [.slice A1 r.1.b.length c1, .int .i64 r.1.at_, .bool r.1.bad])]) := by
 unfold m_bundle_reader_version at h
 refine Fun.intro Try.func50 rfl rfl rfl fun w R => ?_
 refine St.seq ?_
 refine St.region ?_
 refine St.alloc rfl rfl fun g1 => ?_
 refine St.done ?_
 refine St.thenN ?_
 refine St.seq ?_
 refine St.region ?_
 refine St.p rfl rfl ?_
 obtain ⟨r1, hr1, h⟩ := bnd_e h
 refine St.call (c_bundle_reader_number hr1) ent47 rfl rfl rfl (fun _ w => Sat.dup (G := [.ro (SlL eu8 A1 c1 r_p0.b)]) rfl ⟨(.tail _ (.tail _ (.head _))), trivial⟩ (w.front (.s (.s .z)))) ?_
 rintro _ _ ⟨A2, c2, rfl, rfl⟩
 refine St.asrt (F' := .ro (SlL eu8 A2 c2 r1.1.b) :: .res (Box gb1 81 [.slice A2 r1.1.b.length c2, .int .i64 r1.1.at_, .bool r1.1.bad]) :: .res (Box g1 39 [.int .i64 0, .int .i64 0, .int .i64 0]) :: .ro (SlL eu8 A1 c1 r_p0.b) :: R) (fun _ w => w) ?_
 refine St.p rfl rfl ?_
 obtain ⟨r2, hr2, h⟩ := bnd_e h
 refine St.call (c_bundle_reader_number hr2) ent47 rfl rfl rfl (fun _ w => Sat.dup (G := [.ro (SlL eu8 A2 c2 r1.1.b)]) rfl ⟨(.tail _ (.head _)), trivial⟩ (w.front (.s .z))) ?_
 rintro _ _ ⟨A3, c3, rfl, rfl⟩
 refine St.asrt (F' := .ro (SlL eu8 A3 c3 r2.1.b) :: .res (Box gb1 81 [.slice A3 r2.1.b.length c3, .int .i64 r2.1.at_, .bool r2.1.bad]) :: .ro (SlL eu8 A2 c2 r1.1.b) :: .res (Box g1 39 [.int .i64 0, .int .i64 0, .int .i64 0]) :: .ro (SlL eu8 A1 c1 r_p0.b) :: R) (fun _ w => w) ?_
 refine St.p rfl rfl ?_
 obtain ⟨r3, hr3, h⟩ := bnd_e h
 refine St.call (c_bundle_reader_number hr3) ent47 rfl rfl rfl (fun _ w => Sat.dup (G := [.ro (SlL eu8 A3 c3 r2.1.b)]) rfl ⟨(.tail _ (.head _)), trivial⟩ (w.front (.s .z))) ?_
 rintro _ _ ⟨A4, c4, rfl, rfl⟩
 refine St.asrt (F' := .ro (SlL eu8 A4 c4 r3.1.b) :: .res (Box gb1 81 [.slice A4 r3.1.b.length c4, .int .i64 r3.1.at_, .bool r3.1.bad]) :: .ro (SlL eu8 A3 c3 r2.1.b) :: .ro (SlL eu8 A2 c2 r1.1.b) :: .res (Box g1 39 [.int .i64 0, .int .i64 0, .int .i64 0]) :: .ro (SlL eu8 A1 c1 r_p0.b) :: R) (fun _ w => w) ?_
 refine St.p rfl rfl ?_
 refine St.store 0 rfl rfl rfl rfl rfl rfl (.s (.s (.s (.s .z)))) rfl ?_
 refine St.done ?_
 refine St.thenN ?_
 refine St.prune (Γ' := [(2, _)]) ⟨rfl, trivial⟩ (.k (.k (.k (.d (.d (.d .z)))))) ?_
 refine St.ret ?_
 repeat (first | refine St.thenR ?_ | refine St.blkR ?_)
 injection h with h
 subst h
 exact St.finR Try.results50 (.cell rfl (.head _) rfl .nil) rfl [.ro (SlL eu8 A4 c4 r3.1.b), .res (Box gb1 81 [.slice A4 r3.1.b.length c4, .int .i64 r3.1.at_, .bool r3.1.bad])] ⟨A4, c4, rfl, rfl⟩ (fun _ w => ((.k (.k (.d (.d .z)))) : Keep _ _).sat (Sat.dup (G := [.ro (SlL eu8 A4 c4 r3.1.b)]) rfl ⟨(.tail _ (.tail _ (.head _))), trivial⟩ (w.front (.s (.s .z)))))

theorem ent51 : Ent Try.prog 51 := ⟨_, Try.func51, by kernel_rfl, by kernel_rfl⟩

noncomputable def m_slices_Clone__byte_byte (s_p0 : (List Int)) : Option (List Int) :=
 bnd (app 1 ([]) s_p0) fun l1 => some l1

theorem c_slices_Clone__byte_byte {s_p0 : (List Int)} {A1 : Option Addr} {c1 : Nat} {r : (List Int)} (h : m_slices_Clone__byte_byte s_p0 = some r) :
  Fun Try.prog 51 [.slice A1 s_p0.length c1] [.ro (SlL eu8 A1 c1 s_p0)] (fun v_ F_ => ∃ (A1 : Option Addr) (c1 : Nat), v_ = .slice A1 r.length c1 ∧ F_ = [.res (OwnL eu8 5 A1 c1 r)]) := by
 unfold m_slices_Clone__byte_byte at h
 refine Fun.intro Try.func51 rfl rfl rfl fun w R => ?_
 rcases A1 with _ | ad
 ·refine St.fact (φ := s_p0 = []) (fun w hf => (hf.ro (r := SlL eu8 none c1 s_p0) (.head _)).2.2.1 rfl) fun hs => ?_
  subst hs
  have h : (some ([]) : Option (List Int)) = some r := by simpa [app, bnd] using h
  refine St.seq ?_
  refine St.region ?_
  refine St.p rfl rfl ?_
  refine St.done ?_
  refine St.thenN ?_
  refine St.prune (Γ' := [(0, _)]) ⟨rfl, trivial⟩ (.k .z) ?_
  refine St.seq ?_
  refine St.seq ?_
  refine St.region ?_
  refine St.p rfl rfl ?_
  refine St.p rfl rfl ?_
  refine St.done ?_
  refine St.thenN ?_
  refine St.prune (Γ' := [(0, _), (4, _)]) ⟨rfl, rfl, trivial⟩ (.k .z) ?_
  refine St.condT rfl ?_
  refine St.seq ?_
  refine St.region ?_
  refine St.p rfl rfl ?_
  refine St.done ?_
  refine St.thenN ?_
  refine St.prune (Γ' := [(2, _)]) ⟨rfl, trivial⟩ (.d .z) ?_
  refine St.ret ?_
  repeat (first | refine St.thenR ?_ | refine St.blkR ?_)
  refine St.asrt (fun _ w => w.nilL eu8 5) ?_
  injection h with h
  subst h
  exact St.finR Try.results51 (.tmp rfl .nil) rfl [.res (OwnL eu8 5 none 0 ([] : List Int))] ⟨none, 0, rfl, rfl⟩ (fun _ w => ((.k .z) : Keep _ _).sat w)
 ·refine St.seq ?_
  refine St.region ?_
  refine St.p rfl rfl ?_
  refine St.done ?_
  refine St.thenN ?_
  refine St.prune (Γ' := [(0, _)]) ⟨rfl, trivial⟩ (.k .z) ?_
  refine St.seq ?_
  refine St.seq ?_
  refine St.region ?_
  refine St.p rfl rfl ?_
  refine St.p rfl rfl ?_
  refine St.done ?_
  refine St.thenN ?_
  refine St.prune (Γ' := [(0, _), (4, _)]) ⟨rfl, rfl, trivial⟩ (.k .z) ?_
  refine St.condF rfl ?_
  refine St.skip ?_
  refine St.thenN ?_
  refine St.prune (Γ' := [(0, _)]) ⟨rfl, trivial⟩ (.k .z) ?_
  refine St.seq ?_
  refine St.region ?_
  refine St.buildSlice rfl rfl rfl rfl rfl rfl rfl rfl fun g1 => ?_
  refine St.p rfl rfl ?_
  refine St.asrt (fun _ w => (w.front .z).litL (E := eu8) (e := 5) [] rfl rfl) ?_
  obtain ⟨l1, hl1, h⟩ := bnd_e h
  refine St.app (E := eu8) hl1 rfl rfl rfl .z rfl rfl rfl rfl rfl rfl rfl rfl (srcL (.tail _ (.head _))) rfl rfl fun A2 c2 => ?_
  refine St.p rfl rfl ?_
  refine St.done ?_
  refine St.thenN ?_
  refine St.prune (Γ' := [(2, _)]) ⟨rfl, trivial⟩ (.k (.d .z)) ?_
  refine St.ret ?_
  repeat (first | refine St.thenR ?_ | refine St.blkR ?_)
  injection h with h
  subst h
  exact St.finR Try.results51 (.tmp rfl .nil) rfl [.res (OwnL eu8 5 A2 c2 l1)] ⟨A2, c2, rfl, rfl⟩ (fun _ w => ((.k .z) : Keep _ _).sat w)

theorem ent22 : Ent Try.prog 22 := ⟨_, Try.func22, by kernel_rfl, by kernel_rfl⟩

noncomputable def m_bundle_Decode (b_p0 : (List Int)) : Option (T_Bundle × Int) :=
 bif decide ((b_p0.length : Int) > 8192) then (some ((⟨[], []⟩ : T_Bundle), 3)) else (bif decide ((b_p0.length : Int) < 10) then (some ((⟨[], []⟩ : T_Bundle), 4)) else (bnd (sub b_p0 (IntKind.wrap .i64 ((b_p0.length : Int) - 4)) (b_p0.length : Int)) fun l1 => bnd (sub b_p0 0 (IntKind.wrap .i64 ((b_p0.length : Int) - 4))) fun l2 => bnd (m_bundle_reader_number (⟨l1, 0, false⟩ : T_bundle_reader) 4) fun r1 => bnd (m_checksum_CRC32 l2) fun r2 => bif ((IntKind.wrap .u32 r1.2) != r2) then (some ((⟨[], []⟩ : T_Bundle), 5)) else (bnd (m_bundle_reader_take (⟨l2, 0, false⟩ : T_bundle_reader) 4) fun r3 => bnd (m_bundle_reader_number r3.1 1) fun r4 => bnd (loopM (τ := Bool × List T_Image × List Int × Int × Bool × List T_Image) (fun (s1 : Bool × Int × List T_Image × List Int × Int × Bool × List T_Image) => bnd ((bif decide (s1.2.1 > 0) then (some (!s1.2.2.2.2.2.1)) else (some false) : Option Bool)) fun o2 => bif o2 then (bnd (m_bundle_reader_text (⟨s1.2.2.2.1, s1.2.2.2.2.1, s1.2.2.2.2.2.1⟩ : T_bundle_reader)) fun r5 => bnd (m_bundle_reader_version r5.1) fun r6 => bnd (m_bundle_reader_number r6.1 2) fun r7 => bnd (m_bundle_reader_take r7.1 r7.2) fun r8 => bnd (m_slices_Clone__byte_byte r8.2) fun r9 => bnd (m_bundle_reader_number r8.1 4) fun r10 => bnd ((bif s1.1 then (bif !r10.1.bad then (bnd (sub l2 s1.2.2.2.2.1 r8.1.at_) fun l3 => bnd (m_checksum_CRC32 l3) fun r11 => some ((IntKind.wrap .u32 r10.2) == r11)) else (some false)) else (some false) : Option Bool)) fun o3 => bnd (app 64 s1.2.2.2.2.2.2 [(⟨r5.2, r6.2, r9⟩ : T_Image)]) fun l4 => some (.next (o3, IntKind.wrap .i64 (s1.2.1 - 1), s1.2.2.1, r10.1.b, r10.1.at_, r10.1.bad, l4))) else (some (.done (s1.1, s1.2.2.1, s1.2.2.2.1, s1.2.2.2.2.1, s1.2.2.2.2.2.1, s1.2.2.2.2.2.2)))) (true, r4.2, [], r4.1.b, r4.1.at_, r4.1.bad, [])) fun o1 => bnd (m_bundle_reader_number (⟨o1.2.2.1, o1.2.2.2.1, o1.2.2.2.2.1⟩ : T_bundle_reader) 1) fun r12 => bnd (loopM (τ := List T_Need × List Int × Int × Bool × List T_Need) (fun (s2 : Int × List T_Need × List Int × Int × Bool × List T_Need) => bnd ((bif decide (s2.1 > 0) then (some (!s2.2.2.2.2.1)) else (some false) : Option Bool)) fun o5 => bif o5 then (bnd (m_bundle_reader_text (⟨s2.2.2.1, s2.2.2.2.1, s2.2.2.2.2.1⟩ : T_bundle_reader)) fun r13 => bnd (m_bundle_reader_version r13.1) fun r14 => bnd (m_bundle_reader_text r14.1) fun r15 => bnd (m_bundle_reader_version r15.1) fun r16 => bnd (app 80 s2.2.2.2.2.2 [(⟨r13.2, r14.2, r15.2, r16.2⟩ : T_Need)]) fun l5 => some (.next (IntKind.wrap .i64 (s2.1 - 1), s2.2.1, r16.1.b, r16.1.at_, r16.1.bad, l5))) else (some (.done (s2.2.1, s2.2.2.1, s2.2.2.2.1, s2.2.2.2.2.1, s2.2.2.2.2.2)))) (r12.2, [], r12.1.b, r12.1.at_, r12.1.bad, [])) fun o4 => bnd ((bif !((strOf r3.2).toList == ((⟨#[66, 77, 67, 70]⟩) : ByteArray).toList) then (some true) else (bif o4.2.2.2.1 then (some true) else (some (o4.2.2.1 != (l2.length : Int)))) : Option Bool)) fun o6 => bif o6 then (some ((⟨[], []⟩ : T_Bundle), 6)) else (bif !o1.1 then (some ((⟨[], []⟩ : T_Bundle), 5)) else (bnd (m_bundle_Valid (⟨o1.2.2.2.2.2, o4.2.2.2.2⟩ : T_Bundle)) fun r17 => bif (r17 != 0) then (some ((⟨[], []⟩ : T_Bundle), r17)) else (some ((⟨o1.2.2.2.2.2, o4.2.2.2.2⟩ : T_Bundle), 0)))))))

end Go.Proofs.Ytgnmhmnglbbamaa
