/-
  Models of functions of the program, and that the functions compute them.
  Conditions: none.
-/
import Derived.Test.YteaoblglgcpdnaaTypes
import Derived.Test.YteaoblglgcpdnaaCoreT
import Derived.Test.YteaoblglgcpdnaaCoreI
import Derived.Test.YteaoblglgcpdnaaCoreS
import Derived.Test.YteaoblglgcpdnaaCoreSI
namespace Go.Proofs.Yteaoblglgcpdnaa
open Go
set_option linter.unusedVariables false
set_option maxRecDepth 4000

structure T_Version where
  Major : Int
  Minor : Int
  Patch : Int

structure T_Installed where
  Name : ByteArray
  Version : T_Version

structure T_Need where
  Component : ByteArray
  From : T_Version
  On : ByteArray
  At : T_Version

structure T_Plan where
  Now : (List T_Installed)
  Next : (List T_Installed)
  Needs : (List T_Need)

structure Arr3 (α : Type) where
  e0 : α
  e1 : α
  e2 : α

def Arr3.set {α : Type} (a : Arr3 α) (q : Int) (y : α) : Option (Arr3 α) := match setE [a.e0, a.e1, a.e2] q y with | some [x0, x1, x2] => some ⟨x0, x1, x2⟩ | _ => none

theorem Arr3.set_e {α : Type} {a b : Arr3 α} {q : Int} {y : α} (h : a.set q y = some b) : setE [a.e0, a.e1, a.e2] q y = some [b.e0, b.e1, b.e2] := by
  unfold Arr3.set at h
  split at h
  · rename_i hs; injection h with h; subst h; exact hs
  · cases h

theorem pairs3 {α β : Type} {l : List (α × β)} {a0 a1 a2 : α} (h : l.map (·.1) = [a0, a1, a2]) : ∃ x0 x1 x2, l = [(a0, x0), (a1, x1), (a2, x2)] := by
  match l, h with
  | [(_, x0), (_, x1), (_, x2)], h => simp at h; obtain ⟨rfl, rfl, rfl⟩ := h; exact ⟨x0, x1, x2, rfl⟩

def e_Installed : Enc T_Installed := ⟨4, fun x => [.string x.Name, .int .i64 x.Version.Major, .int .i64 x.Version.Minor, .int .i64 x.Version.Patch], fun _ => rfl, fun _ => List.all_eq_true.1 rfl⟩

def e_Need : Enc T_Need := ⟨8, fun x => [.string x.Component, .int .i64 x.From.Major, .int .i64 x.From.Minor, .int .i64 x.From.Patch, .string x.On, .int .i64 x.At.Major, .int .i64 x.At.Minor, .int .i64 x.At.Patch], fun _ => rfl, fun _ => List.all_eq_true.1 rfl⟩

abbrev bx_T_Need (x : T_Need) : List Value := [.string x.Component, .int .i64 x.From.Major, .int .i64 x.From.Minor, .int .i64 x.From.Patch, .string x.On, .int .i64 x.At.Major, .int .i64 x.At.Minor, .int .i64 x.At.Patch]

abbrev bx_T_Installed (x : T_Installed) : List Value := [.string x.Name, .int .i64 x.Version.Major, .int .i64 x.Version.Minor, .int .i64 x.Version.Patch]

def l_u8 : List (LC Int) := [.v (fun x => .int .u8 x) (fun _ => rfl)]

def l_bool : List (LC Bool) := [.v (fun x => .bool x) (fun _ => rfl)]

structure T_Codes where
  L : (List Int)
  At : Int

def l_sl_u8 : List (LC (List Int)) := [.s (cod eu8) (fun x => x)]

def l_sl_i64 : List (LC (List Int)) := [.s (cod ei64) (fun x => x)]

def l_i64 : List (LC Int) := [.v (fun x => .int .i64 x) (fun _ => rfl)]

def l_T_Plan : List (LC T_Plan) := [.s (cod e_Installed) (fun x => x.Now), .s (cod e_Installed) (fun x => x.Next), .s (cod e_Need) (fun x => x.Needs)]

def l_sl_T_Installed : List (LC (List T_Installed)) := [.s (cod e_Installed) (fun x => x)]

def l_T_Installed : List (LC T_Installed) := [.v (fun x => .string x.Name) (fun _ => rfl), .v (fun x => .int .i64 x.Version.Major) (fun _ => rfl), .v (fun x => .int .i64 x.Version.Minor) (fun _ => rfl), .v (fun x => .int .i64 x.Version.Patch) (fun _ => rfl)]

def l_str : List (LC ByteArray) := [.v (fun x => .string x) (fun _ => rfl)]

def l_T_Version : List (LC T_Version) := [.v (fun x => .int .i64 x.Major) (fun _ => rfl), .v (fun x => .int .i64 x.Minor) (fun _ => rfl), .v (fun x => .int .i64 x.Patch) (fun _ => rfl)]

def ok_T_Version (x : T_Version) : Prop := (inK .i64) x.Major ∧ (inK .i64) x.Minor ∧ (inK .i64) x.Patch

def ok_T_Installed (x : T_Installed) : Prop := okS x.Name ∧ ok_T_Version x.Version

def l_sl_T_Need : List (LC (List T_Need)) := [.s (cod e_Need) (fun x => x)]

def l_T_Need : List (LC T_Need) := [.v (fun x => .string x.Component) (fun _ => rfl), .v (fun x => .int .i64 x.From.Major) (fun _ => rfl), .v (fun x => .int .i64 x.From.Minor) (fun _ => rfl), .v (fun x => .int .i64 x.From.Patch) (fun _ => rfl), .v (fun x => .string x.On) (fun _ => rfl), .v (fun x => .int .i64 x.At.Major) (fun _ => rfl), .v (fun x => .int .i64 x.At.Minor) (fun _ => rfl), .v (fun x => .int .i64 x.At.Patch) (fun _ => rfl)]

def ok_T_Need (x : T_Need) : Prop := okS x.Component ∧ ok_T_Version x.From ∧ okS x.On ∧ ok_T_Version x.At

def ok_T_Plan (x : T_Plan) : Prop := (okL ok_T_Installed) x.Now ∧ (okL ok_T_Installed) x.Next ∧ (okL ok_T_Need) x.Needs

theorem ent69 : Ent Try.prog 69 := ⟨_, Try.func69, by kernel_rfl, by kernel_rfl⟩

noncomputable def m_version_Name (s_p0 : ByteArray) : Option Bool :=
  bnd ((bif decide ((s_p0.size : Int) < 1) then (some true) else (some (decide ((s_p0.size : Int) > 16))) : Option Bool)) fun o1 => bif o1 then (some false) else (bnd (loopM (τ := Bool ⊕ Unit) (fun (s1 : Int) => bif decide (s1 < (s_p0.size : Int)) then (bnd ((bnd (eltS s_p0 s1) fun y1 => bif decide (y1 ≥ 97) then (some (decide (y1 ≤ 122))) else (some false) : Option Bool)) fun o4 => bnd ((bnd (eltS s_p0 s1) fun y2 => bif decide (y2 ≥ 48) then (bif decide (y2 ≤ 57) then (some true) else (some (y2 == 45))) else (some (y2 == 45)) : Option Bool)) fun o5 => bnd ((bif !o4 then (bif (s1 == 0) then (some true) else (some (!o5))) else (some false) : Option Bool)) fun o6 => bif o6 then (some (.done (.inl false))) else (some (.next (IntKind.wrap .i64 (s1 + 1))))) else (some (.done (.inr ())))) 0) fun o2 => retOr o2 fun o3 => some true)

set_option maxHeartbeats 4000000 in
theorem c_version_Name {s_p0 : ByteArray} {r : Bool} (h : m_version_Name s_p0 = some r) :
    Fun Try.prog 69 [.string s_p0] [] (Val (.bool r)) := by
  unfold m_version_Name at h
  refine Fun.intro Try.func69 rfl rfl rfl fun w R => ?_
  refine St.seq ?_
  refine St.region ?_
  refine St.p rfl rfl ?_
  refine St.done ?_
  refine St.thenN ?_
  refine St.prune (Γ' := [(0, _)]) ⟨rfl, trivial⟩ .z ?_
  refine St.seq ?_
  refine St.seq ?_
  obtain ⟨o1, hj1, h⟩ := bnd_e h
  refine St.cutE (fun (e1 : Unit) => [(0, .string s_p0), (13, .bool o1)]) (fun e1 => R) ?_ ?_
  · refine St.region ?_
    iterate 4 refine St.p rfl rfl ?_
    refine St.gSplit (dj := 9) _ rfl (fun hb1 => ?_) (fun hb1 => ?_)
    · replace hj1 := bif_t hb1 hj1
      refine St.gOff (dj := 9) rfl rfl rfl rfl ?_
      refine St.gOff (dj := 9) rfl rfl rfl rfl ?_
      refine St.gOff (dj := 9) rfl rfl rfl rfl ?_
      refine St.p rfl rfl ?_
      refine St.done ?_
      injection hj1 with hj1
      subst hj1
      refine St.thenN ?_
      exact St.hereE () ⟨rfl, rfl, trivial⟩ (fun _ w => (.z : Keep _ _).sat w)
    · replace hj1 := bif_f hb1 hj1
      refine St.gOn (dj := 9) rfl rfl ?_
      refine St.p rfl rfl ?_
      refine St.gOn (dj := 9) rfl rfl ?_
      refine St.p rfl rfl ?_
      refine St.gOn (dj := 9) rfl rfl ?_
      refine St.p rfl rfl ?_
      refine St.p rfl rfl ?_
      refine St.done ?_
      injection hj1 with hj1
      subst hj1
      refine St.thenN ?_
      exact St.hereE () ⟨rfl, rfl, trivial⟩ (fun _ w => (.z : Keep _ _).sat w)
  · rintro e1
    refine St.cond _ rfl (fun hb2 => ?_) (fun hb2 => ?_)
    · replace h := bif_t hb2 h
      refine St.seq ?_
      refine St.region ?_
      refine St.p rfl rfl ?_
      refine St.done ?_
      refine St.thenN ?_
      refine St.prune (Γ' := [(2, _)]) ⟨rfl, trivial⟩ .z ?_
      refine St.ret ?_
      repeat (first | refine St.thenR ?_ | refine St.blkR ?_)
      injection h with h
      subst h
      exact St.finR Try.results69 (.tmp rfl .nil) rfl [] ⟨rfl, rfl⟩ (fun _ w => (.z : Keep _ _).sat w)
    · replace h := bif_f hb2 h
      refine St.skip ?_
      refine St.thenN ?_
      refine St.prune (Γ' := [(0, _)]) ⟨rfl, trivial⟩ .z ?_
      refine St.seq ?_
      refine St.seq ?_
      refine St.region ?_
      refine St.p rfl rfl ?_
      refine St.done ?_
      refine St.thenN ?_
      obtain ⟨o2, hl1, h⟩ := bnd_e h
      refine St.cutI (fun (o3 : Unit) (e3 : Unit) => []) (fun o3 e3 => R) (fun o3 => o2 = .inr o3) ?_ ?_
      · refine St.block ?_
        refine St.loop hl1 (fun (s1 : Int) (e2 : Unit) => [(0, .string s_p0), (3, .int .i64 s1)]) (fun s1 e2 => R) (fun _ _ => True) () trivial ⟨rfl, rfl, trivial⟩ (fun _ w => (.z : Keep _ _).sat w) ?_
        rintro s1 e2 - hit1
        obtain ⟨st1, hm1, hd1⟩ := iter_e hit1
        have h1 := hm1
        refine St.seq ?_
        refine St.seq ?_
        refine St.region ?_
        iterate 4 refine St.p rfl rfl ?_
        refine St.done ?_
        refine St.thenN ?_
        refine St.prune (Γ' := [(0, _), (3, _), (17, _)]) ⟨rfl, rfl, rfl, trivial⟩ .z ?_
        refine St.cond _ rfl (fun hb3 => ?_) (fun hb3 => ?_)
        · replace h1 := bif_t hb3 h1
          refine St.skip ?_
          refine St.thenN ?_
          refine St.prune (Γ' := [(0, _), (3, _)]) ⟨rfl, rfl, trivial⟩ .z ?_
          refine St.seq ?_
          refine St.block ?_
          refine St.seq ?_
          obtain ⟨o4, hj2, h1⟩ := bnd_e h1
          refine St.cutE (fun (e4 : Unit) => [(0, .string s_p0), (3, .int .i64 s1), (4, .bool o4)]) (fun e4 => R) ?_ ?_
          · refine St.region ?_
            refine St.p rfl rfl ?_
            refine St.p rfl rfl ?_
            obtain ⟨y1, hy1, hj2⟩ := bnd_e hj2
            refine St.eltS rfl rfl rfl rfl rfl hy1 ?_
            refine St.p rfl rfl ?_
            refine St.p rfl rfl ?_
            refine St.gSplit (dj := 24) _ rfl (fun hb4 => ?_) (fun hb4 => ?_)
            · replace hj2 := bif_t hb4 hj2
              refine St.gOn (dj := 24) rfl rfl ?_
              refine St.p rfl rfl ?_
              refine St.gOn (dj := 24) rfl rfl ?_
              refine St.p rfl rfl ?_
              refine St.gOn (dj := 24) rfl rfl ?_
              refine St.eltS rfl rfl rfl rfl rfl hy1 ?_
              refine St.gOn (dj := 24) rfl rfl ?_
              iterate 3 refine St.p rfl rfl ?_
              refine St.done ?_
              injection hj2 with hj2
              subst hj2
              refine St.thenN ?_
              exact St.hereE () ⟨rfl, rfl, rfl, trivial⟩ (fun _ w => (.z : Keep _ _).sat w)
            · replace hj2 := bif_f hb4 hj2
              refine St.gOff (dj := 24) rfl rfl rfl rfl ?_
              refine St.gOff (dj := 24) rfl rfl rfl rfl ?_
              refine St.gOff (dj := 24) rfl rfl rfl rfl ?_
              refine St.gOff (dj := 24) rfl rfl rfl rfl ?_
              refine St.p rfl rfl ?_
              refine St.p rfl rfl ?_
              refine St.done ?_
              injection hj2 with hj2
              subst hj2
              refine St.thenN ?_
              exact St.hereE () ⟨rfl, rfl, rfl, trivial⟩ (fun _ w => (.z : Keep _ _).sat w)
          · rintro e4
            refine St.seq ?_
            obtain ⟨o5, hj3, h1⟩ := bnd_e h1
            refine St.cutE (fun (e5 : Unit) => [(0, .string s_p0), (3, .int .i64 s1), (4, .bool o4), (5, .bool o5)]) (fun e5 => R) ?_ ?_
            · refine St.region ?_
              refine St.p rfl rfl ?_
              refine St.p rfl rfl ?_
              obtain ⟨y2, hy2, hj3⟩ := bnd_e hj3
              refine St.eltS rfl rfl rfl rfl rfl hy2 ?_
              refine St.p rfl rfl ?_
              refine St.p rfl rfl ?_
              refine St.gSplit (dj := 34) _ rfl (fun hb5 => ?_) (fun hb5 => ?_)
              · replace hj3 := bif_t hb5 hj3
                refine St.gOn (dj := 34) rfl rfl ?_
                refine St.p rfl rfl ?_
                refine St.gOn (dj := 34) rfl rfl ?_
                refine St.p rfl rfl ?_
                refine St.gOn (dj := 34) rfl rfl ?_
                refine St.eltS rfl rfl rfl rfl rfl hy2 ?_
                refine St.gOn (dj := 34) rfl rfl ?_
                iterate 3 refine St.p rfl rfl ?_
                refine St.gSplit (dj := 40) _ rfl (fun hb6 => ?_) (fun hb6 => ?_)
                · replace hj3 := bif_t hb6 hj3
                  refine St.gOff (dj := 40) rfl rfl rfl rfl ?_
                  refine St.gOff (dj := 40) rfl rfl rfl rfl ?_
                  refine St.gOff (dj := 40) rfl rfl rfl rfl ?_
                  refine St.gOff (dj := 40) rfl rfl rfl rfl ?_
                  refine St.p rfl rfl ?_
                  refine St.p rfl rfl ?_
                  refine St.done ?_
                  injection hj3 with hj3
                  subst hj3
                  refine St.thenN ?_
                  exact St.hereE () ⟨rfl, rfl, rfl, rfl, trivial⟩ (fun _ w => (.z : Keep _ _).sat w)
                · replace hj3 := bif_f hb6 hj3
                  refine St.gOn (dj := 40) rfl rfl ?_
                  refine St.p rfl rfl ?_
                  refine St.gOn (dj := 40) rfl rfl ?_
                  refine St.p rfl rfl ?_
                  refine St.gOn (dj := 40) rfl rfl ?_
                  refine St.eltS rfl rfl rfl rfl rfl hy2 ?_
                  refine St.gOn (dj := 40) rfl rfl ?_
                  iterate 3 refine St.p rfl rfl ?_
                  refine St.done ?_
                  injection hj3 with hj3
                  subst hj3
                  refine St.thenN ?_
                  exact St.hereE () ⟨rfl, rfl, rfl, rfl, trivial⟩ (fun _ w => (.z : Keep _ _).sat w)
              · replace hj3 := bif_f hb5 hj3
                refine St.gOff (dj := 34) rfl rfl rfl rfl ?_
                refine St.gOff (dj := 34) rfl rfl rfl rfl ?_
                refine St.gOff (dj := 34) rfl rfl rfl rfl ?_
                refine St.gOff (dj := 34) rfl rfl rfl rfl ?_
                refine St.p rfl rfl ?_
                refine St.p rfl rfl ?_
                refine St.gOn (dj := 40) rfl rfl ?_
                refine St.p rfl rfl ?_
                refine St.gOn (dj := 40) rfl rfl ?_
                refine St.p rfl rfl ?_
                refine St.gOn (dj := 40) rfl rfl ?_
                refine St.eltS rfl rfl rfl rfl rfl hy2 ?_
                refine St.gOn (dj := 40) rfl rfl ?_
                iterate 3 refine St.p rfl rfl ?_
                refine St.done ?_
                injection hj3 with hj3
                subst hj3
                refine St.thenN ?_
                exact St.hereE () ⟨rfl, rfl, rfl, rfl, trivial⟩ (fun _ w => (.z : Keep _ _).sat w)
            · rintro e5
              refine St.seq ?_
              obtain ⟨o6, hj4, h1⟩ := bnd_e h1
              refine St.cutE (fun (e6 : Unit) => [(0, .string s_p0), (3, .int .i64 s1), (55, .bool o6)]) (fun e6 => R) ?_ ?_
              · refine St.region ?_
                iterate 3 refine St.p rfl rfl ?_
                refine St.gSplit (dj := 48) _ rfl (fun hb7 => ?_) (fun hb7 => ?_)
                · replace hj4 := bif_t hb7 hj4
                  refine St.gOn (dj := 48) rfl rfl ?_
                  refine St.p rfl rfl ?_
                  refine St.gOn (dj := 48) rfl rfl ?_
                  refine St.p rfl rfl ?_
                  refine St.gOn (dj := 48) rfl rfl ?_
                  refine St.p rfl rfl ?_
                  refine St.gSplit (dj := 51) _ rfl (fun hb8 => ?_) (fun hb8 => ?_)
                  · replace hj4 := bif_t hb8 hj4
                    refine St.gOff (dj := 51) rfl rfl rfl rfl ?_
                    refine St.gOff (dj := 51) rfl rfl rfl rfl ?_
                    refine St.gOn (dj := 48) rfl rfl ?_
                    refine St.p rfl rfl ?_
                    refine St.p rfl rfl ?_
                    refine St.done ?_
                    injection hj4 with hj4
                    subst hj4
                    refine St.thenN ?_
                    exact St.hereE () ⟨rfl, rfl, rfl, trivial⟩ (fun _ w => (.z : Keep _ _).sat w)
                  · replace hj4 := bif_f hb8 hj4
                    refine St.gOn (dj := 51) rfl rfl ?_
                    refine St.p rfl rfl ?_
                    refine St.gOn (dj := 51) rfl rfl ?_
                    refine St.p rfl rfl ?_
                    refine St.gOn (dj := 48) rfl rfl ?_
                    refine St.p rfl rfl ?_
                    refine St.p rfl rfl ?_
                    refine St.done ?_
                    injection hj4 with hj4
                    subst hj4
                    refine St.thenN ?_
                    exact St.hereE () ⟨rfl, rfl, rfl, trivial⟩ (fun _ w => (.z : Keep _ _).sat w)
                · replace hj4 := bif_f hb7 hj4
                  refine St.gOff (dj := 48) rfl rfl rfl rfl ?_
                  refine St.gOff (dj := 48) rfl rfl rfl rfl ?_
                  refine St.gOff (dj := 48) rfl rfl rfl rfl ?_
                  refine St.gOff (dj := 51) rfl rfl rfl rfl ?_
                  refine St.gOff (dj := 51) rfl rfl rfl rfl ?_
                  refine St.gOff (dj := 48) rfl rfl rfl rfl ?_
                  refine St.p rfl rfl ?_
                  refine St.done ?_
                  injection hj4 with hj4
                  subst hj4
                  refine St.thenN ?_
                  exact St.hereE () ⟨rfl, rfl, rfl, trivial⟩ (fun _ w => (.z : Keep _ _).sat w)
              · rintro e6
                refine St.cond _ rfl (fun hb9 => ?_) (fun hb9 => ?_)
                · replace h1 := bif_t hb9 h1
                  refine St.seq ?_
                  refine St.region ?_
                  refine St.p rfl rfl ?_
                  refine St.done ?_
                  refine St.thenN ?_
                  refine St.prune (Γ' := [(2, _)]) ⟨rfl, trivial⟩ .z ?_
                  refine St.ret ?_
                  repeat (first | refine St.thenR ?_ | refine St.blkR ?_)
                  injection h1 with h1
                  subst h1
                  have ho := hd1 _ rfl
                  subst ho
                  have h : some _ = some _ := h
                  injection h with h
                  subst h
                  exact St.finR Try.results69 (.tmp rfl .nil) rfl [] ⟨rfl, rfl⟩ (fun _ w => (.z : Keep _ _).sat w)
                · replace h1 := bif_f hb9 h1
                  refine St.skip ?_
                  refine St.blkN ?_
                  refine St.thenN ?_
                  refine St.prune (Γ' := [(0, _), (3, _)]) ⟨rfl, rfl, trivial⟩ .z ?_
                  refine St.region ?_
                  iterate 3 refine St.p rfl rfl ?_
                  refine St.done ?_
                  injection h1 with h1
                  subst h1
                  refine St.thenN ?_
                  exact St.again _ () hm1 trivial ⟨rfl, rfl, trivial⟩ (fun _ w => (.z : Keep _ _).sat w)
        · replace h1 := bif_f hb3 h1
          refine St.exit ?_
          repeat (first | refine St.thenX ?_ | refine St.blkMiss rfl ?_)
          refine St.blkHit ?_
          injection h1 with h1
          subst h1
          have ho := hd1 _ rfl
          subst ho
          refine St.thenN ?_
          exact St.hereI () () rfl trivial (fun _ w => (.z : Keep _ _).sat w)
      · rintro o3 e3 ho
        subst ho
        have h : _ = some _ := h
        refine St.seq ?_
        refine St.region ?_
        refine St.p rfl rfl ?_
        refine St.done ?_
        refine St.thenN ?_
        refine St.ret ?_
        repeat (first | refine St.thenR ?_ | refine St.blkR ?_)
        injection h with h
        subst h
        exact St.finR Try.results69 (.tmp rfl .nil) rfl [] ⟨rfl, rfl⟩ (fun _ w => (.z : Keep _ _).sat w)

theorem ent59 : Ent Try.prog 59 := ⟨_, Try.func59, by kernel_rfl, by kernel_rfl⟩

noncomputable def m_version_numbers (v_p0 : T_Version) : Option (Arr3 Int) :=
  some (⟨v_p0.Major, v_p0.Minor, v_p0.Patch⟩ : (Arr3 Int))

theorem c_version_numbers {v_p0 : T_Version} {r : (Arr3 Int)} (h : m_version_numbers v_p0 = some r) :
    Fun Try.prog 59 [.agg #[.int .i64 v_p0.Major, .int .i64 v_p0.Minor, .int .i64 v_p0.Patch]] [] (Val (.agg #[.int .i64 r.e0, .int .i64 r.e1, .int .i64 r.e2])) := by
  unfold m_version_numbers at h
  refine Fun.intro Try.func59 rfl rfl rfl fun w R => ?_
  refine St.seq ?_
  refine St.region ?_
  refine St.box rfl rfl fun g1 => ?_
  refine St.alloc rfl rfl fun g2 => ?_
  refine St.done ?_
  refine St.thenN ?_
  refine St.prune (Γ' := [(1, _), (2, _)]) ⟨rfl, rfl, trivial⟩ (.k (.k .z)) ?_
  refine St.seq ?_
  refine St.region ?_
  refine St.p rfl rfl ?_
  refine St.loadB 0 rfl rfl (.tail _ (.head _)) rfl rfl ?_
  refine St.p rfl rfl ?_
  refine St.loadB 1 rfl rfl (.tail _ (.head _)) rfl rfl ?_
  refine St.p rfl rfl ?_
  refine St.loadB 2 rfl rfl (.tail _ (.head _)) rfl rfl ?_
  refine St.p rfl rfl ?_
  refine St.store 0 rfl rfl rfl rfl rfl rfl .z rfl ?_
  refine St.done ?_
  refine St.thenN ?_
  refine St.prune (Γ' := [(2, _)]) ⟨rfl, trivial⟩ (.k (.d .z)) ?_
  refine St.ret ?_
  repeat (first | refine St.thenR ?_ | refine St.blkR ?_)
  injection h with h
  subst h
  exact St.finR Try.results59 (.cell rfl (.head _) rfl .nil) rfl [] ⟨rfl, rfl⟩ (fun _ w => ((.d .z) : Keep _ _).sat w)

theorem ent70 : Ent Try.prog 70 := ⟨_, Try.func70, by kernel_rfl, by kernel_rfl⟩

noncomputable def m_version_Valid (v_p0 : T_Version) : Option Bool :=
  bnd (m_version_numbers v_p0) fun r1 => bnd ((bif decide (r1.e0 < 0) then (some true) else (some (decide (r1.e0 > 999))) : Option Bool)) fun o1 => bif o1 then (some false) else (bnd ((bif decide (r1.e1 < 0) then (some true) else (some (decide (r1.e1 > 999))) : Option Bool)) fun o2 => bif o2 then (some false) else (bnd ((bif decide (r1.e2 < 0) then (some true) else (some (decide (r1.e2 > 999))) : Option Bool)) fun o3 => bif o3 then (some false) else (some true)))

set_option maxHeartbeats 4000000 in
theorem c_version_Valid {v_p0 : T_Version} {r : Bool} (h : m_version_Valid v_p0 = some r) :
    Fun Try.prog 70 [.agg #[.int .i64 v_p0.Major, .int .i64 v_p0.Minor, .int .i64 v_p0.Patch]] [] (Val (.bool r)) := by
  unfold m_version_Valid at h
  refine Fun.intro Try.func70 rfl rfl rfl fun w R => ?_
  refine St.seq ?_
  refine St.region ?_
  refine St.box rfl rfl fun g1 => ?_
  refine St.p rfl rfl ?_
  refine St.done ?_
  refine St.thenN ?_
  refine St.prune (Γ' := [(1, _)]) ⟨rfl, trivial⟩ (.k .z) ?_
  refine St.seq ?_
  refine St.seq ?_
  refine St.region ?_
  refine St.loadB 0 rfl rfl (.head _) rfl rfl ?_
  obtain ⟨r1, hr1, h⟩ := bnd_e h
  refine St.callV (c_version_numbers hr1) ent59 rfl rfl rfl rfl trivial ?_
  refine St.p rfl rfl ?_
  refine St.done ?_
  refine St.thenN ?_
  refine St.prune (Γ' := [(6, _), (7, _)]) ⟨rfl, rfl, trivial⟩ (.d .z) ?_
  refine St.block ?_
  refine St.rounds 9 ?_
  refine St.round ?_
  refine St.seq ?_
  refine St.region ?_
  refine St.p rfl rfl ?_
  refine St.done ?_
  refine St.thenN ?_
  refine St.seq ?_
  refine St.condT rfl ?_
  refine St.skip ?_
  refine St.thenN ?_
  refine St.prune (Γ' := [(6, _), (7, _)]) ⟨rfl, rfl, trivial⟩ .z ?_
  refine St.seq ?_
  refine St.block ?_
  refine St.seq ?_
  refine St.region ?_
  refine St.p rfl rfl ?_
  refine St.p rfl rfl ?_
  refine St.done ?_
  refine St.thenN ?_
  refine St.prune (Γ' := [(4, _), (6, _), (7, _)]) ⟨rfl, rfl, rfl, trivial⟩ .z ?_
  refine St.seq ?_
  obtain ⟨o1, hj1, h⟩ := bnd_e h
  refine St.cutE (fun (e1 : Unit) => [(6, .agg #[.int .i64 r1.e0, .int .i64 r1.e1, .int .i64 r1.e2]), (7, .int .i64 0), (15, .bool o1)]) (fun e1 => R) ?_ ?_
  · refine St.region ?_
    iterate 3 refine St.p rfl rfl ?_
    refine St.gSplit (dj := 12) _ rfl (fun hb1 => ?_) (fun hb1 => ?_)
    · replace hj1 := bif_t hb1 hj1
      refine St.gOff (dj := 12) rfl rfl rfl rfl ?_
      refine St.gOff (dj := 12) rfl rfl rfl rfl ?_
      refine St.p rfl rfl ?_
      refine St.done ?_
      injection hj1 with hj1
      subst hj1
      refine St.thenN ?_
      exact St.hereE () ⟨rfl, rfl, rfl, trivial⟩ (fun _ w => (.z : Keep _ _).sat w)
    · replace hj1 := bif_f hb1 hj1
      refine St.gOn (dj := 12) rfl rfl ?_
      refine St.p rfl rfl ?_
      refine St.gOn (dj := 12) rfl rfl ?_
      refine St.p rfl rfl ?_
      refine St.p rfl rfl ?_
      refine St.done ?_
      injection hj1 with hj1
      subst hj1
      refine St.thenN ?_
      exact St.hereE () ⟨rfl, rfl, rfl, trivial⟩ (fun _ w => (.z : Keep _ _).sat w)
  · rintro e1
    refine St.cond _ rfl (fun hb2 => ?_) (fun hb2 => ?_)
    · replace h := bif_t hb2 h
      refine St.seq ?_
      refine St.region ?_
      refine St.p rfl rfl ?_
      refine St.done ?_
      refine St.thenN ?_
      refine St.prune (Γ' := [(2, _)]) ⟨rfl, trivial⟩ .z ?_
      refine St.ret ?_
      repeat (first | refine St.thenR ?_ | refine St.blkR ?_)
      injection h with h
      subst h
      exact St.finR Try.results70 (.tmp rfl .nil) rfl [] ⟨rfl, rfl⟩ (fun _ w => (.z : Keep _ _).sat w)
    · replace h := bif_f hb2 h
      refine St.skip ?_
      refine St.blkN ?_
      refine St.thenN ?_
      refine St.prune (Γ' := [(6, _), (7, _)]) ⟨rfl, rfl, trivial⟩ .z ?_
      refine St.region ?_
      refine St.p rfl rfl ?_
      refine St.p rfl rfl ?_
      refine St.done ?_
      refine St.thenN ?_
      refine St.round ?_
      refine St.prune (Γ' := [(6, _), (7, _)]) ⟨rfl, rfl, trivial⟩ .z ?_
      refine St.seq ?_
      refine St.region ?_
      refine St.p rfl rfl ?_
      refine St.done ?_
      refine St.thenN ?_
      refine St.seq ?_
      refine St.condT rfl ?_
      refine St.skip ?_
      refine St.thenN ?_
      refine St.prune (Γ' := [(6, _), (7, _)]) ⟨rfl, rfl, trivial⟩ .z ?_
      refine St.seq ?_
      refine St.block ?_
      refine St.seq ?_
      refine St.region ?_
      refine St.p rfl rfl ?_
      refine St.p rfl rfl ?_
      refine St.done ?_
      refine St.thenN ?_
      refine St.prune (Γ' := [(4, _), (6, _), (7, _)]) ⟨rfl, rfl, rfl, trivial⟩ .z ?_
      refine St.seq ?_
      obtain ⟨o2, hj2, h⟩ := bnd_e h
      refine St.cutE (fun (e2 : Unit) => [(6, .agg #[.int .i64 r1.e0, .int .i64 r1.e1, .int .i64 r1.e2]), (7, .int .i64 1), (15, .bool o2)]) (fun e2 => R) ?_ ?_
      · refine St.region ?_
        iterate 3 refine St.p rfl rfl ?_
        refine St.gSplit (dj := 12) _ rfl (fun hb3 => ?_) (fun hb3 => ?_)
        · replace hj2 := bif_t hb3 hj2
          refine St.gOff (dj := 12) rfl rfl rfl rfl ?_
          refine St.gOff (dj := 12) rfl rfl rfl rfl ?_
          refine St.p rfl rfl ?_
          refine St.done ?_
          injection hj2 with hj2
          subst hj2
          refine St.thenN ?_
          exact St.hereE () ⟨rfl, rfl, rfl, trivial⟩ (fun _ w => (.z : Keep _ _).sat w)
        · replace hj2 := bif_f hb3 hj2
          refine St.gOn (dj := 12) rfl rfl ?_
          refine St.p rfl rfl ?_
          refine St.gOn (dj := 12) rfl rfl ?_
          refine St.p rfl rfl ?_
          refine St.p rfl rfl ?_
          refine St.done ?_
          injection hj2 with hj2
          subst hj2
          refine St.thenN ?_
          exact St.hereE () ⟨rfl, rfl, rfl, trivial⟩ (fun _ w => (.z : Keep _ _).sat w)
      · rintro e2
        refine St.cond _ rfl (fun hb4 => ?_) (fun hb4 => ?_)
        · replace h := bif_t hb4 h
          refine St.seq ?_
          refine St.region ?_
          refine St.p rfl rfl ?_
          refine St.done ?_
          refine St.thenN ?_
          refine St.prune (Γ' := [(2, _)]) ⟨rfl, trivial⟩ .z ?_
          refine St.ret ?_
          repeat (first | refine St.thenR ?_ | refine St.blkR ?_)
          injection h with h
          subst h
          exact St.finR Try.results70 (.tmp rfl .nil) rfl [] ⟨rfl, rfl⟩ (fun _ w => (.z : Keep _ _).sat w)
        · replace h := bif_f hb4 h
          refine St.skip ?_
          refine St.blkN ?_
          refine St.thenN ?_
          refine St.prune (Γ' := [(6, _), (7, _)]) ⟨rfl, rfl, trivial⟩ .z ?_
          refine St.region ?_
          refine St.p rfl rfl ?_
          refine St.p rfl rfl ?_
          refine St.done ?_
          refine St.thenN ?_
          refine St.round ?_
          refine St.prune (Γ' := [(6, _), (7, _)]) ⟨rfl, rfl, trivial⟩ .z ?_
          refine St.seq ?_
          refine St.region ?_
          refine St.p rfl rfl ?_
          refine St.done ?_
          refine St.thenN ?_
          refine St.seq ?_
          refine St.condT rfl ?_
          refine St.skip ?_
          refine St.thenN ?_
          refine St.prune (Γ' := [(6, _), (7, _)]) ⟨rfl, rfl, trivial⟩ .z ?_
          refine St.seq ?_
          refine St.block ?_
          refine St.seq ?_
          refine St.region ?_
          refine St.p rfl rfl ?_
          refine St.p rfl rfl ?_
          refine St.done ?_
          refine St.thenN ?_
          refine St.prune (Γ' := [(4, _), (6, _), (7, _)]) ⟨rfl, rfl, rfl, trivial⟩ .z ?_
          refine St.seq ?_
          obtain ⟨o3, hj3, h⟩ := bnd_e h
          refine St.cutE (fun (e3 : Unit) => [(6, .agg #[.int .i64 r1.e0, .int .i64 r1.e1, .int .i64 r1.e2]), (7, .int .i64 2), (15, .bool o3)]) (fun e3 => R) ?_ ?_
          · refine St.region ?_
            iterate 3 refine St.p rfl rfl ?_
            refine St.gSplit (dj := 12) _ rfl (fun hb5 => ?_) (fun hb5 => ?_)
            · replace hj3 := bif_t hb5 hj3
              refine St.gOff (dj := 12) rfl rfl rfl rfl ?_
              refine St.gOff (dj := 12) rfl rfl rfl rfl ?_
              refine St.p rfl rfl ?_
              refine St.done ?_
              injection hj3 with hj3
              subst hj3
              refine St.thenN ?_
              exact St.hereE () ⟨rfl, rfl, rfl, trivial⟩ (fun _ w => (.z : Keep _ _).sat w)
            · replace hj3 := bif_f hb5 hj3
              refine St.gOn (dj := 12) rfl rfl ?_
              refine St.p rfl rfl ?_
              refine St.gOn (dj := 12) rfl rfl ?_
              refine St.p rfl rfl ?_
              refine St.p rfl rfl ?_
              refine St.done ?_
              injection hj3 with hj3
              subst hj3
              refine St.thenN ?_
              exact St.hereE () ⟨rfl, rfl, rfl, trivial⟩ (fun _ w => (.z : Keep _ _).sat w)
          · rintro e3
            refine St.cond _ rfl (fun hb6 => ?_) (fun hb6 => ?_)
            · replace h := bif_t hb6 h
              refine St.seq ?_
              refine St.region ?_
              refine St.p rfl rfl ?_
              refine St.done ?_
              refine St.thenN ?_
              refine St.prune (Γ' := [(2, _)]) ⟨rfl, trivial⟩ .z ?_
              refine St.ret ?_
              repeat (first | refine St.thenR ?_ | refine St.blkR ?_)
              injection h with h
              subst h
              exact St.finR Try.results70 (.tmp rfl .nil) rfl [] ⟨rfl, rfl⟩ (fun _ w => (.z : Keep _ _).sat w)
            · replace h := bif_f hb6 h
              refine St.skip ?_
              refine St.blkN ?_
              refine St.thenN ?_
              refine St.prune (Γ' := [(6, _), (7, _)]) ⟨rfl, rfl, trivial⟩ .z ?_
              refine St.region ?_
              refine St.p rfl rfl ?_
              refine St.p rfl rfl ?_
              refine St.done ?_
              refine St.thenN ?_
              refine St.round ?_
              refine St.prune (Γ' := [(6, _), (7, _)]) ⟨rfl, rfl, trivial⟩ .z ?_
              refine St.seq ?_
              refine St.region ?_
              refine St.p rfl rfl ?_
              refine St.done ?_
              refine St.thenN ?_
              refine St.seq ?_
              refine St.condF rfl ?_
              refine St.exit ?_
              repeat (first | refine St.thenX ?_ | refine St.blkMiss rfl ?_)
              refine St.blkHit ?_
              refine St.thenN ?_
              refine St.prune (Γ' := []) trivial .z ?_
              refine St.seq ?_
              refine St.region ?_
              refine St.p rfl rfl ?_
              refine St.done ?_
              refine St.thenN ?_
              refine St.ret ?_
              repeat (first | refine St.thenR ?_ | refine St.blkR ?_)
              injection h with h
              subst h
              exact St.finR Try.results70 (.tmp rfl .nil) rfl [] ⟨rfl, rfl⟩ (fun _ w => (.z : Keep _ _).sat w)

theorem ent60 : Ent Try.prog 60 := ⟨_, Try.func60, by kernel_rfl, by kernel_rfl⟩

noncomputable def m_version_components (l_p0 : (List T_Installed)) : Option Bool :=
  bif decide ((l_p0.length : Int) > 8) then (some false) else (bnd (loopM (τ := Bool ⊕ Unit) (fun (s1 : Int) => bif decide (s1 < (l_p0.length : Int)) then (bnd (elt l_p0 s1) fun x1 => bnd ((bnd (m_version_Name x1.Name) fun r1 => bif !r1 then (some true) else (bnd (m_version_Valid x1.Version) fun r2 => bif !r2 then (some true) else (bif decide (s1 > 0) then (bnd (elt l_p0 (IntKind.wrap .i64 (s1 - 1))) fun x2 => some (Op.bytesLess x1.Name.toList x2.Name.toList || (x1.Name.toList == x2.Name.toList))) else (some false))) : Option Bool)) fun o3 => bif o3 then (some (.done (.inl false))) else (some (.next (IntKind.wrap .i64 (s1 + 1))))) else (some (.done (.inr ())))) 0) fun o1 => retOr o1 fun o2 => some true)

theorem c_version_components {l_p0 : (List T_Installed)} {A1 : Option Addr} {c1 : Nat} {r : Bool} (h : m_version_components l_p0 = some r) :
    Fun Try.prog 60 [.slice A1 l_p0.length c1] [.ro (SlL e_Installed A1 c1 l_p0)] (Val (.bool r)) := by
  unfold m_version_components at h
  refine Fun.intro Try.func60 rfl rfl rfl fun w R => ?_
  refine St.seq ?_
  refine St.region ?_
  refine St.p rfl rfl ?_
  refine St.done ?_
  refine St.thenN ?_
  refine St.prune (Γ' := [(0, _)]) ⟨rfl, trivial⟩ (.k .z) ?_
  refine St.seq ?_
  refine St.seq ?_
  refine St.region ?_
  iterate 3 refine St.p rfl rfl ?_
  refine St.done ?_
  refine St.thenN ?_
  refine St.prune (Γ' := [(0, _), (7, _)]) ⟨rfl, rfl, trivial⟩ (.k .z) ?_
  refine St.cond _ rfl (fun hb1 => ?_) (fun hb1 => ?_)
  · replace h := bif_t hb1 h
    refine St.seq ?_
    refine St.region ?_
    refine St.p rfl rfl ?_
    refine St.done ?_
    refine St.thenN ?_
    refine St.prune (Γ' := [(2, _)]) ⟨rfl, trivial⟩ (.d .z) ?_
    refine St.ret ?_
    repeat (first | refine St.thenR ?_ | refine St.blkR ?_)
    injection h with h
    subst h
    exact St.finR Try.results60 (.tmp rfl .nil) rfl [] ⟨rfl, rfl⟩ (fun _ w => (.z : Keep _ _).sat w)
  · replace h := bif_f hb1 h
    refine St.skip ?_
    refine St.thenN ?_
    refine St.prune (Γ' := [(0, _)]) ⟨rfl, trivial⟩ (.k .z) ?_
    refine St.seq ?_
    refine St.seq ?_
    refine St.region ?_
    iterate 3 refine St.p rfl rfl ?_
    refine St.done ?_
    refine St.thenN ?_
    obtain ⟨o1, hl1, h⟩ := bnd_e h
    refine St.cutI (fun (o2 : Unit) (e2 : Unit) => []) (fun o2 e2 => R) (fun o2 => o1 = .inr o2) ?_ ?_
    · refine St.block ?_
      refine St.loop hl1 (fun (s1 : Int) (e1 : Unit) => [(0, .slice A1 l_p0.length c1), (8, .slice A1 l_p0.length c1), (9, .int .i64 (l_p0.length : Int)), (10, .int .i64 s1)]) (fun s1 e1 => .ro (SlL e_Installed A1 c1 l_p0) :: R) (fun _ _ => True) () trivial ⟨rfl, rfl, rfl, rfl, trivial⟩ (fun _ w => ((.k .z) : Keep _ _).sat w) ?_
      rintro s1 e1 - hit1
      obtain ⟨st1, hm1, hd1⟩ := iter_e hit1
      have h1 := hm1
      refine St.seq ?_
      refine St.region ?_
      refine St.p rfl rfl ?_
      refine St.done ?_
      refine St.thenN ?_
      refine St.seq ?_
      refine St.cond _ rfl (fun hb2 => ?_) (fun hb2 => ?_)
      · replace h1 := bif_t hb2 h1
        refine St.skip ?_
        refine St.thenN ?_
        refine St.prune (Γ' := [(0, _), (8, _), (9, _), (10, _)]) ⟨rfl, rfl, rfl, rfl, trivial⟩ (.k .z) ?_
        refine St.seq ?_
        refine St.block ?_
        refine St.seq ?_
        refine St.region ?_
        refine St.p rfl rfl ?_
        obtain ⟨x1, hx1, h1⟩ := bnd_e h1
        refine St.ixL hx1 rfl rfl rfl (.head _) rfl rfl rfl rfl rfl fun b1 ob1 => ?_
        refine St.load ob1 0 rfl rfl (.head _) rfl rfl ?_
        refine St.alloc rfl rfl fun g1 => ?_
        refine St.p rfl rfl ?_
        refine St.store 0 rfl rfl rfl rfl rfl rfl .z rfl ?_
        refine St.done ?_
        refine St.thenN ?_
        refine St.prune (Γ' := [(0, _), (3, _), (4, _), (8, _), (9, _), (10, _)]) ⟨rfl, rfl, rfl, rfl, rfl, rfl, trivial⟩ (.k (.d (.k .z))) ?_
        refine St.seq ?_
        obtain ⟨o3, hj1, h1⟩ := bnd_e h1
        refine St.cutE (fun (e3 : Unit) => [(0, .slice A1 l_p0.length c1), (8, .slice A1 l_p0.length c1), (9, .int .i64 (l_p0.length : Int)), (10, .int .i64 s1), (39, .bool o3)]) (fun e3 => .ro (SlL e_Installed A1 c1 l_p0) :: R) ?_ ?_
        · refine St.regionF mixed (by kernel_rfl) ?_
          refine St.p rfl rfl ?_
          refine St.loadB 0 rfl rfl (.head _) rfl rfl ?_
          obtain ⟨r1, hr1, hj1⟩ := bnd_e hj1
          refine St.callV (c_version_Name hr1) ent69 rfl rfl rfl rfl trivial ?_
          refine St.p rfl rfl ?_
          refine St.p rfl rfl ?_
          refine St.gSplit (dj := 19) _ rfl (fun hb3 => ?_) (fun hb3 => ?_)
          · replace hj1 := bif_t hb3 hj1
            refine St.gOff (dj := 19) rfl rfl rfl rfl ?_
            refine St.gOff (dj := 19) rfl rfl rfl rfl ?_
            refine St.gOff (dj := 19) rfl rfl rfl rfl ?_
            refine St.gOff (dj := 19) rfl rfl rfl rfl ?_
            refine St.p rfl rfl ?_
            refine St.p rfl rfl ?_
            refine St.gOff (dj := 25) rfl rfl rfl rfl ?_
            refine St.gOff (dj := 25) rfl rfl rfl rfl ?_
            refine St.gOff (dj := 25) rfl rfl rfl rfl ?_
            refine St.gOff (dj := 28) rfl rfl rfl rfl ?_
            refine St.gOff (dj := 28) rfl rfl rfl rfl ?_
            refine St.gOff (dj := 28) rfl rfl rfl rfl ?_
            refine St.gOff (dj := 28) rfl rfl rfl rfl ?_
            refine St.gOff (dj := 28) rfl rfl rfl rfl ?_
            refine St.gOff (dj := 28) rfl rfl rfl rfl ?_
            refine St.gOff (dj := 28) rfl rfl rfl rfl ?_
            refine St.gOff (dj := 28) rfl rfl rfl rfl ?_
            refine St.gOff (dj := 28) rfl rfl rfl rfl ?_
            refine St.gOff (dj := 25) rfl rfl rfl rfl ?_
            refine St.p rfl rfl ?_
            refine St.doneQ ?_
            injection hj1 with hj1
            subst hj1
            refine St.thenN ?_
            exact St.hereE () ⟨rfl, rfl, rfl, rfl, rfl, trivial⟩ (fun _ w => ((.d (.k .z)) : Keep _ _).sat w)
          · replace hj1 := bif_f hb3 hj1
            refine St.gOn (dj := 19) rfl rfl ?_
            refine St.p rfl rfl ?_
            refine St.gOn (dj := 19) rfl rfl ?_
            refine St.loadB 1 rfl rfl (.head _) rfl rfl ?_
            refine St.gOn (dj := 19) rfl rfl ?_
            obtain ⟨r2, hr2, hj1⟩ := bnd_e hj1
            refine St.callV (c_version_Valid hr2) ent70 rfl rfl rfl rfl trivial ?_
            refine St.gOn (dj := 19) rfl rfl ?_
            iterate 3 refine St.p rfl rfl ?_
            refine St.gSplit (dj := 25) _ rfl (fun hb4 => ?_) (fun hb4 => ?_)
            · replace hj1 := bif_t hb4 hj1
              refine St.gOff (dj := 25) rfl rfl rfl rfl ?_
              refine St.gOff (dj := 25) rfl rfl rfl rfl ?_
              refine St.gOff (dj := 25) rfl rfl rfl rfl ?_
              refine St.gOff (dj := 28) rfl rfl rfl rfl ?_
              refine St.gOff (dj := 28) rfl rfl rfl rfl ?_
              refine St.gOff (dj := 28) rfl rfl rfl rfl ?_
              refine St.gOff (dj := 28) rfl rfl rfl rfl ?_
              refine St.gOff (dj := 28) rfl rfl rfl rfl ?_
              refine St.gOff (dj := 28) rfl rfl rfl rfl ?_
              refine St.gOff (dj := 28) rfl rfl rfl rfl ?_
              refine St.gOff (dj := 28) rfl rfl rfl rfl ?_
              refine St.gOff (dj := 28) rfl rfl rfl rfl ?_
              refine St.gOff (dj := 25) rfl rfl rfl rfl ?_
              refine St.p rfl rfl ?_
              refine St.doneQ ?_
              injection hj1 with hj1
              subst hj1
              refine St.thenN ?_
              exact St.hereE () ⟨rfl, rfl, rfl, rfl, rfl, trivial⟩ (fun _ w => ((.d (.k .z)) : Keep _ _).sat w)
            · replace hj1 := bif_f hb4 hj1
              refine St.gOn (dj := 25) rfl rfl ?_
              refine St.p rfl rfl ?_
              refine St.gOn (dj := 25) rfl rfl ?_
              refine St.p rfl rfl ?_
              refine St.gOn (dj := 25) rfl rfl ?_
              refine St.p rfl rfl ?_
              refine St.gSplit (dj := 28) _ rfl (fun hb5 => ?_) (fun hb5 => ?_)
              · replace hj1 := bif_t hb5 hj1
                refine St.gOn (dj := 28) rfl rfl ?_
                refine St.p rfl rfl ?_
                refine St.gOn (dj := 28) rfl rfl ?_
                refine St.loadB 0 rfl rfl (.head _) rfl rfl ?_
                refine St.gOn (dj := 28) rfl rfl ?_
                refine St.p rfl rfl ?_
                refine St.gOn (dj := 28) rfl rfl ?_
                refine St.p rfl rfl ?_
                refine St.gOn (dj := 28) rfl rfl ?_
                refine St.p rfl rfl ?_
                refine St.gOn (dj := 28) rfl rfl ?_
                obtain ⟨x2, hx2, hj1⟩ := bnd_e hj1
                refine St.ixL hx2 rfl rfl rfl (.tail _ (.head _)) rfl rfl rfl rfl rfl fun b2 ob2 => ?_
                refine St.gOn (dj := 28) rfl rfl ?_
                refine St.p rfl rfl ?_
                refine St.gOn (dj := 28) rfl rfl ?_
                refine St.load ob2 0 rfl rfl (.head _) rfl rfl ?_
                refine St.gOn (dj := 28) rfl rfl ?_
                refine St.p rfl rfl ?_
                refine St.gOn (dj := 25) rfl rfl ?_
                refine St.p rfl rfl ?_
                refine St.p rfl rfl ?_
                refine St.doneQ ?_
                injection hj1 with hj1
                subst hj1
                refine St.thenN ?_
                exact St.hereE () ⟨rfl, rfl, rfl, rfl, rfl, trivial⟩ (fun _ w => ((.d (.d (.k .z))) : Keep _ _).sat w)
              · replace hj1 := bif_f hb5 hj1
                refine St.gOff (dj := 28) rfl rfl rfl rfl ?_
                refine St.gOff (dj := 28) rfl rfl rfl rfl ?_
                refine St.gOff (dj := 28) rfl rfl rfl rfl ?_
                refine St.gOff (dj := 28) rfl rfl rfl rfl ?_
                refine St.gOff (dj := 28) rfl rfl rfl rfl ?_
                refine St.gOff (dj := 28) rfl rfl rfl rfl ?_
                refine St.gOff (dj := 28) rfl rfl rfl rfl ?_
                refine St.gOff (dj := 28) rfl rfl rfl rfl ?_
                refine St.gOff (dj := 28) rfl rfl rfl rfl ?_
                refine St.gOn (dj := 25) rfl rfl ?_
                refine St.p rfl rfl ?_
                refine St.p rfl rfl ?_
                refine St.doneQ ?_
                injection hj1 with hj1
                subst hj1
                refine St.thenN ?_
                exact St.hereE () ⟨rfl, rfl, rfl, rfl, rfl, trivial⟩ (fun _ w => ((.d (.k .z)) : Keep _ _).sat w)
        · rintro e3
          refine St.cond _ rfl (fun hb6 => ?_) (fun hb6 => ?_)
          · replace h1 := bif_t hb6 h1
            refine St.seq ?_
            refine St.region ?_
            refine St.p rfl rfl ?_
            refine St.done ?_
            refine St.thenN ?_
            refine St.prune (Γ' := [(2, _)]) ⟨rfl, trivial⟩ (.d .z) ?_
            refine St.ret ?_
            repeat (first | refine St.thenR ?_ | refine St.blkR ?_)
            injection h1 with h1
            subst h1
            have ho := hd1 _ rfl
            subst ho
            have h : some _ = some _ := h
            injection h with h
            subst h
            exact St.finR Try.results60 (.tmp rfl .nil) rfl [] ⟨rfl, rfl⟩ (fun _ w => (.z : Keep _ _).sat w)
          · replace h1 := bif_f hb6 h1
            refine St.skip ?_
            refine St.blkN ?_
            refine St.thenN ?_
            refine St.prune (Γ' := [(0, _), (8, _), (9, _), (10, _)]) ⟨rfl, rfl, rfl, rfl, trivial⟩ (.k .z) ?_
            refine St.region ?_
            refine St.p rfl rfl ?_
            refine St.p rfl rfl ?_
            refine St.done ?_
            injection h1 with h1
            subst h1
            refine St.thenN ?_
            exact St.again _ () hm1 trivial ⟨rfl, rfl, rfl, rfl, trivial⟩ (fun _ w => ((.k .z) : Keep _ _).sat w)
      · replace h1 := bif_f hb2 h1
        refine St.exit ?_
        repeat (first | refine St.thenX ?_ | refine St.blkMiss rfl ?_)
        refine St.blkHit ?_
        injection h1 with h1
        subst h1
        have ho := hd1 _ rfl
        subst ho
        refine St.thenN ?_
        exact St.hereI () () rfl trivial (fun _ w => ((.d .z) : Keep _ _).sat w)
    · rintro o2 e2 ho
      subst ho
      have h : _ = some _ := h
      refine St.seq ?_
      refine St.region ?_
      refine St.p rfl rfl ?_
      refine St.done ?_
      refine St.thenN ?_
      refine St.ret ?_
      repeat (first | refine St.thenR ?_ | refine St.blkR ?_)
      injection h with h
      subst h
      exact St.finR Try.results60 (.tmp rfl .nil) rfl [] ⟨rfl, rfl⟩ (fun _ w => (.z : Keep _ _).sat w)

theorem ent61 : Ent Try.prog 61 := ⟨_, Try.func61, by kernel_rfl, by kernel_rfl⟩

noncomputable def m_version_right (needs : (List T_Need)) : Option Bool :=
  bif decide ((needs.length : Int) > 16) then (some false) else (bnd (loopM (τ := Bool ⊕ Unit) (fun (s1 : Int) => bif decide (s1 < (needs.length : Int)) then (bnd (elt needs s1) fun x1 => bnd ((bnd (m_version_Name x1.Component) fun r1 => bif !r1 then (some true) else (bnd (m_version_Name x1.On) fun r2 => bif !r2 then (some true) else (bif (x1.Component.toList == x1.On.toList) then (some true) else (bnd (m_version_Valid x1.From) fun r3 => bif !r3 then (some true) else (bnd (m_version_Valid x1.At) fun r4 => some (!r4))))) : Option Bool)) fun o3 => bif o3 then (some (.done (.inl false))) else (some (.next (IntKind.wrap .i64 (s1 + 1))))) else (some (.done (.inr ())))) 0) fun o1 => retOr o1 fun o2 => some true)

set_option maxHeartbeats 4000000 in
theorem c_version_right {needs : (List T_Need)} {A1 : Option Addr} {c1 : Nat} {r : Bool} (h : m_version_right needs = some r) :
    Fun Try.prog 61 [.slice A1 needs.length c1] [.ro (SlL e_Need A1 c1 needs)] (Val (.bool r)) := by
  unfold m_version_right at h
  refine Fun.intro Try.func61 rfl rfl rfl fun w R => ?_
  refine St.seq ?_
  refine St.region ?_
  refine St.p rfl rfl ?_
  refine St.done ?_
  refine St.thenN ?_
  refine St.prune (Γ' := [(0, _)]) ⟨rfl, trivial⟩ (.k .z) ?_
  refine St.seq ?_
  refine St.seq ?_
  refine St.region ?_
  iterate 3 refine St.p rfl rfl ?_
  refine St.done ?_
  refine St.thenN ?_
  refine St.prune (Γ' := [(0, _), (7, _)]) ⟨rfl, rfl, trivial⟩ (.k .z) ?_
  refine St.cond _ rfl (fun hb1 => ?_) (fun hb1 => ?_)
  · replace h := bif_t hb1 h
    refine St.seq ?_
    refine St.region ?_
    refine St.p rfl rfl ?_
    refine St.done ?_
    refine St.thenN ?_
    refine St.prune (Γ' := [(2, _)]) ⟨rfl, trivial⟩ (.d .z) ?_
    refine St.ret ?_
    repeat (first | refine St.thenR ?_ | refine St.blkR ?_)
    injection h with h
    subst h
    exact St.finR Try.results61 (.tmp rfl .nil) rfl [] ⟨rfl, rfl⟩ (fun _ w => (.z : Keep _ _).sat w)
  · replace h := bif_f hb1 h
    refine St.skip ?_
    refine St.thenN ?_
    refine St.prune (Γ' := [(0, _)]) ⟨rfl, trivial⟩ (.k .z) ?_
    refine St.seq ?_
    refine St.seq ?_
    refine St.region ?_
    iterate 3 refine St.p rfl rfl ?_
    refine St.done ?_
    refine St.thenN ?_
    refine St.prune (Γ' := [(8, _), (9, _), (10, _)]) ⟨rfl, rfl, rfl, trivial⟩ (.k .z) ?_
    obtain ⟨o1, hl1, h⟩ := bnd_e h
    refine St.cutI (fun (o2 : Unit) (e2 : Unit) => []) (fun o2 e2 => R) (fun o2 => o1 = .inr o2) ?_ ?_
    · refine St.block ?_
      refine St.loop hl1 (fun (s1 : Int) (e1 : Unit) => [(8, .slice A1 needs.length c1), (9, .int .i64 (needs.length : Int)), (10, .int .i64 s1)]) (fun s1 e1 => .ro (SlL e_Need A1 c1 needs) :: R) (fun _ _ => True) () trivial ⟨rfl, rfl, rfl, trivial⟩ (fun _ w => ((.k .z) : Keep _ _).sat w) ?_
      rintro s1 e1 - hit1
      obtain ⟨st1, hm1, hd1⟩ := iter_e hit1
      have h1 := hm1
      refine St.seq ?_
      refine St.region ?_
      refine St.p rfl rfl ?_
      refine St.done ?_
      refine St.thenN ?_
      refine St.seq ?_
      refine St.cond _ rfl (fun hb2 => ?_) (fun hb2 => ?_)
      · replace h1 := bif_t hb2 h1
        refine St.skip ?_
        refine St.thenN ?_
        refine St.prune (Γ' := [(8, _), (9, _), (10, _)]) ⟨rfl, rfl, rfl, trivial⟩ (.k .z) ?_
        refine St.seq ?_
        refine St.block ?_
        refine St.seq ?_
        refine St.region ?_
        obtain ⟨x1, hx1, h1⟩ := bnd_e h1
        refine St.ixL hx1 rfl rfl rfl (.head _) rfl rfl rfl rfl rfl fun b1 ob1 => ?_
        refine St.load ob1 0 rfl rfl (.head _) rfl rfl ?_
        refine St.alloc rfl rfl fun g1 => ?_
        refine St.store 0 rfl rfl rfl rfl rfl rfl .z rfl ?_
        refine St.done ?_
        refine St.thenN ?_
        refine St.prune (Γ' := [(4, _), (8, _), (9, _), (10, _)]) ⟨rfl, rfl, rfl, rfl, trivial⟩ (.k (.d (.k .z))) ?_
        refine St.seq ?_
        obtain ⟨o3, hj1, h1⟩ := bnd_e h1
        refine St.cutE (fun (e3 : Unit) => [(8, .slice A1 needs.length c1), (9, .int .i64 (needs.length : Int)), (10, .int .i64 s1), (42, .bool o3)]) (fun e3 => .ro (SlL e_Need A1 c1 needs) :: R) ?_ ?_
        · refine St.region ?_
          refine St.p rfl rfl ?_
          refine St.loadB 0 rfl rfl (.head _) rfl rfl ?_
          obtain ⟨r1, hr1, hj1⟩ := bnd_e hj1
          refine St.callV (c_version_Name hr1) ent69 rfl rfl rfl rfl trivial ?_
          refine St.p rfl rfl ?_
          refine St.p rfl rfl ?_
          refine St.gSplit (dj := 18) _ rfl (fun hb3 => ?_) (fun hb3 => ?_)
          · replace hj1 := bif_t hb3 hj1
            refine St.gOff (dj := 18) rfl rfl rfl rfl ?_
            refine St.gOff (dj := 18) rfl rfl rfl rfl ?_
            refine St.gOff (dj := 18) rfl rfl rfl rfl ?_
            refine St.gOff (dj := 18) rfl rfl rfl rfl ?_
            refine St.p rfl rfl ?_
            refine St.p rfl rfl ?_
            refine St.gOff (dj := 24) rfl rfl rfl rfl ?_
            refine St.gOff (dj := 24) rfl rfl rfl rfl ?_
            refine St.gOff (dj := 24) rfl rfl rfl rfl ?_
            refine St.gOff (dj := 24) rfl rfl rfl rfl ?_
            refine St.gOff (dj := 24) rfl rfl rfl rfl ?_
            refine St.p rfl rfl ?_
            refine St.p rfl rfl ?_
            refine St.gOff (dj := 31) rfl rfl rfl rfl ?_
            refine St.gOff (dj := 31) rfl rfl rfl rfl ?_
            refine St.gOff (dj := 31) rfl rfl rfl rfl ?_
            refine St.gOff (dj := 31) rfl rfl rfl rfl ?_
            refine St.p rfl rfl ?_
            refine St.p rfl rfl ?_
            refine St.gOff (dj := 37) rfl rfl rfl rfl ?_
            refine St.gOff (dj := 37) rfl rfl rfl rfl ?_
            refine St.gOff (dj := 37) rfl rfl rfl rfl ?_
            refine St.gOff (dj := 37) rfl rfl rfl rfl ?_
            refine St.p rfl rfl ?_
            refine St.done ?_
            injection hj1 with hj1
            subst hj1
            refine St.thenN ?_
            exact St.hereE () ⟨rfl, rfl, rfl, rfl, trivial⟩ (fun _ w => ((.d (.k .z)) : Keep _ _).sat w)
          · replace hj1 := bif_f hb3 hj1
            refine St.gOn (dj := 18) rfl rfl ?_
            refine St.p rfl rfl ?_
            refine St.gOn (dj := 18) rfl rfl ?_
            refine St.loadB 4 rfl rfl (.head _) rfl rfl ?_
            refine St.gOn (dj := 18) rfl rfl ?_
            obtain ⟨r2, hr2, hj1⟩ := bnd_e hj1
            refine St.callV (c_version_Name hr2) ent69 rfl rfl rfl rfl trivial ?_
            refine St.gOn (dj := 18) rfl rfl ?_
            iterate 3 refine St.p rfl rfl ?_
            refine St.gSplit (dj := 24) _ rfl (fun hb4 => ?_) (fun hb4 => ?_)
            · replace hj1 := bif_t hb4 hj1
              refine St.gOff (dj := 24) rfl rfl rfl rfl ?_
              refine St.gOff (dj := 24) rfl rfl rfl rfl ?_
              refine St.gOff (dj := 24) rfl rfl rfl rfl ?_
              refine St.gOff (dj := 24) rfl rfl rfl rfl ?_
              refine St.gOff (dj := 24) rfl rfl rfl rfl ?_
              refine St.p rfl rfl ?_
              refine St.p rfl rfl ?_
              refine St.gOff (dj := 31) rfl rfl rfl rfl ?_
              refine St.gOff (dj := 31) rfl rfl rfl rfl ?_
              refine St.gOff (dj := 31) rfl rfl rfl rfl ?_
              refine St.gOff (dj := 31) rfl rfl rfl rfl ?_
              refine St.p rfl rfl ?_
              refine St.p rfl rfl ?_
              refine St.gOff (dj := 37) rfl rfl rfl rfl ?_
              refine St.gOff (dj := 37) rfl rfl rfl rfl ?_
              refine St.gOff (dj := 37) rfl rfl rfl rfl ?_
              refine St.gOff (dj := 37) rfl rfl rfl rfl ?_
              refine St.p rfl rfl ?_
              refine St.done ?_
              injection hj1 with hj1
              subst hj1
              refine St.thenN ?_
              exact St.hereE () ⟨rfl, rfl, rfl, rfl, trivial⟩ (fun _ w => ((.d (.k .z)) : Keep _ _).sat w)
            · replace hj1 := bif_f hb4 hj1
              refine St.gOn (dj := 24) rfl rfl ?_
              refine St.p rfl rfl ?_
              refine St.gOn (dj := 24) rfl rfl ?_
              refine St.loadB 0 rfl rfl (.head _) rfl rfl ?_
              refine St.gOn (dj := 24) rfl rfl ?_
              refine St.p rfl rfl ?_
              refine St.gOn (dj := 24) rfl rfl ?_
              refine St.loadB 4 rfl rfl (.head _) rfl rfl ?_
              refine St.gOn (dj := 24) rfl rfl ?_
              iterate 3 refine St.p rfl rfl ?_
              refine St.gSplit (dj := 31) _ rfl (fun hb5 => ?_) (fun hb5 => ?_)
              · replace hj1 := bif_t hb5 hj1
                refine St.gOff (dj := 31) rfl rfl rfl rfl ?_
                refine St.gOff (dj := 31) rfl rfl rfl rfl ?_
                refine St.gOff (dj := 31) rfl rfl rfl rfl ?_
                refine St.gOff (dj := 31) rfl rfl rfl rfl ?_
                refine St.p rfl rfl ?_
                refine St.p rfl rfl ?_
                refine St.gOff (dj := 37) rfl rfl rfl rfl ?_
                refine St.gOff (dj := 37) rfl rfl rfl rfl ?_
                refine St.gOff (dj := 37) rfl rfl rfl rfl ?_
                refine St.gOff (dj := 37) rfl rfl rfl rfl ?_
                refine St.p rfl rfl ?_
                refine St.done ?_
                injection hj1 with hj1
                subst hj1
                refine St.thenN ?_
                exact St.hereE () ⟨rfl, rfl, rfl, rfl, trivial⟩ (fun _ w => ((.d (.k .z)) : Keep _ _).sat w)
              · replace hj1 := bif_f hb5 hj1
                refine St.gOn (dj := 31) rfl rfl ?_
                refine St.p rfl rfl ?_
                refine St.gOn (dj := 31) rfl rfl ?_
                refine St.loadB 1 rfl rfl (.head _) rfl rfl ?_
                refine St.gOn (dj := 31) rfl rfl ?_
                obtain ⟨r3, hr3, hj1⟩ := bnd_e hj1
                refine St.callV (c_version_Valid hr3) ent70 rfl rfl rfl rfl trivial ?_
                refine St.gOn (dj := 31) rfl rfl ?_
                iterate 3 refine St.p rfl rfl ?_
                refine St.gSplit (dj := 37) _ rfl (fun hb6 => ?_) (fun hb6 => ?_)
                · replace hj1 := bif_t hb6 hj1
                  refine St.gOff (dj := 37) rfl rfl rfl rfl ?_
                  refine St.gOff (dj := 37) rfl rfl rfl rfl ?_
                  refine St.gOff (dj := 37) rfl rfl rfl rfl ?_
                  refine St.gOff (dj := 37) rfl rfl rfl rfl ?_
                  refine St.p rfl rfl ?_
                  refine St.done ?_
                  injection hj1 with hj1
                  subst hj1
                  refine St.thenN ?_
                  exact St.hereE () ⟨rfl, rfl, rfl, rfl, trivial⟩ (fun _ w => ((.d (.k .z)) : Keep _ _).sat w)
                · replace hj1 := bif_f hb6 hj1
                  refine St.gOn (dj := 37) rfl rfl ?_
                  refine St.p rfl rfl ?_
                  refine St.gOn (dj := 37) rfl rfl ?_
                  refine St.loadB 5 rfl rfl (.head _) rfl rfl ?_
                  refine St.gOn (dj := 37) rfl rfl ?_
                  obtain ⟨r4, hr4, hj1⟩ := bnd_e hj1
                  refine St.callV (c_version_Valid hr4) ent70 rfl rfl rfl rfl trivial ?_
                  refine St.gOn (dj := 37) rfl rfl ?_
                  refine St.p rfl rfl ?_
                  refine St.p rfl rfl ?_
                  refine St.done ?_
                  injection hj1 with hj1
                  subst hj1
                  refine St.thenN ?_
                  exact St.hereE () ⟨rfl, rfl, rfl, rfl, trivial⟩ (fun _ w => ((.d (.k .z)) : Keep _ _).sat w)
        · rintro e3
          refine St.cond _ rfl (fun hb7 => ?_) (fun hb7 => ?_)
          · replace h1 := bif_t hb7 h1
            refine St.seq ?_
            refine St.region ?_
            refine St.p rfl rfl ?_
            refine St.done ?_
            refine St.thenN ?_
            refine St.prune (Γ' := [(2, _)]) ⟨rfl, trivial⟩ (.d .z) ?_
            refine St.ret ?_
            repeat (first | refine St.thenR ?_ | refine St.blkR ?_)
            injection h1 with h1
            subst h1
            have ho := hd1 _ rfl
            subst ho
            have h : some _ = some _ := h
            injection h with h
            subst h
            exact St.finR Try.results61 (.tmp rfl .nil) rfl [] ⟨rfl, rfl⟩ (fun _ w => (.z : Keep _ _).sat w)
          · replace h1 := bif_f hb7 h1
            refine St.skip ?_
            refine St.blkN ?_
            refine St.thenN ?_
            refine St.prune (Γ' := [(8, _), (9, _), (10, _)]) ⟨rfl, rfl, rfl, trivial⟩ (.k .z) ?_
            refine St.region ?_
            refine St.p rfl rfl ?_
            refine St.p rfl rfl ?_
            refine St.done ?_
            injection h1 with h1
            subst h1
            refine St.thenN ?_
            exact St.again _ () hm1 trivial ⟨rfl, rfl, rfl, trivial⟩ (fun _ w => ((.k .z) : Keep _ _).sat w)
      · replace h1 := bif_f hb2 h1
        refine St.exit ?_
        repeat (first | refine St.thenX ?_ | refine St.blkMiss rfl ?_)
        refine St.blkHit ?_
        injection h1 with h1
        subst h1
        have ho := hd1 _ rfl
        subst ho
        refine St.thenN ?_
        exact St.hereI () () rfl trivial (fun _ w => ((.d .z) : Keep _ _).sat w)
    · rintro o2 e2 ho
      subst ho
      have h : _ = some _ := h
      refine St.seq ?_
      refine St.region ?_
      refine St.p rfl rfl ?_
      refine St.done ?_
      refine St.thenN ?_
      refine St.ret ?_
      repeat (first | refine St.thenR ?_ | refine St.blkR ?_)
      injection h with h
      subst h
      exact St.finR Try.results61 (.tmp rfl .nil) rfl [] ⟨rfl, rfl⟩ (fun _ w => (.z : Keep _ _).sat w)

theorem ent40 : Ent Try.prog 40 := ⟨_, Try.func40, by kernel_rfl, by kernel_rfl⟩

noncomputable def m_version_find (l_p0 : (List T_Installed)) (name : ByteArray) : Option (T_Version × Bool) :=
  bnd (loopM (τ := (T_Version × Bool) ⊕ Unit) (fun (s1 : Int) => bif decide (s1 < (l_p0.length : Int)) then (bnd (elt l_p0 s1) fun x1 => bif (x1.Name.toList == name.toList) then (some (.done (.inl (x1.Version, true)))) else (some (.next (IntKind.wrap .i64 (s1 + 1))))) else (some (.done (.inr ())))) 0) fun o1 => retOr o1 fun o2 => some ((⟨0, 0, 0⟩ : T_Version), false)

theorem c_version_find {l_p0 : (List T_Installed)} {name : ByteArray} {A1 : Option Addr} {c1 : Nat} {r : (T_Version × Bool)} (h : m_version_find l_p0 name = some r) :
    Fun Try.prog 40 [.slice A1 l_p0.length c1, .string name] [.ro (SlL e_Installed A1 c1 l_p0)] (Val (.tuple #[.agg #[.int .i64 r.1.Major, .int .i64 r.1.Minor, .int .i64 r.1.Patch], .bool r.2])) := by
  unfold m_version_find at h
  refine Fun.intro Try.func40 rfl rfl rfl fun w R => ?_
  refine St.seq ?_
  refine St.region ?_
  refine St.alloc rfl rfl fun g1 => ?_
  refine St.p rfl rfl ?_
  refine St.done ?_
  refine St.thenN ?_
  refine St.prune (Γ' := [(0, _), (1, _), (4, _)]) ⟨rfl, rfl, rfl, trivial⟩ (.k (.k .z)) ?_
  refine St.seq ?_
  refine St.seq ?_
  refine St.region ?_
  iterate 3 refine St.p rfl rfl ?_
  refine St.done ?_
  refine St.thenN ?_
  refine St.prune (Γ' := [(1, _), (4, _), (8, _), (9, _), (10, _)]) ⟨rfl, rfl, rfl, rfl, rfl, trivial⟩ (.k (.k .z)) ?_
  obtain ⟨o1, hl1, h⟩ := bnd_e h
  refine St.cutI (fun (o2 : Unit) (e2 : Unit) => [(4, .pointer (some ⟨g1, 0, none⟩))]) (fun o2 e2 => .res (Box g1 25 [.int .i64 0, .int .i64 0, .int .i64 0]) :: R) (fun o2 => o1 = .inr o2) ?_ ?_
  · refine St.block ?_
    refine St.loop hl1 (fun (s1 : Int) (e1 : Unit) => [(1, .string name), (4, .pointer (some ⟨g1, 0, none⟩)), (8, .slice A1 l_p0.length c1), (9, .int .i64 (l_p0.length : Int)), (10, .int .i64 s1)]) (fun s1 e1 => .res (Box g1 25 [.int .i64 0, .int .i64 0, .int .i64 0]) :: .ro (SlL e_Installed A1 c1 l_p0) :: R) (fun _ _ => True) () trivial ⟨rfl, rfl, rfl, rfl, rfl, trivial⟩ (fun _ w => ((.k (.k .z)) : Keep _ _).sat w) ?_
    rintro s1 e1 - hit1
    obtain ⟨st1, hm1, hd1⟩ := iter_e hit1
    have h1 := hm1
    refine St.seq ?_
    refine St.region ?_
    refine St.p rfl rfl ?_
    refine St.done ?_
    refine St.thenN ?_
    refine St.seq ?_
    refine St.cond _ rfl (fun hb1 => ?_) (fun hb1 => ?_)
    · replace h1 := bif_t hb1 h1
      refine St.skip ?_
      refine St.thenN ?_
      refine St.prune (Γ' := [(1, _), (4, _), (8, _), (9, _), (10, _)]) ⟨rfl, rfl, rfl, rfl, rfl, trivial⟩ (.k (.k .z)) ?_
      refine St.seq ?_
      refine St.block ?_
      refine St.seq ?_
      refine St.region ?_
      obtain ⟨x1, hx1, h1⟩ := bnd_e h1
      refine St.ixL hx1 rfl rfl rfl (.tail _ (.head _)) rfl rfl rfl rfl rfl fun b1 ob1 => ?_
      refine St.load ob1 0 rfl rfl (.head _) rfl rfl ?_
      refine St.alloc rfl rfl fun g2 => ?_
      refine St.store 0 rfl rfl rfl rfl rfl rfl .z rfl ?_
      refine St.done ?_
      refine St.thenN ?_
      refine St.prune (Γ' := [(1, _), (4, _), (7, _), (8, _), (9, _), (10, _)]) ⟨rfl, rfl, rfl, rfl, rfl, rfl, trivial⟩ (.k (.d (.k (.k .z)))) ?_
      refine St.seq ?_
      refine St.region ?_
      refine St.p rfl rfl ?_
      refine St.loadB 0 rfl rfl (.head _) rfl rfl ?_
      refine St.p rfl rfl ?_
      refine St.p rfl rfl ?_
      refine St.done ?_
      refine St.thenN ?_
      refine St.prune (Γ' := [(1, _), (4, _), (7, _), (8, _), (9, _), (10, _), (17, _)]) ⟨rfl, rfl, rfl, rfl, rfl, rfl, rfl, trivial⟩ (.k (.k (.k .z))) ?_
      refine St.cond _ rfl (fun hb2 => ?_) (fun hb2 => ?_)
      · replace h1 := bif_t hb2 h1
        refine St.seq ?_
        refine St.region ?_
        refine St.p rfl rfl ?_
        refine St.loadB 1 rfl rfl (.head _) rfl rfl ?_
        refine St.store 0 rfl rfl rfl rfl rfl rfl (.s .z) rfl ?_
        refine St.p rfl rfl ?_
        refine St.done ?_
        refine St.thenN ?_
        refine St.prune (Γ' := [(4, _), (5, _)]) ⟨rfl, rfl, trivial⟩ (.k (.d (.d .z))) ?_
        refine St.ret ?_
        repeat (first | refine St.thenR ?_ | refine St.blkR ?_)
        injection h1 with h1
        subst h1
        have ho := hd1 _ rfl
        subst ho
        have h : some _ = some _ := h
        injection h with h
        subst h
        exact St.finR Try.results40 (.cell rfl (.head _) rfl (.tmp rfl .nil)) rfl [] ⟨rfl, rfl⟩ (fun _ w => ((.d .z) : Keep _ _).sat w)
      · replace h1 := bif_f hb2 h1
        refine St.skip ?_
        refine St.blkN ?_
        refine St.thenN ?_
        refine St.prune (Γ' := [(1, _), (4, _), (8, _), (9, _), (10, _)]) ⟨rfl, rfl, rfl, rfl, rfl, trivial⟩ (.d (.k (.k .z))) ?_
        refine St.region ?_
        refine St.p rfl rfl ?_
        refine St.p rfl rfl ?_
        refine St.done ?_
        injection h1 with h1
        subst h1
        refine St.thenN ?_
        exact St.again _ () hm1 trivial ⟨rfl, rfl, rfl, rfl, rfl, trivial⟩ (fun _ w => ((.k (.k .z)) : Keep _ _).sat w)
    · replace h1 := bif_f hb1 h1
      refine St.exit ?_
      repeat (first | refine St.thenX ?_ | refine St.blkMiss rfl ?_)
      refine St.blkHit ?_
      injection h1 with h1
      subst h1
      have ho := hd1 _ rfl
      subst ho
      refine St.thenN ?_
      exact St.hereI () () rfl ⟨rfl, trivial⟩ (fun _ w => ((.k (.d .z)) : Keep _ _).sat w)
  · rintro o2 e2 ho
    subst ho
    have h : _ = some _ := h
    refine St.seq ?_
    refine St.region ?_
    refine St.p rfl rfl ?_
    refine St.store 0 rfl rfl rfl rfl rfl rfl .z rfl ?_
    refine St.p rfl rfl ?_
    refine St.done ?_
    refine St.thenN ?_
    refine St.prune (Γ' := [(4, _), (5, _)]) ⟨rfl, rfl, trivial⟩ (.k .z) ?_
    refine St.ret ?_
    repeat (first | refine St.thenR ?_ | refine St.blkR ?_)
    injection h with h
    subst h
    exact St.finR Try.results40 (.cell rfl (.head _) rfl (.tmp rfl .nil)) rfl [] ⟨rfl, rfl⟩ (fun _ w => ((.d .z) : Keep _ _).sat w)

theorem ent84 : Ent Try.prog 84 := ⟨_, Try.func84, by kernel_rfl, by kernel_rfl⟩

noncomputable def m_cmp_isNaN_int (x_p0 : Int) : Option Bool :=
  some (x_p0 != x_p0)

theorem c_cmp_isNaN_int {x_p0 : Int} {r : Bool} (h : m_cmp_isNaN_int x_p0 = some r) :
    Fun Try.prog 84 [.int .i64 x_p0] [] (Val (.bool r)) := by
  unfold m_cmp_isNaN_int at h
  refine Fun.intro Try.func84 rfl rfl rfl fun w R => ?_
  refine St.seq ?_
  refine St.region ?_
  refine St.p rfl rfl ?_
  refine St.done ?_
  refine St.thenN ?_
  refine St.prune (Γ' := [(0, _)]) ⟨rfl, trivial⟩ .z ?_
  refine St.seq ?_
  refine St.region ?_
  iterate 4 refine St.p rfl rfl ?_
  refine St.done ?_
  refine St.thenN ?_
  refine St.prune (Γ' := [(2, _)]) ⟨rfl, trivial⟩ .z ?_
  refine St.ret ?_
  repeat (first | refine St.thenR ?_ | refine St.blkR ?_)
  injection h with h
  subst h
  exact St.finR Try.results84 (.tmp rfl .nil) rfl [] ⟨rfl, rfl⟩ (fun _ w => (.z : Keep _ _).sat w)

theorem ent68 : Ent Try.prog 68 := ⟨_, Try.func68, by kernel_rfl, by kernel_rfl⟩

noncomputable def m_cmp_Compare_int (x_p0 : Int) (y_p1 : Int) : Option Int :=
  bnd (m_cmp_isNaN_int x_p0) fun r1 => bnd (m_cmp_isNaN_int y_p1) fun r2 => bif r1 then (bif r2 then (some 0) else (some (-1))) else (bif r2 then (some 1) else (bif decide (x_p0 < y_p1) then (some (-1)) else (bif decide (x_p0 > y_p1) then (some 1) else (some 0))))

theorem c_cmp_Compare_int {x_p0 : Int} {y_p1 : Int} {r : Int} (h : m_cmp_Compare_int x_p0 y_p1 = some r) :
    Fun Try.prog 68 [.int .i64 x_p0, .int .i64 y_p1] [] (Val (.int .i64 r)) := by
  unfold m_cmp_Compare_int at h
  refine Fun.intro Try.func68 rfl rfl rfl fun w R => ?_
  refine St.seq ?_
  refine St.region ?_
  refine St.p rfl rfl ?_
  refine St.done ?_
  refine St.thenN ?_
  refine St.prune (Γ' := [(0, _), (1, _)]) ⟨rfl, rfl, trivial⟩ .z ?_
  refine St.seq ?_
  refine St.region ?_
  refine St.p rfl rfl ?_
  obtain ⟨r1, hr1, h⟩ := bnd_e h
  refine St.callV (c_cmp_isNaN_int hr1) ent84 rfl rfl rfl rfl trivial ?_
  refine St.p rfl rfl ?_
  refine St.done ?_
  refine St.thenN ?_
  refine St.prune (Γ' := [(0, _), (1, _), (5, _)]) ⟨rfl, rfl, rfl, trivial⟩ .z ?_
  refine St.seq ?_
  refine St.region ?_
  refine St.p rfl rfl ?_
  obtain ⟨r2, hr2, h⟩ := bnd_e h
  refine St.callV (c_cmp_isNaN_int hr2) ent84 rfl rfl rfl rfl trivial ?_
  refine St.p rfl rfl ?_
  refine St.done ?_
  refine St.thenN ?_
  refine St.prune (Γ' := [(0, _), (1, _), (5, _), (6, _)]) ⟨rfl, rfl, rfl, rfl, trivial⟩ .z ?_
  refine St.seq ?_
  refine St.seq ?_
  refine St.region ?_
  refine St.p rfl rfl ?_
  refine St.done ?_
  refine St.thenN ?_
  refine St.prune (Γ' := [(0, _), (1, _), (6, _), (11, _)]) ⟨rfl, rfl, rfl, rfl, trivial⟩ .z ?_
  refine St.cond _ rfl (fun hb1 => ?_) (fun hb1 => ?_)
  · replace h := bif_t hb1 h
    refine St.seq ?_
    refine St.seq ?_
    refine St.region ?_
    refine St.p rfl rfl ?_
    refine St.done ?_
    refine St.thenN ?_
    refine St.prune (Γ' := [(12, _)]) ⟨rfl, trivial⟩ .z ?_
    refine St.cond _ rfl (fun hb2 => ?_) (fun hb2 => ?_)
    · replace h := bif_t hb2 h
      refine St.seq ?_
      refine St.region ?_
      refine St.p rfl rfl ?_
      refine St.done ?_
      refine St.thenN ?_
      refine St.prune (Γ' := [(4, _)]) ⟨rfl, trivial⟩ .z ?_
      refine St.ret ?_
      repeat (first | refine St.thenR ?_ | refine St.blkR ?_)
      injection h with h
      subst h
      exact St.finR Try.results68 (.tmp rfl .nil) rfl [] ⟨rfl, rfl⟩ (fun _ w => (.z : Keep _ _).sat w)
    · replace h := bif_f hb2 h
      refine St.skip ?_
      refine St.thenN ?_
      refine St.prune (Γ' := []) trivial .z ?_
      refine St.seq ?_
      refine St.region ?_
      refine St.p rfl rfl ?_
      refine St.done ?_
      refine St.thenN ?_
      refine St.ret ?_
      repeat (first | refine St.thenR ?_ | refine St.blkR ?_)
      injection h with h
      subst h
      exact St.finR Try.results68 (.tmp rfl .nil) rfl [] ⟨rfl, rfl⟩ (fun _ w => (.z : Keep _ _).sat w)
  · replace h := bif_f hb1 h
    refine St.skip ?_
    refine St.thenN ?_
    refine St.prune (Γ' := [(0, _), (1, _), (6, _)]) ⟨rfl, rfl, rfl, trivial⟩ .z ?_
    refine St.seq ?_
    refine St.seq ?_
    refine St.region ?_
    refine St.p rfl rfl ?_
    refine St.done ?_
    refine St.thenN ?_
    refine St.prune (Γ' := [(0, _), (1, _), (13, _)]) ⟨rfl, rfl, rfl, trivial⟩ .z ?_
    refine St.cond _ rfl (fun hb3 => ?_) (fun hb3 => ?_)
    · replace h := bif_t hb3 h
      refine St.seq ?_
      refine St.region ?_
      refine St.p rfl rfl ?_
      refine St.done ?_
      refine St.thenN ?_
      refine St.prune (Γ' := [(4, _)]) ⟨rfl, trivial⟩ .z ?_
      refine St.ret ?_
      repeat (first | refine St.thenR ?_ | refine St.blkR ?_)
      injection h with h
      subst h
      exact St.finR Try.results68 (.tmp rfl .nil) rfl [] ⟨rfl, rfl⟩ (fun _ w => (.z : Keep _ _).sat w)
    · replace h := bif_f hb3 h
      refine St.skip ?_
      refine St.thenN ?_
      refine St.prune (Γ' := [(0, _), (1, _)]) ⟨rfl, rfl, trivial⟩ .z ?_
      refine St.seq ?_
      refine St.seq ?_
      refine St.region ?_
      iterate 3 refine St.p rfl rfl ?_
      refine St.done ?_
      refine St.thenN ?_
      refine St.prune (Γ' := [(0, _), (1, _), (16, _)]) ⟨rfl, rfl, rfl, trivial⟩ .z ?_
      refine St.cond _ rfl (fun hb4 => ?_) (fun hb4 => ?_)
      · replace h := bif_t hb4 h
        refine St.seq ?_
        refine St.region ?_
        refine St.p rfl rfl ?_
        refine St.done ?_
        refine St.thenN ?_
        refine St.prune (Γ' := [(4, _)]) ⟨rfl, trivial⟩ .z ?_
        refine St.ret ?_
        repeat (first | refine St.thenR ?_ | refine St.blkR ?_)
        injection h with h
        subst h
        exact St.finR Try.results68 (.tmp rfl .nil) rfl [] ⟨rfl, rfl⟩ (fun _ w => (.z : Keep _ _).sat w)
      · replace h := bif_f hb4 h
        refine St.skip ?_
        refine St.thenN ?_
        refine St.prune (Γ' := [(0, _), (1, _)]) ⟨rfl, rfl, trivial⟩ .z ?_
        refine St.seq ?_
        refine St.seq ?_
        refine St.region ?_
        iterate 3 refine St.p rfl rfl ?_
        refine St.done ?_
        refine St.thenN ?_
        refine St.prune (Γ' := [(19, _)]) ⟨rfl, trivial⟩ .z ?_
        refine St.cond _ rfl (fun hb5 => ?_) (fun hb5 => ?_)
        · replace h := bif_t hb5 h
          refine St.seq ?_
          refine St.region ?_
          refine St.p rfl rfl ?_
          refine St.done ?_
          refine St.thenN ?_
          refine St.prune (Γ' := [(4, _)]) ⟨rfl, trivial⟩ .z ?_
          refine St.ret ?_
          repeat (first | refine St.thenR ?_ | refine St.blkR ?_)
          injection h with h
          subst h
          exact St.finR Try.results68 (.tmp rfl .nil) rfl [] ⟨rfl, rfl⟩ (fun _ w => (.z : Keep _ _).sat w)
        · replace h := bif_f hb5 h
          refine St.skip ?_
          refine St.thenN ?_
          refine St.prune (Γ' := []) trivial .z ?_
          refine St.seq ?_
          refine St.region ?_
          refine St.p rfl rfl ?_
          refine St.done ?_
          refine St.thenN ?_
          refine St.ret ?_
          repeat (first | refine St.thenR ?_ | refine St.blkR ?_)
          injection h with h
          subst h
          exact St.finR Try.results68 (.tmp rfl .nil) rfl [] ⟨rfl, rfl⟩ (fun _ w => (.z : Keep _ _).sat w)

theorem ent58 : Ent Try.prog 58 := ⟨_, Try.func58, by kernel_rfl, by kernel_rfl⟩

noncomputable def m_version_compare_int (a_p0 : (Arr3 Int)) (b_p1 : (Arr3 Int)) : Option Int :=
  bnd (m_cmp_Compare_int a_p0.e0 b_p1.e0) fun r1 => bif (r1 != 0) then (some r1) else (bnd (m_cmp_Compare_int a_p0.e1 b_p1.e1) fun r2 => bif (r2 != 0) then (some r2) else (bnd (m_cmp_Compare_int a_p0.e2 b_p1.e2) fun r3 => bif (r3 != 0) then (some r3) else (some 0)))

theorem c_version_compare_int {a_p0 : (Arr3 Int)} {b_p1 : (Arr3 Int)} {r : Int} (h : m_version_compare_int a_p0 b_p1 = some r) :
    Fun Try.prog 58 [.agg #[.int .i64 a_p0.e0, .int .i64 a_p0.e1, .int .i64 a_p0.e2], .agg #[.int .i64 b_p1.e0, .int .i64 b_p1.e1, .int .i64 b_p1.e2]] [] (Val (.int .i64 r)) := by
  unfold m_version_compare_int at h
  refine Fun.intro Try.func58 rfl rfl rfl fun w R => ?_
  refine St.seq ?_
  refine St.region ?_
  refine St.box rfl rfl fun g1 => ?_
  refine St.box rfl rfl fun g2 => ?_
  refine St.p rfl rfl ?_
  refine St.done ?_
  refine St.thenN ?_
  refine St.prune (Γ' := [(2, _), (3, _)]) ⟨rfl, rfl, trivial⟩ (.k (.k .z)) ?_
  refine St.seq ?_
  refine St.seq ?_
  refine St.region ?_
  refine St.p rfl rfl ?_
  refine St.done ?_
  refine St.thenN ?_
  refine St.block ?_
  refine St.rounds 9 ?_
  refine St.round ?_
  refine St.seq ?_
  refine St.region ?_
  refine St.p rfl rfl ?_
  refine St.done ?_
  refine St.thenN ?_
  refine St.seq ?_
  refine St.condT rfl ?_
  refine St.skip ?_
  refine St.thenN ?_
  refine St.prune (Γ' := [(2, _), (3, _), (7, _)]) ⟨rfl, rfl, rfl, trivial⟩ (.k (.k .z)) ?_
  refine St.seq ?_
  refine St.block ?_
  refine St.seq ?_
  refine St.region ?_
  refine St.p rfl rfl ?_
  refine St.p rfl rfl ?_
  refine St.done ?_
  refine St.thenN ?_
  refine St.prune (Γ' := [(2, _), (3, _), (5, _), (7, _)]) ⟨rfl, rfl, rfl, rfl, trivial⟩ (.k (.k .z)) ?_
  refine St.seq ?_
  refine St.regionF mixed (by kernel_rfl) ?_
  refine St.p rfl rfl ?_
  refine St.p rfl rfl ?_
  refine St.loadB 0 rfl rfl (.tail _ (.head _)) rfl rfl ?_
  refine St.p rfl rfl ?_
  refine St.p rfl rfl ?_
  refine St.loadB 0 rfl rfl (.head _) rfl rfl ?_
  obtain ⟨r1, hr1, h⟩ := bnd_e h
  refine St.callV (c_cmp_Compare_int hr1) ent68 rfl rfl rfl rfl trivial ?_
  refine St.p rfl rfl ?_
  refine St.doneQ ?_
  refine St.thenN ?_
  refine St.prune (Γ' := [(2, _), (3, _), (6, _), (7, _)]) ⟨rfl, rfl, rfl, rfl, trivial⟩ (.k (.k .z)) ?_
  refine St.seq ?_
  refine St.region ?_
  refine St.p rfl rfl ?_
  refine St.p rfl rfl ?_
  refine St.done ?_
  refine St.thenN ?_
  refine St.prune (Γ' := [(2, _), (3, _), (6, _), (7, _), (18, _)]) ⟨rfl, rfl, rfl, rfl, rfl, trivial⟩ (.k (.k .z)) ?_
  refine St.cond _ rfl (fun hb1 => ?_) (fun hb1 => ?_)
  · replace h := bif_t hb1 h
    refine St.seq ?_
    refine St.region ?_
    refine St.p rfl rfl ?_
    refine St.p rfl rfl ?_
    refine St.done ?_
    refine St.thenN ?_
    refine St.prune (Γ' := [(4, _)]) ⟨rfl, trivial⟩ (.d (.d .z)) ?_
    refine St.ret ?_
    repeat (first | refine St.thenR ?_ | refine St.blkR ?_)
    injection h with h
    subst h
    exact St.finR Try.results58 (.tmp rfl .nil) rfl [] ⟨rfl, rfl⟩ (fun _ w => (.z : Keep _ _).sat w)
  · replace h := bif_f hb1 h
    refine St.skip ?_
    refine St.blkN ?_
    refine St.thenN ?_
    refine St.prune (Γ' := [(2, _), (3, _), (7, _)]) ⟨rfl, rfl, rfl, trivial⟩ (.k (.k .z)) ?_
    refine St.region ?_
    refine St.p rfl rfl ?_
    refine St.p rfl rfl ?_
    refine St.done ?_
    refine St.thenN ?_
    refine St.round ?_
    refine St.prune (Γ' := [(2, _), (3, _), (7, _)]) ⟨rfl, rfl, rfl, trivial⟩ (.k (.k .z)) ?_
    refine St.seq ?_
    refine St.region ?_
    refine St.p rfl rfl ?_
    refine St.done ?_
    refine St.thenN ?_
    refine St.seq ?_
    refine St.condT rfl ?_
    refine St.skip ?_
    refine St.thenN ?_
    refine St.prune (Γ' := [(2, _), (3, _), (7, _)]) ⟨rfl, rfl, rfl, trivial⟩ (.k (.k .z)) ?_
    refine St.seq ?_
    refine St.block ?_
    refine St.seq ?_
    refine St.region ?_
    refine St.p rfl rfl ?_
    refine St.p rfl rfl ?_
    refine St.done ?_
    refine St.thenN ?_
    refine St.prune (Γ' := [(2, _), (3, _), (5, _), (7, _)]) ⟨rfl, rfl, rfl, rfl, trivial⟩ (.k (.k .z)) ?_
    refine St.seq ?_
    refine St.regionF mixed (by kernel_rfl) ?_
    refine St.p rfl rfl ?_
    refine St.p rfl rfl ?_
    refine St.loadB 1 rfl rfl (.tail _ (.head _)) rfl rfl ?_
    refine St.p rfl rfl ?_
    refine St.p rfl rfl ?_
    refine St.loadB 1 rfl rfl (.head _) rfl rfl ?_
    obtain ⟨r2, hr2, h⟩ := bnd_e h
    refine St.callV (c_cmp_Compare_int hr2) ent68 rfl rfl rfl rfl trivial ?_
    refine St.p rfl rfl ?_
    refine St.doneQ ?_
    refine St.thenN ?_
    refine St.prune (Γ' := [(2, _), (3, _), (6, _), (7, _)]) ⟨rfl, rfl, rfl, rfl, trivial⟩ (.k (.k .z)) ?_
    refine St.seq ?_
    refine St.region ?_
    refine St.p rfl rfl ?_
    refine St.p rfl rfl ?_
    refine St.done ?_
    refine St.thenN ?_
    refine St.prune (Γ' := [(2, _), (3, _), (6, _), (7, _), (18, _)]) ⟨rfl, rfl, rfl, rfl, rfl, trivial⟩ (.k (.k .z)) ?_
    refine St.cond _ rfl (fun hb2 => ?_) (fun hb2 => ?_)
    · replace h := bif_t hb2 h
      refine St.seq ?_
      refine St.region ?_
      refine St.p rfl rfl ?_
      refine St.p rfl rfl ?_
      refine St.done ?_
      refine St.thenN ?_
      refine St.prune (Γ' := [(4, _)]) ⟨rfl, trivial⟩ (.d (.d .z)) ?_
      refine St.ret ?_
      repeat (first | refine St.thenR ?_ | refine St.blkR ?_)
      injection h with h
      subst h
      exact St.finR Try.results58 (.tmp rfl .nil) rfl [] ⟨rfl, rfl⟩ (fun _ w => (.z : Keep _ _).sat w)
    · replace h := bif_f hb2 h
      refine St.skip ?_
      refine St.blkN ?_
      refine St.thenN ?_
      refine St.prune (Γ' := [(2, _), (3, _), (7, _)]) ⟨rfl, rfl, rfl, trivial⟩ (.k (.k .z)) ?_
      refine St.region ?_
      refine St.p rfl rfl ?_
      refine St.p rfl rfl ?_
      refine St.done ?_
      refine St.thenN ?_
      refine St.round ?_
      refine St.prune (Γ' := [(2, _), (3, _), (7, _)]) ⟨rfl, rfl, rfl, trivial⟩ (.k (.k .z)) ?_
      refine St.seq ?_
      refine St.region ?_
      refine St.p rfl rfl ?_
      refine St.done ?_
      refine St.thenN ?_
      refine St.seq ?_
      refine St.condT rfl ?_
      refine St.skip ?_
      refine St.thenN ?_
      refine St.prune (Γ' := [(2, _), (3, _), (7, _)]) ⟨rfl, rfl, rfl, trivial⟩ (.k (.k .z)) ?_
      refine St.seq ?_
      refine St.block ?_
      refine St.seq ?_
      refine St.region ?_
      refine St.p rfl rfl ?_
      refine St.p rfl rfl ?_
      refine St.done ?_
      refine St.thenN ?_
      refine St.prune (Γ' := [(2, _), (3, _), (5, _), (7, _)]) ⟨rfl, rfl, rfl, rfl, trivial⟩ (.k (.k .z)) ?_
      refine St.seq ?_
      refine St.regionF mixed (by kernel_rfl) ?_
      refine St.p rfl rfl ?_
      refine St.p rfl rfl ?_
      refine St.loadB 2 rfl rfl (.tail _ (.head _)) rfl rfl ?_
      refine St.p rfl rfl ?_
      refine St.p rfl rfl ?_
      refine St.loadB 2 rfl rfl (.head _) rfl rfl ?_
      obtain ⟨r3, hr3, h⟩ := bnd_e h
      refine St.callV (c_cmp_Compare_int hr3) ent68 rfl rfl rfl rfl trivial ?_
      refine St.p rfl rfl ?_
      refine St.doneQ ?_
      refine St.thenN ?_
      refine St.prune (Γ' := [(2, _), (3, _), (6, _), (7, _)]) ⟨rfl, rfl, rfl, rfl, trivial⟩ (.k (.k .z)) ?_
      refine St.seq ?_
      refine St.region ?_
      refine St.p rfl rfl ?_
      refine St.p rfl rfl ?_
      refine St.done ?_
      refine St.thenN ?_
      refine St.prune (Γ' := [(2, _), (3, _), (6, _), (7, _), (18, _)]) ⟨rfl, rfl, rfl, rfl, rfl, trivial⟩ (.k (.k .z)) ?_
      refine St.cond _ rfl (fun hb3 => ?_) (fun hb3 => ?_)
      · replace h := bif_t hb3 h
        refine St.seq ?_
        refine St.region ?_
        refine St.p rfl rfl ?_
        refine St.p rfl rfl ?_
        refine St.done ?_
        refine St.thenN ?_
        refine St.prune (Γ' := [(4, _)]) ⟨rfl, trivial⟩ (.d (.d .z)) ?_
        refine St.ret ?_
        repeat (first | refine St.thenR ?_ | refine St.blkR ?_)
        injection h with h
        subst h
        exact St.finR Try.results58 (.tmp rfl .nil) rfl [] ⟨rfl, rfl⟩ (fun _ w => (.z : Keep _ _).sat w)
      · replace h := bif_f hb3 h
        refine St.skip ?_
        refine St.blkN ?_
        refine St.thenN ?_
        refine St.prune (Γ' := [(2, _), (3, _), (7, _)]) ⟨rfl, rfl, rfl, trivial⟩ (.k (.k .z)) ?_
        refine St.region ?_
        refine St.p rfl rfl ?_
        refine St.p rfl rfl ?_
        refine St.done ?_
        refine St.thenN ?_
        refine St.round ?_
        refine St.prune (Γ' := [(2, _), (3, _), (7, _)]) ⟨rfl, rfl, rfl, trivial⟩ (.k (.k .z)) ?_
        refine St.seq ?_
        refine St.region ?_
        refine St.p rfl rfl ?_
        refine St.done ?_
        refine St.thenN ?_
        refine St.seq ?_
        refine St.condF rfl ?_
        refine St.exit ?_
        repeat (first | refine St.thenX ?_ | refine St.blkMiss rfl ?_)
        refine St.blkHit ?_
        refine St.thenN ?_
        refine St.prune (Γ' := []) trivial (.d (.d .z)) ?_
        refine St.seq ?_
        refine St.region ?_
        refine St.p rfl rfl ?_
        refine St.done ?_
        refine St.thenN ?_
        refine St.ret ?_
        repeat (first | refine St.thenR ?_ | refine St.blkR ?_)
        injection h with h
        subst h
        exact St.finR Try.results58 (.tmp rfl .nil) rfl [] ⟨rfl, rfl⟩ (fun _ w => (.z : Keep _ _).sat w)

theorem ent41 : Ent Try.prog 41 := ⟨_, Try.func41, by kernel_rfl, by kernel_rfl⟩

noncomputable def m_version_Compare (a_p0 : T_Version) (b_p1 : T_Version) : Option Int :=
  bnd (m_version_numbers a_p0) fun r1 => bnd (m_version_numbers b_p1) fun r2 => bnd (m_version_compare_int r1 r2) fun r3 => some r3

theorem c_version_Compare {a_p0 : T_Version} {b_p1 : T_Version} {r : Int} (h : m_version_Compare a_p0 b_p1 = some r) :
    Fun Try.prog 41 [.agg #[.int .i64 a_p0.Major, .int .i64 a_p0.Minor, .int .i64 a_p0.Patch], .agg #[.int .i64 b_p1.Major, .int .i64 b_p1.Minor, .int .i64 b_p1.Patch]] [] (Val (.int .i64 r)) := by
  unfold m_version_Compare at h
  refine Fun.intro Try.func41 rfl rfl rfl fun w R => ?_
  refine St.seq ?_
  refine St.region ?_
  refine St.box rfl rfl fun g1 => ?_
  refine St.box rfl rfl fun g2 => ?_
  refine St.p rfl rfl ?_
  refine St.done ?_
  refine St.thenN ?_
  refine St.prune (Γ' := [(2, _), (3, _)]) ⟨rfl, rfl, trivial⟩ (.k (.k .z)) ?_
  refine St.seq ?_
  refine St.regionF mixed (by kernel_rfl) ?_
  refine St.loadB 0 rfl rfl (.tail _ (.head _)) rfl rfl ?_
  obtain ⟨r1, hr1, h⟩ := bnd_e h
  refine St.callV (c_version_numbers hr1) ent59 rfl rfl rfl rfl trivial ?_
  refine St.loadB 0 rfl rfl (.head _) rfl rfl ?_
  obtain ⟨r2, hr2, h⟩ := bnd_e h
  refine St.callV (c_version_numbers hr2) ent59 rfl rfl rfl rfl trivial ?_
  obtain ⟨r3, hr3, h⟩ := bnd_e h
  refine St.callV (c_version_compare_int hr3) ent58 rfl rfl rfl rfl trivial ?_
  refine St.p rfl rfl ?_
  refine St.doneQ ?_
  refine St.thenN ?_
  refine St.prune (Γ' := [(4, _)]) ⟨rfl, trivial⟩ (.d (.d .z)) ?_
  refine St.ret ?_
  repeat (first | refine St.thenR ?_ | refine St.blkR ?_)
  injection h with h
  subst h
  exact St.finR Try.results41 (.tmp rfl .nil) rfl [] ⟨rfl, rfl⟩ (fun _ w => (.z : Keep _ _).sat w)

theorem ent17 : Ent Try.prog 17 := ⟨_, Try.func17, by kernel_rfl, by kernel_rfl⟩

noncomputable def m_version_Met (l_p0 : (List T_Installed)) (n_p1 : T_Need) : Option Bool :=
  bnd (m_version_find l_p0 n_p1.Component) fun r1 => bnd ((bif !r1.2 then (some true) else (bnd (m_version_Compare r1.1 n_p1.From) fun r2 => some (decide (r2 < 0))) : Option Bool)) fun o1 => bif o1 then (some true) else (bnd (m_version_find l_p0 n_p1.On) fun r3 => bnd ((bif r3.2 then (bnd (m_version_Compare r3.1 n_p1.At) fun r4 => some (decide (r4 ≥ 0))) else (some false) : Option Bool)) fun o2 => some o2)

theorem c_version_Met {l_p0 : (List T_Installed)} {n_p1 : T_Need} {A1 : Option Addr} {c1 : Nat} {r : Bool} (h : m_version_Met l_p0 n_p1 = some r) :
    Fun Try.prog 17 [.slice A1 l_p0.length c1, .agg (bx_T_Need n_p1).toArray] [.ro (SlL e_Installed A1 c1 l_p0)] (Val (.bool r)) := by
  unfold m_version_Met at h
  refine Fun.intro Try.func17 rfl rfl rfl fun w R => ?_
  refine St.seq ?_
  refine St.region ?_
  refine St.box rfl rfl fun g1 => ?_
  refine St.p rfl rfl ?_
  refine St.done ?_
  refine St.thenN ?_
  refine St.prune (Γ' := [(0, _), (3, _)]) ⟨rfl, rfl, trivial⟩ (.k (.k .z)) ?_
  refine St.seq ?_
  refine St.region ?_
  refine St.p rfl rfl ?_
  refine St.p rfl rfl ?_
  refine St.loadB 0 rfl rfl (.head _) rfl rfl ?_
  obtain ⟨r1, hr1, h⟩ := bnd_e h
  refine St.callV (c_version_find hr1) ent40 rfl rfl rfl rfl ⟨(.tail _ (.head _)), trivial⟩ ?_
  iterate 3 refine St.p rfl rfl ?_
  refine St.alloc rfl rfl fun g2 => ?_
  refine St.store 0 rfl rfl rfl rfl rfl rfl .z rfl ?_
  refine St.p rfl rfl ?_
  refine St.done ?_
  refine St.thenN ?_
  refine St.prune (Γ' := [(0, _), (3, _), (5, _), (6, _)]) ⟨rfl, rfl, rfl, rfl, trivial⟩ (.k (.k (.k .z))) ?_
  refine St.seq ?_
  refine St.seq ?_
  obtain ⟨o1, hj1, h⟩ := bnd_e h
  refine St.cutE (fun (e1 : Unit) => [(0, .slice A1 l_p0.length c1), (3, .pointer (some ⟨g1, 0, none⟩)), (23, .bool o1)]) (fun e1 => .res (Box g1 33 (bx_T_Need n_p1)) :: .ro (SlL e_Installed A1 c1 l_p0) :: R) ?_ ?_
  · refine St.region ?_
    iterate 3 refine St.p rfl rfl ?_
    refine St.gSplit (dj := 17) _ rfl (fun hb1 => ?_) (fun hb1 => ?_)
    · replace hj1 := bif_t hb1 hj1
      refine St.gOff (dj := 17) rfl rfl rfl rfl ?_
      refine St.gOff (dj := 17) rfl rfl rfl rfl ?_
      refine St.gOff (dj := 17) rfl rfl rfl rfl ?_
      refine St.gOff (dj := 17) rfl rfl rfl rfl ?_
      refine St.gOff (dj := 17) rfl rfl rfl rfl ?_
      refine St.p rfl rfl ?_
      refine St.done ?_
      injection hj1 with hj1
      subst hj1
      refine St.thenN ?_
      exact St.hereE () ⟨rfl, rfl, rfl, trivial⟩ (fun _ w => ((.d (.k (.k .z))) : Keep _ _).sat w)
    · replace hj1 := bif_f hb1 hj1
      refine St.gOn (dj := 17) rfl rfl ?_
      refine St.loadB 0 rfl rfl (.head _) rfl rfl ?_
      refine St.gOn (dj := 17) rfl rfl ?_
      refine St.p rfl rfl ?_
      refine St.gOn (dj := 17) rfl rfl ?_
      refine St.loadB 1 rfl rfl (.tail _ (.head _)) rfl rfl ?_
      refine St.gOn (dj := 17) rfl rfl ?_
      obtain ⟨r2, hr2, hj1⟩ := bnd_e hj1
      refine St.callV (c_version_Compare hr2) ent41 rfl rfl rfl rfl trivial ?_
      refine St.gOn (dj := 17) rfl rfl ?_
      refine St.p rfl rfl ?_
      refine St.p rfl rfl ?_
      refine St.done ?_
      injection hj1 with hj1
      subst hj1
      refine St.thenN ?_
      exact St.hereE () ⟨rfl, rfl, rfl, trivial⟩ (fun _ w => ((.d (.k (.k .z))) : Keep _ _).sat w)
  · rintro e1
    refine St.cond _ rfl (fun hb2 => ?_) (fun hb2 => ?_)
    · replace h := bif_t hb2 h
      refine St.seq ?_
      refine St.region ?_
      refine St.p rfl rfl ?_
      refine St.done ?_
      refine St.thenN ?_
      refine St.prune (Γ' := [(4, _)]) ⟨rfl, trivial⟩ (.d (.d .z)) ?_
      refine St.ret ?_
      repeat (first | refine St.thenR ?_ | refine St.blkR ?_)
      injection h with h
      subst h
      exact St.finR Try.results17 (.tmp rfl .nil) rfl [] ⟨rfl, rfl⟩ (fun _ w => (.z : Keep _ _).sat w)
    · replace h := bif_f hb2 h
      refine St.skip ?_
      refine St.thenN ?_
      refine St.prune (Γ' := [(0, _), (3, _)]) ⟨rfl, rfl, trivial⟩ (.k (.k .z)) ?_
      refine St.seq ?_
      refine St.region ?_
      refine St.p rfl rfl ?_
      refine St.p rfl rfl ?_
      refine St.loadB 4 rfl rfl (.head _) rfl rfl ?_
      obtain ⟨r3, hr3, h⟩ := bnd_e h
      refine St.callV (c_version_find hr3) ent40 rfl rfl rfl rfl ⟨(.tail _ (.head _)), trivial⟩ ?_
      iterate 3 refine St.p rfl rfl ?_
      refine St.alloc rfl rfl fun g3 => ?_
      refine St.store 0 rfl rfl rfl rfl rfl rfl .z rfl ?_
      refine St.p rfl rfl ?_
      refine St.done ?_
      refine St.thenN ?_
      refine St.prune (Γ' := [(3, _), (6, _), (7, _)]) ⟨rfl, rfl, rfl, trivial⟩ (.k (.k (.d .z))) ?_
      refine St.seq ?_
      obtain ⟨o2, hj2, h⟩ := bnd_e h
      refine St.cutE (fun (e2 : Unit) => [(4, .bool o2)]) (fun e2 => R) ?_ ?_
      · refine St.region ?_
        refine St.p rfl rfl ?_
        refine St.p rfl rfl ?_
        refine St.gSplit (dj := 32) _ rfl (fun hb3 => ?_) (fun hb3 => ?_)
        · replace hj2 := bif_t hb3 hj2
          refine St.gOn (dj := 32) rfl rfl ?_
          refine St.loadB 0 rfl rfl (.head _) rfl rfl ?_
          refine St.gOn (dj := 32) rfl rfl ?_
          refine St.p rfl rfl ?_
          refine St.gOn (dj := 32) rfl rfl ?_
          refine St.loadB 5 rfl rfl (.tail _ (.head _)) rfl rfl ?_
          refine St.gOn (dj := 32) rfl rfl ?_
          obtain ⟨r4, hr4, hj2⟩ := bnd_e hj2
          refine St.callV (c_version_Compare hr4) ent41 rfl rfl rfl rfl trivial ?_
          refine St.gOn (dj := 32) rfl rfl ?_
          iterate 3 refine St.p rfl rfl ?_
          refine St.done ?_
          injection hj2 with hj2
          subst hj2
          refine St.thenN ?_
          exact St.hereE () ⟨rfl, trivial⟩ (fun _ w => ((.d (.d .z)) : Keep _ _).sat w)
        · replace hj2 := bif_f hb3 hj2
          refine St.gOff (dj := 32) rfl rfl rfl rfl ?_
          refine St.gOff (dj := 32) rfl rfl rfl rfl ?_
          refine St.gOff (dj := 32) rfl rfl rfl rfl ?_
          refine St.gOff (dj := 32) rfl rfl rfl rfl ?_
          refine St.gOff (dj := 32) rfl rfl rfl rfl ?_
          refine St.p rfl rfl ?_
          refine St.p rfl rfl ?_
          refine St.done ?_
          injection hj2 with hj2
          subst hj2
          refine St.thenN ?_
          exact St.hereE () ⟨rfl, trivial⟩ (fun _ w => ((.d (.d .z)) : Keep _ _).sat w)
      · rintro e2
        refine St.ret ?_
        repeat (first | refine St.thenR ?_ | refine St.blkR ?_)
        injection h with h
        subst h
        exact St.finR Try.results17 (.tmp rfl .nil) rfl [] ⟨rfl, rfl⟩ (fun _ w => (.z : Keep _ _).sat w)

theorem ent42 : Ent Try.prog 42 := ⟨_, Try.func42, by kernel_rfl, by kernel_rfl⟩

noncomputable def m_version_Check (l_p0 : (List T_Installed)) (needs : (List T_Need)) : Option (Int × Int) :=
  bnd (m_version_components l_p0) fun r1 => bif !r1 then (some (0, 1)) else (bnd (m_version_right needs) fun r2 => bif !r2 then (some (0, 2)) else (bnd (loopM (τ := (Int × Int) ⊕ Unit) (fun (s1 : Int) => bif decide (s1 < (needs.length : Int)) then (bnd (elt needs s1) fun x1 => bnd (m_version_Met l_p0 x1) fun r3 => bif !r3 then (some (.done (.inl (s1, 0)))) else (some (.next (IntKind.wrap .i64 (s1 + 1))))) else (some (.done (.inr ())))) 0) fun o1 => retOr o1 fun o2 => some ((-1), 0)))

theorem c_version_Check {l_p0 : (List T_Installed)} {needs : (List T_Need)} {A1 : Option Addr} {c1 : Nat} {A2 : Option Addr} {c2 : Nat} {r : (Int × Int)} (h : m_version_Check l_p0 needs = some r) :
    Fun Try.prog 42 [.slice A1 l_p0.length c1, .slice A2 needs.length c2] [.ro (SlL e_Installed A1 c1 l_p0), .ro (SlL e_Need A2 c2 needs)] (Val (.tuple #[.int .i64 r.1, .int .i64 r.2])) := by
  unfold m_version_Check at h
  refine Fun.intro Try.func42 rfl rfl rfl fun w R => ?_
  refine St.seq ?_
  refine St.region ?_
  refine St.p rfl rfl ?_
  refine St.p rfl rfl ?_
  refine St.done ?_
  refine St.thenN ?_
  refine St.prune (Γ' := [(0, _), (1, _)]) ⟨rfl, rfl, trivial⟩ (.k (.k .z)) ?_
  refine St.seq ?_
  refine St.seq ?_
  refine St.region ?_
  refine St.p rfl rfl ?_
  obtain ⟨r1, hr1, h⟩ := bnd_e h
  refine St.callV (c_version_components hr1) ent60 rfl rfl rfl rfl ⟨(.head _), trivial⟩ ?_
  refine St.p rfl rfl ?_
  refine St.done ?_
  refine St.thenN ?_
  refine St.prune (Γ' := [(0, _), (1, _), (10, _)]) ⟨rfl, rfl, rfl, trivial⟩ (.k (.k .z)) ?_
  refine St.cond _ rfl (fun hb1 => ?_) (fun hb1 => ?_)
  · replace h := bif_t hb1 h
    refine St.seq ?_
    refine St.region ?_
    refine St.p rfl rfl ?_
    refine St.p rfl rfl ?_
    refine St.done ?_
    refine St.thenN ?_
    refine St.prune (Γ' := [(4, _), (5, _)]) ⟨rfl, rfl, trivial⟩ (.d (.d .z)) ?_
    refine St.ret ?_
    repeat (first | refine St.thenR ?_ | refine St.blkR ?_)
    injection h with h
    subst h
    exact St.finR Try.results42 (.tmp rfl (.tmp rfl .nil)) rfl [] ⟨rfl, rfl⟩ (fun _ w => (.z : Keep _ _).sat w)
  · replace h := bif_f hb1 h
    refine St.skip ?_
    refine St.thenN ?_
    refine St.prune (Γ' := [(0, _), (1, _)]) ⟨rfl, rfl, trivial⟩ (.k (.k .z)) ?_
    refine St.seq ?_
    refine St.seq ?_
    refine St.region ?_
    refine St.p rfl rfl ?_
    obtain ⟨r2, hr2, h⟩ := bnd_e h
    refine St.callV (c_version_right hr2) ent61 rfl rfl rfl rfl ⟨(.tail _ (.head _)), trivial⟩ ?_
    refine St.p rfl rfl ?_
    refine St.done ?_
    refine St.thenN ?_
    refine St.prune (Γ' := [(0, _), (1, _), (13, _)]) ⟨rfl, rfl, rfl, trivial⟩ (.k (.k .z)) ?_
    refine St.cond _ rfl (fun hb2 => ?_) (fun hb2 => ?_)
    · replace h := bif_t hb2 h
      refine St.seq ?_
      refine St.region ?_
      refine St.p rfl rfl ?_
      refine St.p rfl rfl ?_
      refine St.done ?_
      refine St.thenN ?_
      refine St.prune (Γ' := [(4, _), (5, _)]) ⟨rfl, rfl, trivial⟩ (.d (.d .z)) ?_
      refine St.ret ?_
      repeat (first | refine St.thenR ?_ | refine St.blkR ?_)
      injection h with h
      subst h
      exact St.finR Try.results42 (.tmp rfl (.tmp rfl .nil)) rfl [] ⟨rfl, rfl⟩ (fun _ w => (.z : Keep _ _).sat w)
    · replace h := bif_f hb2 h
      refine St.skip ?_
      refine St.thenN ?_
      refine St.prune (Γ' := [(0, _), (1, _)]) ⟨rfl, rfl, trivial⟩ (.k (.k .z)) ?_
      refine St.seq ?_
      refine St.seq ?_
      refine St.region ?_
      iterate 3 refine St.p rfl rfl ?_
      refine St.done ?_
      refine St.thenN ?_
      refine St.prune (Γ' := [(0, _), (14, _), (15, _), (16, _)]) ⟨rfl, rfl, rfl, rfl, trivial⟩ (.k (.k .z)) ?_
      obtain ⟨o1, hl1, h⟩ := bnd_e h
      refine St.cutI (fun (o2 : Unit) (e2 : Unit) => []) (fun o2 e2 => R) (fun o2 => o1 = .inr o2) ?_ ?_
      · refine St.block ?_
        refine St.loop hl1 (fun (s1 : Int) (e1 : Unit) => [(0, .slice A1 l_p0.length c1), (14, .slice A2 needs.length c2), (15, .int .i64 (needs.length : Int)), (16, .int .i64 s1)]) (fun s1 e1 => .ro (SlL e_Installed A1 c1 l_p0) :: .ro (SlL e_Need A2 c2 needs) :: R) (fun _ _ => True) () trivial ⟨rfl, rfl, rfl, rfl, trivial⟩ (fun _ w => ((.k (.k .z)) : Keep _ _).sat w) ?_
        rintro s1 e1 - hit1
        obtain ⟨st1, hm1, hd1⟩ := iter_e hit1
        have h1 := hm1
        refine St.seq ?_
        refine St.region ?_
        refine St.p rfl rfl ?_
        refine St.done ?_
        refine St.thenN ?_
        refine St.seq ?_
        refine St.cond _ rfl (fun hb3 => ?_) (fun hb3 => ?_)
        · replace h1 := bif_t hb3 h1
          refine St.skip ?_
          refine St.thenN ?_
          refine St.prune (Γ' := [(0, _), (14, _), (15, _), (16, _)]) ⟨rfl, rfl, rfl, rfl, trivial⟩ (.k (.k .z)) ?_
          refine St.seq ?_
          refine St.block ?_
          refine St.seq ?_
          refine St.region ?_
          refine St.p rfl rfl ?_
          obtain ⟨x1, hx1, h1⟩ := bnd_e h1
          refine St.ixL hx1 rfl rfl rfl (.tail _ (.head _)) rfl rfl rfl rfl rfl fun b1 ob1 => ?_
          refine St.load ob1 0 rfl rfl (.head _) rfl rfl ?_
          refine St.alloc rfl rfl fun g1 => ?_
          refine St.p rfl rfl ?_
          refine St.store 0 rfl rfl rfl rfl rfl rfl .z rfl ?_
          refine St.done ?_
          refine St.thenN ?_
          refine St.prune (Γ' := [(0, _), (6, _), (7, _), (14, _), (15, _), (16, _)]) ⟨rfl, rfl, rfl, rfl, rfl, rfl, trivial⟩ (.k (.d (.k (.k .z)))) ?_
          refine St.seq ?_
          refine St.region ?_
          refine St.p rfl rfl ?_
          refine St.loadB 0 rfl rfl (.head _) rfl rfl ?_
          obtain ⟨r3, hr3, h1⟩ := bnd_e h1
          refine St.callV (c_version_Met hr3) ent17 rfl rfl rfl rfl ⟨(.tail _ (.head _)), trivial⟩ ?_
          refine St.p rfl rfl ?_
          refine St.done ?_
          refine St.thenN ?_
          refine St.prune (Γ' := [(0, _), (6, _), (14, _), (15, _), (16, _), (24, _)]) ⟨rfl, rfl, rfl, rfl, rfl, rfl, trivial⟩ (.d (.k (.k .z))) ?_
          refine St.cond _ rfl (fun hb4 => ?_) (fun hb4 => ?_)
          · replace h1 := bif_t hb4 h1
            refine St.seq ?_
            refine St.region ?_
            iterate 3 refine St.p rfl rfl ?_
            refine St.done ?_
            refine St.thenN ?_
            refine St.prune (Γ' := [(4, _), (5, _)]) ⟨rfl, rfl, trivial⟩ (.d (.d .z)) ?_
            refine St.ret ?_
            repeat (first | refine St.thenR ?_ | refine St.blkR ?_)
            injection h1 with h1
            subst h1
            have ho := hd1 _ rfl
            subst ho
            have h : some _ = some _ := h
            injection h with h
            subst h
            exact St.finR Try.results42 (.tmp rfl (.tmp rfl .nil)) rfl [] ⟨rfl, rfl⟩ (fun _ w => (.z : Keep _ _).sat w)
          · replace h1 := bif_f hb4 h1
            refine St.skip ?_
            refine St.blkN ?_
            refine St.thenN ?_
            refine St.prune (Γ' := [(0, _), (14, _), (15, _), (16, _)]) ⟨rfl, rfl, rfl, rfl, trivial⟩ (.k (.k .z)) ?_
            refine St.region ?_
            refine St.p rfl rfl ?_
            refine St.p rfl rfl ?_
            refine St.done ?_
            injection h1 with h1
            subst h1
            refine St.thenN ?_
            exact St.again _ () hm1 trivial ⟨rfl, rfl, rfl, rfl, trivial⟩ (fun _ w => ((.k (.k .z)) : Keep _ _).sat w)
        · replace h1 := bif_f hb3 h1
          refine St.exit ?_
          repeat (first | refine St.thenX ?_ | refine St.blkMiss rfl ?_)
          refine St.blkHit ?_
          injection h1 with h1
          subst h1
          have ho := hd1 _ rfl
          subst ho
          refine St.thenN ?_
          exact St.hereI () () rfl trivial (fun _ w => ((.d (.d .z)) : Keep _ _).sat w)
      · rintro o2 e2 ho
        subst ho
        have h : _ = some _ := h
        refine St.seq ?_
        refine St.region ?_
        refine St.p rfl rfl ?_
        refine St.p rfl rfl ?_
        refine St.done ?_
        refine St.thenN ?_
        refine St.ret ?_
        repeat (first | refine St.thenR ?_ | refine St.blkR ?_)
        injection h with h
        subst h
        exact St.finR Try.results42 (.tmp rfl (.tmp rfl .nil)) rfl [] ⟨rfl, rfl⟩ (fun _ w => (.z : Keep _ _).sat w)

theorem ent44 : Ent Try.prog 44 := ⟨_, Try.func44, by kernel_rfl, by kernel_rfl⟩

noncomputable def m_activation_Valid_1 (a_p0 : T_Installed) (b_p1 : T_Installed) : Option Bool :=
  some (a_p0.Name.toList == b_p1.Name.toList)

theorem c_activation_Valid_1 {a_p0 : T_Installed} {b_p1 : T_Installed} {r : Bool} (h : m_activation_Valid_1 a_p0 b_p1 = some r) :
    Fun Try.prog 44 [.agg (bx_T_Installed a_p0).toArray, .agg (bx_T_Installed b_p1).toArray] [] (Val (.bool r)) := by
  unfold m_activation_Valid_1 at h
  refine Fun.intro Try.func44 rfl rfl rfl fun w R => ?_
  refine St.seq ?_
  refine St.region ?_
  refine St.box rfl rfl fun g1 => ?_
  refine St.box rfl rfl fun g2 => ?_
  refine St.p rfl rfl ?_
  refine St.done ?_
  refine St.thenN ?_
  refine St.prune (Γ' := [(2, _), (3, _)]) ⟨rfl, rfl, trivial⟩ (.k (.k .z)) ?_
  refine St.seq ?_
  refine St.region ?_
  refine St.p rfl rfl ?_
  refine St.loadB 0 rfl rfl (.tail _ (.head _)) rfl rfl ?_
  refine St.p rfl rfl ?_
  refine St.loadB 0 rfl rfl (.head _) rfl rfl ?_
  refine St.p rfl rfl ?_
  refine St.p rfl rfl ?_
  refine St.done ?_
  refine St.thenN ?_
  refine St.prune (Γ' := [(4, _)]) ⟨rfl, trivial⟩ (.d (.d .z)) ?_
  refine St.ret ?_
  repeat (first | refine St.thenR ?_ | refine St.blkR ?_)
  injection h with h
  subst h
  exact St.finR Try.results44 (.tmp rfl .nil) rfl [] ⟨rfl, rfl⟩ (fun _ w => (.z : Keep _ _).sat w)

theorem ent43 : Ent Try.prog 43 := ⟨_, Try.func43, by kernel_rfl, by kernel_rfl⟩

noncomputable def m_slices_EqualFunc__api_Installed__api_Installed_api_Installed_api_Installed_f44 (s1_p0 : (List T_Installed)) (s2_p1 : (List T_Installed)) : Option Bool :=
  bif ((s1_p0.length : Int) != (s2_p1.length : Int)) then (some false) else (bnd (loopM (τ := Bool ⊕ Unit) (fun (s1 : Int) => bif decide (s1 < (s1_p0.length : Int)) then (bnd (elt s1_p0 s1) fun x1 => bnd (elt s2_p1 s1) fun x2 => bnd (m_activation_Valid_1 x1 x2) fun r1 => bif !r1 then (some (.done (.inl false))) else (some (.next (IntKind.wrap .i64 (s1 + 1))))) else (some (.done (.inr ())))) 0) fun o1 => retOr o1 fun o2 => some true)

theorem c_slices_EqualFunc__api_Installed__api_Installed_api_Installed_api_Installed_f44 {s1_p0 : (List T_Installed)} {s2_p1 : (List T_Installed)} {A1 : Option Addr} {c1 : Nat} {A2 : Option Addr} {c2 : Nat} {r : Bool} (h : m_slices_EqualFunc__api_Installed__api_Installed_api_Installed_api_Installed_f44 s1_p0 s2_p1 = some r) :
    Fun Try.prog 43 [.slice A1 s1_p0.length c1, .slice A2 s2_p1.length c2, .func (.func 44) #[] #[]] [.ro (SlL e_Installed A1 c1 s1_p0), .ro (SlL e_Installed A2 c2 s2_p1)] (Val (.bool r)) := by
  unfold m_slices_EqualFunc__api_Installed__api_Installed_api_Installed_api_Installed_f44 at h
  refine Fun.intro Try.func43 rfl rfl rfl fun w R => ?_
  refine St.seq ?_
  refine St.region ?_
  refine St.p rfl rfl ?_
  refine St.done ?_
  refine St.thenN ?_
  refine St.prune (Γ' := [(0, _), (1, _), (2, _)]) ⟨rfl, rfl, rfl, trivial⟩ (.k (.k .z)) ?_
  refine St.seq ?_
  refine St.seq ?_
  refine St.region ?_
  iterate 5 refine St.p rfl rfl ?_
  refine St.done ?_
  refine St.thenN ?_
  refine St.prune (Γ' := [(0, _), (1, _), (2, _), (14, _)]) ⟨rfl, rfl, rfl, rfl, trivial⟩ (.k (.k .z)) ?_
  refine St.cond _ rfl (fun hb1 => ?_) (fun hb1 => ?_)
  · replace h := bif_t hb1 h
    refine St.seq ?_
    refine St.region ?_
    refine St.p rfl rfl ?_
    refine St.done ?_
    refine St.thenN ?_
    refine St.prune (Γ' := [(6, _)]) ⟨rfl, trivial⟩ (.d (.d .z)) ?_
    refine St.ret ?_
    repeat (first | refine St.thenR ?_ | refine St.blkR ?_)
    injection h with h
    subst h
    exact St.finR Try.results43 (.tmp rfl .nil) rfl [] ⟨rfl, rfl⟩ (fun _ w => (.z : Keep _ _).sat w)
  · replace h := bif_f hb1 h
    refine St.skip ?_
    refine St.thenN ?_
    refine St.prune (Γ' := [(0, _), (1, _), (2, _)]) ⟨rfl, rfl, rfl, trivial⟩ (.k (.k .z)) ?_
    refine St.seq ?_
    refine St.seq ?_
    refine St.region ?_
    iterate 3 refine St.p rfl rfl ?_
    refine St.done ?_
    refine St.thenN ?_
    refine St.prune (Γ' := [(1, _), (2, _), (15, _), (16, _), (17, _)]) ⟨rfl, rfl, rfl, rfl, rfl, trivial⟩ (.k (.k .z)) ?_
    obtain ⟨o1, hl1, h⟩ := bnd_e h
    refine St.cutI (fun (o2 : Unit) (e2 : Unit) => []) (fun o2 e2 => R) (fun o2 => o1 = .inr o2) ?_ ?_
    · refine St.block ?_
      refine St.loop hl1 (fun (s1 : Int) (e1 : Unit) => [(1, .slice A2 s2_p1.length c2), (2, .func (.func 44) #[] #[]), (15, .slice A1 s1_p0.length c1), (16, .int .i64 (s1_p0.length : Int)), (17, .int .i64 s1)]) (fun s1 e1 => .ro (SlL e_Installed A1 c1 s1_p0) :: .ro (SlL e_Installed A2 c2 s2_p1) :: R) (fun _ _ => True) () trivial ⟨rfl, rfl, rfl, rfl, rfl, trivial⟩ (fun _ w => ((.k (.k .z)) : Keep _ _).sat w) ?_
      rintro s1 e1 - hit1
      obtain ⟨st1, hm1, hd1⟩ := iter_e hit1
      have h1 := hm1
      refine St.seq ?_
      refine St.region ?_
      refine St.p rfl rfl ?_
      refine St.done ?_
      refine St.thenN ?_
      refine St.seq ?_
      refine St.cond _ rfl (fun hb2 => ?_) (fun hb2 => ?_)
      · replace h1 := bif_t hb2 h1
        refine St.skip ?_
        refine St.thenN ?_
        refine St.prune (Γ' := [(1, _), (2, _), (15, _), (16, _), (17, _)]) ⟨rfl, rfl, rfl, rfl, rfl, trivial⟩ (.k (.k .z)) ?_
        refine St.seq ?_
        refine St.block ?_
        refine St.seq ?_
        refine St.region ?_
        refine St.p rfl rfl ?_
        obtain ⟨x1, hx1, h1⟩ := bnd_e h1
        refine St.ixL hx1 rfl rfl rfl (.head _) rfl rfl rfl rfl rfl fun b1 ob1 => ?_
        refine St.load ob1 0 rfl rfl (.head _) rfl rfl ?_
        refine St.alloc rfl rfl fun g1 => ?_
        refine St.p rfl rfl ?_
        refine St.store 0 rfl rfl rfl rfl rfl rfl .z rfl ?_
        refine St.done ?_
        refine St.thenN ?_
        refine St.prune (Γ' := [(1, _), (2, _), (7, _), (8, _), (15, _), (16, _), (17, _)]) ⟨rfl, rfl, rfl, rfl, rfl, rfl, rfl, trivial⟩ (.k (.d (.k (.k .z)))) ?_
        refine St.seq ?_
        refine St.region ?_
        refine St.p rfl rfl ?_
        refine St.p rfl rfl ?_
        obtain ⟨x2, hx2, h1⟩ := bnd_e h1
        refine St.ixL hx2 rfl rfl rfl (.tail _ (.tail _ (.head _))) rfl rfl rfl rfl rfl fun b2 ob2 => ?_
        refine St.load ob2 0 rfl rfl (.head _) rfl rfl ?_
        refine St.alloc rfl rfl fun g2 => ?_
        refine St.store 0 rfl rfl rfl rfl rfl rfl .z rfl ?_
        refine St.done ?_
        refine St.thenN ?_
        refine St.prune (Γ' := [(1, _), (2, _), (8, _), (9, _), (15, _), (16, _), (17, _)]) ⟨rfl, rfl, rfl, rfl, rfl, rfl, rfl, trivial⟩ (.k (.d (.k (.k (.k .z))))) ?_
        refine St.seq ?_
        refine St.region ?_
        refine St.p rfl rfl ?_
        refine St.loadB 0 rfl rfl (.tail _ (.head _)) rfl rfl ?_
        refine St.loadB 0 rfl rfl (.head _) rfl rfl ?_
        obtain ⟨r1, hr1, h1⟩ := bnd_e h1
        refine St.callV (c_activation_Valid_1 hr1) ent44 rfl rfl rfl rfl trivial ?_
        refine St.p rfl rfl ?_
        refine St.done ?_
        refine St.thenN ?_
        refine St.prune (Γ' := [(1, _), (2, _), (15, _), (16, _), (17, _), (30, _)]) ⟨rfl, rfl, rfl, rfl, rfl, rfl, trivial⟩ (.d (.d (.k (.k .z)))) ?_
        refine St.cond _ rfl (fun hb3 => ?_) (fun hb3 => ?_)
        · replace h1 := bif_t hb3 h1
          refine St.seq ?_
          refine St.region ?_
          refine St.p rfl rfl ?_
          refine St.done ?_
          refine St.thenN ?_
          refine St.prune (Γ' := [(6, _)]) ⟨rfl, trivial⟩ (.d (.d .z)) ?_
          refine St.ret ?_
          repeat (first | refine St.thenR ?_ | refine St.blkR ?_)
          injection h1 with h1
          subst h1
          have ho := hd1 _ rfl
          subst ho
          have h : some _ = some _ := h
          injection h with h
          subst h
          exact St.finR Try.results43 (.tmp rfl .nil) rfl [] ⟨rfl, rfl⟩ (fun _ w => (.z : Keep _ _).sat w)
        · replace h1 := bif_f hb3 h1
          refine St.skip ?_
          refine St.blkN ?_
          refine St.thenN ?_
          refine St.prune (Γ' := [(1, _), (2, _), (15, _), (16, _), (17, _)]) ⟨rfl, rfl, rfl, rfl, rfl, trivial⟩ (.k (.k .z)) ?_
          refine St.region ?_
          refine St.p rfl rfl ?_
          refine St.p rfl rfl ?_
          refine St.done ?_
          injection h1 with h1
          subst h1
          refine St.thenN ?_
          exact St.again _ () hm1 trivial ⟨rfl, rfl, rfl, rfl, rfl, trivial⟩ (fun _ w => ((.k (.k .z)) : Keep _ _).sat w)
      · replace h1 := bif_f hb2 h1
        refine St.exit ?_
        repeat (first | refine St.thenX ?_ | refine St.blkMiss rfl ?_)
        refine St.blkHit ?_
        injection h1 with h1
        subst h1
        have ho := hd1 _ rfl
        subst ho
        refine St.thenN ?_
        exact St.hereI () () rfl trivial (fun _ w => ((.d (.d .z)) : Keep _ _).sat w)
    · rintro o2 e2 ho
      subst ho
      have h : _ = some _ := h
      refine St.seq ?_
      refine St.region ?_
      refine St.p rfl rfl ?_
      refine St.done ?_
      refine St.thenN ?_
      refine St.ret ?_
      repeat (first | refine St.thenR ?_ | refine St.blkR ?_)
      injection h with h
      subst h
      exact St.finR Try.results43 (.tmp rfl .nil) rfl [] ⟨rfl, rfl⟩ (fun _ w => (.z : Keep _ _).sat w)

theorem ent20 : Ent Try.prog 20 := ⟨_, Try.func20, by kernel_rfl, by kernel_rfl⟩

noncomputable def m_activation_Valid (p_p0 : T_Plan) : Option Int :=
  bnd (m_version_Check p_p0.Now ([])) fun r1 => bnd (m_version_Check p_p0.Next ([])) fun r2 => bnd ((bif (r1.2 != 0) then (some true) else (some (r2.2 != 0)) : Option Bool)) fun o1 => bif o1 then (some 1) else (bnd (m_version_Check ([]) p_p0.Needs) fun r3 => bif (r3.2 != 0) then (some 2) else (bnd (m_slices_EqualFunc__api_Installed__api_Installed_api_Installed_api_Installed_f44 p_p0.Now p_p0.Next) fun r4 => bif !r4 then (some 8) else (bnd (m_version_Check p_p0.Now p_p0.Needs) fun r5 => bnd (m_version_Check p_p0.Next p_p0.Needs) fun r6 => bnd ((bif decide (r5.1 ≥ 0) then (some true) else (some (decide (r6.1 ≥ 0))) : Option Bool)) fun o2 => bif o2 then (some 42) else (some 0))))

theorem c_activation_Valid {p_p0 : T_Plan} {A1 : Option Addr} {c1 : Nat} {A2 : Option Addr} {c2 : Nat} {A3 : Option Addr} {c3 : Nat} {r : Int} (h : m_activation_Valid p_p0 = some r) :
    Fun Try.prog 20 [.agg #[.slice A1 p_p0.Now.length c1, .slice A2 p_p0.Next.length c2, .slice A3 p_p0.Needs.length c3]] [.ro (SlL e_Installed A1 c1 p_p0.Now), .ro (SlL e_Installed A2 c2 p_p0.Next), .ro (SlL e_Need A3 c3 p_p0.Needs)] (Val (.int .i64 r)) := by
  unfold m_activation_Valid at h
  refine Fun.intro Try.func20 rfl rfl rfl fun w R => ?_
  refine St.seq ?_
  refine St.region ?_
  refine St.box rfl rfl fun g1 => ?_
  refine St.p rfl rfl ?_
  refine St.done ?_
  refine St.thenN ?_
  refine St.prune (Γ' := [(1, _)]) ⟨rfl, trivial⟩ (.k (.k (.k (.k .z)))) ?_
  refine St.seq ?_
  refine St.region ?_
  refine St.p rfl rfl ?_
  refine St.loadB 0 rfl rfl (.head _) rfl rfl ?_
  refine St.asrt (fun _ w => w.nilSl (cod e_Need)) ?_
  obtain ⟨r1, hr1, h⟩ := bnd_e h
  refine St.callV (c_version_Check hr1) ent42 rfl rfl rfl rfl ⟨(.tail _ (.tail _ (.head _))), (.head _), trivial⟩ ?_
  iterate 5 refine St.p rfl rfl ?_
  refine St.done ?_
  refine St.thenN ?_
  refine St.prune (Γ' := [(1, _), (4, _)]) ⟨rfl, rfl, trivial⟩ (.d (.k (.k (.k (.k .z))))) ?_
  refine St.seq ?_
  refine St.region ?_
  refine St.p rfl rfl ?_
  refine St.loadB 1 rfl rfl (.head _) rfl rfl ?_
  refine St.asrt (fun _ w => w.nilSl (cod e_Need)) ?_
  obtain ⟨r2, hr2, h⟩ := bnd_e h
  refine St.callV (c_version_Check hr2) ent42 rfl rfl rfl rfl ⟨(.tail _ (.tail _ (.tail _ (.head _)))), (.head _), trivial⟩ ?_
  iterate 5 refine St.p rfl rfl ?_
  refine St.done ?_
  refine St.thenN ?_
  refine St.prune (Γ' := [(1, _), (4, _), (6, _)]) ⟨rfl, rfl, rfl, trivial⟩ (.d (.k (.k (.k (.k .z))))) ?_
  refine St.seq ?_
  refine St.seq ?_
  obtain ⟨o1, hj1, h⟩ := bnd_e h
  refine St.cutE (fun (e1 : Unit) => [(1, .pointer (some ⟨g1, 0, none⟩)), (24, .bool o1)]) (fun e1 => .res (Box g1 29 [.slice A1 p_p0.Now.length c1, .slice A2 p_p0.Next.length c2, .slice A3 p_p0.Needs.length c3]) :: .ro (SlL e_Installed A1 c1 p_p0.Now) :: .ro (SlL e_Installed A2 c2 p_p0.Next) :: .ro (SlL e_Need A3 c3 p_p0.Needs) :: R) ?_ ?_
  · refine St.region ?_
    iterate 3 refine St.p rfl rfl ?_
    refine St.gSplit (dj := 21) _ rfl (fun hb1 => ?_) (fun hb1 => ?_)
    · replace hj1 := bif_t hb1 hj1
      refine St.gOff (dj := 21) rfl rfl rfl rfl ?_
      refine St.gOff (dj := 21) rfl rfl rfl rfl ?_
      refine St.p rfl rfl ?_
      refine St.done ?_
      injection hj1 with hj1
      subst hj1
      refine St.thenN ?_
      exact St.hereE () ⟨rfl, rfl, trivial⟩ (fun _ w => ((.k (.k (.k (.k .z)))) : Keep _ _).sat w)
    · replace hj1 := bif_f hb1 hj1
      refine St.gOn (dj := 21) rfl rfl ?_
      refine St.p rfl rfl ?_
      refine St.gOn (dj := 21) rfl rfl ?_
      refine St.p rfl rfl ?_
      refine St.p rfl rfl ?_
      refine St.done ?_
      injection hj1 with hj1
      subst hj1
      refine St.thenN ?_
      exact St.hereE () ⟨rfl, rfl, trivial⟩ (fun _ w => ((.k (.k (.k (.k .z)))) : Keep _ _).sat w)
  · rintro e1
    refine St.cond _ rfl (fun hb2 => ?_) (fun hb2 => ?_)
    · replace h := bif_t hb2 h
      refine St.seq ?_
      refine St.region ?_
      refine St.p rfl rfl ?_
      refine St.done ?_
      refine St.thenN ?_
      refine St.prune (Γ' := [(2, _)]) ⟨rfl, trivial⟩ (.d (.d (.d (.d .z)))) ?_
      refine St.ret ?_
      repeat (first | refine St.thenR ?_ | refine St.blkR ?_)
      injection h with h
      subst h
      exact St.finR Try.results20 (.tmp rfl .nil) rfl [] ⟨rfl, rfl⟩ (fun _ w => (.z : Keep _ _).sat w)
    · replace h := bif_f hb2 h
      refine St.skip ?_
      refine St.thenN ?_
      refine St.prune (Γ' := [(1, _)]) ⟨rfl, trivial⟩ (.k (.k (.k (.k .z)))) ?_
      refine St.seq ?_
      refine St.seq ?_
      refine St.region ?_
      refine St.p rfl rfl ?_
      refine St.loadB 2 rfl rfl (.head _) rfl rfl ?_
      refine St.asrt (fun _ w => w.nilSl (cod e_Installed)) ?_
      obtain ⟨r3, hr3, h⟩ := bnd_e h
      refine St.callV (c_version_Check hr3) ent42 rfl rfl rfl rfl ⟨(.head _), (.tail _ (.tail _ (.tail _ (.tail _ (.head _))))), trivial⟩ ?_
      iterate 4 refine St.p rfl rfl ?_
      refine St.done ?_
      refine St.thenN ?_
      refine St.prune (Γ' := [(1, _), (4, _)]) ⟨rfl, rfl, trivial⟩ (.d (.k (.k (.k (.k .z))))) ?_
      refine St.seq ?_
      refine St.region ?_
      refine St.p rfl rfl ?_
      refine St.p rfl rfl ?_
      refine St.done ?_
      refine St.thenN ?_
      refine St.prune (Γ' := [(1, _), (32, _)]) ⟨rfl, rfl, trivial⟩ (.k (.k (.k (.k .z)))) ?_
      refine St.cond _ rfl (fun hb3 => ?_) (fun hb3 => ?_)
      · replace h := bif_t hb3 h
        refine St.seq ?_
        refine St.region ?_
        refine St.p rfl rfl ?_
        refine St.done ?_
        refine St.thenN ?_
        refine St.prune (Γ' := [(2, _)]) ⟨rfl, trivial⟩ (.d (.d (.d (.d .z)))) ?_
        refine St.ret ?_
        repeat (first | refine St.thenR ?_ | refine St.blkR ?_)
        injection h with h
        subst h
        exact St.finR Try.results20 (.tmp rfl .nil) rfl [] ⟨rfl, rfl⟩ (fun _ w => (.z : Keep _ _).sat w)
      · replace h := bif_f hb3 h
        refine St.skip ?_
        refine St.thenN ?_
        refine St.prune (Γ' := [(1, _)]) ⟨rfl, trivial⟩ (.k (.k (.k (.k .z)))) ?_
        refine St.seq ?_
        refine St.seq ?_
        refine St.region ?_
        refine St.p rfl rfl ?_
        refine St.loadB 0 rfl rfl (.head _) rfl rfl ?_
        refine St.p rfl rfl ?_
        refine St.loadB 1 rfl rfl (.head _) rfl rfl ?_
        obtain ⟨r4, hr4, h⟩ := bnd_e h
        refine St.callV (c_slices_EqualFunc__api_Installed__api_Installed_api_Installed_api_Installed_f44 hr4) ent43 rfl rfl rfl rfl ⟨(.tail _ (.head _)), (.tail _ (.tail _ (.head _))), trivial⟩ ?_
        refine St.p rfl rfl ?_
        refine St.done ?_
        refine St.thenN ?_
        refine St.prune (Γ' := [(1, _), (38, _)]) ⟨rfl, rfl, trivial⟩ (.k (.k (.k (.k .z)))) ?_
        refine St.cond _ rfl (fun hb4 => ?_) (fun hb4 => ?_)
        · replace h := bif_t hb4 h
          refine St.seq ?_
          refine St.region ?_
          refine St.p rfl rfl ?_
          refine St.done ?_
          refine St.thenN ?_
          refine St.prune (Γ' := [(2, _)]) ⟨rfl, trivial⟩ (.d (.d (.d (.d .z)))) ?_
          refine St.ret ?_
          repeat (first | refine St.thenR ?_ | refine St.blkR ?_)
          injection h with h
          subst h
          exact St.finR Try.results20 (.tmp rfl .nil) rfl [] ⟨rfl, rfl⟩ (fun _ w => (.z : Keep _ _).sat w)
        · replace h := bif_f hb4 h
          refine St.skip ?_
          refine St.thenN ?_
          refine St.prune (Γ' := [(1, _)]) ⟨rfl, trivial⟩ (.k (.k (.k (.k .z)))) ?_
          refine St.seq ?_
          refine St.region ?_
          refine St.p rfl rfl ?_
          refine St.loadB 0 rfl rfl (.head _) rfl rfl ?_
          refine St.p rfl rfl ?_
          refine St.loadB 2 rfl rfl (.head _) rfl rfl ?_
          obtain ⟨r5, hr5, h⟩ := bnd_e h
          refine St.callV (c_version_Check hr5) ent42 rfl rfl rfl rfl ⟨(.tail _ (.head _)), (.tail _ (.tail _ (.tail _ (.head _)))), trivial⟩ ?_
          iterate 4 refine St.p rfl rfl ?_
          refine St.done ?_
          refine St.thenN ?_
          refine St.prune (Γ' := [(1, _), (3, _)]) ⟨rfl, rfl, trivial⟩ (.k (.k (.k (.k .z)))) ?_
          refine St.seq ?_
          refine St.region ?_
          refine St.p rfl rfl ?_
          refine St.loadB 1 rfl rfl (.head _) rfl rfl ?_
          refine St.p rfl rfl ?_
          refine St.loadB 2 rfl rfl (.head _) rfl rfl ?_
          obtain ⟨r6, hr6, h⟩ := bnd_e h
          refine St.callV (c_version_Check hr6) ent42 rfl rfl rfl rfl ⟨(.tail _ (.tail _ (.head _))), (.tail _ (.tail _ (.tail _ (.head _)))), trivial⟩ ?_
          iterate 4 refine St.p rfl rfl ?_
          refine St.done ?_
          refine St.thenN ?_
          refine St.prune (Γ' := [(3, _), (5, _)]) ⟨rfl, rfl, trivial⟩ (.d (.d (.d (.d .z)))) ?_
          refine St.seq ?_
          refine St.seq ?_
          obtain ⟨o2, hj2, h⟩ := bnd_e h
          refine St.cutE (fun (e2 : Unit) => [(60, .bool o2)]) (fun e2 => R) ?_ ?_
          · refine St.region ?_
            iterate 3 refine St.p rfl rfl ?_
            refine St.gSplit (dj := 57) _ rfl (fun hb5 => ?_) (fun hb5 => ?_)
            · replace hj2 := bif_t hb5 hj2
              refine St.gOff (dj := 57) rfl rfl rfl rfl ?_
              refine St.gOff (dj := 57) rfl rfl rfl rfl ?_
              refine St.p rfl rfl ?_
              refine St.done ?_
              injection hj2 with hj2
              subst hj2
              refine St.thenN ?_
              exact St.hereE () ⟨rfl, trivial⟩ (fun _ w => (.z : Keep _ _).sat w)
            · replace hj2 := bif_f hb5 hj2
              refine St.gOn (dj := 57) rfl rfl ?_
              refine St.p rfl rfl ?_
              refine St.gOn (dj := 57) rfl rfl ?_
              refine St.p rfl rfl ?_
              refine St.p rfl rfl ?_
              refine St.done ?_
              injection hj2 with hj2
              subst hj2
              refine St.thenN ?_
              exact St.hereE () ⟨rfl, trivial⟩ (fun _ w => (.z : Keep _ _).sat w)
          · rintro e2
            refine St.cond _ rfl (fun hb6 => ?_) (fun hb6 => ?_)
            · replace h := bif_t hb6 h
              refine St.seq ?_
              refine St.region ?_
              refine St.p rfl rfl ?_
              refine St.done ?_
              refine St.thenN ?_
              refine St.prune (Γ' := [(2, _)]) ⟨rfl, trivial⟩ .z ?_
              refine St.ret ?_
              repeat (first | refine St.thenR ?_ | refine St.blkR ?_)
              injection h with h
              subst h
              exact St.finR Try.results20 (.tmp rfl .nil) rfl [] ⟨rfl, rfl⟩ (fun _ w => (.z : Keep _ _).sat w)
            · replace h := bif_f hb6 h
              refine St.skip ?_
              refine St.thenN ?_
              refine St.prune (Γ' := []) trivial .z ?_
              refine St.seq ?_
              refine St.region ?_
              refine St.p rfl rfl ?_
              refine St.done ?_
              refine St.thenN ?_
              refine St.ret ?_
              repeat (first | refine St.thenR ?_ | refine St.blkR ?_)
              injection h with h
              subst h
              exact St.finR Try.results20 (.tmp rfl .nil) rfl [] ⟨rfl, rfl⟩ (fun _ w => (.z : Keep _ _).sat w)

theorem ent34 : Ent Try.prog 34 := ⟨_, Try.func34, by kernel_rfl, by kernel_rfl⟩

noncomputable def m_activation_all (p_p0 : T_Plan) : Option Int :=
  bnd (loopM (τ := Int) (fun (s1 : Int × Int) => bif decide (s1.2 < (p_p0.Now.length : Int)) then (bnd (elt p_p0.Now s1.2) fun x1 => bnd (elt p_p0.Next s1.2) fun x2 => bif !((x1.Version.Major == x2.Version.Major) && ((x1.Version.Minor == x2.Version.Minor) && ((x1.Version.Patch == x2.Version.Patch) && true))) then (bnd (shlM .i64 1 s1.2) fun q1 => some (.next (iOr .i64 s1.1 q1, IntKind.wrap .i64 (s1.2 + 1)))) else (some (.next (s1.1, IntKind.wrap .i64 (s1.2 + 1))))) else (some (.done s1.1))) (0, 0)) fun o1 => some o1

theorem c_activation_all {p_p0 : T_Plan} {A1 : Option Addr} {c1 : Nat} {A2 : Option Addr} {c2 : Nat} {A3 : Option Addr} {c3 : Nat} {r : Int} (h : m_activation_all p_p0 = some r) :
    Fun Try.prog 34 [.agg #[.slice A1 p_p0.Now.length c1, .slice A2 p_p0.Next.length c2, .slice A3 p_p0.Needs.length c3]] [.ro (SlL e_Installed A1 c1 p_p0.Now), .ro (SlL e_Installed A2 c2 p_p0.Next), .ro (SlL e_Need A3 c3 p_p0.Needs)] (Val (.int .i64 r)) := by
  unfold m_activation_all at h
  refine Fun.intro Try.func34 rfl rfl rfl fun w R => ?_
  refine St.seq ?_
  refine St.region ?_
  refine St.box rfl rfl fun g1 => ?_
  refine St.p rfl rfl ?_
  refine St.done ?_
  refine St.thenN ?_
  refine St.prune (Γ' := [(1, _)]) ⟨rfl, trivial⟩ (.k (.k (.k (.k .z)))) ?_
  refine St.seq ?_
  refine St.region ?_
  refine St.p rfl rfl ?_
  refine St.done ?_
  refine St.thenN ?_
  refine St.seq ?_
  refine St.seq ?_
  refine St.region ?_
  refine St.p rfl rfl ?_
  refine St.loadB 0 rfl rfl (.head _) rfl rfl ?_
  refine St.p rfl rfl ?_
  refine St.p rfl rfl ?_
  refine St.done ?_
  refine St.thenN ?_
  refine St.prune (Γ' := [(1, _), (3, _), (7, _), (8, _)]) ⟨rfl, rfl, rfl, rfl, trivial⟩ (.k (.k (.k (.k .z)))) ?_
  obtain ⟨o1, hl1, h⟩ := bnd_e h
  refine St.cutE (fun (e2 : Unit) => [(3, .int .i64 o1)]) (fun e2 => R) ?_ ?_
  · refine St.block ?_
    refine St.loop hl1 (fun (s1 : Int × Int) (e1 : Unit) => [(1, .pointer (some ⟨g1, 0, none⟩)), (3, .int .i64 s1.1), (7, .int .i64 (p_p0.Now.length : Int)), (8, .int .i64 s1.2)]) (fun s1 e1 => .res (Box g1 29 [.slice A1 p_p0.Now.length c1, .slice A2 p_p0.Next.length c2, .slice A3 p_p0.Needs.length c3]) :: .ro (SlL e_Installed A1 c1 p_p0.Now) :: .ro (SlL e_Installed A2 c2 p_p0.Next) :: .ro (SlL e_Need A3 c3 p_p0.Needs) :: R) (fun _ _ => True) () trivial ⟨rfl, rfl, rfl, rfl, trivial⟩ (fun _ w => ((.k (.k (.k (.k .z)))) : Keep _ _).sat w) ?_
    rintro s1 e1 - hit1
    obtain ⟨st1, hm1, hd1⟩ := iter_e hit1
    have h1 := hm1
    refine St.seq ?_
    refine St.region ?_
    refine St.p rfl rfl ?_
    refine St.done ?_
    refine St.thenN ?_
    refine St.seq ?_
    refine St.cond _ rfl (fun hb1 => ?_) (fun hb1 => ?_)
    · replace h1 := bif_t hb1 h1
      refine St.skip ?_
      refine St.thenN ?_
      refine St.prune (Γ' := [(1, _), (3, _), (7, _), (8, _)]) ⟨rfl, rfl, rfl, rfl, trivial⟩ (.k (.k (.k (.k .z)))) ?_
      refine St.seq ?_
      refine St.block ?_
      refine St.seq ?_
      refine St.region ?_
      refine St.p rfl rfl ?_
      refine St.p rfl rfl ?_
      refine St.done ?_
      refine St.thenN ?_
      refine St.prune (Γ' := [(1, _), (3, _), (4, _), (7, _), (8, _)]) ⟨rfl, rfl, rfl, rfl, rfl, trivial⟩ (.k (.k (.k (.k .z)))) ?_
      refine St.seq ?_
      refine St.regionF mixed (by kernel_rfl) ?_
      refine St.p rfl rfl ?_
      refine St.loadB 0 rfl rfl (.head _) rfl rfl ?_
      refine St.p rfl rfl ?_
      obtain ⟨x1, hx1, h1⟩ := bnd_e h1
      refine St.ixL hx1 rfl rfl rfl (.tail _ (.head _)) rfl rfl rfl rfl rfl fun b1 ob1 => ?_
      refine St.p rfl rfl ?_
      refine St.load ob1 1 rfl rfl (.head _) rfl rfl ?_
      refine St.p rfl rfl ?_
      refine St.loadB 1 rfl rfl (.tail _ (.head _)) rfl rfl ?_
      refine St.p rfl rfl ?_
      obtain ⟨x2, hx2, h1⟩ := bnd_e h1
      refine St.ixL hx2 rfl rfl rfl (.tail _ (.tail _ (.tail _ (.head _)))) rfl rfl rfl rfl rfl fun b2 ob2 => ?_
      refine St.p rfl rfl ?_
      refine St.load ob2 1 rfl rfl (.head _) rfl rfl ?_
      refine St.p rfl rfl ?_
      refine St.doneQ ?_
      refine St.thenN ?_
      refine St.prune (Γ' := [(1, _), (3, _), (4, _), (7, _), (8, _), (23, _)]) ⟨rfl, rfl, rfl, rfl, rfl, rfl, trivial⟩ (.d (.d (.k (.k (.k (.k .z)))))) ?_
      refine St.cond _ rfl (fun hb2 => ?_) (fun hb2 => ?_)
      · replace h1 := bif_t hb2 h1
        refine St.region ?_
        refine St.p rfl rfl ?_
        refine St.p rfl rfl ?_
        obtain ⟨q1, hq1, h1⟩ := bnd_e h1
        refine St.shl rfl rfl rfl hq1 ?_
        refine St.p rfl rfl ?_
        refine St.p rfl rfl ?_
        refine St.done ?_
        refine St.blkN ?_
        refine St.thenN ?_
        refine St.prune (Γ' := [(1, _), (3, _), (7, _), (8, _)]) ⟨rfl, rfl, rfl, rfl, trivial⟩ (.k (.k (.k (.k .z)))) ?_
        refine St.region ?_
        refine St.p rfl rfl ?_
        refine St.p rfl rfl ?_
        refine St.done ?_
        injection h1 with h1
        subst h1
        refine St.thenN ?_
        exact St.again _ () hm1 trivial ⟨rfl, rfl, rfl, rfl, trivial⟩ (fun _ w => ((.k (.k (.k (.k .z)))) : Keep _ _).sat w)
      · replace h1 := bif_f hb2 h1
        refine St.skip ?_
        refine St.blkN ?_
        refine St.thenN ?_
        refine St.prune (Γ' := [(1, _), (3, _), (7, _), (8, _)]) ⟨rfl, rfl, rfl, rfl, trivial⟩ (.k (.k (.k (.k .z)))) ?_
        refine St.region ?_
        refine St.p rfl rfl ?_
        refine St.p rfl rfl ?_
        refine St.done ?_
        injection h1 with h1
        subst h1
        refine St.thenN ?_
        exact St.again _ () hm1 trivial ⟨rfl, rfl, rfl, rfl, trivial⟩ (fun _ w => ((.k (.k (.k (.k .z)))) : Keep _ _).sat w)
    · replace h1 := bif_f hb1 h1
      refine St.exit ?_
      repeat (first | refine St.thenX ?_ | refine St.blkMiss rfl ?_)
      refine St.blkHit ?_
      injection h1 with h1
      subst h1
      have ho := hd1 _ rfl
      subst ho
      refine St.thenN ?_
      exact St.hereE () ⟨rfl, trivial⟩ (fun _ w => ((.d (.d (.d (.d .z)))) : Keep _ _).sat w)
  · rintro e2
    refine St.seq ?_
    refine St.region ?_
    refine St.p rfl rfl ?_
    refine St.p rfl rfl ?_
    refine St.done ?_
    refine St.thenN ?_
    refine St.prune (Γ' := [(2, _)]) ⟨rfl, trivial⟩ .z ?_
    refine St.ret ?_
    repeat (first | refine St.thenR ?_ | refine St.blkR ?_)
    injection h with h
    subst h
    exact St.finR Try.results34 (.tmp rfl .nil) rfl [] ⟨rfl, rfl⟩ (fun _ w => (.z : Keep _ _).sat w)

theorem ent57 : Ent Try.prog 57 := ⟨_, Try.func57, by kernel_rfl, by kernel_rfl⟩

noncomputable def m_slices_Clone__api_Installed_api_Installed (s_p0 : (List T_Installed)) : Option (List T_Installed) :=
  bnd (app 40 ([]) s_p0) fun l1 => some l1

theorem c_slices_Clone__api_Installed_api_Installed {s_p0 : (List T_Installed)} {A1 : Option Addr} {c1 : Nat} {r : (List T_Installed)} (h : m_slices_Clone__api_Installed_api_Installed s_p0 = some r) :
    Fun Try.prog 57 [.slice A1 s_p0.length c1] [.ro (SlL e_Installed A1 c1 s_p0)] (fun v_ F_ => ∃ (A1 : Option Addr) (c1 : Nat), v_ = .slice A1 r.length c1 ∧ F_ = [.res (OwnL e_Installed 31 A1 c1 r)]) := by
  unfold m_slices_Clone__api_Installed_api_Installed at h
  refine Fun.intro Try.func57 rfl rfl rfl fun w R => ?_
  rcases A1 with _ | ad
  · refine St.fact (φ := s_p0 = []) (fun w hf => (hf.ro (r := SlL e_Installed none c1 s_p0) (.head _)).2.2.1 rfl) fun hs => ?_
    subst hs
    have h : (some ([]) : Option (List T_Installed)) = some r := by simpa [app, bnd] using h
    refine St.seq ?_
    refine St.region ?_
    refine St.p rfl rfl ?_
    refine St.done ?_
    refine St.thenN ?_
    refine St.prune (Γ' := [(0, _)]) ⟨rfl, trivial⟩ (.k .z) ?_
    refine St.seq ?_
    refine St.seq ?_
    refine St.region ?_
    refine St.p rfl rfl ?_
    refine St.p rfl rfl ?_
    refine St.done ?_
    refine St.thenN ?_
    refine St.prune (Γ' := [(0, _), (4, _)]) ⟨rfl, rfl, trivial⟩ (.k .z) ?_
    refine St.condT rfl ?_
    refine St.seq ?_
    refine St.region ?_
    refine St.p rfl rfl ?_
    refine St.done ?_
    refine St.thenN ?_
    refine St.prune (Γ' := [(2, _)]) ⟨rfl, trivial⟩ (.d .z) ?_
    refine St.ret ?_
    repeat (first | refine St.thenR ?_ | refine St.blkR ?_)
    refine St.asrt (fun _ w => w.nilL e_Installed 31) ?_
    injection h with h
    subst h
    exact St.finR Try.results57 (.tmp rfl .nil) rfl [.res (OwnL e_Installed 31 none 0 ([] : List T_Installed))] ⟨none, 0, rfl, rfl⟩ (fun _ w => ((.k .z) : Keep _ _).sat w)
  · refine St.seq ?_
    refine St.region ?_
    refine St.p rfl rfl ?_
    refine St.done ?_
    refine St.thenN ?_
    refine St.prune (Γ' := [(0, _)]) ⟨rfl, trivial⟩ (.k .z) ?_
    refine St.seq ?_
    refine St.seq ?_
    refine St.region ?_
    refine St.p rfl rfl ?_
    refine St.p rfl rfl ?_
    refine St.done ?_
    refine St.thenN ?_
    refine St.prune (Γ' := [(0, _), (4, _)]) ⟨rfl, rfl, trivial⟩ (.k .z) ?_
    refine St.condF rfl ?_
    refine St.skip ?_
    refine St.thenN ?_
    refine St.prune (Γ' := [(0, _)]) ⟨rfl, trivial⟩ (.k .z) ?_
    refine St.seq ?_
    refine St.region ?_
    refine St.buildSlice rfl rfl rfl rfl rfl rfl rfl rfl fun g1 => ?_
    refine St.p rfl rfl ?_
    refine St.asrt (fun _ w => (w.front .z).litL (E := e_Installed) (e := 31) [] rfl rfl) ?_
    obtain ⟨l1, hl1, h⟩ := bnd_e h
    refine St.app (E := e_Installed) hl1 rfl rfl rfl .z rfl rfl rfl rfl rfl rfl rfl rfl (srcL (.tail _ (.head _))) rfl rfl fun A2 c2 => ?_
    refine St.p rfl rfl ?_
    refine St.done ?_
    refine St.thenN ?_
    refine St.prune (Γ' := [(2, _)]) ⟨rfl, trivial⟩ (.k (.d .z)) ?_
    refine St.ret ?_
    repeat (first | refine St.thenR ?_ | refine St.blkR ?_)
    injection h with h
    subst h
    exact St.finR Try.results57 (.tmp rfl .nil) rfl [.res (OwnL e_Installed 31 A2 c2 l1)] ⟨A2, c2, rfl, rfl⟩ (fun _ w => ((.k .z) : Keep _ _).sat w)

theorem ent39 : Ent Try.prog 39 := ⟨_, Try.func39, by kernel_rfl, by kernel_rfl⟩

noncomputable def m_activation_state (p_p0 : T_Plan) (set : Int) : Option (List T_Installed) :=
  bnd (m_slices_Clone__api_Installed_api_Installed p_p0.Now) fun r1 => bnd (loopM (τ := List T_Installed) (fun (s1 : Int × List T_Installed) => bif decide (s1.1 < (r1.length : Int)) then (bnd (shrM .i64 set s1.1) fun q1 => bif ((iAnd .i64 q1 1) == 1) then (bnd (elt p_p0.Next s1.1) fun x1 => bnd (elt s1.2 s1.1) fun x2 => bnd (setE s1.2 s1.1 x1) fun l1 => some (.next (IntKind.wrap .i64 (s1.1 + 1), l1))) else (some (.next (IntKind.wrap .i64 (s1.1 + 1), s1.2)))) else (some (.done s1.2))) (0, r1)) fun o1 => some o1

theorem c_activation_state {p_p0 : T_Plan} {set : Int} {A1 : Option Addr} {c1 : Nat} {A2 : Option Addr} {c2 : Nat} {A3 : Option Addr} {c3 : Nat} {r : (List T_Installed)} (h : m_activation_state p_p0 set = some r) :
    Fun Try.prog 39 [.agg #[.slice A1 p_p0.Now.length c1, .slice A2 p_p0.Next.length c2, .slice A3 p_p0.Needs.length c3], .int .i64 set] [.ro (SlL e_Installed A1 c1 p_p0.Now), .ro (SlL e_Installed A2 c2 p_p0.Next), .ro (SlL e_Need A3 c3 p_p0.Needs)] (fun v_ F_ => ∃ (A1 : Option Addr) (c1 : Nat), v_ = .slice A1 r.length c1 ∧ F_ = [.res (OwnL e_Installed 31 A1 c1 r)]) := by
  unfold m_activation_state at h
  refine Fun.intro Try.func39 rfl rfl rfl fun w R => ?_
  refine St.seq ?_
  refine St.region ?_
  refine St.box rfl rfl fun g1 => ?_
  refine St.p rfl rfl ?_
  refine St.done ?_
  refine St.thenN ?_
  refine St.prune (Γ' := [(1, _), (2, _)]) ⟨rfl, rfl, trivial⟩ (.k (.k (.k (.k .z)))) ?_
  refine St.seq ?_
  refine St.region ?_
  refine St.p rfl rfl ?_
  refine St.loadB 0 rfl rfl (.head _) rfl rfl ?_
  obtain ⟨r1, hr1, h⟩ := bnd_e h
  refine St.call (c_slices_Clone__api_Installed_api_Installed hr1) ent57 rfl rfl rfl (fun _ w => Sat.dup (G := [.ro (SlL e_Installed A1 c1 p_p0.Now)]) rfl ⟨(.tail _ (.head _)), trivial⟩ w) ?_
  rintro _ _ ⟨A4, c4, rfl, rfl⟩
  refine St.asrt (F' := .res (OwnL e_Installed 31 A4 c4 r1) :: .res (Box g1 29 [.slice A1 p_p0.Now.length c1, .slice A2 p_p0.Next.length c2, .slice A3 p_p0.Needs.length c3]) :: .ro (SlL e_Installed A1 c1 p_p0.Now) :: .ro (SlL e_Installed A2 c2 p_p0.Next) :: .ro (SlL e_Need A3 c3 p_p0.Needs) :: R) (fun _ w => w) ?_
  refine St.p rfl rfl ?_
  refine St.done ?_
  refine St.thenN ?_
  refine St.prune (Γ' := [(1, _), (2, _), (5, _)]) ⟨rfl, rfl, rfl, trivial⟩ (.k (.k (.k (.k (.k .z))))) ?_
  refine St.seq ?_
  refine St.seq ?_
  refine St.region ?_
  iterate 3 refine St.p rfl rfl ?_
  refine St.done ?_
  refine St.thenN ?_
  refine St.prune (Γ' := [(1, _), (2, _), (5, _), (11, _), (12, _)]) ⟨rfl, rfl, rfl, rfl, rfl, trivial⟩ (.k (.k (.k (.k (.k .z))))) ?_
  obtain ⟨o1, hl1, h⟩ := bnd_e h
  refine St.cutE (fun (e2 : Option Addr × Nat) => [(5, .slice e2.1 o1.length e2.2)]) (fun e2 => .res (OwnL e_Installed 31 e2.1 e2.2 o1) :: R) ?_ ?_
  · refine St.block ?_
    refine St.loop hl1 (fun (s1 : Int × List T_Installed) (e1 : Option Addr × Nat) => [(1, .int .i64 set), (2, .pointer (some ⟨g1, 0, none⟩)), (5, .slice e1.1 s1.2.length e1.2), (11, .int .i64 (r1.length : Int)), (12, .int .i64 s1.1)]) (fun s1 e1 => .res (OwnL e_Installed 31 e1.1 e1.2 s1.2) :: .res (Box g1 29 [.slice A1 p_p0.Now.length c1, .slice A2 p_p0.Next.length c2, .slice A3 p_p0.Needs.length c3]) :: .ro (SlL e_Installed A1 c1 p_p0.Now) :: .ro (SlL e_Installed A2 c2 p_p0.Next) :: .ro (SlL e_Need A3 c3 p_p0.Needs) :: R) (fun _ _ => True) (A4, c4) trivial ⟨rfl, rfl, rfl, rfl, rfl, trivial⟩ (fun _ w => ((.k (.k (.k (.k (.k .z))))) : Keep _ _).sat w) ?_
    rintro s1 ⟨A5, c5⟩ - hit1
    obtain ⟨st1, hm1, hd1⟩ := iter_e hit1
    have h1 := hm1
    refine St.seq ?_
    refine St.region ?_
    refine St.p rfl rfl ?_
    refine St.done ?_
    refine St.thenN ?_
    refine St.seq ?_
    refine St.cond _ rfl (fun hb1 => ?_) (fun hb1 => ?_)
    · replace h1 := bif_t hb1 h1
      refine St.skip ?_
      refine St.thenN ?_
      refine St.prune (Γ' := [(1, _), (2, _), (5, _), (11, _), (12, _)]) ⟨rfl, rfl, rfl, rfl, rfl, trivial⟩ (.k (.k (.k (.k (.k .z))))) ?_
      refine St.seq ?_
      refine St.block ?_
      refine St.seq ?_
      refine St.region ?_
      refine St.p rfl rfl ?_
      refine St.p rfl rfl ?_
      refine St.done ?_
      refine St.thenN ?_
      refine St.prune (Γ' := [(1, _), (2, _), (5, _), (6, _), (11, _), (12, _)]) ⟨rfl, rfl, rfl, rfl, rfl, rfl, trivial⟩ (.k (.k (.k (.k (.k .z))))) ?_
      refine St.seq ?_
      refine St.region ?_
      refine St.p rfl rfl ?_
      refine St.p rfl rfl ?_
      obtain ⟨q1, hq1, h1⟩ := bnd_e h1
      refine St.shr rfl rfl rfl hq1 ?_
      refine St.p rfl rfl ?_
      refine St.p rfl rfl ?_
      refine St.done ?_
      refine St.thenN ?_
      refine St.prune (Γ' := [(1, _), (2, _), (5, _), (6, _), (11, _), (12, _), (19, _)]) ⟨rfl, rfl, rfl, rfl, rfl, rfl, rfl, trivial⟩ (.k (.k (.k (.k (.k .z))))) ?_
      refine St.cond _ rfl (fun hb2 => ?_) (fun hb2 => ?_)
      · replace h1 := bif_t hb2 h1
        refine St.region ?_
        iterate 3 refine St.p rfl rfl ?_
        refine St.loadB 1 rfl rfl (.tail _ (.head _)) rfl rfl ?_
        refine St.p rfl rfl ?_
        obtain ⟨x1, hx1, h1⟩ := bnd_e h1
        refine St.ixL hx1 rfl rfl rfl (.tail _ (.tail _ (.tail _ (.head _)))) rfl rfl rfl rfl rfl fun b1 ob1 => ?_
        refine St.load ob1 0 rfl rfl (.head _) rfl rfl ?_
        obtain ⟨x2, hx2, h1⟩ := bnd_e h1
        refine St.ixO hx2 rfl rfl rfl (.tail _ (.head _)) rfl rfl rfl rfl rfl fun g2 hA => ?_
        subst hA
        obtain ⟨l1, hl1, h1⟩ := bnd_e h1
        refine St.stO 0 hx2 hl1 rfl rfl (.s .z) rfl rfl rfl rfl rfl ?_
        refine St.slots (Γ' := [(1, _), (2, _), (5, .slice (some ⟨g2, 0, none⟩) l1.length c5), (6, _), (11, _), (12, _), (19, _), (20, .slice (some ⟨g2, 0, none⟩) l1.length c5), (21, _), (22, _), (23, _), (24, _), (25, _), (26, _), (27, _)]) ⟨rfl, rfl, sl_len hl1, rfl, rfl, rfl, rfl, sl_len hl1, rfl, rfl, rfl, rfl, rfl, rfl, rfl, trivial⟩ ?_
        refine St.done ?_
        refine St.blkN ?_
        refine St.thenN ?_
        refine St.prune (Γ' := [(1, _), (2, _), (5, _), (11, _), (12, _)]) ⟨rfl, rfl, rfl, rfl, rfl, trivial⟩ (.k (.d (.k (.k (.k (.k .z)))))) ?_
        refine St.region ?_
        refine St.p rfl rfl ?_
        refine St.p rfl rfl ?_
        refine St.done ?_
        injection h1 with h1
        subst h1
        refine St.thenN ?_
        exact St.again _ ((some ⟨g2, 0, none⟩), c5) hm1 trivial ⟨rfl, rfl, rfl, rfl, rfl, trivial⟩ (fun _ w => ((.k (.k (.k (.k (.k .z))))) : Keep _ _).sat w)
      · replace h1 := bif_f hb2 h1
        refine St.skip ?_
        refine St.blkN ?_
        refine St.thenN ?_
        refine St.prune (Γ' := [(1, _), (2, _), (5, _), (11, _), (12, _)]) ⟨rfl, rfl, rfl, rfl, rfl, trivial⟩ (.k (.k (.k (.k (.k .z))))) ?_
        refine St.region ?_
        refine St.p rfl rfl ?_
        refine St.p rfl rfl ?_
        refine St.done ?_
        injection h1 with h1
        subst h1
        refine St.thenN ?_
        exact St.again _ (A5, c5) hm1 trivial ⟨rfl, rfl, rfl, rfl, rfl, trivial⟩ (fun _ w => ((.k (.k (.k (.k (.k .z))))) : Keep _ _).sat w)
    · replace h1 := bif_f hb1 h1
      refine St.exit ?_
      repeat (first | refine St.thenX ?_ | refine St.blkMiss rfl ?_)
      refine St.blkHit ?_
      injection h1 with h1
      subst h1
      have ho := hd1 _ rfl
      subst ho
      refine St.thenN ?_
      exact St.hereE (A5, c5) ⟨rfl, trivial⟩ (fun _ w => ((.k (.d (.d (.d (.d .z))))) : Keep _ _).sat w)
  · rintro ⟨A6, c6⟩
    refine St.seq ?_
    refine St.region ?_
    refine St.p rfl rfl ?_
    refine St.p rfl rfl ?_
    refine St.done ?_
    refine St.thenN ?_
    refine St.prune (Γ' := [(4, _)]) ⟨rfl, trivial⟩ (.k .z) ?_
    refine St.ret ?_
    repeat (first | refine St.thenR ?_ | refine St.blkR ?_)
    injection h with h
    subst h
    exact St.finR Try.results39 (.tmp rfl .nil) rfl [.res (OwnL e_Installed 31 A6 c6 o1)] ⟨A6, c6, rfl, rfl⟩ (fun _ w => ((.k .z) : Keep _ _).sat w)

theorem ent36 : Ent Try.prog 36 := ⟨_, Try.func36, by kernel_rfl, by kernel_rfl⟩

noncomputable def m_activation_good (p_p0 : T_Plan) (set : Int) : Option Bool :=
  bnd (m_activation_state p_p0 set) fun r1 => bnd (m_version_Check r1 p_p0.Needs) fun r2 => bnd ((bif (r2.2 == 0) then (some (decide (r2.1 < 0))) else (some false) : Option Bool)) fun o1 => some o1

theorem c_activation_good {p_p0 : T_Plan} {set : Int} {A1 : Option Addr} {c1 : Nat} {A2 : Option Addr} {c2 : Nat} {A3 : Option Addr} {c3 : Nat} {r : Bool} (h : m_activation_good p_p0 set = some r) :
    Fun Try.prog 36 [.agg #[.slice A1 p_p0.Now.length c1, .slice A2 p_p0.Next.length c2, .slice A3 p_p0.Needs.length c3], .int .i64 set] [.ro (SlL e_Installed A1 c1 p_p0.Now), .ro (SlL e_Installed A2 c2 p_p0.Next), .ro (SlL e_Need A3 c3 p_p0.Needs)] (Val (.bool r)) := by
  unfold m_activation_good at h
  refine Fun.intro Try.func36 rfl rfl rfl fun w R => ?_
  refine St.seq ?_
  refine St.region ?_
  refine St.box rfl rfl fun g1 => ?_
  refine St.p rfl rfl ?_
  refine St.done ?_
  refine St.thenN ?_
  refine St.prune (Γ' := [(1, _), (2, _)]) ⟨rfl, rfl, trivial⟩ (.k (.k (.k (.k .z)))) ?_
  refine St.seq ?_
  refine St.regionX (iL [(.fx, 0), (.fl, 1), (.fl, 3), (.fl, 4), (.ef, 2), (.ef, 5), (.fl, 6), (.fl, 7), (.fl, 8), (.fl, 9), (.fl, 10)] .nil) (.res (Box g1 29 [.slice A1 p_p0.Now.length c1, .slice A2 p_p0.Next.length c2, .slice A3 p_p0.Needs.length c3]) :: .ro (SlL e_Installed A1 c1 p_p0.Now) :: .ro (SlL e_Installed A2 c2 p_p0.Next) :: .ro (SlL e_Need A3 c3 p_p0.Needs) :: R) mixed (by kernel_rfl) (fun _ w => ((.k (.k (.k (.k .z)))) : Keep _ _).sat w) ?_
  refine St.xfx (Rd.loadB 0 rfl (.head _) rfl rfl) rfl ?_
  refine St.xfl (fun _ h => h) (Rd.p rfl) rfl ?_
  refine St.xfl (fun _ h => h) (Rd.p rfl) rfl ?_
  refine St.xfl (fun _ h => h) (Rd.loadB 2 rfl (.head _) rfl rfl) rfl ?_
  refine St.xef ?_
  obtain ⟨r1, hr1, h⟩ := bnd_e h
  refine St.call (c_activation_state hr1) ent39 rfl rfl rfl (fun _ w => Sat.dup (G := [.ro (SlL e_Installed A1 c1 p_p0.Now), .ro (SlL e_Installed A2 c2 p_p0.Next), .ro (SlL e_Need A3 c3 p_p0.Needs)]) rfl ⟨(.tail _ (.head _)), (.tail _ (.tail _ (.head _))), (.tail _ (.tail _ (.tail _ (.head _)))), trivial⟩ w) ?_
  rintro _ _ ⟨A4, c4, rfl, rfl⟩
  refine St.asrt (F' := .res (OwnL e_Installed 31 A4 c4 r1) :: .res (Box g1 29 [.slice A1 p_p0.Now.length c1, .slice A2 p_p0.Next.length c2, .slice A3 p_p0.Needs.length c3]) :: .ro (SlL e_Installed A1 c1 p_p0.Now) :: .ro (SlL e_Installed A2 c2 p_p0.Next) :: .ro (SlL e_Need A3 c3 p_p0.Needs) :: R) (fun _ w => w) ?_
  refine St.xk (fun _ w => ((.d (.k (.k (.k (.k .z))))) : Keep _ _).sat w) ?_
  refine St.xef ?_
  refine St.asrt (fun _ w => (w.front .z).meltL) ?_
  obtain ⟨r2, hr2, h⟩ := bnd_e h
  refine St.callV (c_version_Check hr2) ent42 rfl rfl rfl rfl ⟨(.head _), (.tail _ (.tail _ (.tail _ (.tail _ (.head _))))), trivial⟩ ?_
  refine St.xk (fun _ w => ((.d (.k (.k (.k (.k .z))))) : Keep _ _).sat w) ?_
  refine St.xfl (fun _ h => h) (Rd.p rfl) rfl ?_
  refine St.xfl (fun _ h => h) (Rd.p rfl) rfl ?_
  refine St.xfl (fun _ h => h) (Rd.p rfl) rfl ?_
  refine St.xfl (fun _ h => h) (Rd.p rfl) rfl ?_
  refine St.xfl (fun _ h => h) (Rd.p rfl) rfl ?_
  refine St.xdone ?_
  refine St.thenN ?_
  refine St.prune (Γ' := [(5, _), (6, _)]) ⟨rfl, rfl, trivial⟩ (.d (.d (.d (.d (.d .z))))) ?_
  refine St.seq ?_
  obtain ⟨o1, hj1, h⟩ := bnd_e h
  refine St.cutE (fun (e1 : Unit) => [(4, .bool o1)]) (fun e1 => R) ?_ ?_
  · refine St.region ?_
    iterate 3 refine St.p rfl rfl ?_
    refine St.gSplit (dj := 18) _ rfl (fun hb1 => ?_) (fun hb1 => ?_)
    · replace hj1 := bif_t hb1 hj1
      refine St.gOn (dj := 18) rfl rfl ?_
      refine St.p rfl rfl ?_
      refine St.gOn (dj := 18) rfl rfl ?_
      iterate 3 refine St.p rfl rfl ?_
      refine St.done ?_
      injection hj1 with hj1
      subst hj1
      refine St.thenN ?_
      exact St.hereE () ⟨rfl, trivial⟩ (fun _ w => (.z : Keep _ _).sat w)
    · replace hj1 := bif_f hb1 hj1
      refine St.gOff (dj := 18) rfl rfl rfl rfl ?_
      refine St.gOff (dj := 18) rfl rfl rfl rfl ?_
      refine St.p rfl rfl ?_
      refine St.p rfl rfl ?_
      refine St.done ?_
      injection hj1 with hj1
      subst hj1
      refine St.thenN ?_
      exact St.hereE () ⟨rfl, trivial⟩ (fun _ w => (.z : Keep _ _).sat w)
  · rintro e1
    refine St.ret ?_
    repeat (first | refine St.thenR ?_ | refine St.blkR ?_)
    injection h with h
    subst h
    exact St.finR Try.results36 (.tmp rfl .nil) rfl [] ⟨rfl, rfl⟩ (fun _ w => (.z : Keep _ _).sat w)

noncomputable def m_findStep (full : Int) (p : T_Plan) (rec : List (Int × Bool) → Int → List Int → Option (List (Int × Bool) × (List Int × Bool))) (dead : List (Int × Bool)) (set : Int) (order : List Int) : Option (List (Int × Bool) × (List Int × Bool)) :=
  bif (set == full) then some (dead, order, true) else
  bnd (loopM (τ := (List (Int × Bool) × (List Int × Bool)) ⊕ (List (Int × Bool))) (fun (s1 : Int × (List (Int × Bool))) => bif decide (s1.1 < (p.Now.length : Int)) then
    bnd (shlM .i64 1 s1.1) fun q1 => bnd (shrM .i64 full s1.1) fun q2 =>
    bif ((iAnd .i64 q2 1) == 0) then some (.next (IntKind.wrap .i64 (s1.1 + 1), s1.2)) else
    bif ((iOr .i64 set q1) == set) then some (.next (IntKind.wrap .i64 (s1.1 + 1), s1.2)) else
    bif (mget (kint .i64).eq s1.2 (iOr .i64 set q1)).getD false then some (.next (IntKind.wrap .i64 (s1.1 + 1), s1.2)) else
    bnd (m_activation_good p (iOr .i64 set q1)) fun r1 => bif !r1 then some (.next (IntKind.wrap .i64 (s1.1 + 1), s1.2)) else
    bnd (app 8 order [s1.1]) fun l1 => bnd (rec s1.2 (iOr .i64 set q1) l1) fun r2 =>
    bif r2.2.2 then some (.done (.inl (r2.1, r2.2.1, true))) else some (.next (IntKind.wrap .i64 (s1.1 + 1), r2.1))
    else some (.done (.inr s1.2))) (0, dead)) fun o2 => retOr o2 fun o3 => some (mset (kint .i64).eq o3 set true, [], false)

noncomputable def m_find (full : Int) (p : T_Plan) : Nat → List (Int × Bool) → Int → List Int → Option (List (Int × Bool) × (List Int × Bool))
  | 0 => fun _ _ _ => none
  | n_ + 1 => m_findStep full p (m_find full p n_)

theorem ent35 : Ent Try.prog 35 := ⟨_, Try.func35, by kernel_rfl, by kernel_rfl⟩

set_option maxHeartbeats 4000000 in
theorem c_find {full : Int} {p : T_Plan} {A1 : Option Addr} {c1 : Nat} {A2 : Option Addr} {c2 : Nat} {A3 : Option Addr} {c3 : Nat} {gb1 gb2 gb3 gb4 gm : Nat} : ∀ (n_ : Nat) {dead : List (Int × Bool)} {set : Int} {order : List Int} {A : Option Addr} {c : Nat} {r : List (Int × Bool) × (List Int × Bool)}, m_find full p n_ dead set order = some r →
    Fun Try.prog 35 [.int .i64 set, .slice A order.length c, .pointer (some ⟨gb1, 0, none⟩), .pointer (some ⟨gb2, 0, none⟩), .pointer (some ⟨gb3, 0, none⟩), .pointer (some ⟨gb4, 0, none⟩)] [.ro (SlL e_Installed A1 c1 p.Now), .ro (SlL e_Installed A2 c2 p.Next), .ro (SlL e_Need A3 c3 p.Needs), .res (MapB (kint .i64) (fun x => .bool x) gm dead), .res (OwnL ei64 3 A c order), .res (Box gb1 3 [.int .i64 full]), .res (Box gb2 29 [.slice A1 p.Now.length c1, .slice A2 p.Next.length c2, .slice A3 p.Needs.length c3]), .res (Box gb3 64 [.map (some gm)]), .res (Box gb4 65 [.func (.func 35) #[] #[.pointer (some ⟨gb1, 0, none⟩), .pointer (some ⟨gb2, 0, none⟩), .pointer (some ⟨gb3, 0, none⟩), .pointer (some ⟨gb4, 0, none⟩)]])] (fun v_ F_ => ∃ (A_ : Option Addr) (c_ : Nat), v_ = .tuple #[.slice A_ r.2.1.length c_, .bool r.2.2] ∧ F_ = [.res (MapB (kint .i64) (fun x => .bool x) gm r.1), (bif r.2.2 then .res (OwnL ei64 3 A_ c_ r.2.1) else .res (OwnL ei64 3 A c order)), .res (Box gb1 3 [.int .i64 full]), .res (Box gb2 29 [.slice A1 p.Now.length c1, .slice A2 p.Next.length c2, .slice A3 p.Needs.length c3]), .res (Box gb3 64 [.map (some gm)]), .res (Box gb4 65 [.func (.func 35) #[] #[.pointer (some ⟨gb1, 0, none⟩), .pointer (some ⟨gb2, 0, none⟩), .pointer (some ⟨gb3, 0, none⟩), .pointer (some ⟨gb4, 0, none⟩)]])])
  | 0, dead, set, order, A, c, r, h => by cases h
  | n_ + 1, dead, set, order, A, c, r, h => by
    have h : m_findStep full p (m_find full p n_) dead set order = some r := h
    unfold m_findStep at h
    refine Fun.intro Try.func35 rfl rfl rfl fun w R => ?_
    refine St.asrt (F' := .ro (SlL e_Installed A1 c1 p.Now) :: .ro (SlL e_Installed A2 c2 p.Next) :: .ro (SlL e_Need A3 c3 p.Needs) :: .res (MapB (kint .i64) (fun x => .bool x) gm dead) :: .res (OwnL ei64 3 A c order) :: .res (Box gb1 3 [.int .i64 full]) :: .res (Box gb2 29 [.slice A1 p.Now.length c1, .slice A2 p.Next.length c2, .slice A3 p.Needs.length c3]) :: .res (Box gb3 64 [.map (some gm)]) :: .res (Box gb4 65 [.func (.func 35) #[] #[.pointer (some ⟨gb1, 0, none⟩), .pointer (some ⟨gb2, 0, none⟩), .pointer (some ⟨gb3, 0, none⟩), .pointer (some ⟨gb4, 0, none⟩)]]) :: R) (fun _ w => w) ?_
    refine St.asrt (F' := .res (MapB (kint .i64) (fun x => .bool x) gm dead) :: .res (OwnL ei64 3 A c order) :: .res (Box gb1 3 [.int .i64 full]) :: .res (Box gb2 29 [.slice A1 p.Now.length c1, .slice A2 p.Next.length c2, .slice A3 p.Needs.length c3]) :: .res (Box gb3 64 [.map (some gm)]) :: .res (Box gb4 65 [.func (.func 35) #[] #[.pointer (some ⟨gb1, 0, none⟩), .pointer (some ⟨gb2, 0, none⟩), .pointer (some ⟨gb3, 0, none⟩), .pointer (some ⟨gb4, 0, none⟩)]]) :: .ro (SlL e_Installed A1 c1 p.Now) :: .ro (SlL e_Installed A2 c2 p.Next) :: .ro (SlL e_Need A3 c3 p.Needs) :: R) (fun _ w => w.perm (by exact List.perm_append_comm (l₁ := [.ro (SlL e_Installed A1 c1 p.Now), .ro (SlL e_Installed A2 c2 p.Next), .ro (SlL e_Need A3 c3 p.Needs)]) (l₂ := [.res (MapB (kint .i64) (fun x => .bool x) gm dead), .res (OwnL ei64 3 A c order), .res (Box gb1 3 [.int .i64 full]), .res (Box gb2 29 [.slice A1 p.Now.length c1, .slice A2 p.Next.length c2, .slice A3 p.Needs.length c3]), .res (Box gb3 64 [.map (some gm)]), .res (Box gb4 65 [.func (.func 35) #[] #[.pointer (some ⟨gb1, 0, none⟩), .pointer (some ⟨gb2, 0, none⟩), .pointer (some ⟨gb3, 0, none⟩), .pointer (some ⟨gb4, 0, none⟩)]])]) |>.append_right R)) ?_
    refine St.seq ?_
    refine St.region ?_
    iterate 2 refine St.p rfl rfl ?_
    refine St.done ?_
    refine St.thenN ?_
    refine St.seq ?_
    refine St.seq ?_
    refine St.region ?_
    refine St.p rfl rfl ?_
    refine St.loadB 0 rfl rfl (.tail _ (.tail _ (.head _))) rfl rfl ?_
    refine St.p rfl rfl ?_
    refine St.done ?_
    refine St.thenN ?_
    refine St.cond _ rfl (fun hb1 => ?_) (fun hb1 => ?_)
    · replace h := bif_t hb1 h
      refine St.seq ?_
      refine St.region ?_
      iterate 3 refine St.p rfl rfl ?_
      refine St.done ?_
      refine St.thenN ?_
      refine St.ret ?_
      repeat (first | refine St.thenR ?_ | refine St.blkR ?_)
      injection h with h
      subst h
      exact St.finR Try.results35 (.tmp rfl (.tmp rfl .nil)) rfl [.res (MapB (kint .i64) (fun x => .bool x) gm dead), .res (OwnL ei64 3 A c order), .res (Box gb1 3 [.int .i64 full]), .res (Box gb2 29 [.slice A1 p.Now.length c1, .slice A2 p.Next.length c2, .slice A3 p.Needs.length c3]), .res (Box gb3 64 [.map (some gm)]), .res (Box gb4 65 [.func (.func 35) #[] #[.pointer (some ⟨gb1, 0, none⟩), .pointer (some ⟨gb2, 0, none⟩), .pointer (some ⟨gb3, 0, none⟩), .pointer (some ⟨gb4, 0, none⟩)]])] ⟨A, c, rfl, rfl⟩ (fun _ w => ((.k (.k (.k (.k (.k (.k (.d (.d (.d .z))))))))) : Keep _ _).sat w)
    · replace h := bif_f hb1 h
      refine St.skip ?_
      refine St.thenN ?_
      refine St.prune (Γ' := [(0, _), (1, _), (2, _), (3, _), (4, _), (5, _)]) ⟨rfl, rfl, rfl, rfl, rfl, rfl, trivial⟩ (.k (.k (.k (.k (.k (.k (.k (.k (.k .z))))))))) ?_
      refine St.seq ?_
      refine St.seq ?_
      refine St.region ?_
      refine St.p rfl rfl ?_
      refine St.loadB 0 rfl rfl (.tail _ (.tail _ (.tail _ (.head _)))) rfl rfl ?_
      iterate 2 refine St.p rfl rfl ?_
      refine St.done ?_
      refine St.thenN ?_
      obtain ⟨o2, hl1, h⟩ := bnd_e h
      refine St.cutI (fun (o3 : List (Int × Bool)) (e3 : Unit) => [(0, .int .i64 set), (4, .pointer (some ⟨gb3, 0, none⟩))]) (fun o3 e3 => .res (MapB (kint .i64) (fun x => .bool x) gm o3) :: .res (OwnL ei64 3 A c order) :: .res (Box gb1 3 [.int .i64 full]) :: .res (Box gb2 29 [.slice A1 p.Now.length c1, .slice A2 p.Next.length c2, .slice A3 p.Needs.length c3]) :: .res (Box gb3 64 [.map (some gm)]) :: .res (Box gb4 65 [.func (.func 35) #[] #[.pointer (some ⟨gb1, 0, none⟩), .pointer (some ⟨gb2, 0, none⟩), .pointer (some ⟨gb3, 0, none⟩), .pointer (some ⟨gb4, 0, none⟩)]]) :: .ro (SlL e_Installed A1 c1 p.Now) :: .ro (SlL e_Installed A2 c2 p.Next) :: .ro (SlL e_Need A3 c3 p.Needs) :: R) (fun o3 => o2 = .inr o3) ?_ ?_
      · refine St.block ?_
        refine St.loop hl1 (fun (s1 : Int × (List (Int × Bool))) (e2 : Unit) => [(0, .int .i64 set), (1, .slice A order.length c), (2, .pointer (some ⟨gb1, 0, none⟩)), (3, .pointer (some ⟨gb2, 0, none⟩)), (4, .pointer (some ⟨gb3, 0, none⟩)), (5, .pointer (some ⟨gb4, 0, none⟩)), (20, .int .i64 (p.Now.length : Int)), (21, .int .i64 s1.1)]) (fun s1 e2 => .res (MapB (kint .i64) (fun x => .bool x) gm s1.2) :: .res (OwnL ei64 3 A c order) :: .res (Box gb1 3 [.int .i64 full]) :: .res (Box gb2 29 [.slice A1 p.Now.length c1, .slice A2 p.Next.length c2, .slice A3 p.Needs.length c3]) :: .res (Box gb3 64 [.map (some gm)]) :: .res (Box gb4 65 [.func (.func 35) #[] #[.pointer (some ⟨gb1, 0, none⟩), .pointer (some ⟨gb2, 0, none⟩), .pointer (some ⟨gb3, 0, none⟩), .pointer (some ⟨gb4, 0, none⟩)]]) :: .ro (SlL e_Installed A1 c1 p.Now) :: .ro (SlL e_Installed A2 c2 p.Next) :: .ro (SlL e_Need A3 c3 p.Needs) :: R) (fun _ _ => True) () trivial ⟨rfl, rfl, rfl, rfl, rfl, rfl, rfl, rfl, trivial⟩ (fun _ w => w) ?_
        rintro s1 e2 - hit1
        obtain ⟨st1, hm1, hd1⟩ := iter_e hit1
        have h1 := hm1
        refine St.seq ?_
        refine St.region ?_
        refine St.p rfl rfl ?_
        refine St.done ?_
        refine St.thenN ?_
        refine St.seq ?_
        refine St.cond _ rfl (fun hb4 => ?_) (fun hb4 => ?_)
        · replace h1 := bif_t hb4 h1
          refine St.skip ?_
          refine St.thenN ?_
          refine St.seq ?_
          refine St.block ?_
          refine St.seq ?_
          refine St.region ?_
          iterate 2 refine St.p rfl rfl ?_
          refine St.done ?_
          refine St.thenN ?_
          refine St.seq ?_
          refine St.region ?_
          iterate 2 refine St.p rfl rfl ?_
          obtain ⟨q1, hq1, h1⟩ := bnd_e h1
          refine St.shl rfl rfl rfl hq1 ?_
          iterate 2 refine St.p rfl rfl ?_
          refine St.done ?_
          refine St.thenN ?_
          refine St.seq ?_
          refine St.seq ?_
          refine St.region ?_
          refine St.loadB 0 rfl rfl (.tail _ (.tail _ (.head _))) rfl rfl ?_
          refine St.p rfl rfl ?_
          obtain ⟨q2, hq2, h1⟩ := bnd_e h1
          refine St.shr rfl rfl rfl hq2 ?_
          iterate 3 refine St.p rfl rfl ?_
          refine St.gSplit (dj := 33) _ rfl (fun hb5 => ?_) (fun hb5 => ?_)
          · replace h1 := bif_t hb5 h1
            iterate 3 refine St.gOff (dj := 33) rfl rfl rfl rfl ?_
            iterate 2 refine St.p rfl rfl ?_
            iterate 3 refine St.gOff (dj := 38) rfl rfl rfl rfl ?_
            iterate 2 refine St.p rfl rfl ?_
            iterate 4 refine St.gOff (dj := 43) rfl rfl rfl rfl ?_
            refine St.p rfl rfl ?_
            refine St.done ?_
            refine St.thenN ?_
            refine St.condT rfl ?_
            refine St.exit ?_
            repeat (first | refine St.thenX ?_ | refine St.blkMiss rfl ?_)
            refine St.blkHit ?_
            refine St.thenN ?_
            refine St.region ?_
            iterate 2 refine St.p rfl rfl ?_
            refine St.done ?_
            injection h1 with h1
            subst h1
            refine St.thenN ?_
            exact St.again _ () hm1 trivial ⟨rfl, rfl, rfl, rfl, rfl, rfl, rfl, rfl, trivial⟩ (fun _ w => ((.k (.k (.k (.k (.k (.k (.k (.k (.k .z))))))))) : Keep _ _).sat w)
          · replace h1 := bif_f hb5 h1
            refine St.gOn (dj := 33) rfl rfl ?_
            refine St.p rfl rfl ?_
            refine St.gOn (dj := 33) rfl rfl ?_
            refine St.p rfl rfl ?_
            refine St.gOn (dj := 33) rfl rfl ?_
            refine St.p rfl rfl ?_
            iterate 2 refine St.p rfl rfl ?_
            refine St.gSplit (dj := 38) _ rfl (fun hb6 => ?_) (fun hb6 => ?_)
            · replace h1 := bif_t hb6 h1
              iterate 3 refine St.gOff (dj := 38) rfl rfl rfl rfl ?_
              iterate 2 refine St.p rfl rfl ?_
              iterate 4 refine St.gOff (dj := 43) rfl rfl rfl rfl ?_
              refine St.p rfl rfl ?_
              refine St.done ?_
              refine St.thenN ?_
              refine St.condT rfl ?_
              refine St.exit ?_
              repeat (first | refine St.thenX ?_ | refine St.blkMiss rfl ?_)
              refine St.blkHit ?_
              refine St.thenN ?_
              refine St.region ?_
              iterate 2 refine St.p rfl rfl ?_
              refine St.done ?_
              injection h1 with h1
              subst h1
              refine St.thenN ?_
              exact St.again _ () hm1 trivial ⟨rfl, rfl, rfl, rfl, rfl, rfl, rfl, rfl, trivial⟩ (fun _ w => ((.k (.k (.k (.k (.k (.k (.k (.k (.k .z))))))))) : Keep _ _).sat w)
            · replace h1 := bif_f hb6 h1
              refine St.gOn (dj := 38) rfl rfl ?_
              refine St.loadB 0 rfl rfl (.tail _ (.tail _ (.tail _ (.tail _ (.head _))))) rfl rfl ?_
              refine St.gOn (dj := 38) rfl rfl ?_
              refine St.p rfl rfl ?_
              refine St.gOn (dj := 38) rfl rfl ?_
              refine St.lookup (K := (kint .i64)) (vv := (fun x => .bool x)) (u := .bool ((mget (kint .i64).eq s1.2 (iOr .i64 set q1)).getD false)) false (iOr .i64 set q1) rfl rfl rfl (.head _) rfl rfl rfl rfl rfl rfl rfl ?_
              iterate 2 refine St.p rfl rfl ?_
              refine St.gSplit (dj := 43) _ rfl (fun hb7 => ?_) (fun hb7 => ?_)
              · replace h1 := bif_t hb7 h1
                iterate 4 refine St.gOff (dj := 43) rfl rfl rfl rfl ?_
                refine St.p rfl rfl ?_
                refine St.done ?_
                refine St.thenN ?_
                refine St.condT rfl ?_
                refine St.exit ?_
                repeat (first | refine St.thenX ?_ | refine St.blkMiss rfl ?_)
                refine St.blkHit ?_
                refine St.thenN ?_
                refine St.region ?_
                iterate 2 refine St.p rfl rfl ?_
                refine St.done ?_
                injection h1 with h1
                subst h1
                refine St.thenN ?_
                exact St.again _ () hm1 trivial ⟨rfl, rfl, rfl, rfl, rfl, rfl, rfl, rfl, trivial⟩ (fun _ w => ((.k (.k (.k (.k (.k (.k (.k (.k (.k .z))))))))) : Keep _ _).sat w)
              · replace h1 := bif_f hb7 h1
                refine St.gOn (dj := 43) rfl rfl ?_
                refine St.loadB 0 rfl rfl (.tail _ (.tail _ (.tail _ (.head _)))) rfl rfl ?_
                refine St.gOn (dj := 43) rfl rfl ?_
                refine St.p rfl rfl ?_
                refine St.gOn (dj := 43) rfl rfl ?_
                obtain ⟨r1, hr1, h1⟩ := bnd_e h1
                refine St.callV (c_activation_good hr1) ent36 rfl rfl rfl rfl ⟨(.tail _ (.tail _ (.tail _ (.tail _ (.tail _ (.tail _ (.head _))))))), (.tail _ (.tail _ (.tail _ (.tail _ (.tail _ (.tail _ (.tail _ (.head _)))))))), (.tail _ (.tail _ (.tail _ (.tail _ (.tail _ (.tail _ (.tail _ (.tail _ (.head _))))))))), trivial⟩ ?_
                refine St.gOn (dj := 43) rfl rfl ?_
                refine St.p rfl rfl ?_
                refine St.p rfl rfl ?_
                refine St.done ?_
                refine St.thenN ?_
                refine St.cond _ rfl (fun hb8 => ?_) (fun hb8 => ?_)
                · replace h1 := bif_t hb8 h1
                  refine St.exit ?_
                  repeat (first | refine St.thenX ?_ | refine St.blkMiss rfl ?_)
                  refine St.blkHit ?_
                  refine St.thenN ?_
                  refine St.region ?_
                  iterate 2 refine St.p rfl rfl ?_
                  refine St.done ?_
                  injection h1 with h1
                  subst h1
                  refine St.thenN ?_
                  exact St.again _ () hm1 trivial ⟨rfl, rfl, rfl, rfl, rfl, rfl, rfl, rfl, trivial⟩ (fun _ w => ((.k (.k (.k (.k (.k (.k (.k (.k (.k .z))))))))) : Keep _ _).sat w)
                · replace h1 := bif_f hb8 h1
                  obtain ⟨l1, hl2, h2⟩ := bnd_e h1
                  have hz1 := (app_some hl2).1
                  subst hz1
                  obtain ⟨r2, hr2, h3⟩ := bnd_e h2
                  refine St.skip ?_
                  refine St.thenN ?_
                  refine St.seq ?_
                  refine St.regionX (iL [(.fl, 0), (.fl, 1), (.fl, 2), (.fl, 3), (.ef, 4), (.ef, 5), (.ef, 6), (.fl, 7), (.fl, 8), (.fl, 9), (.fl, 10), (.fl, 11)] .nil) (.res (Box gb1 3 [.int .i64 full]) :: .res (Box gb2 29 [.slice A1 p.Now.length c1, .slice A2 p.Next.length c2, .slice A3 p.Needs.length c3]) :: .res (Box gb3 64 [.map (some gm)]) :: .res (Box gb4 65 [.func (.func 35) #[] #[.pointer (some ⟨gb1, 0, none⟩), .pointer (some ⟨gb2, 0, none⟩), .pointer (some ⟨gb3, 0, none⟩), .pointer (some ⟨gb4, 0, none⟩)]]) :: .ro (SlL e_Installed A1 c1 p.Now) :: .ro (SlL e_Installed A2 c2 p.Next) :: .ro (SlL e_Need A3 c3 p.Needs) :: R) mixed (by kernel_rfl) (fun _ w => ((.d (.d (.k (.k (.k (.k (.k (.k (.k .z))))))))) : Keep _ _).sat w) ?_
                  refine St.xfl (fun _ h => h) (Rd.loadB 0 rfl (.tail _ (.tail _ (.tail _ (.head _)))) rfl rfl) rfl ?_
                  iterate 3 refine St.xfl (fun _ h => h) (Rd.p rfl) rfl ?_
                  refine St.xef ?_
                  refine St.buildSlice rfl rfl rfl rfl rfl rfl rfl rfl fun g5 => ?_
                  refine St.xk (fun _ w => ((.d (.d (.d (.k (.k (.k (.k (.k (.k (.k .z)))))))))) : Keep _ _).sat w) ?_
                  refine St.xef ?_
                  refine St.appK (E := ei64) hl2 rfl rfl rfl (.s (.s .z)) rfl rfl rfl rfl rfl rfl rfl rfl (srcB (.head _) rfl rfl) rfl rfl ?_ (fun A4 c4 => ?_)
                  · refine St.xk (fun _ w => ((.d (.d (.d (.k (.k (.k (.k (.k (.k (.k .z)))))))))) : Keep _ _).sat w) ?_
                    refine St.xef ?_
                    refine St.callC (args := [.int .i64 (iOr .i64 set q1), .slice A (order ++ [s1.1]).length c]) (us := [.pointer (some ⟨gb1, 0, none⟩), .pointer (some ⟨gb2, 0, none⟩), .pointer (some ⟨gb3, 0, none⟩), .pointer (some ⟨gb4, 0, none⟩)]) (c_find n_ (A := A) (c := c) hr2) ent35 rfl rfl rfl (fun _ w => Sat.dup (G := [.ro (SlL e_Installed A1 c1 p.Now), .ro (SlL e_Installed A2 c2 p.Next), .ro (SlL e_Need A3 c3 p.Needs)]) rfl ⟨(.tail _ (.tail _ (.tail _ (.tail _ (.tail _ (.tail _ (.tail _ (.head _)))))))), (.tail _ (.tail _ (.tail _ (.tail _ (.tail _ (.tail _ (.tail _ (.tail _ (.head _))))))))), (.tail _ (.tail _ (.tail _ (.tail _ (.tail _ (.tail _ (.tail _ (.tail _ (.tail _ (.head _)))))))))), trivial⟩ ((((((w.front (.s (.s (.s (.s (.s (.s .z))))))).front (.s (.s (.s (.s (.s (.s .z))))))).front (.s (.s (.s (.s (.s (.s .z))))))).front (.s (.s (.s (.s (.s (.s .z))))))).front (.s (.s (.s (.s .z))))).front (.s (.s (.s (.s (.s (.s .z)))))))) ?_
                    rintro _ _ ⟨A5, c5, rfl, rfl⟩
                    refine St.asrt (F' := .res (MapB (kint .i64) (fun x => .bool x) gm r2.1) :: (bif r2.2.2 then .res (OwnL ei64 3 A5 c5 r2.2.1) else .res (OwnL ei64 3 A c (order ++ [s1.1]))) :: .res (Box gb1 3 [.int .i64 full]) :: .res (Box gb2 29 [.slice A1 p.Now.length c1, .slice A2 p.Next.length c2, .slice A3 p.Needs.length c3]) :: .res (Box gb3 64 [.map (some gm)]) :: .res (Box gb4 65 [.func (.func 35) #[] #[.pointer (some ⟨gb1, 0, none⟩), .pointer (some ⟨gb2, 0, none⟩), .pointer (some ⟨gb3, 0, none⟩), .pointer (some ⟨gb4, 0, none⟩)]]) :: .res (Box g5 3 [.int .i64 s1.1]) :: .ro (SlL e_Installed A1 c1 p.Now) :: .ro (SlL e_Installed A2 c2 p.Next) :: .ro (SlL e_Need A3 c3 p.Needs) :: R) (fun _ w => w) ?_
                    refine St.xk (fun _ w => (((.d (.d (.k (.k (.k (.k (.d (.k (.k (.k .z)))))))))) : Keep _ _).sat w)) ?_
                    refine St.xfl (fun _ h => h) (Rd.p rfl) rfl ?_
                    refine St.xfl (fun _ h => h) (Rd.p rfl) rfl ?_
                    refine St.xfl (fun _ h => h) (Rd.p rfl) rfl ?_
                    refine St.xfl (fun _ h => h) (Rd.p rfl) rfl ?_
                    refine St.xfl (fun _ h => h) (Rd.p rfl) rfl ?_
                    refine St.xdone ?_
                    refine St.thenN ?_
                    refine St.seq ?_
                    refine St.region ?_
                    refine St.p rfl rfl ?_
                    refine St.done ?_
                    refine St.thenN ?_
                    refine St.cond _ rfl (fun hb9 => ?_) (fun hb9 => ?_)
                    · replace h3 := bif_t hb9 h3
                      refine St.seq ?_
                      refine St.region ?_
                      iterate 3 refine St.p rfl rfl ?_
                      refine St.done ?_
                      refine St.thenN ?_
                      refine St.ret ?_
                      repeat (first | refine St.thenR ?_ | refine St.blkR ?_)
                      injection h3 with h3
                      subst h3
                      have ho := hd1 _ rfl
                      subst ho
                      have h : some _ = some _ := h
                      injection h with h
                      subst h
                      refine St.asrt (F' := .res (MapB (kint .i64) (fun x => .bool x) gm r2.1) :: .res (OwnL ei64 3 A5 c5 r2.2.1) :: .res (Box gb1 3 [.int .i64 full]) :: .res (Box gb2 29 [.slice A1 p.Now.length c1, .slice A2 p.Next.length c2, .slice A3 p.Needs.length c3]) :: .res (Box gb3 64 [.map (some gm)]) :: .res (Box gb4 65 [.func (.func 35) #[] #[.pointer (some ⟨gb1, 0, none⟩), .pointer (some ⟨gb2, 0, none⟩), .pointer (some ⟨gb3, 0, none⟩), .pointer (some ⟨gb4, 0, none⟩)]]) :: .res (Box g5 3 [.int .i64 s1.1]) :: .ro (SlL e_Installed A1 c1 p.Now) :: .ro (SlL e_Installed A2 c2 p.Next) :: .ro (SlL e_Need A3 c3 p.Needs) :: R) (fun _ w => by rw [hb9] at w; exact w) ?_
                      exact St.finR Try.results35 (.tmp rfl (.tmp rfl .nil)) rfl [.res (MapB (kint .i64) (fun x => .bool x) gm r2.1), .res (OwnL ei64 3 A5 c5 r2.2.1), .res (Box gb1 3 [.int .i64 full]), .res (Box gb2 29 [.slice A1 p.Now.length c1, .slice A2 p.Next.length c2, .slice A3 p.Needs.length c3]), .res (Box gb3 64 [.map (some gm)]), .res (Box gb4 65 [.func (.func 35) #[] #[.pointer (some ⟨gb1, 0, none⟩), .pointer (some ⟨gb2, 0, none⟩), .pointer (some ⟨gb3, 0, none⟩), .pointer (some ⟨gb4, 0, none⟩)]])] ⟨A5, c5, rfl, rfl⟩ (fun _ w => ((.k (.k (.k (.k (.k (.k (.d (.d (.d (.d .z)))))))))) : Keep _ _).sat w)
                    · replace h3 := bif_f hb9 h3
                      refine St.skip ?_
                      skip
                      refine St.blkN ?_
                      refine St.thenN ?_
                      refine St.region ?_
                      iterate 2 refine St.p rfl rfl ?_
                      refine St.done ?_
                      injection h3 with h3
                      subst h3
                      refine St.asrt (F' := .res (MapB (kint .i64) (fun x => .bool x) gm r2.1) :: .res (OwnL ei64 3 A c (order ++ [s1.1])) :: .res (Box gb1 3 [.int .i64 full]) :: .res (Box gb2 29 [.slice A1 p.Now.length c1, .slice A2 p.Next.length c2, .slice A3 p.Needs.length c3]) :: .res (Box gb3 64 [.map (some gm)]) :: .res (Box gb4 65 [.func (.func 35) #[] #[.pointer (some ⟨gb1, 0, none⟩), .pointer (some ⟨gb2, 0, none⟩), .pointer (some ⟨gb3, 0, none⟩), .pointer (some ⟨gb4, 0, none⟩)]]) :: .res (Box g5 3 [.int .i64 s1.1]) :: .ro (SlL e_Installed A1 c1 p.Now) :: .ro (SlL e_Installed A2 c2 p.Next) :: .ro (SlL e_Need A3 c3 p.Needs) :: R) (fun _ w => by rw [hb9] at w; exact w) ?_
                      refine St.thenN ?_
                      exact St.again _ () hm1 trivial ⟨rfl, rfl, rfl, rfl, rfl, rfl, rfl, rfl, trivial⟩ (fun _ w => ((.k (.k (.k (.k (.k (.k (.d (.k (.k (.k .z)))))))))) : Keep _ _).sat ((Sat.shrink (w.front (.s .z))).front (.s .z)))
                  · refine St.xk (fun _ w => ((.d (.d (.d (.d (.k (.k (.k (.k (.k (.k (.k .z))))))))))) : Keep _ _).sat w) ?_
                    refine St.xef ?_
                    refine St.callC (args := [.int .i64 (iOr .i64 set q1), .slice A4 (order ++ [s1.1]).length c4]) (us := [.pointer (some ⟨gb1, 0, none⟩), .pointer (some ⟨gb2, 0, none⟩), .pointer (some ⟨gb3, 0, none⟩), .pointer (some ⟨gb4, 0, none⟩)]) (c_find n_ (A := A4) (c := c4) hr2) ent35 rfl rfl rfl (fun _ w => Sat.dup (G := [.ro (SlL e_Installed A1 c1 p.Now), .ro (SlL e_Installed A2 c2 p.Next), .ro (SlL e_Need A3 c3 p.Needs)]) rfl ⟨(.tail _ (.tail _ (.tail _ (.tail _ (.tail _ (.tail _ (.tail _ (.tail _ (.head _))))))))), (.tail _ (.tail _ (.tail _ (.tail _ (.tail _ (.tail _ (.tail _ (.tail _ (.tail _ (.head _)))))))))), (.tail _ (.tail _ (.tail _ (.tail _ (.tail _ (.tail _ (.tail _ (.tail _ (.tail _ (.tail _ (.head _))))))))))), trivial⟩ ((((((w.front (.s (.s (.s (.s (.s (.s (.s .z)))))))).front (.s (.s (.s (.s (.s (.s (.s .z)))))))).front (.s (.s (.s (.s (.s (.s (.s .z)))))))).front (.s (.s (.s (.s (.s (.s (.s .z)))))))).front (.s (.s (.s (.s .z))))).front (.s (.s (.s (.s (.s (.s (.s .z))))))))) ?_
                    rintro _ _ ⟨A5, c5, rfl, rfl⟩
                    refine St.asrt (F' := .res (MapB (kint .i64) (fun x => .bool x) gm r2.1) :: (bif r2.2.2 then .res (OwnL ei64 3 A5 c5 r2.2.1) else .res (OwnL ei64 3 A4 c4 (order ++ [s1.1]))) :: .res (Box gb1 3 [.int .i64 full]) :: .res (Box gb2 29 [.slice A1 p.Now.length c1, .slice A2 p.Next.length c2, .slice A3 p.Needs.length c3]) :: .res (Box gb3 64 [.map (some gm)]) :: .res (Box gb4 65 [.func (.func 35) #[] #[.pointer (some ⟨gb1, 0, none⟩), .pointer (some ⟨gb2, 0, none⟩), .pointer (some ⟨gb3, 0, none⟩), .pointer (some ⟨gb4, 0, none⟩)]]) :: .res (OwnL ei64 3 A c order) :: .res (Box g5 3 [.int .i64 s1.1]) :: .ro (SlL e_Installed A1 c1 p.Now) :: .ro (SlL e_Installed A2 c2 p.Next) :: .ro (SlL e_Need A3 c3 p.Needs) :: R) (fun _ w => w) ?_
                    refine St.xk (fun _ w => (((.d (.d (.k (.k (.k (.k (.d (.d (.k (.k (.k .z))))))))))) : Keep _ _).sat w)) ?_
                    refine St.xfl (fun _ h => h) (Rd.p rfl) rfl ?_
                    refine St.xfl (fun _ h => h) (Rd.p rfl) rfl ?_
                    refine St.xfl (fun _ h => h) (Rd.p rfl) rfl ?_
                    refine St.xfl (fun _ h => h) (Rd.p rfl) rfl ?_
                    refine St.xfl (fun _ h => h) (Rd.p rfl) rfl ?_
                    refine St.xdone ?_
                    refine St.thenN ?_
                    refine St.seq ?_
                    refine St.region ?_
                    refine St.p rfl rfl ?_
                    refine St.done ?_
                    refine St.thenN ?_
                    refine St.cond _ rfl (fun hb9 => ?_) (fun hb9 => ?_)
                    · replace h3 := bif_t hb9 h3
                      refine St.seq ?_
                      refine St.region ?_
                      iterate 3 refine St.p rfl rfl ?_
                      refine St.done ?_
                      refine St.thenN ?_
                      refine St.ret ?_
                      repeat (first | refine St.thenR ?_ | refine St.blkR ?_)
                      injection h3 with h3
                      subst h3
                      have ho := hd1 _ rfl
                      subst ho
                      have h : some _ = some _ := h
                      injection h with h
                      subst h
                      refine St.asrt (F' := .res (MapB (kint .i64) (fun x => .bool x) gm r2.1) :: .res (OwnL ei64 3 A5 c5 r2.2.1) :: .res (Box gb1 3 [.int .i64 full]) :: .res (Box gb2 29 [.slice A1 p.Now.length c1, .slice A2 p.Next.length c2, .slice A3 p.Needs.length c3]) :: .res (Box gb3 64 [.map (some gm)]) :: .res (Box gb4 65 [.func (.func 35) #[] #[.pointer (some ⟨gb1, 0, none⟩), .pointer (some ⟨gb2, 0, none⟩), .pointer (some ⟨gb3, 0, none⟩), .pointer (some ⟨gb4, 0, none⟩)]]) :: .res (OwnL ei64 3 A c order) :: .res (Box g5 3 [.int .i64 s1.1]) :: .ro (SlL e_Installed A1 c1 p.Now) :: .ro (SlL e_Installed A2 c2 p.Next) :: .ro (SlL e_Need A3 c3 p.Needs) :: R) (fun _ w => by rw [hb9] at w; exact w) ?_
                      exact St.finR Try.results35 (.tmp rfl (.tmp rfl .nil)) rfl [.res (MapB (kint .i64) (fun x => .bool x) gm r2.1), .res (OwnL ei64 3 A5 c5 r2.2.1), .res (Box gb1 3 [.int .i64 full]), .res (Box gb2 29 [.slice A1 p.Now.length c1, .slice A2 p.Next.length c2, .slice A3 p.Needs.length c3]), .res (Box gb3 64 [.map (some gm)]), .res (Box gb4 65 [.func (.func 35) #[] #[.pointer (some ⟨gb1, 0, none⟩), .pointer (some ⟨gb2, 0, none⟩), .pointer (some ⟨gb3, 0, none⟩), .pointer (some ⟨gb4, 0, none⟩)]])] ⟨A5, c5, rfl, rfl⟩ (fun _ w => ((.k (.k (.k (.k (.k (.k (.d (.d (.d (.d (.d .z))))))))))) : Keep _ _).sat w)
                    · replace h3 := bif_f hb9 h3
                      refine St.skip ?_
                      skip
                      refine St.blkN ?_
                      refine St.thenN ?_
                      refine St.region ?_
                      iterate 2 refine St.p rfl rfl ?_
                      refine St.done ?_
                      injection h3 with h3
                      subst h3
                      refine St.asrt (F' := .res (MapB (kint .i64) (fun x => .bool x) gm r2.1) :: .res (OwnL ei64 3 A4 c4 (order ++ [s1.1])) :: .res (Box gb1 3 [.int .i64 full]) :: .res (Box gb2 29 [.slice A1 p.Now.length c1, .slice A2 p.Next.length c2, .slice A3 p.Needs.length c3]) :: .res (Box gb3 64 [.map (some gm)]) :: .res (Box gb4 65 [.func (.func 35) #[] #[.pointer (some ⟨gb1, 0, none⟩), .pointer (some ⟨gb2, 0, none⟩), .pointer (some ⟨gb3, 0, none⟩), .pointer (some ⟨gb4, 0, none⟩)]]) :: .res (OwnL ei64 3 A c order) :: .res (Box g5 3 [.int .i64 s1.1]) :: .ro (SlL e_Installed A1 c1 p.Now) :: .ro (SlL e_Installed A2 c2 p.Next) :: .ro (SlL e_Need A3 c3 p.Needs) :: R) (fun _ w => by rw [hb9] at w; exact w) ?_
                      refine St.thenN ?_
                      exact St.again _ () hm1 trivial ⟨rfl, rfl, rfl, rfl, rfl, rfl, rfl, rfl, trivial⟩ (fun _ w => ((.k (.k (.k (.k (.k (.k (.k (.k (.k (.d (.d .z))))))))))) : Keep _ _).sat (((((((((w.front (.s (.s (.s (.s (.s (.s (.s (.s (.s (.s .z))))))))))).front (.s (.s (.s (.s (.s (.s (.s (.s (.s (.s .z))))))))))).front (.s (.s (.s (.s (.s (.s (.s (.s (.s (.s .z))))))))))).front (.s (.s (.s (.s (.s (.s (.s (.s .z))))))))).front (.s (.s (.s (.s (.s (.s (.s (.s .z))))))))).front (.s (.s (.s (.s (.s (.s (.s (.s .z))))))))).front (.s (.s (.s (.s (.s (.s (.s (.s .z))))))))).front (.s (.s (.s (.s (.s (.s (.s (.s (.s .z)))))))))).front (.s (.s (.s (.s (.s (.s (.s (.s .z))))))))))
        · replace h1 := bif_f hb4 h1
          refine St.exit ?_
          repeat (first | refine St.thenX ?_ | refine St.blkMiss rfl ?_)
          refine St.blkHit ?_
          injection h1 with h1
          subst h1
          have ho := hd1 _ rfl
          subst ho
          refine St.thenN ?_
          exact St.hereI s1.2 () rfl ⟨rfl, rfl, trivial⟩ (fun _ w => w)
      · rintro o3 e3 ho
        subst ho
        have h : _ = some _ := h
        refine St.seq ?_
        refine St.region ?_
        refine St.loadB 0 rfl rfl (.tail _ (.tail _ (.tail _ (.tail _ (.head _))))) rfl rfl ?_
        refine St.p rfl rfl ?_
        refine St.mapUpdate (K := (kint .i64)) (vv := (fun x => .bool x)) set true rfl rfl rfl .z rfl rfl rfl rfl ?_
        refine St.done ?_
        refine St.thenN ?_
        refine St.seq ?_
        refine St.region ?_
        iterate 2 refine St.p rfl rfl ?_
        refine St.done ?_
        refine St.thenN ?_
        refine St.ret ?_
        repeat (first | refine St.thenR ?_ | refine St.blkR ?_)
        have h : some _ = some _ := h
        injection h with h
        subst h
        exact St.finR Try.results35 (.tmp rfl (.tmp rfl .nil)) rfl [.res (MapB (kint .i64) (fun x => .bool x) gm (mset (kint .i64).eq o3 set true)), .res (OwnL ei64 3 A c order), .res (Box gb1 3 [.int .i64 full]), .res (Box gb2 29 [.slice A1 p.Now.length c1, .slice A2 p.Next.length c2, .slice A3 p.Needs.length c3]), .res (Box gb3 64 [.map (some gm)]), .res (Box gb4 65 [.func (.func 35) #[] #[.pointer (some ⟨gb1, 0, none⟩), .pointer (some ⟨gb2, 0, none⟩), .pointer (some ⟨gb3, 0, none⟩), .pointer (some ⟨gb4, 0, none⟩)]])] ⟨none, 0, rfl, rfl⟩ (fun _ w => ((.k (.k (.k (.k (.k (.k (.d (.d (.d .z))))))))) : Keep _ _).sat w)

/-- More steps than any plan has. -/
def findFuel : Nat := 1000

noncomputable def m_activation_Order (p : T_Plan) : Option (List Int × Int) :=
  bnd (m_activation_Valid p) fun r1 => bif (r1 != 0) then some ([], r1) else
  bnd (m_activation_all p) fun r2 => bnd (m_find r2 p findFuel [] 0 []) fun r3 => bif !r3.2.2 then some ([], 41) else some (r3.2.1, 0)

theorem ent11 : Ent Try.prog 11 := ⟨_, Try.func11, by kernel_rfl, by kernel_rfl⟩

set_option maxHeartbeats 4000000 in
theorem c_activation_Order {p : T_Plan} {A1 : Option Addr} {c1 : Nat} {A2 : Option Addr} {c2 : Nat} {A3 : Option Addr} {c3 : Nat} {r : List Int × Int} (h : m_activation_Order p = some r) :
    Fun Try.prog 11 [.agg #[.slice A1 p.Now.length c1, .slice A2 p.Next.length c2, .slice A3 p.Needs.length c3]] [.ro (SlL e_Installed A1 c1 p.Now), .ro (SlL e_Installed A2 c2 p.Next), .ro (SlL e_Need A3 c3 p.Needs)] (fun v_ F_ => ∃ (A_ : Option Addr) (c_ : Nat), v_ = .tuple #[.slice A_ r.1.length c_, .int .i64 r.2] ∧ F_ = [.res (OwnL ei64 3 A_ c_ r.1)]) := by
  unfold m_activation_Order at h
  refine Fun.intro Try.func11 rfl rfl rfl fun w R => ?_
  refine St.seq ?_
  refine St.region ?_
  refine St.box rfl rfl fun gb2 => ?_
  iterate 2 refine St.p rfl rfl ?_
  refine St.done ?_
  refine St.thenN ?_
  refine St.seq ?_
  refine St.seq ?_
  refine St.region ?_
  refine St.loadB 0 rfl rfl (.head _) rfl rfl ?_
  obtain ⟨r1, hr1, h⟩ := bnd_e h
  refine St.callV (c_activation_Valid hr1) ent20 rfl rfl rfl rfl ⟨(.tail _ (.head _)), (.tail _ (.tail _ (.head _))), (.tail _ (.tail _ (.tail _ (.head _)))), trivial⟩ ?_
  refine St.p rfl rfl ?_
  refine St.done ?_
  refine St.thenN ?_
  refine St.seq ?_
  refine St.region ?_
  iterate 2 refine St.p rfl rfl ?_
  refine St.done ?_
  refine St.thenN ?_
  refine St.cond _ rfl (fun hb1 => ?_) (fun hb1 => ?_)
  · replace h := bif_t hb1 h
    refine St.seq ?_
    refine St.region ?_
    iterate 3 refine St.p rfl rfl ?_
    refine St.done ?_
    refine St.thenN ?_
    refine St.ret ?_
    repeat (first | refine St.thenR ?_ | refine St.blkR ?_)
    refine St.asrt (fun _ w => w.nilL ei64 3) ?_
    injection h with h
    subst h
    exact St.finR Try.results11 (.tmp rfl (.tmp rfl .nil)) rfl [.res (OwnL ei64 3 none 0 [])] ⟨none, 0, rfl, rfl⟩ (fun _ w => ((.k (.d (.d (.d (.d .z))))) : Keep _ _).sat w)
  · replace h := bif_f hb1 h
    refine St.skip ?_
    refine St.thenN ?_
    refine St.seq ?_
    refine St.region ?_
    refine St.loadB 0 rfl rfl (.head _) rfl rfl ?_
    obtain ⟨r2, hr2, h⟩ := bnd_e h
    refine St.callV (c_activation_all hr2) ent34 rfl rfl rfl rfl ⟨(.tail _ (.head _)), (.tail _ (.tail _ (.head _))), (.tail _ (.tail _ (.tail _ (.head _)))), trivial⟩ ?_
    refine St.alloc rfl rfl fun gb1 => ?_
    refine St.store 0 rfl rfl rfl rfl rfl rfl .z rfl ?_
    refine St.done ?_
    refine St.thenN ?_
    refine St.seq ?_
    refine St.region ?_
    refine St.makeMap (K := (kint .i64)) (vv := (fun x => .bool x)) rfl fun gm => ?_
    refine St.alloc rfl rfl fun gb3 => ?_
    refine St.store 0 rfl rfl rfl rfl rfl rfl .z rfl ?_
    refine St.done ?_
    refine St.thenN ?_
    refine St.seq ?_
    refine St.region ?_
    refine St.alloc rfl rfl fun gb4 => ?_
    refine St.done ?_
    refine St.thenN ?_
    refine St.seq ?_
    refine St.region ?_
    refine St.p rfl rfl ?_
    refine St.store 0 rfl rfl rfl rfl rfl rfl .z rfl ?_
    refine St.done ?_
    refine St.thenN ?_
    refine St.seq ?_
    refine St.region ?_
    refine St.loadB 0 rfl rfl (.head _) rfl rfl ?_
    obtain ⟨r3, hr3, h⟩ := bnd_e h
    refine St.asrt (fun _ w => w.nilL ei64 3) ?_
    refine St.callC (args := [.int .i64 0, .slice none ([] : List Int).length 0]) (us := [.pointer (some ⟨gb1, 0, none⟩), .pointer (some ⟨gb2, 0, none⟩), .pointer (some ⟨gb3, 0, none⟩), .pointer (some ⟨gb4, 0, none⟩)]) (c_find findFuel (A := none) (c := 0) hr3) ent35 rfl rfl rfl (fun _ w => Sat.dup (G := [.ro (SlL e_Installed A1 c1 p.Now), .ro (SlL e_Installed A2 c2 p.Next), .ro (SlL e_Need A3 c3 p.Needs)]) rfl ⟨(.tail _ (.tail _ (.tail _ (.tail _ (.tail _ (.tail _ (.head _))))))), (.tail _ (.tail _ (.tail _ (.tail _ (.tail _ (.tail _ (.tail _ (.head _)))))))), (.tail _ (.tail _ (.tail _ (.tail _ (.tail _ (.tail _ (.tail _ (.tail _ (.head _))))))))), trivial⟩ ((((((w.front (.s .z)).front (.s (.s .z))).front (.s (.s (.s (.s (.s .z)))))).front (.s (.s (.s (.s (.s .z)))))).front (.s (.s (.s (.s .z))))).front (.s (.s (.s (.s (.s .z))))))) ?_
    rintro _ _ ⟨A5, c5, rfl, rfl⟩
    refine St.asrt (F' := .res (MapB (kint .i64) (fun x => .bool x) gm r3.1) :: (bif r3.2.2 then .res (OwnL ei64 3 A5 c5 r3.2.1) else .res (OwnL ei64 3 none 0 [])) :: .res (Box gb1 3 [.int .i64 r2]) :: .res (Box gb2 29 [.slice A1 p.Now.length c1, .slice A2 p.Next.length c2, .slice A3 p.Needs.length c3]) :: .res (Box gb3 64 [.map (some gm)]) :: .res (Box gb4 65 [.func (.func 35) #[] #[.pointer (some ⟨gb1, 0, none⟩), .pointer (some ⟨gb2, 0, none⟩), .pointer (some ⟨gb3, 0, none⟩), .pointer (some ⟨gb4, 0, none⟩)]]) :: .ro (SlL e_Installed A1 c1 p.Now) :: .ro (SlL e_Installed A2 c2 p.Next) :: .ro (SlL e_Need A3 c3 p.Needs) :: R) (fun _ w => w) ?_
    iterate 5 refine St.p rfl rfl ?_
    refine St.done ?_
    refine St.thenN ?_
    refine St.seq ?_
    refine St.seq ?_
    refine St.region ?_
    iterate 2 refine St.p rfl rfl ?_
    refine St.done ?_
    refine St.thenN ?_
    cases hb2 : r3.2.2
    · rw [hb2] at h
      refine St.condT rfl ?_
      refine St.seq ?_
      refine St.region ?_
      iterate 2 refine St.p rfl rfl ?_
      refine St.done ?_
      refine St.thenN ?_
      refine St.ret ?_
      repeat (first | refine St.thenR ?_ | refine St.blkR ?_)
      refine St.asrt (fun _ w => w.nilL ei64 3) ?_
      injection h with h
      subst h
      exact St.finR Try.results11 (.tmp rfl (.tmp rfl .nil)) rfl [.res (OwnL ei64 3 none 0 [])] ⟨none, 0, rfl, rfl⟩ (fun _ w => ((.k (.d (.d (.d (.d (.d (.d (.d (.d (.d .z)))))))))) : Keep _ _).sat w)
    · rw [hb2] at h
      refine St.condF rfl ?_
      refine St.skip ?_
      refine St.thenN ?_
      refine St.asrt (F' := .res (MapB (kint .i64) (fun x => .bool x) gm r3.1) :: .res (OwnL ei64 3 A5 c5 r3.2.1) :: .res (Box gb1 3 [.int .i64 r2]) :: .res (Box gb2 29 [.slice A1 p.Now.length c1, .slice A2 p.Next.length c2, .slice A3 p.Needs.length c3]) :: .res (Box gb3 64 [.map (some gm)]) :: .res (Box gb4 65 [.func (.func 35) #[] #[.pointer (some ⟨gb1, 0, none⟩), .pointer (some ⟨gb2, 0, none⟩), .pointer (some ⟨gb3, 0, none⟩), .pointer (some ⟨gb4, 0, none⟩)]]) :: .ro (SlL e_Installed A1 c1 p.Now) :: .ro (SlL e_Installed A2 c2 p.Next) :: .ro (SlL e_Need A3 c3 p.Needs) :: R) (fun _ w => w) ?_
      refine St.seq ?_
      refine St.region ?_
      iterate 3 refine St.p rfl rfl ?_
      refine St.done ?_
      refine St.thenN ?_
      refine St.ret ?_
      repeat (first | refine St.thenR ?_ | refine St.blkR ?_)
      injection h with h
      subst h
      exact St.finR Try.results11 (.tmp rfl (.tmp rfl .nil)) rfl [.res (OwnL ei64 3 A5 c5 r3.2.1)] ⟨A5, c5, rfl, rfl⟩ (fun _ w => ((.d (.k (.d (.d (.d (.d (.d (.d (.d .z))))))))) : Keep _ _).sat w)

theorem ent10 : Ent Try.prog 10 := ⟨_, Try.func10, by kernel_rfl, by kernel_rfl⟩

noncomputable def m_law31_awake  : Option Bool :=
  bnd (m_activation_Order (⟨[(⟨⟨#[97]⟩, (⟨1, 0, 0⟩ : T_Version)⟩ : T_Installed), (⟨⟨#[98]⟩, (⟨1, 0, 0⟩ : T_Version)⟩ : T_Installed)], [(⟨⟨#[97]⟩, (⟨2, 0, 0⟩ : T_Version)⟩ : T_Installed), (⟨⟨#[98]⟩, (⟨2, 0, 0⟩ : T_Version)⟩ : T_Installed)], [(⟨⟨#[97]⟩, (⟨2, 0, 0⟩ : T_Version), ⟨#[98]⟩, (⟨2, 0, 0⟩ : T_Version)⟩ : T_Need)]⟩ : T_Plan)) fun r1 => bnd (app 80 ([(⟨⟨#[97]⟩, (⟨2, 0, 0⟩ : T_Version), ⟨#[98]⟩, (⟨2, 0, 0⟩ : T_Version)⟩ : T_Need)]) [(⟨⟨#[98]⟩, (⟨2, 0, 0⟩ : T_Version), ⟨#[97]⟩, (⟨2, 0, 0⟩ : T_Version)⟩ : T_Need)]) fun l1 => bnd (m_activation_Order (⟨[(⟨⟨#[97]⟩, (⟨1, 0, 0⟩ : T_Version)⟩ : T_Installed), (⟨⟨#[98]⟩, (⟨1, 0, 0⟩ : T_Version)⟩ : T_Installed)], [(⟨⟨#[97]⟩, (⟨2, 0, 0⟩ : T_Version)⟩ : T_Installed), (⟨⟨#[98]⟩, (⟨2, 0, 0⟩ : T_Version)⟩ : T_Installed)], l1⟩ : T_Plan)) fun r2 => bnd ((bif (r1.2 == 0) then (bif ((r1.1.length : Int) == 2) then (bnd (elt r1.1 0) fun x1 => bif (x1 == 1) then (bnd (elt r1.1 1) fun x2 => bif (x2 == 0) then (some (r2.2 == 41)) else (some false)) else (some false)) else (some false)) else (some false) : Option Bool)) fun o1 => some o1

theorem c_law31_awake  {r : Bool} (h : m_law31_awake = some r) :
    Fun Try.prog 10 [] [] (Val (.bool r)) := by
  unfold m_law31_awake at h
  refine Fun.intro Try.func10 rfl rfl rfl fun w R => ?_
  refine St.seq ?_
  refine St.region ?_
  refine St.p rfl rfl ?_
  refine St.done ?_
  refine St.thenN ?_
  refine St.prune (Γ' := []) trivial .z ?_
  refine St.seq ?_
  refine St.region ?_
  refine St.p rfl rfl ?_
  refine St.p rfl rfl ?_
  refine St.alloc rfl rfl fun g1 => ?_
  refine St.alloc rfl rfl fun g2 => ?_
  refine St.store 0 rfl rfl rfl rfl rfl rfl (.s .z) rfl ?_
  refine St.store 0 rfl rfl rfl rfl rfl rfl (.s .z) rfl ?_
  refine St.done ?_
  refine St.thenN ?_
  refine St.prune (Γ' := [(1, _), (2, _)]) ⟨rfl, rfl, trivial⟩ (.k (.k .z)) ?_
  refine St.seq ?_
  refine St.region ?_
  refine St.loadB 0 rfl rfl (.tail _ (.head _)) rfl rfl ?_
  refine St.p rfl rfl ?_
  refine St.loadB 0 rfl rfl (.tail _ (.head _)) rfl rfl ?_
  refine St.p rfl rfl ?_
  refine St.buildSlice rfl rfl rfl rfl rfl rfl rfl rfl fun g3 => ?_
  refine St.loadB 0 rfl rfl (.tail _ (.head _)) rfl rfl ?_
  refine St.p rfl rfl ?_
  refine St.loadB 0 rfl rfl (.tail _ (.head _)) rfl rfl ?_
  refine St.p rfl rfl ?_
  refine St.buildSlice rfl rfl rfl rfl rfl rfl rfl rfl fun g4 => ?_
  refine St.loadB 0 rfl rfl (.tail _ (.tail _ (.head _))) rfl rfl ?_
  refine St.loadB 0 rfl rfl (.tail _ (.tail _ (.head _))) rfl rfl ?_
  refine St.p rfl rfl ?_
  refine St.buildSlice rfl rfl rfl rfl rfl rfl rfl rfl fun g5 => ?_
  refine St.p rfl rfl ?_
  refine St.alloc rfl rfl fun g6 => ?_
  refine St.store 0 rfl rfl rfl rfl rfl rfl .z rfl ?_
  refine St.done ?_
  refine St.thenN ?_
  refine St.prune (Γ' := [(2, _), (3, _)]) ⟨rfl, rfl, trivial⟩ (.k (.k (.k (.k (.k (.d .z)))))) ?_
  refine St.seq ?_
  refine St.region ?_
  refine St.loadB 0 rfl rfl (.head _) rfl rfl ?_
  refine St.asrt (fun _ w => (w.front (.s (.s (.s .z)))).litL (E := e_Installed) (e := 31) [(⟨⟨#[97]⟩, (⟨1, 0, 0⟩ : T_Version)⟩ : T_Installed), (⟨⟨#[98]⟩, (⟨1, 0, 0⟩ : T_Version)⟩ : T_Installed)] rfl rfl) ?_
  refine St.asrt (fun _ w => (w.front (.s (.s (.s .z)))).litL (E := e_Installed) (e := 31) [(⟨⟨#[97]⟩, (⟨2, 0, 0⟩ : T_Version)⟩ : T_Installed), (⟨⟨#[98]⟩, (⟨2, 0, 0⟩ : T_Version)⟩ : T_Installed)] rfl rfl) ?_
  refine St.asrt (fun _ w => (w.front (.s (.s (.s .z)))).litL (E := e_Need) (e := 33) [(⟨⟨#[97]⟩, (⟨2, 0, 0⟩ : T_Version), ⟨#[98]⟩, (⟨2, 0, 0⟩ : T_Version)⟩ : T_Need)] rfl rfl) ?_
  obtain ⟨r1, hr1, h⟩ := bnd_e h
  refine St.callL (c_activation_Order hr1) ent11 rfl rfl rfl rfl (Asks.own (.tail _ (.tail _ (.head _))) (Asks.own (.tail _ (.head _)) (Asks.own (.head _) Asks.nil))) (by rintro _ _ ⟨_, _, rfl, rfl⟩; exact ⟨plain_own _ _ _ _ _, True.intro⟩) ?_
  rintro _ _ ⟨A1, c1, rfl, rfl⟩
  refine St.asrt (F' := .res (OwnL ei64 3 A1 c1 r1.1) :: .res (OwnL e_Need 33 (some ⟨g5, 0, none⟩) ([(⟨⟨#[97]⟩, (⟨2, 0, 0⟩ : T_Version), ⟨#[98]⟩, (⟨2, 0, 0⟩ : T_Version)⟩ : T_Need)] : List T_Need).length ([(⟨⟨#[97]⟩, (⟨2, 0, 0⟩ : T_Version), ⟨#[98]⟩, (⟨2, 0, 0⟩ : T_Version)⟩ : T_Need)])) :: .res (OwnL e_Installed 31 (some ⟨g4, 0, none⟩) ([(⟨⟨#[97]⟩, (⟨2, 0, 0⟩ : T_Version)⟩ : T_Installed), (⟨⟨#[98]⟩, (⟨2, 0, 0⟩ : T_Version)⟩ : T_Installed)] : List T_Installed).length ([(⟨⟨#[97]⟩, (⟨2, 0, 0⟩ : T_Version)⟩ : T_Installed), (⟨⟨#[98]⟩, (⟨2, 0, 0⟩ : T_Version)⟩ : T_Installed)])) :: .res (OwnL e_Installed 31 (some ⟨g3, 0, none⟩) ([(⟨⟨#[97]⟩, (⟨1, 0, 0⟩ : T_Version)⟩ : T_Installed), (⟨⟨#[98]⟩, (⟨1, 0, 0⟩ : T_Version)⟩ : T_Installed)] : List T_Installed).length ([(⟨⟨#[97]⟩, (⟨1, 0, 0⟩ : T_Version)⟩ : T_Installed), (⟨⟨#[98]⟩, (⟨1, 0, 0⟩ : T_Version)⟩ : T_Installed)])) :: .res (Box g6 29 [.slice (some ⟨g3, 0, none⟩) ([(⟨⟨#[97]⟩, (⟨1, 0, 0⟩ : T_Version)⟩ : T_Installed), (⟨⟨#[98]⟩, (⟨1, 0, 0⟩ : T_Version)⟩ : T_Installed)]).length ([(⟨⟨#[97]⟩, (⟨1, 0, 0⟩ : T_Version)⟩ : T_Installed), (⟨⟨#[98]⟩, (⟨1, 0, 0⟩ : T_Version)⟩ : T_Installed)] : List T_Installed).length, .slice (some ⟨g4, 0, none⟩) ([(⟨⟨#[97]⟩, (⟨2, 0, 0⟩ : T_Version)⟩ : T_Installed), (⟨⟨#[98]⟩, (⟨2, 0, 0⟩ : T_Version)⟩ : T_Installed)]).length ([(⟨⟨#[97]⟩, (⟨2, 0, 0⟩ : T_Version)⟩ : T_Installed), (⟨⟨#[98]⟩, (⟨2, 0, 0⟩ : T_Version)⟩ : T_Installed)] : List T_Installed).length, .slice (some ⟨g5, 0, none⟩) ([(⟨⟨#[97]⟩, (⟨2, 0, 0⟩ : T_Version), ⟨#[98]⟩, (⟨2, 0, 0⟩ : T_Version)⟩ : T_Need)]).length ([(⟨⟨#[97]⟩, (⟨2, 0, 0⟩ : T_Version), ⟨#[98]⟩, (⟨2, 0, 0⟩ : T_Version)⟩ : T_Need)] : List T_Need).length]) :: .res (Box g2 25 [.int .i64 2, .int .i64 0, .int .i64 0]) :: R) (fun _ w => w) ?_
  iterate 5 refine St.p rfl rfl ?_
  refine St.done ?_
  refine St.thenN ?_
  refine St.prune (Γ' := [(2, _), (3, _), (4, _), (5, _)]) ⟨rfl, rfl, rfl, rfl, trivial⟩ (.k (.k (.k (.k (.k (.k .z)))))) ?_
  refine St.seq ?_
  refine St.region ?_
  refine St.p rfl rfl ?_
  refine St.loadB 2 rfl rfl (.tail _ (.tail _ (.tail _ (.tail _ (.head _))))) rfl rfl ?_
  refine St.loadB 0 rfl rfl (.tail _ (.tail _ (.tail _ (.tail _ (.tail _ (.head _)))))) rfl rfl ?_
  refine St.loadB 0 rfl rfl (.tail _ (.tail _ (.tail _ (.tail _ (.tail _ (.head _)))))) rfl rfl ?_
  refine St.p rfl rfl ?_
  refine St.buildSlice rfl rfl rfl rfl rfl rfl rfl rfl fun g7 => ?_
  obtain ⟨l1, hl1, h⟩ := bnd_e h
  refine St.app (E := e_Need) hl1 rfl rfl rfl (.s (.s .z)) rfl rfl rfl rfl rfl rfl rfl rfl (srcB (.head _) rfl rfl) rfl rfl fun A2 c2 => ?_
  refine St.p rfl rfl ?_
  refine St.store 2 rfl rfl rfl rfl rfl rfl (.s (.s (.s (.s (.s .z))))) rfl ?_
  refine St.done ?_
  refine St.thenN ?_
  refine St.prune (Γ' := [(3, _), (4, _), (5, _)]) ⟨rfl, rfl, rfl, trivial⟩ (.k (.k (.d (.k (.k (.k (.d .z))))))) ?_
  refine St.seq ?_
  refine St.region ?_
  refine St.loadB 0 rfl rfl (.head _) rfl rfl ?_
  refine St.asrt (fun _ w => (w.front (.s (.s (.s (.s .z))))).meltL) ?_
  refine St.asrt (fun _ w => (w.front (.s (.s (.s (.s .z))))).meltL) ?_
  refine St.asrt (fun _ w => (w.front (.s (.s (.s .z)))).meltL) ?_
  obtain ⟨r2, hr2, h⟩ := bnd_e h
  refine St.call (c_activation_Order hr2) ent11 rfl rfl rfl (fun _ w => Sat.dup (G := [.ro (SlL e_Installed (some ⟨g3, 0, none⟩) ([(⟨⟨#[97]⟩, (⟨1, 0, 0⟩ : T_Version)⟩ : T_Installed), (⟨⟨#[98]⟩, (⟨1, 0, 0⟩ : T_Version)⟩ : T_Installed)] : List T_Installed).length ([(⟨⟨#[97]⟩, (⟨1, 0, 0⟩ : T_Version)⟩ : T_Installed), (⟨⟨#[98]⟩, (⟨1, 0, 0⟩ : T_Version)⟩ : T_Installed)])), .ro (SlL e_Installed (some ⟨g4, 0, none⟩) ([(⟨⟨#[97]⟩, (⟨2, 0, 0⟩ : T_Version)⟩ : T_Installed), (⟨⟨#[98]⟩, (⟨2, 0, 0⟩ : T_Version)⟩ : T_Installed)] : List T_Installed).length ([(⟨⟨#[97]⟩, (⟨2, 0, 0⟩ : T_Version)⟩ : T_Installed), (⟨⟨#[98]⟩, (⟨2, 0, 0⟩ : T_Version)⟩ : T_Installed)])), .ro (SlL e_Need A2 c2 l1)]) rfl ⟨(.tail _ (.tail _ (.head _))), (.tail _ (.head _)), (.head _), trivial⟩ w) ?_
  rintro _ _ ⟨A3, c3, rfl, rfl⟩
  refine St.asrt (F' := .res (OwnL ei64 3 A3 c3 r2.1) :: .ro (SlL e_Need A2 c2 l1) :: .ro (SlL e_Installed (some ⟨g4, 0, none⟩) ([(⟨⟨#[97]⟩, (⟨2, 0, 0⟩ : T_Version)⟩ : T_Installed), (⟨⟨#[98]⟩, (⟨2, 0, 0⟩ : T_Version)⟩ : T_Installed)] : List T_Installed).length ([(⟨⟨#[97]⟩, (⟨2, 0, 0⟩ : T_Version)⟩ : T_Installed), (⟨⟨#[98]⟩, (⟨2, 0, 0⟩ : T_Version)⟩ : T_Installed)])) :: .ro (SlL e_Installed (some ⟨g3, 0, none⟩) ([(⟨⟨#[97]⟩, (⟨1, 0, 0⟩ : T_Version)⟩ : T_Installed), (⟨⟨#[98]⟩, (⟨1, 0, 0⟩ : T_Version)⟩ : T_Installed)] : List T_Installed).length ([(⟨⟨#[97]⟩, (⟨1, 0, 0⟩ : T_Version)⟩ : T_Installed), (⟨⟨#[98]⟩, (⟨1, 0, 0⟩ : T_Version)⟩ : T_Installed)])) :: .res (Box g6 29 [.slice (some ⟨g3, 0, none⟩) ([(⟨⟨#[97]⟩, (⟨1, 0, 0⟩ : T_Version)⟩ : T_Installed), (⟨⟨#[98]⟩, (⟨1, 0, 0⟩ : T_Version)⟩ : T_Installed)]).length ([(⟨⟨#[97]⟩, (⟨1, 0, 0⟩ : T_Version)⟩ : T_Installed), (⟨⟨#[98]⟩, (⟨1, 0, 0⟩ : T_Version)⟩ : T_Installed)] : List T_Installed).length, .slice (some ⟨g4, 0, none⟩) ([(⟨⟨#[97]⟩, (⟨2, 0, 0⟩ : T_Version)⟩ : T_Installed), (⟨⟨#[98]⟩, (⟨2, 0, 0⟩ : T_Version)⟩ : T_Installed)]).length ([(⟨⟨#[97]⟩, (⟨2, 0, 0⟩ : T_Version)⟩ : T_Installed), (⟨⟨#[98]⟩, (⟨2, 0, 0⟩ : T_Version)⟩ : T_Installed)] : List T_Installed).length, .slice A2 l1.length c2]) :: .res (OwnL ei64 3 A1 c1 r1.1) :: R) (fun _ w => w) ?_
  iterate 5 refine St.p rfl rfl ?_
  refine St.done ?_
  refine St.thenN ?_
  refine St.prune (Γ' := [(4, _), (5, _), (7, _)]) ⟨rfl, rfl, rfl, trivial⟩ (.d (.d (.d (.d (.d (.k .z)))))) ?_
  refine St.seq ?_
  obtain ⟨o1, hj1, h⟩ := bnd_e h
  refine St.cutE (fun (e1 : Unit) => [(0, .bool o1)]) (fun e1 => R) ?_ ?_
  · refine St.region ?_
    iterate 3 refine St.p rfl rfl ?_
    refine St.gSplit (dj := 45) _ rfl (fun hb1 => ?_) (fun hb1 => ?_)
    · replace hj1 := bif_t hb1 hj1
      refine St.gOn (dj := 45) rfl rfl ?_
      refine St.p rfl rfl ?_
      refine St.gOn (dj := 45) rfl rfl ?_
      refine St.p rfl rfl ?_
      refine St.gOn (dj := 45) rfl rfl ?_
      iterate 3 refine St.p rfl rfl ?_
      refine St.gSplit (dj := 50) _ rfl (fun hb2 => ?_) (fun hb2 => ?_)
      · replace hj1 := bif_t hb2 hj1
        refine St.gOn (dj := 50) rfl rfl ?_
        refine St.p rfl rfl ?_
        refine St.gOn (dj := 50) rfl rfl ?_
        obtain ⟨x1, hx1, hj1⟩ := bnd_e hj1
        refine St.ixO hx1 rfl rfl rfl (.head _) rfl rfl rfl rfl rfl fun g8 hA => ?_
        subst hA
        refine St.gOn (dj := 50) rfl rfl ?_
        refine St.ldO 0 hx1 rfl rfl (.head _) rfl rfl ?_
        refine St.gOn (dj := 50) rfl rfl ?_
        iterate 3 refine St.p rfl rfl ?_
        refine St.gSplit (dj := 56) _ rfl (fun hb3 => ?_) (fun hb3 => ?_)
        · replace hj1 := bif_t hb3 hj1
          refine St.gOn (dj := 56) rfl rfl ?_
          refine St.p rfl rfl ?_
          refine St.gOn (dj := 56) rfl rfl ?_
          obtain ⟨x2, hx2, hj1⟩ := bnd_e hj1
          refine St.ixO hx2 rfl rfl rfl (.head _) rfl rfl rfl rfl rfl fun g9 hA => ?_
          cases hA
          refine St.gOn (dj := 56) rfl rfl ?_
          refine St.ldO 0 hx2 rfl rfl (.head _) rfl rfl ?_
          refine St.gOn (dj := 56) rfl rfl ?_
          iterate 3 refine St.p rfl rfl ?_
          refine St.gSplit (dj := 62) _ rfl (fun hb4 => ?_) (fun hb4 => ?_)
          · replace hj1 := bif_t hb4 hj1
            refine St.gOn (dj := 62) rfl rfl ?_
            refine St.p rfl rfl ?_
            refine St.gOn (dj := 62) rfl rfl ?_
            iterate 3 refine St.p rfl rfl ?_
            refine St.done ?_
            injection hj1 with hj1
            subst hj1
            refine St.thenN ?_
            exact St.hereE () ⟨rfl, trivial⟩ (fun _ w => ((.d .z) : Keep _ _).sat w)
          · replace hj1 := bif_f hb4 hj1
            refine St.gOff (dj := 62) rfl rfl rfl rfl ?_
            refine St.gOff (dj := 62) rfl rfl rfl rfl ?_
            refine St.p rfl rfl ?_
            refine St.p rfl rfl ?_
            refine St.done ?_
            injection hj1 with hj1
            subst hj1
            refine St.thenN ?_
            exact St.hereE () ⟨rfl, trivial⟩ (fun _ w => ((.d .z) : Keep _ _).sat w)
        · replace hj1 := bif_f hb3 hj1
          refine St.gOff (dj := 56) rfl rfl rfl rfl ?_
          refine St.gOff (dj := 56) rfl rfl rfl rfl ?_
          refine St.gOff (dj := 56) rfl rfl rfl rfl ?_
          refine St.gOff (dj := 56) rfl rfl rfl rfl ?_
          refine St.p rfl rfl ?_
          refine St.p rfl rfl ?_
          refine St.gOff (dj := 62) rfl rfl rfl rfl ?_
          refine St.gOff (dj := 62) rfl rfl rfl rfl ?_
          refine St.p rfl rfl ?_
          refine St.p rfl rfl ?_
          refine St.done ?_
          injection hj1 with hj1
          subst hj1
          refine St.thenN ?_
          exact St.hereE () ⟨rfl, trivial⟩ (fun _ w => ((.d .z) : Keep _ _).sat w)
      · replace hj1 := bif_f hb2 hj1
        refine St.gOff (dj := 50) rfl rfl rfl rfl ?_
        refine St.gOff (dj := 50) rfl rfl rfl rfl ?_
        refine St.gOff (dj := 50) rfl rfl rfl rfl ?_
        refine St.gOff (dj := 50) rfl rfl rfl rfl ?_
        refine St.p rfl rfl ?_
        refine St.p rfl rfl ?_
        refine St.gOff (dj := 56) rfl rfl rfl rfl ?_
        refine St.gOff (dj := 56) rfl rfl rfl rfl ?_
        refine St.gOff (dj := 56) rfl rfl rfl rfl ?_
        refine St.gOff (dj := 56) rfl rfl rfl rfl ?_
        refine St.p rfl rfl ?_
        refine St.p rfl rfl ?_
        refine St.gOff (dj := 62) rfl rfl rfl rfl ?_
        refine St.gOff (dj := 62) rfl rfl rfl rfl ?_
        refine St.p rfl rfl ?_
        refine St.p rfl rfl ?_
        refine St.done ?_
        injection hj1 with hj1
        subst hj1
        refine St.thenN ?_
        exact St.hereE () ⟨rfl, trivial⟩ (fun _ w => ((.d .z) : Keep _ _).sat w)
    · replace hj1 := bif_f hb1 hj1
      refine St.gOff (dj := 45) rfl rfl rfl rfl ?_
      refine St.gOff (dj := 45) rfl rfl rfl rfl ?_
      refine St.gOff (dj := 45) rfl rfl rfl rfl ?_
      refine St.p rfl rfl ?_
      refine St.p rfl rfl ?_
      refine St.gOff (dj := 50) rfl rfl rfl rfl ?_
      refine St.gOff (dj := 50) rfl rfl rfl rfl ?_
      refine St.gOff (dj := 50) rfl rfl rfl rfl ?_
      refine St.gOff (dj := 50) rfl rfl rfl rfl ?_
      refine St.p rfl rfl ?_
      refine St.p rfl rfl ?_
      refine St.gOff (dj := 56) rfl rfl rfl rfl ?_
      refine St.gOff (dj := 56) rfl rfl rfl rfl ?_
      refine St.gOff (dj := 56) rfl rfl rfl rfl ?_
      refine St.gOff (dj := 56) rfl rfl rfl rfl ?_
      refine St.p rfl rfl ?_
      refine St.p rfl rfl ?_
      refine St.gOff (dj := 62) rfl rfl rfl rfl ?_
      refine St.gOff (dj := 62) rfl rfl rfl rfl ?_
      refine St.p rfl rfl ?_
      refine St.p rfl rfl ?_
      refine St.done ?_
      injection hj1 with hj1
      subst hj1
      refine St.thenN ?_
      exact St.hereE () ⟨rfl, trivial⟩ (fun _ w => ((.d .z) : Keep _ _).sat w)
  · rintro e1
    refine St.ret ?_
    repeat (first | refine St.thenR ?_ | refine St.blkR ?_)
    injection h with h
    subst h
    exact St.finR Try.results10 (.tmp rfl .nil) rfl [] ⟨rfl, rfl⟩ (fun _ w => (.z : Keep _ _).sat w)

theorem ent12 : Ent Try.prog 12 := ⟨_, Try.func12, by kernel_rfl, by kernel_rfl⟩

noncomputable def m_activation_Stuck (p_p0 : T_Plan) (sets : (List Int)) : Option Bool :=
  bnd ((bnd (m_activation_Valid p_p0) fun r1 => bif (r1 != 0) then (some true) else (bif ((sets.length : Int) == 0) then (some true) else (bnd (elt sets 0) fun x1 => some (x1 != 0))) : Option Bool)) fun o1 => bif o1 then (some false) else (bnd (m_activation_all p_p0) fun r2 => bnd (loopM (τ := Bool ⊕ ((List (Int × Bool)))) (fun (s1 : Int × (List (Int × Bool))) => bif decide (s1.1 < (sets.length : Int)) then (bnd (elt sets s1.1) fun x2 => bnd ((bif decide (x2 < 0) then (some true) else (bif ((iAndNot .i64 x2 r2) != 0) then (some true) else (bif decide (s1.1 > 0) then (bnd (elt sets (IntKind.wrap .i64 (s1.1 - 1))) fun x3 => some (decide (x2 ≤ x3))) else (some false))) : Option Bool)) fun o4 => bif o4 then (some (.done (.inl false))) else (some (.next (IntKind.wrap .i64 (s1.1 + 1), mset (kint .i64).eq s1.2 x2 true)))) else (some (.done (.inr s1.2)))) (0, [])) fun o2 => retOr o2 fun o3 => bif (mget (kint .i64).eq o3 r2).getD false then (some false) else (bnd (loopM (τ := Bool ⊕ Unit) (fun (s2 : Int) => bif decide (s2 < (sets.length : Int)) then (bnd (elt sets s2) fun x4 => bnd (loopM (τ := Bool ⊕ Unit) (fun (s3 : Int) => bif decide (s3 < (p_p0.Now.length : Int)) then (bnd (shlM .i64 1 s3) fun q1 => bnd ((bnd (shrM .i64 r2 s3) fun q2 => bif ((iAnd .i64 q2 1) == 1) then (bif !((mget (kint .i64).eq o3 (iOr .i64 x4 q1)).getD false) then (bnd (m_activation_good p_p0 (iOr .i64 x4 q1)) fun r3 => some r3) else (some false)) else (some false) : Option Bool)) fun o9 => bif o9 then (some (.done (.inl false))) else (some (.next (IntKind.wrap .i64 (s3 + 1))))) else (some (.done (.inr ())))) 0) fun o7 => retOrW (fun r_ => (.done (.inl r_))) o7 fun o8 => some (.next (IntKind.wrap .i64 (s2 + 1)))) else (some (.done (.inr ())))) 0) fun o5 => retOr o5 fun o6 => some true))

end Go.Proofs.Yteaoblglgcpdnaa
