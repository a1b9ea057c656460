/-
  Models of functions of the program, and that the functions compute them.
  Conditions: none.
-/
import Derived.Test.YtcjhemblnemhfaaTypes
import Derived.Test.YtcjhemblnemhfaaCoreN
namespace Go.Proofs.Ytcjhemblnemhfaa
open Go
set_option linter.unusedVariables false

structure T_Version where
  Major : Int
  Minor : Int
  Patch : Int

structure T_Image where
  Name : ByteArray
  Version : T_Version
  Data : (List Int)

structure Arr2 (α : Type) where
  e0 : α
  e1 : α

def Arr2.set {α : Type} (a : Arr2 α) (q : Int) (y : α) : Option (Arr2 α) := match setE [a.e0, a.e1] q y with | some [x0, x1] => some ⟨x0, x1⟩ | _ => none

theorem Arr2.set_e {α : Type} {a b : Arr2 α} {q : Int} {y : α} (h : a.set q y = some b) : setE [a.e0, a.e1] q y = some [b.e0, b.e1] := by
  unfold Arr2.set at h
  split at h
  · rename_i hs; injection h with h; subst h; exact hs
  · cases h

theorem pairs2 {α β : Type} {l : List (α × β)} {a0 a1 : α} (h : l.map (·.1) = [a0, a1]) : ∃ x0 x1, l = [(a0, x0), (a1, x1)] := by
  match l, h with
  | [(_, x0), (_, x1)], h => simp at h; obtain ⟨rfl, rfl⟩ := h; exact ⟨x0, x1, rfl⟩

structure T_Slot where
  Image : T_Image
  Sum : Int

structure T_Device where
  Name : ByteArray
  Slots : (Arr2 T_Slot)
  Active : Int
  Running : Int
  Trial : Bool

structure Arr3 (α : Type) where
  e0 : α
  e1 : α
  e2 : α

def Arr3.set {α : Type} (a : Arr3 α) (q : Int) (y : α) : Option (Arr3 α) := match setE [a.e0, a.e1, a.e2] q y with | some [x0, x1, x2] => some ⟨x0, x1, x2⟩ | _ => none

theorem Arr3.set_e {α : Type} {a b : Arr3 α} {q : Int} {y : α} (h : a.set q y = some b) : setE [a.e0, a.e1, a.e2] q y = some [b.e0, b.e1, b.e2] := by
  unfold Arr3.set at h
  split at h
  · rename_i hs; injection h with h; subst h; exact hs
  · cases h

theorem pairs3 {α β : Type} {l : List (α × β)} {a0 a1 a2 : α} (h : l.map (·.1) = [a0, a1, a2]) : ∃ x0 x1 x2, l = [(a0, x0), (a1, x1), (a2, x2)] := by
  match l, h with
  | [(_, x0), (_, x1), (_, x2)], h => simp at h; obtain ⟨rfl, rfl, rfl⟩ := h; exact ⟨x0, x1, x2, rfl⟩

abbrev bx_T_Image (x : T_Image) (A1 : Option Addr) (c1 : Nat) : List Value := [.string x.Name, .int .i64 x.Version.Major, .int .i64 x.Version.Minor, .int .i64 x.Version.Patch, .slice A1 x.Data.length c1]

abbrev bx_T_Device (x : T_Device) (A1 : Option Addr) (c1 : Nat) (A2 : Option Addr) (c2 : Nat) : List Value := [.string x.Name, .string x.Slots.e0.Image.Name, .int .i64 x.Slots.e0.Image.Version.Major, .int .i64 x.Slots.e0.Image.Version.Minor, .int .i64 x.Slots.e0.Image.Version.Patch, .slice A1 x.Slots.e0.Image.Data.length c1, .int .u32 x.Slots.e0.Sum, .string x.Slots.e1.Image.Name, .int .i64 x.Slots.e1.Image.Version.Major, .int .i64 x.Slots.e1.Image.Version.Minor, .int .i64 x.Slots.e1.Image.Version.Patch, .slice A2 x.Slots.e1.Image.Data.length c2, .int .u32 x.Slots.e1.Sum, .int .i64 x.Active, .int .i64 x.Running, .bool x.Trial]

def l_T_Slot : List (LC T_Slot) := [.v (fun x => .string x.Image.Name) (fun _ => rfl), .v (fun x => .int .i64 x.Image.Version.Major) (fun _ => rfl), .v (fun x => .int .i64 x.Image.Version.Minor) (fun _ => rfl), .v (fun x => .int .i64 x.Image.Version.Patch) (fun _ => rfl), .s (cod eu8) (fun x => x.Image.Data), .v (fun x => .int .u32 x.Sum) (fun _ => rfl)]

abbrev bx_T_Slot (x : T_Slot) (A1 : Option Addr) (c1 : Nat) : List Value := [.string x.Image.Name, .int .i64 x.Image.Version.Major, .int .i64 x.Image.Version.Minor, .int .i64 x.Image.Version.Patch, .slice A1 x.Image.Data.length c1, .int .u32 x.Sum]

structure T_Codes where
  L : (List Int)
  At : Int

def l_sl_u8 : List (LC (List Int)) := [.s (cod eu8) (fun x => x)]

def l_u8 : List (LC Int) := [.v (fun x => .int .u8 x) (fun _ => rfl)]

def l_u32 : List (LC Int) := [.v (fun x => .int .u32 x) (fun _ => rfl)]

def l_T_Device : List (LC T_Device) := [.v (fun x => .string x.Name) (fun _ => rfl), .v (fun x => .string x.Slots.e0.Image.Name) (fun _ => rfl), .v (fun x => .int .i64 x.Slots.e0.Image.Version.Major) (fun _ => rfl), .v (fun x => .int .i64 x.Slots.e0.Image.Version.Minor) (fun _ => rfl), .v (fun x => .int .i64 x.Slots.e0.Image.Version.Patch) (fun _ => rfl), .s (cod eu8) (fun x => x.Slots.e0.Image.Data), .v (fun x => .int .u32 x.Slots.e0.Sum) (fun _ => rfl), .v (fun x => .string x.Slots.e1.Image.Name) (fun _ => rfl), .v (fun x => .int .i64 x.Slots.e1.Image.Version.Major) (fun _ => rfl), .v (fun x => .int .i64 x.Slots.e1.Image.Version.Minor) (fun _ => rfl), .v (fun x => .int .i64 x.Slots.e1.Image.Version.Patch) (fun _ => rfl), .s (cod eu8) (fun x => x.Slots.e1.Image.Data), .v (fun x => .int .u32 x.Slots.e1.Sum) (fun _ => rfl), .v (fun x => .int .i64 x.Active) (fun _ => rfl), .v (fun x => .int .i64 x.Running) (fun _ => rfl), .v (fun x => .bool x.Trial) (fun _ => rfl)]

def l_str : List (LC ByteArray) := [.v (fun x => .string x) (fun _ => rfl)]

def l_a2_T_Slot : List (LC (Arr2 T_Slot)) := [.v (fun x => .string x.e0.Image.Name) (fun _ => rfl), .v (fun x => .int .i64 x.e0.Image.Version.Major) (fun _ => rfl), .v (fun x => .int .i64 x.e0.Image.Version.Minor) (fun _ => rfl), .v (fun x => .int .i64 x.e0.Image.Version.Patch) (fun _ => rfl), .s (cod eu8) (fun x => x.e0.Image.Data), .v (fun x => .int .u32 x.e0.Sum) (fun _ => rfl), .v (fun x => .string x.e1.Image.Name) (fun _ => rfl), .v (fun x => .int .i64 x.e1.Image.Version.Major) (fun _ => rfl), .v (fun x => .int .i64 x.e1.Image.Version.Minor) (fun _ => rfl), .v (fun x => .int .i64 x.e1.Image.Version.Patch) (fun _ => rfl), .s (cod eu8) (fun x => x.e1.Image.Data), .v (fun x => .int .u32 x.e1.Sum) (fun _ => rfl)]

def l_T_Image : List (LC T_Image) := [.v (fun x => .string x.Name) (fun _ => rfl), .v (fun x => .int .i64 x.Version.Major) (fun _ => rfl), .v (fun x => .int .i64 x.Version.Minor) (fun _ => rfl), .v (fun x => .int .i64 x.Version.Patch) (fun _ => rfl), .s (cod eu8) (fun x => x.Data)]

def l_T_Version : List (LC T_Version) := [.v (fun x => .int .i64 x.Major) (fun _ => rfl), .v (fun x => .int .i64 x.Minor) (fun _ => rfl), .v (fun x => .int .i64 x.Patch) (fun _ => rfl)]

def l_i64 : List (LC Int) := [.v (fun x => .int .i64 x) (fun _ => rfl)]

def ok_T_Version (x : T_Version) : Prop := (inK .i64) x.Major ∧ (inK .i64) x.Minor ∧ (inK .i64) x.Patch

def ok_T_Image (x : T_Image) : Prop := okS x.Name ∧ ok_T_Version x.Version ∧ (okL (inK .u8)) x.Data

def ok_T_Slot (x : T_Slot) : Prop := ok_T_Image x.Image ∧ (inK .u32) x.Sum

def ok_a2_T_Slot (x : (Arr2 T_Slot)) : Prop := ok_T_Slot x.e0 ∧ ok_T_Slot x.e1

def l_bool : List (LC Bool) := [.v (fun x => .bool x) (fun _ => rfl)]

def ok_T_Device (x : T_Device) : Prop := okS x.Name ∧ ok_a2_T_Slot x.Slots ∧ (inK .i64) x.Active ∧ (inK .i64) x.Running ∧ okB x.Trial

theorem ent65 : Ent Try.prog 65 := ⟨_, Try.func65, by kernel_rfl, by kernel_rfl⟩

noncomputable def m_version_Name (s_p0 : ByteArray) : Option Bool :=
  bnd ((bif decide ((s_p0.size : Int) < 1) then (some true) else (some (decide ((s_p0.size : Int) > 16))) : Option Bool)) fun o1 => bif o1 then (some false) else (bnd (loopM (τ := Bool ⊕ Unit) (fun (s1 : Int) => bif decide (s1 < (s_p0.size : Int)) then (bnd ((bnd (eltS s_p0 s1) fun y1 => bif decide (y1 ≥ 97) then (some (decide (y1 ≤ 122))) else (some false) : Option Bool)) fun o4 => bnd ((bnd (eltS s_p0 s1) fun y2 => bif decide (y2 ≥ 48) then (bif decide (y2 ≤ 57) then (some true) else (some (y2 == 45))) else (some (y2 == 45)) : Option Bool)) fun o5 => bnd ((bif !o4 then (bif (s1 == 0) then (some true) else (some (!o5))) else (some false) : Option Bool)) fun o6 => bif o6 then (some (.done (.inl false))) else (some (.next (IntKind.wrap .i64 (s1 + 1))))) else (some (.done (.inr ())))) 0) fun o2 => retOr o2 fun o3 => some true)

set_option maxHeartbeats 4000000 in
theorem c_version_Name {s_p0 : ByteArray} {r : Bool} (h : m_version_Name s_p0 = some r) :
    Fun Try.prog 65 [.string s_p0] [] (Val (.bool r)) := by
  unfold m_version_Name at h
  refine Fun.intro Try.func65 rfl rfl rfl fun w R => ?_
  refine St.seq ?_
  refine St.region ?_
  refine St.p rfl rfl ?_
  refine St.done ?_
  refine St.thenN ?_
  refine St.prune (Γ' := [(0, _)]) ⟨rfl, trivial⟩ .z ?_
  refine St.seq ?_
  refine St.seq ?_
  obtain ⟨o1, hj1, h⟩ := bnd_e h
  refine St.cutE (fun (e1 : Unit) => [(0, .string s_p0), (13, .bool o1)]) (fun e1 => R) ?_ ?_
  · refine St.region ?_
    iterate 4 refine St.p rfl rfl ?_
    refine St.gSplit (dj := 9) _ rfl (fun hb1 => ?_) (fun hb1 => ?_)
    · replace hj1 := bif_t hb1 hj1
      refine St.gOff (dj := 9) rfl rfl rfl rfl ?_
      refine St.gOff (dj := 9) rfl rfl rfl rfl ?_
      refine St.gOff (dj := 9) rfl rfl rfl rfl ?_
      refine St.p rfl rfl ?_
      refine St.done ?_
      injection hj1 with hj1
      subst hj1
      refine St.thenN ?_
      exact St.hereE () ⟨rfl, rfl, trivial⟩ (fun _ w => (.z : Keep _ _).sat w)
    · replace hj1 := bif_f hb1 hj1
      refine St.gOn (dj := 9) rfl rfl ?_
      refine St.p rfl rfl ?_
      refine St.gOn (dj := 9) rfl rfl ?_
      refine St.p rfl rfl ?_
      refine St.gOn (dj := 9) rfl rfl ?_
      refine St.p rfl rfl ?_
      refine St.p rfl rfl ?_
      refine St.done ?_
      injection hj1 with hj1
      subst hj1
      refine St.thenN ?_
      exact St.hereE () ⟨rfl, rfl, trivial⟩ (fun _ w => (.z : Keep _ _).sat w)
  · rintro e1
    refine St.cond _ rfl (fun hb2 => ?_) (fun hb2 => ?_)
    · replace h := bif_t hb2 h
      refine St.seq ?_
      refine St.region ?_
      refine St.p rfl rfl ?_
      refine St.done ?_
      refine St.thenN ?_
      refine St.prune (Γ' := [(2, _)]) ⟨rfl, trivial⟩ .z ?_
      refine St.ret ?_
      repeat (first | refine St.thenR ?_ | refine St.blkR ?_)
      injection h with h
      subst h
      exact St.finR Try.results65 (.tmp rfl .nil) rfl [] ⟨rfl, rfl⟩ (fun _ w => (.z : Keep _ _).sat w)
    · replace h := bif_f hb2 h
      refine St.skip ?_
      refine St.thenN ?_
      refine St.prune (Γ' := [(0, _)]) ⟨rfl, trivial⟩ .z ?_
      refine St.seq ?_
      refine St.seq ?_
      refine St.region ?_
      refine St.p rfl rfl ?_
      refine St.done ?_
      refine St.thenN ?_
      obtain ⟨o2, hl1, h⟩ := bnd_e h
      refine St.cutI (fun (o3 : Unit) (e3 : Unit) => []) (fun o3 e3 => R) (fun o3 => o2 = .inr o3) ?_ ?_
      · refine St.block ?_
        refine St.loop hl1 (fun (s1 : Int) (e2 : Unit) => [(0, .string s_p0), (3, .int .i64 s1)]) (fun s1 e2 => R) (fun _ _ => True) () trivial ⟨rfl, rfl, trivial⟩ (fun _ w => (.z : Keep _ _).sat w) ?_
        rintro s1 e2 - hit1
        obtain ⟨st1, hm1, hd1⟩ := iter_e hit1
        have h1 := hm1
        refine St.seq ?_
        refine St.seq ?_
        refine St.region ?_
        iterate 4 refine St.p rfl rfl ?_
        refine St.done ?_
        refine St.thenN ?_
        refine St.prune (Γ' := [(0, _), (3, _), (17, _)]) ⟨rfl, rfl, rfl, trivial⟩ .z ?_
        refine St.cond _ rfl (fun hb3 => ?_) (fun hb3 => ?_)
        · replace h1 := bif_t hb3 h1
          refine St.skip ?_
          refine St.thenN ?_
          refine St.prune (Γ' := [(0, _), (3, _)]) ⟨rfl, rfl, trivial⟩ .z ?_
          refine St.seq ?_
          refine St.block ?_
          refine St.seq ?_
          obtain ⟨o4, hj2, h1⟩ := bnd_e h1
          refine St.cutE (fun (e4 : Unit) => [(0, .string s_p0), (3, .int .i64 s1), (4, .bool o4)]) (fun e4 => R) ?_ ?_
          · refine St.region ?_
            refine St.p rfl rfl ?_
            refine St.p rfl rfl ?_
            obtain ⟨y1, hy1, hj2⟩ := bnd_e hj2
            refine St.eltS rfl rfl rfl rfl rfl hy1 ?_
            refine St.p rfl rfl ?_
            refine St.p rfl rfl ?_
            refine St.gSplit (dj := 24) _ rfl (fun hb4 => ?_) (fun hb4 => ?_)
            · replace hj2 := bif_t hb4 hj2
              refine St.gOn (dj := 24) rfl rfl ?_
              refine St.p rfl rfl ?_
              refine St.gOn (dj := 24) rfl rfl ?_
              refine St.p rfl rfl ?_
              refine St.gOn (dj := 24) rfl rfl ?_
              refine St.eltS rfl rfl rfl rfl rfl hy1 ?_
              refine St.gOn (dj := 24) rfl rfl ?_
              iterate 3 refine St.p rfl rfl ?_
              refine St.done ?_
              injection hj2 with hj2
              subst hj2
              refine St.thenN ?_
              exact St.hereE () ⟨rfl, rfl, rfl, trivial⟩ (fun _ w => (.z : Keep _ _).sat w)
            · replace hj2 := bif_f hb4 hj2
              refine St.gOff (dj := 24) rfl rfl rfl rfl ?_
              refine St.gOff (dj := 24) rfl rfl rfl rfl ?_
              refine St.gOff (dj := 24) rfl rfl rfl rfl ?_
              refine St.gOff (dj := 24) rfl rfl rfl rfl ?_
              refine St.p rfl rfl ?_
              refine St.p rfl rfl ?_
              refine St.done ?_
              injection hj2 with hj2
              subst hj2
              refine St.thenN ?_
              exact St.hereE () ⟨rfl, rfl, rfl, trivial⟩ (fun _ w => (.z : Keep _ _).sat w)
          · rintro e4
            refine St.seq ?_
            obtain ⟨o5, hj3, h1⟩ := bnd_e h1
            refine St.cutE (fun (e5 : Unit) => [(0, .string s_p0), (3, .int .i64 s1), (4, .bool o4), (5, .bool o5)]) (fun e5 => R) ?_ ?_
            · refine St.region ?_
              refine St.p rfl rfl ?_
              refine St.p rfl rfl ?_
              obtain ⟨y2, hy2, hj3⟩ := bnd_e hj3
              refine St.eltS rfl rfl rfl rfl rfl hy2 ?_
              refine St.p rfl rfl ?_
              refine St.p rfl rfl ?_
              refine St.gSplit (dj := 34) _ rfl (fun hb5 => ?_) (fun hb5 => ?_)
              · replace hj3 := bif_t hb5 hj3
                refine St.gOn (dj := 34) rfl rfl ?_
                refine St.p rfl rfl ?_
                refine St.gOn (dj := 34) rfl rfl ?_
                refine St.p rfl rfl ?_
                refine St.gOn (dj := 34) rfl rfl ?_
                refine St.eltS rfl rfl rfl rfl rfl hy2 ?_
                refine St.gOn (dj := 34) rfl rfl ?_
                iterate 3 refine St.p rfl rfl ?_
                refine St.gSplit (dj := 40) _ rfl (fun hb6 => ?_) (fun hb6 => ?_)
                · replace hj3 := bif_t hb6 hj3
                  refine St.gOff (dj := 40) rfl rfl rfl rfl ?_
                  refine St.gOff (dj := 40) rfl rfl rfl rfl ?_
                  refine St.gOff (dj := 40) rfl rfl rfl rfl ?_
                  refine St.gOff (dj := 40) rfl rfl rfl rfl ?_
                  refine St.p rfl rfl ?_
                  refine St.p rfl rfl ?_
                  refine St.done ?_
                  injection hj3 with hj3
                  subst hj3
                  refine St.thenN ?_
                  exact St.hereE () ⟨rfl, rfl, rfl, rfl, trivial⟩ (fun _ w => (.z : Keep _ _).sat w)
                · replace hj3 := bif_f hb6 hj3
                  refine St.gOn (dj := 40) rfl rfl ?_
                  refine St.p rfl rfl ?_
                  refine St.gOn (dj := 40) rfl rfl ?_
                  refine St.p rfl rfl ?_
                  refine St.gOn (dj := 40) rfl rfl ?_
                  refine St.eltS rfl rfl rfl rfl rfl hy2 ?_
                  refine St.gOn (dj := 40) rfl rfl ?_
                  iterate 3 refine St.p rfl rfl ?_
                  refine St.done ?_
                  injection hj3 with hj3
                  subst hj3
                  refine St.thenN ?_
                  exact St.hereE () ⟨rfl, rfl, rfl, rfl, trivial⟩ (fun _ w => (.z : Keep _ _).sat w)
              · replace hj3 := bif_f hb5 hj3
                refine St.gOff (dj := 34) rfl rfl rfl rfl ?_
                refine St.gOff (dj := 34) rfl rfl rfl rfl ?_
                refine St.gOff (dj := 34) rfl rfl rfl rfl ?_
                refine St.gOff (dj := 34) rfl rfl rfl rfl ?_
                refine St.p rfl rfl ?_
                refine St.p rfl rfl ?_
                refine St.gOn (dj := 40) rfl rfl ?_
                refine St.p rfl rfl ?_
                refine St.gOn (dj := 40) rfl rfl ?_
                refine St.p rfl rfl ?_
                refine St.gOn (dj := 40) rfl rfl ?_
                refine St.eltS rfl rfl rfl rfl rfl hy2 ?_
                refine St.gOn (dj := 40) rfl rfl ?_
                iterate 3 refine St.p rfl rfl ?_
                refine St.done ?_
                injection hj3 with hj3
                subst hj3
                refine St.thenN ?_
                exact St.hereE () ⟨rfl, rfl, rfl, rfl, trivial⟩ (fun _ w => (.z : Keep _ _).sat w)
            · rintro e5
              refine St.seq ?_
              obtain ⟨o6, hj4, h1⟩ := bnd_e h1
              refine St.cutE (fun (e6 : Unit) => [(0, .string s_p0), (3, .int .i64 s1), (55, .bool o6)]) (fun e6 => R) ?_ ?_
              · refine St.region ?_
                iterate 3 refine St.p rfl rfl ?_
                refine St.gSplit (dj := 48) _ rfl (fun hb7 => ?_) (fun hb7 => ?_)
                · replace hj4 := bif_t hb7 hj4
                  refine St.gOn (dj := 48) rfl rfl ?_
                  refine St.p rfl rfl ?_
                  refine St.gOn (dj := 48) rfl rfl ?_
                  refine St.p rfl rfl ?_
                  refine St.gOn (dj := 48) rfl rfl ?_
                  refine St.p rfl rfl ?_
                  refine St.gSplit (dj := 51) _ rfl (fun hb8 => ?_) (fun hb8 => ?_)
                  · replace hj4 := bif_t hb8 hj4
                    refine St.gOff (dj := 51) rfl rfl rfl rfl ?_
                    refine St.gOff (dj := 51) rfl rfl rfl rfl ?_
                    refine St.gOn (dj := 48) rfl rfl ?_
                    refine St.p rfl rfl ?_
                    refine St.p rfl rfl ?_
                    refine St.done ?_
                    injection hj4 with hj4
                    subst hj4
                    refine St.thenN ?_
                    exact St.hereE () ⟨rfl, rfl, rfl, trivial⟩ (fun _ w => (.z : Keep _ _).sat w)
                  · replace hj4 := bif_f hb8 hj4
                    refine St.gOn (dj := 51) rfl rfl ?_
                    refine St.p rfl rfl ?_
                    refine St.gOn (dj := 51) rfl rfl ?_
                    refine St.p rfl rfl ?_
                    refine St.gOn (dj := 48) rfl rfl ?_
                    refine St.p rfl rfl ?_
                    refine St.p rfl rfl ?_
                    refine St.done ?_
                    injection hj4 with hj4
                    subst hj4
                    refine St.thenN ?_
                    exact St.hereE () ⟨rfl, rfl, rfl, trivial⟩ (fun _ w => (.z : Keep _ _).sat w)
                · replace hj4 := bif_f hb7 hj4
                  refine St.gOff (dj := 48) rfl rfl rfl rfl ?_
                  refine St.gOff (dj := 48) rfl rfl rfl rfl ?_
                  refine St.gOff (dj := 48) rfl rfl rfl rfl ?_
                  refine St.gOff (dj := 51) rfl rfl rfl rfl ?_
                  refine St.gOff (dj := 51) rfl rfl rfl rfl ?_
                  refine St.gOff (dj := 48) rfl rfl rfl rfl ?_
                  refine St.p rfl rfl ?_
                  refine St.done ?_
                  injection hj4 with hj4
                  subst hj4
                  refine St.thenN ?_
                  exact St.hereE () ⟨rfl, rfl, rfl, trivial⟩ (fun _ w => (.z : Keep _ _).sat w)
              · rintro e6
                refine St.cond _ rfl (fun hb9 => ?_) (fun hb9 => ?_)
                · replace h1 := bif_t hb9 h1
                  refine St.seq ?_
                  refine St.region ?_
                  refine St.p rfl rfl ?_
                  refine St.done ?_
                  refine St.thenN ?_
                  refine St.prune (Γ' := [(2, _)]) ⟨rfl, trivial⟩ .z ?_
                  refine St.ret ?_
                  repeat (first | refine St.thenR ?_ | refine St.blkR ?_)
                  injection h1 with h1
                  subst h1
                  have ho := hd1 _ rfl
                  subst ho
                  have h : some _ = some _ := h
                  injection h with h
                  subst h
                  exact St.finR Try.results65 (.tmp rfl .nil) rfl [] ⟨rfl, rfl⟩ (fun _ w => (.z : Keep _ _).sat w)
                · replace h1 := bif_f hb9 h1
                  refine St.skip ?_
                  refine St.blkN ?_
                  refine St.thenN ?_
                  refine St.prune (Γ' := [(0, _), (3, _)]) ⟨rfl, rfl, trivial⟩ .z ?_
                  refine St.region ?_
                  iterate 3 refine St.p rfl rfl ?_
                  refine St.done ?_
                  injection h1 with h1
                  subst h1
                  refine St.thenN ?_
                  exact St.again _ () hm1 trivial ⟨rfl, rfl, trivial⟩ (fun _ w => (.z : Keep _ _).sat w)
        · replace h1 := bif_f hb3 h1
          refine St.exit ?_
          repeat (first | refine St.thenX ?_ | refine St.blkMiss rfl ?_)
          refine St.blkHit ?_
          injection h1 with h1
          subst h1
          have ho := hd1 _ rfl
          subst ho
          refine St.thenN ?_
          exact St.hereI () () rfl trivial (fun _ w => (.z : Keep _ _).sat w)
      · rintro o3 e3 ho
        subst ho
        have h : _ = some _ := h
        refine St.seq ?_
        refine St.region ?_
        refine St.p rfl rfl ?_
        refine St.done ?_
        refine St.thenN ?_
        refine St.ret ?_
        repeat (first | refine St.thenR ?_ | refine St.blkR ?_)
        injection h with h
        subst h
        exact St.finR Try.results65 (.tmp rfl .nil) rfl [] ⟨rfl, rfl⟩ (fun _ w => (.z : Keep _ _).sat w)

theorem ent77 : Ent Try.prog 77 := ⟨_, Try.func77, by kernel_rfl, by kernel_rfl⟩

noncomputable def m_version_numbers (v_p0 : T_Version) : Option (Arr3 Int) :=
  some (⟨v_p0.Major, v_p0.Minor, v_p0.Patch⟩ : (Arr3 Int))

theorem c_version_numbers {v_p0 : T_Version} {r : (Arr3 Int)} (h : m_version_numbers v_p0 = some r) :
    Fun Try.prog 77 [.agg #[.int .i64 v_p0.Major, .int .i64 v_p0.Minor, .int .i64 v_p0.Patch]] [] (Val (.agg #[.int .i64 r.e0, .int .i64 r.e1, .int .i64 r.e2])) := by
  unfold m_version_numbers at h
  refine Fun.intro Try.func77 rfl rfl rfl fun w R => ?_
  refine St.seq ?_
  refine St.region ?_
  refine St.box rfl rfl fun g1 => ?_
  refine St.alloc rfl rfl fun g2 => ?_
  refine St.done ?_
  refine St.thenN ?_
  refine St.prune (Γ' := [(1, _), (2, _)]) ⟨rfl, rfl, trivial⟩ (.k (.k .z)) ?_
  refine St.seq ?_
  refine St.region ?_
  refine St.p rfl rfl ?_
  refine St.loadB 0 rfl rfl (.tail _ (.head _)) rfl rfl ?_
  refine St.p rfl rfl ?_
  refine St.loadB 1 rfl rfl (.tail _ (.head _)) rfl rfl ?_
  refine St.p rfl rfl ?_
  refine St.loadB 2 rfl rfl (.tail _ (.head _)) rfl rfl ?_
  refine St.p rfl rfl ?_
  refine St.store 0 rfl rfl rfl rfl rfl rfl .z rfl ?_
  refine St.done ?_
  refine St.thenN ?_
  refine St.prune (Γ' := [(2, _)]) ⟨rfl, trivial⟩ (.k (.d .z)) ?_
  refine St.ret ?_
  repeat (first | refine St.thenR ?_ | refine St.blkR ?_)
  injection h with h
  subst h
  exact St.finR Try.results77 (.cell rfl (.head _) rfl .nil) rfl [] ⟨rfl, rfl⟩ (fun _ w => ((.d .z) : Keep _ _).sat w)

theorem ent66 : Ent Try.prog 66 := ⟨_, Try.func66, by kernel_rfl, by kernel_rfl⟩

noncomputable def m_version_Valid (v_p0 : T_Version) : Option Bool :=
  bnd (m_version_numbers v_p0) fun r1 => bnd ((bif decide (r1.e0 < 0) then (some true) else (some (decide (r1.e0 > 999))) : Option Bool)) fun o1 => bif o1 then (some false) else (bnd ((bif decide (r1.e1 < 0) then (some true) else (some (decide (r1.e1 > 999))) : Option Bool)) fun o2 => bif o2 then (some false) else (bnd ((bif decide (r1.e2 < 0) then (some true) else (some (decide (r1.e2 > 999))) : Option Bool)) fun o3 => bif o3 then (some false) else (some true)))

set_option maxHeartbeats 4000000 in
theorem c_version_Valid {v_p0 : T_Version} {r : Bool} (h : m_version_Valid v_p0 = some r) :
    Fun Try.prog 66 [.agg #[.int .i64 v_p0.Major, .int .i64 v_p0.Minor, .int .i64 v_p0.Patch]] [] (Val (.bool r)) := by
  unfold m_version_Valid at h
  refine Fun.intro Try.func66 rfl rfl rfl fun w R => ?_
  refine St.seq ?_
  refine St.region ?_
  refine St.box rfl rfl fun g1 => ?_
  refine St.p rfl rfl ?_
  refine St.done ?_
  refine St.thenN ?_
  refine St.prune (Γ' := [(1, _)]) ⟨rfl, trivial⟩ (.k .z) ?_
  refine St.seq ?_
  refine St.seq ?_
  refine St.region ?_
  refine St.loadB 0 rfl rfl (.head _) rfl rfl ?_
  obtain ⟨r1, hr1, h⟩ := bnd_e h
  refine St.callV (c_version_numbers hr1) ent77 rfl rfl rfl rfl trivial ?_
  refine St.p rfl rfl ?_
  refine St.done ?_
  refine St.thenN ?_
  refine St.prune (Γ' := [(6, _), (7, _)]) ⟨rfl, rfl, trivial⟩ (.d .z) ?_
  refine St.block ?_
  refine St.rounds 9 ?_
  refine St.round ?_
  refine St.seq ?_
  refine St.region ?_
  refine St.p rfl rfl ?_
  refine St.done ?_
  refine St.thenN ?_
  refine St.seq ?_
  refine St.condT rfl ?_
  refine St.skip ?_
  refine St.thenN ?_
  refine St.prune (Γ' := [(6, _), (7, _)]) ⟨rfl, rfl, trivial⟩ .z ?_
  refine St.seq ?_
  refine St.block ?_
  refine St.seq ?_
  refine St.region ?_
  refine St.p rfl rfl ?_
  refine St.p rfl rfl ?_
  refine St.done ?_
  refine St.thenN ?_
  refine St.prune (Γ' := [(4, _), (6, _), (7, _)]) ⟨rfl, rfl, rfl, trivial⟩ .z ?_
  refine St.seq ?_
  obtain ⟨o1, hj1, h⟩ := bnd_e h
  refine St.cutE (fun (e1 : Unit) => [(6, .agg #[.int .i64 r1.e0, .int .i64 r1.e1, .int .i64 r1.e2]), (7, .int .i64 0), (15, .bool o1)]) (fun e1 => R) ?_ ?_
  · refine St.region ?_
    iterate 3 refine St.p rfl rfl ?_
    refine St.gSplit (dj := 12) _ rfl (fun hb1 => ?_) (fun hb1 => ?_)
    · replace hj1 := bif_t hb1 hj1
      refine St.gOff (dj := 12) rfl rfl rfl rfl ?_
      refine St.gOff (dj := 12) rfl rfl rfl rfl ?_
      refine St.p rfl rfl ?_
      refine St.done ?_
      injection hj1 with hj1
      subst hj1
      refine St.thenN ?_
      exact St.hereE () ⟨rfl, rfl, rfl, trivial⟩ (fun _ w => (.z : Keep _ _).sat w)
    · replace hj1 := bif_f hb1 hj1
      refine St.gOn (dj := 12) rfl rfl ?_
      refine St.p rfl rfl ?_
      refine St.gOn (dj := 12) rfl rfl ?_
      refine St.p rfl rfl ?_
      refine St.p rfl rfl ?_
      refine St.done ?_
      injection hj1 with hj1
      subst hj1
      refine St.thenN ?_
      exact St.hereE () ⟨rfl, rfl, rfl, trivial⟩ (fun _ w => (.z : Keep _ _).sat w)
  · rintro e1
    refine St.cond _ rfl (fun hb2 => ?_) (fun hb2 => ?_)
    · replace h := bif_t hb2 h
      refine St.seq ?_
      refine St.region ?_
      refine St.p rfl rfl ?_
      refine St.done ?_
      refine St.thenN ?_
      refine St.prune (Γ' := [(2, _)]) ⟨rfl, trivial⟩ .z ?_
      refine St.ret ?_
      repeat (first | refine St.thenR ?_ | refine St.blkR ?_)
      injection h with h
      subst h
      exact St.finR Try.results66 (.tmp rfl .nil) rfl [] ⟨rfl, rfl⟩ (fun _ w => (.z : Keep _ _).sat w)
    · replace h := bif_f hb2 h
      refine St.skip ?_
      refine St.blkN ?_
      refine St.thenN ?_
      refine St.prune (Γ' := [(6, _), (7, _)]) ⟨rfl, rfl, trivial⟩ .z ?_
      refine St.region ?_
      refine St.p rfl rfl ?_
      refine St.p rfl rfl ?_
      refine St.done ?_
      refine St.thenN ?_
      refine St.round ?_
      refine St.prune (Γ' := [(6, _), (7, _)]) ⟨rfl, rfl, trivial⟩ .z ?_
      refine St.seq ?_
      refine St.region ?_
      refine St.p rfl rfl ?_
      refine St.done ?_
      refine St.thenN ?_
      refine St.seq ?_
      refine St.condT rfl ?_
      refine St.skip ?_
      refine St.thenN ?_
      refine St.prune (Γ' := [(6, _), (7, _)]) ⟨rfl, rfl, trivial⟩ .z ?_
      refine St.seq ?_
      refine St.block ?_
      refine St.seq ?_
      refine St.region ?_
      refine St.p rfl rfl ?_
      refine St.p rfl rfl ?_
      refine St.done ?_
      refine St.thenN ?_
      refine St.prune (Γ' := [(4, _), (6, _), (7, _)]) ⟨rfl, rfl, rfl, trivial⟩ .z ?_
      refine St.seq ?_
      obtain ⟨o2, hj2, h⟩ := bnd_e h
      refine St.cutE (fun (e2 : Unit) => [(6, .agg #[.int .i64 r1.e0, .int .i64 r1.e1, .int .i64 r1.e2]), (7, .int .i64 1), (15, .bool o2)]) (fun e2 => R) ?_ ?_
      · refine St.region ?_
        iterate 3 refine St.p rfl rfl ?_
        refine St.gSplit (dj := 12) _ rfl (fun hb3 => ?_) (fun hb3 => ?_)
        · replace hj2 := bif_t hb3 hj2
          refine St.gOff (dj := 12) rfl rfl rfl rfl ?_
          refine St.gOff (dj := 12) rfl rfl rfl rfl ?_
          refine St.p rfl rfl ?_
          refine St.done ?_
          injection hj2 with hj2
          subst hj2
          refine St.thenN ?_
          exact St.hereE () ⟨rfl, rfl, rfl, trivial⟩ (fun _ w => (.z : Keep _ _).sat w)
        · replace hj2 := bif_f hb3 hj2
          refine St.gOn (dj := 12) rfl rfl ?_
          refine St.p rfl rfl ?_
          refine St.gOn (dj := 12) rfl rfl ?_
          refine St.p rfl rfl ?_
          refine St.p rfl rfl ?_
          refine St.done ?_
          injection hj2 with hj2
          subst hj2
          refine St.thenN ?_
          exact St.hereE () ⟨rfl, rfl, rfl, trivial⟩ (fun _ w => (.z : Keep _ _).sat w)
      · rintro e2
        refine St.cond _ rfl (fun hb4 => ?_) (fun hb4 => ?_)
        · replace h := bif_t hb4 h
          refine St.seq ?_
          refine St.region ?_
          refine St.p rfl rfl ?_
          refine St.done ?_
          refine St.thenN ?_
          refine St.prune (Γ' := [(2, _)]) ⟨rfl, trivial⟩ .z ?_
          refine St.ret ?_
          repeat (first | refine St.thenR ?_ | refine St.blkR ?_)
          injection h with h
          subst h
          exact St.finR Try.results66 (.tmp rfl .nil) rfl [] ⟨rfl, rfl⟩ (fun _ w => (.z : Keep _ _).sat w)
        · replace h := bif_f hb4 h
          refine St.skip ?_
          refine St.blkN ?_
          refine St.thenN ?_
          refine St.prune (Γ' := [(6, _), (7, _)]) ⟨rfl, rfl, trivial⟩ .z ?_
          refine St.region ?_
          refine St.p rfl rfl ?_
          refine St.p rfl rfl ?_
          refine St.done ?_
          refine St.thenN ?_
          refine St.round ?_
          refine St.prune (Γ' := [(6, _), (7, _)]) ⟨rfl, rfl, trivial⟩ .z ?_
          refine St.seq ?_
          refine St.region ?_
          refine St.p rfl rfl ?_
          refine St.done ?_
          refine St.thenN ?_
          refine St.seq ?_
          refine St.condT rfl ?_
          refine St.skip ?_
          refine St.thenN ?_
          refine St.prune (Γ' := [(6, _), (7, _)]) ⟨rfl, rfl, trivial⟩ .z ?_
          refine St.seq ?_
          refine St.block ?_
          refine St.seq ?_
          refine St.region ?_
          refine St.p rfl rfl ?_
          refine St.p rfl rfl ?_
          refine St.done ?_
          refine St.thenN ?_
          refine St.prune (Γ' := [(4, _), (6, _), (7, _)]) ⟨rfl, rfl, rfl, trivial⟩ .z ?_
          refine St.seq ?_
          obtain ⟨o3, hj3, h⟩ := bnd_e h
          refine St.cutE (fun (e3 : Unit) => [(6, .agg #[.int .i64 r1.e0, .int .i64 r1.e1, .int .i64 r1.e2]), (7, .int .i64 2), (15, .bool o3)]) (fun e3 => R) ?_ ?_
          · refine St.region ?_
            iterate 3 refine St.p rfl rfl ?_
            refine St.gSplit (dj := 12) _ rfl (fun hb5 => ?_) (fun hb5 => ?_)
            · replace hj3 := bif_t hb5 hj3
              refine St.gOff (dj := 12) rfl rfl rfl rfl ?_
              refine St.gOff (dj := 12) rfl rfl rfl rfl ?_
              refine St.p rfl rfl ?_
              refine St.done ?_
              injection hj3 with hj3
              subst hj3
              refine St.thenN ?_
              exact St.hereE () ⟨rfl, rfl, rfl, trivial⟩ (fun _ w => (.z : Keep _ _).sat w)
            · replace hj3 := bif_f hb5 hj3
              refine St.gOn (dj := 12) rfl rfl ?_
              refine St.p rfl rfl ?_
              refine St.gOn (dj := 12) rfl rfl ?_
              refine St.p rfl rfl ?_
              refine St.p rfl rfl ?_
              refine St.done ?_
              injection hj3 with hj3
              subst hj3
              refine St.thenN ?_
              exact St.hereE () ⟨rfl, rfl, rfl, trivial⟩ (fun _ w => (.z : Keep _ _).sat w)
          · rintro e3
            refine St.cond _ rfl (fun hb6 => ?_) (fun hb6 => ?_)
            · replace h := bif_t hb6 h
              refine St.seq ?_
              refine St.region ?_
              refine St.p rfl rfl ?_
              refine St.done ?_
              refine St.thenN ?_
              refine St.prune (Γ' := [(2, _)]) ⟨rfl, trivial⟩ .z ?_
              refine St.ret ?_
              repeat (first | refine St.thenR ?_ | refine St.blkR ?_)
              injection h with h
              subst h
              exact St.finR Try.results66 (.tmp rfl .nil) rfl [] ⟨rfl, rfl⟩ (fun _ w => (.z : Keep _ _).sat w)
            · replace h := bif_f hb6 h
              refine St.skip ?_
              refine St.blkN ?_
              refine St.thenN ?_
              refine St.prune (Γ' := [(6, _), (7, _)]) ⟨rfl, rfl, trivial⟩ .z ?_
              refine St.region ?_
              refine St.p rfl rfl ?_
              refine St.p rfl rfl ?_
              refine St.done ?_
              refine St.thenN ?_
              refine St.round ?_
              refine St.prune (Γ' := [(6, _), (7, _)]) ⟨rfl, rfl, trivial⟩ .z ?_
              refine St.seq ?_
              refine St.region ?_
              refine St.p rfl rfl ?_
              refine St.done ?_
              refine St.thenN ?_
              refine St.seq ?_
              refine St.condF rfl ?_
              refine St.exit ?_
              repeat (first | refine St.thenX ?_ | refine St.blkMiss rfl ?_)
              refine St.blkHit ?_
              refine St.thenN ?_
              refine St.prune (Γ' := []) trivial .z ?_
              refine St.seq ?_
              refine St.region ?_
              refine St.p rfl rfl ?_
              refine St.done ?_
              refine St.thenN ?_
              refine St.ret ?_
              repeat (first | refine St.thenR ?_ | refine St.blkR ?_)
              injection h with h
              subst h
              exact St.finR Try.results66 (.tmp rfl .nil) rfl [] ⟨rfl, rfl⟩ (fun _ w => (.z : Keep _ _).sat w)

theorem ent41 : Ent Try.prog 41 := ⟨_, Try.func41, by kernel_rfl, by kernel_rfl⟩

noncomputable def m_bundle_Right (i_p0 : T_Image) : Option Bool :=
  bnd ((bnd (m_version_Name i_p0.Name) fun r1 => bif r1 then (bnd (m_version_Valid i_p0.Version) fun r2 => bif r2 then (bif decide ((i_p0.Data.length : Int) ≥ 1) then (some (decide ((i_p0.Data.length : Int) ≤ 512))) else (some false)) else (some false)) else (some false) : Option Bool)) fun o1 => some o1

theorem c_bundle_Right {i_p0 : T_Image} {A1 : Option Addr} {c1 : Nat} {r : Bool} (h : m_bundle_Right i_p0 = some r) :
    Fun Try.prog 41 [.agg (bx_T_Image i_p0 A1 c1).toArray] [.ro (SlL eu8 A1 c1 i_p0.Data)] (Val (.bool r)) := by
  unfold m_bundle_Right at h
  refine Fun.intro Try.func41 rfl rfl rfl fun w R => ?_
  refine St.seq ?_
  refine St.region ?_
  refine St.box rfl rfl fun g1 => ?_
  refine St.p rfl rfl ?_
  refine St.done ?_
  refine St.thenN ?_
  refine St.prune (Γ' := [(1, _)]) ⟨rfl, trivial⟩ (.k (.k .z)) ?_
  refine St.seq ?_
  obtain ⟨o1, hj1, h⟩ := bnd_e h
  refine St.cutE (fun (e1 : Unit) => [(2, .bool o1)]) (fun e1 => R) ?_ ?_
  · refine St.region ?_
    refine St.p rfl rfl ?_
    refine St.loadB 0 rfl rfl (.head _) rfl rfl ?_
    obtain ⟨r1, hr1, hj1⟩ := bnd_e hj1
    refine St.callV (c_version_Name hr1) ent65 rfl rfl rfl rfl trivial ?_
    refine St.p rfl rfl ?_
    refine St.gSplit (dj := 6) _ rfl (fun hb1 => ?_) (fun hb1 => ?_)
    · replace hj1 := bif_t hb1 hj1
      refine St.gOn (dj := 6) rfl rfl ?_
      refine St.p rfl rfl ?_
      refine St.gOn (dj := 6) rfl rfl ?_
      refine St.loadB 1 rfl rfl (.head _) rfl rfl ?_
      refine St.gOn (dj := 6) rfl rfl ?_
      obtain ⟨r2, hr2, hj1⟩ := bnd_e hj1
      refine St.callV (c_version_Valid hr2) ent66 rfl rfl rfl rfl trivial ?_
      refine St.p rfl rfl ?_
      refine St.p rfl rfl ?_
      refine St.gSplit (dj := 11) _ rfl (fun hb2 => ?_) (fun hb2 => ?_)
      · replace hj1 := bif_t hb2 hj1
        refine St.gOn (dj := 11) rfl rfl ?_
        refine St.p rfl rfl ?_
        refine St.gOn (dj := 11) rfl rfl ?_
        refine St.loadB 4 rfl rfl (.head _) rfl rfl ?_
        refine St.gOn (dj := 11) rfl rfl ?_
        refine St.p rfl rfl ?_
        refine St.gOn (dj := 11) rfl rfl ?_
        iterate 3 refine St.p rfl rfl ?_
        refine St.gSplit (dj := 17) _ rfl (fun hb3 => ?_) (fun hb3 => ?_)
        · replace hj1 := bif_t hb3 hj1
          refine St.gOn (dj := 17) rfl rfl ?_
          refine St.p rfl rfl ?_
          refine St.gOn (dj := 17) rfl rfl ?_
          refine St.loadB 4 rfl rfl (.head _) rfl rfl ?_
          refine St.gOn (dj := 17) rfl rfl ?_
          refine St.p rfl rfl ?_
          refine St.gOn (dj := 17) rfl rfl ?_
          iterate 3 refine St.p rfl rfl ?_
          refine St.done ?_
          injection hj1 with hj1
          subst hj1
          refine St.thenN ?_
          exact St.hereE () ⟨rfl, trivial⟩ (fun _ w => ((.d (.d .z)) : Keep _ _).sat w)
        · replace hj1 := bif_f hb3 hj1
          refine St.gOff (dj := 17) rfl rfl rfl rfl ?_
          refine St.gOff (dj := 17) rfl rfl rfl rfl ?_
          refine St.gOff (dj := 17) rfl rfl rfl rfl ?_
          refine St.gOff (dj := 17) rfl rfl rfl rfl ?_
          refine St.p rfl rfl ?_
          refine St.p rfl rfl ?_
          refine St.done ?_
          injection hj1 with hj1
          subst hj1
          refine St.thenN ?_
          exact St.hereE () ⟨rfl, trivial⟩ (fun _ w => ((.d (.d .z)) : Keep _ _).sat w)
      · replace hj1 := bif_f hb2 hj1
        refine St.gOff (dj := 11) rfl rfl rfl rfl ?_
        refine St.gOff (dj := 11) rfl rfl rfl rfl ?_
        refine St.gOff (dj := 11) rfl rfl rfl rfl ?_
        refine St.gOff (dj := 11) rfl rfl rfl rfl ?_
        refine St.p rfl rfl ?_
        refine St.p rfl rfl ?_
        refine St.gOff (dj := 17) rfl rfl rfl rfl ?_
        refine St.gOff (dj := 17) rfl rfl rfl rfl ?_
        refine St.gOff (dj := 17) rfl rfl rfl rfl ?_
        refine St.gOff (dj := 17) rfl rfl rfl rfl ?_
        refine St.p rfl rfl ?_
        refine St.p rfl rfl ?_
        refine St.done ?_
        injection hj1 with hj1
        subst hj1
        refine St.thenN ?_
        exact St.hereE () ⟨rfl, trivial⟩ (fun _ w => ((.d (.d .z)) : Keep _ _).sat w)
    · replace hj1 := bif_f hb1 hj1
      refine St.gOff (dj := 6) rfl rfl rfl rfl ?_
      refine St.gOff (dj := 6) rfl rfl rfl rfl ?_
      refine St.gOff (dj := 6) rfl rfl rfl rfl ?_
      refine St.p rfl rfl ?_
      refine St.p rfl rfl ?_
      refine St.gOff (dj := 11) rfl rfl rfl rfl ?_
      refine St.gOff (dj := 11) rfl rfl rfl rfl ?_
      refine St.gOff (dj := 11) rfl rfl rfl rfl ?_
      refine St.gOff (dj := 11) rfl rfl rfl rfl ?_
      refine St.p rfl rfl ?_
      refine St.p rfl rfl ?_
      refine St.gOff (dj := 17) rfl rfl rfl rfl ?_
      refine St.gOff (dj := 17) rfl rfl rfl rfl ?_
      refine St.gOff (dj := 17) rfl rfl rfl rfl ?_
      refine St.gOff (dj := 17) rfl rfl rfl rfl ?_
      refine St.p rfl rfl ?_
      refine St.p rfl rfl ?_
      refine St.done ?_
      injection hj1 with hj1
      subst hj1
      refine St.thenN ?_
      exact St.hereE () ⟨rfl, trivial⟩ (fun _ w => ((.d (.d .z)) : Keep _ _).sat w)
  · rintro e1
    refine St.ret ?_
    repeat (first | refine St.thenR ?_ | refine St.blkR ?_)
    injection h with h
    subst h
    exact St.finR Try.results41 (.tmp rfl .nil) rfl [] ⟨rfl, rfl⟩ (fun _ w => (.z : Keep _ _).sat w)

theorem ent67 : Ent Try.prog 67 := ⟨_, Try.func67, by kernel_rfl, by kernel_rfl⟩

noncomputable def m_slices_Clone__byte_byte (s_p0 : (List Int)) : Option (List Int) :=
  bnd (app 1 ([]) s_p0) fun l1 => some l1

theorem c_slices_Clone__byte_byte {s_p0 : (List Int)} {A1 : Option Addr} {c1 : Nat} {r : (List Int)} (h : m_slices_Clone__byte_byte s_p0 = some r) :
    Fun Try.prog 67 [.slice A1 s_p0.length c1] [.ro (SlL eu8 A1 c1 s_p0)] (fun v_ F_ => ∃ (A1 : Option Addr) (c1 : Nat), v_ = .slice A1 r.length c1 ∧ F_ = [.res (OwnL eu8 5 A1 c1 r)]) := by
  unfold m_slices_Clone__byte_byte at h
  refine Fun.intro Try.func67 rfl rfl rfl fun w R => ?_
  rcases A1 with _ | ad
  · refine St.fact (φ := s_p0 = []) (fun w hf => (hf.ro (r := SlL eu8 none c1 s_p0) (.head _)).2.2.1 rfl) fun hs => ?_
    subst hs
    have h : (some ([]) : Option (List Int)) = some r := by simpa [app, bnd] using h
    refine St.seq ?_
    refine St.region ?_
    refine St.p rfl rfl ?_
    refine St.done ?_
    refine St.thenN ?_
    refine St.prune (Γ' := [(0, _)]) ⟨rfl, trivial⟩ (.k .z) ?_
    refine St.seq ?_
    refine St.seq ?_
    refine St.region ?_
    refine St.p rfl rfl ?_
    refine St.p rfl rfl ?_
    refine St.done ?_
    refine St.thenN ?_
    refine St.prune (Γ' := [(0, _), (4, _)]) ⟨rfl, rfl, trivial⟩ (.k .z) ?_
    refine St.condT rfl ?_
    refine St.seq ?_
    refine St.region ?_
    refine St.p rfl rfl ?_
    refine St.done ?_
    refine St.thenN ?_
    refine St.prune (Γ' := [(2, _)]) ⟨rfl, trivial⟩ (.d .z) ?_
    refine St.ret ?_
    repeat (first | refine St.thenR ?_ | refine St.blkR ?_)
    refine St.asrt (fun _ w => w.nilL eu8 5) ?_
    injection h with h
    subst h
    exact St.finR Try.results67 (.tmp rfl .nil) rfl [.res (OwnL eu8 5 none 0 ([] : List Int))] ⟨none, 0, rfl, rfl⟩ (fun _ w => ((.k .z) : Keep _ _).sat w)
  · refine St.seq ?_
    refine St.region ?_
    refine St.p rfl rfl ?_
    refine St.done ?_
    refine St.thenN ?_
    refine St.prune (Γ' := [(0, _)]) ⟨rfl, trivial⟩ (.k .z) ?_
    refine St.seq ?_
    refine St.seq ?_
    refine St.region ?_
    refine St.p rfl rfl ?_
    refine St.p rfl rfl ?_
    refine St.done ?_
    refine St.thenN ?_
    refine St.prune (Γ' := [(0, _), (4, _)]) ⟨rfl, rfl, trivial⟩ (.k .z) ?_
    refine St.condF rfl ?_
    refine St.skip ?_
    refine St.thenN ?_
    refine St.prune (Γ' := [(0, _)]) ⟨rfl, trivial⟩ (.k .z) ?_
    refine St.seq ?_
    refine St.region ?_
    refine St.buildSlice rfl rfl rfl rfl rfl rfl rfl rfl fun g1 => ?_
    refine St.p rfl rfl ?_
    refine St.asrt (fun _ w => (w.front .z).litL (E := eu8) (e := 5) [] rfl rfl) ?_
    obtain ⟨l1, hl1, h⟩ := bnd_e h
    refine St.app (E := eu8) hl1 rfl rfl rfl .z rfl rfl rfl rfl rfl rfl rfl rfl (srcL (.tail _ (.head _))) rfl rfl fun A2 c2 => ?_
    refine St.p rfl rfl ?_
    refine St.done ?_
    refine St.thenN ?_
    refine St.prune (Γ' := [(2, _)]) ⟨rfl, trivial⟩ (.k (.d .z)) ?_
    refine St.ret ?_
    repeat (first | refine St.thenR ?_ | refine St.blkR ?_)
    injection h with h
    subst h
    exact St.finR Try.results67 (.tmp rfl .nil) rfl [.res (OwnL eu8 5 A2 c2 l1)] ⟨A2, c2, rfl, rfl⟩ (fun _ w => ((.k .z) : Keep _ _).sat w)

theorem ent42 : Ent Try.prog 42 := ⟨_, Try.func42, by kernel_rfl, by kernel_rfl⟩

noncomputable def m_bank_image (i_p0 : T_Image) : Option T_Image :=
  bnd (m_slices_Clone__byte_byte i_p0.Data) fun r1 => some (⟨i_p0.Name, i_p0.Version, r1⟩ : T_Image)

theorem c_bank_image {i_p0 : T_Image} {A1 : Option Addr} {c1 : Nat} {r : T_Image} (h : m_bank_image i_p0 = some r) :
    Fun Try.prog 42 [.agg (bx_T_Image i_p0 A1 c1).toArray] [.ro (SlL eu8 A1 c1 i_p0.Data)] (fun v_ F_ => ∃ (A1 : Option Addr) (c1 : Nat), v_ = .agg (bx_T_Image r A1 c1).toArray ∧ F_ = [.ro (SlL eu8 A1 c1 r.Data)]) := by
  unfold m_bank_image at h
  refine Fun.intro Try.func42 rfl rfl rfl fun w R => ?_
  refine St.seq ?_
  refine St.region ?_
  refine St.box rfl rfl fun g1 => ?_
  refine St.alloc rfl rfl fun g2 => ?_
  refine St.done ?_
  refine St.thenN ?_
  refine St.prune (Γ' := [(1, _), (2, _)]) ⟨rfl, rfl, trivial⟩ (.k (.k (.k .z))) ?_
  refine St.seq ?_
  refine St.region ?_
  refine St.p rfl rfl ?_
  refine St.loadB 4 rfl rfl (.tail _ (.head _)) rfl rfl ?_
  obtain ⟨r1, hr1, h⟩ := bnd_e h
  refine St.call (c_slices_Clone__byte_byte hr1) ent67 rfl rfl rfl (fun _ w => Sat.dup (G := [.ro (SlL eu8 A1 c1 i_p0.Data)]) rfl ⟨(.tail _ (.tail _ (.head _))), trivial⟩ w) ?_
  rintro _ _ ⟨A2, c2, rfl, rfl⟩
  refine St.asrt (F' := .res (OwnL eu8 5 A2 c2 r1) :: .res (Box g2 30 [.string (⟨#[]⟩), .int .i64 0, .int .i64 0, .int .i64 0, .slice none 0 0]) :: .res (Box g1 30 (bx_T_Image i_p0 A1 c1)) :: .ro (SlL eu8 A1 c1 i_p0.Data) :: R) (fun _ w => w) ?_
  refine St.p rfl rfl ?_
  refine St.store 4 rfl rfl rfl rfl rfl rfl (.s (.s .z)) rfl ?_
  refine St.done ?_
  refine St.thenN ?_
  refine St.prune (Γ' := [(1, _), (2, _)]) ⟨rfl, rfl, trivial⟩ (.k (.k (.k (.d .z)))) ?_
  refine St.seq ?_
  refine St.region ?_
  refine St.loadB 0 rfl rfl (.head _) rfl rfl ?_
  refine St.store 0 rfl rfl rfl rfl rfl rfl (.s (.s .z)) rfl ?_
  refine St.done ?_
  refine St.thenN ?_
  refine St.prune (Γ' := [(2, _)]) ⟨rfl, trivial⟩ (.k (.d (.k .z))) ?_
  refine St.ret ?_
  repeat (first | refine St.thenR ?_ | refine St.blkR ?_)
  refine St.asrt (fun _ w => (w.front (.s .z)).meltL) ?_
  injection h with h
  subst h
  exact St.finR Try.results42 (.cell rfl (.tail _ (.head _)) rfl .nil) rfl [.ro (SlL eu8 A2 c2 r1)] ⟨A2, c2, rfl, rfl⟩ (fun _ w => ((.k (.d (.d .z))) : Keep _ _).sat (Sat.dup (G := [.ro (SlL eu8 A2 c2 r1)]) rfl ⟨(.head _), trivial⟩ w))

theorem ent70 : Ent Try.prog 70 := ⟨_, Try.func70, by kernel_rfl, by kernel_rfl⟩

noncomputable def m_bundle_text (b_p0 : (List Int)) (s_p1 : ByteArray) : Option (List Int) :=
  bnd (app 1 b_p0 [IntKind.wrap .u8 (s_p1.size : Int)]) fun l1 => bnd (app 1 l1 (bytesOf s_p1)) fun l2 => some l2

theorem c_bundle_text {b_p0 : (List Int)} {s_p1 : ByteArray} {A1 : Option Addr} {c1 : Nat} {r : (List Int)} (h : m_bundle_text b_p0 s_p1 = some r) :
    Fun Try.prog 70 [.slice A1 b_p0.length c1, .string s_p1] [.res (OwnL eu8 5 A1 c1 b_p0)] (fun v_ F_ => ∃ (A1 : Option Addr) (c1 : Nat), v_ = .slice A1 r.length c1 ∧ F_ = [.res (OwnL eu8 5 A1 c1 r)]) := by
  unfold m_bundle_text at h
  refine Fun.intro Try.func70 rfl rfl rfl fun w R => ?_
  refine St.seq ?_
  refine St.region ?_
  refine St.p rfl rfl ?_
  refine St.done ?_
  refine St.thenN ?_
  refine St.prune (Γ' := [(0, _), (1, _)]) ⟨rfl, rfl, trivial⟩ (.k .z) ?_
  refine St.seq ?_
  refine St.region ?_
  iterate 4 refine St.p rfl rfl ?_
  refine St.buildSlice rfl rfl rfl rfl rfl rfl rfl rfl fun g1 => ?_
  obtain ⟨l1, hl1, h⟩ := bnd_e h
  refine St.app (E := eu8) hl1 rfl rfl rfl (.s .z) rfl rfl rfl rfl rfl rfl rfl rfl (srcB (.head _) rfl rfl) rfl rfl fun A2 c2 => ?_
  refine St.p rfl rfl ?_
  obtain ⟨l2, hl2, h⟩ := bnd_e h
  refine St.app (E := eu8) hl2 rfl rfl rfl .z rfl rfl rfl rfl rfl rfl rfl (by simp [bytesOf, ByteArray.toList_eq]) (srcS s_p1) rfl rfl fun A3 c3 => ?_
  refine St.p rfl rfl ?_
  refine St.done ?_
  refine St.thenN ?_
  refine St.prune (Γ' := [(4, _)]) ⟨rfl, trivial⟩ (.k (.d .z)) ?_
  refine St.ret ?_
  repeat (first | refine St.thenR ?_ | refine St.blkR ?_)
  injection h with h
  subst h
  exact St.finR Try.results70 (.tmp rfl .nil) rfl [.res (OwnL eu8 5 A3 c3 l2)] ⟨A3, c3, rfl, rfl⟩ (fun _ w => ((.k .z) : Keep _ _).sat w)

theorem ent68 : Ent Try.prog 68 := ⟨_, Try.func68, by kernel_rfl, by kernel_rfl⟩

noncomputable def m_bundle_short (b_p0 : (List Int)) (n_p1 : Int) : Option (List Int) :=
  bnd (app 1 b_p0 [IntKind.wrap .u8 (iShr .i64 n_p1 8), IntKind.wrap .u8 n_p1]) fun l1 => some l1

theorem c_bundle_short {b_p0 : (List Int)} {n_p1 : Int} {A1 : Option Addr} {c1 : Nat} {r : (List Int)} (h : m_bundle_short b_p0 n_p1 = some r) :
    Fun Try.prog 68 [.slice A1 b_p0.length c1, .int .i64 n_p1] [.res (OwnL eu8 5 A1 c1 b_p0)] (fun v_ F_ => ∃ (A1 : Option Addr) (c1 : Nat), v_ = .slice A1 r.length c1 ∧ F_ = [.res (OwnL eu8 5 A1 c1 r)]) := by
  unfold m_bundle_short at h
  refine Fun.intro Try.func68 rfl rfl rfl fun w R => ?_
  refine St.seq ?_
  refine St.region ?_
  refine St.p rfl rfl ?_
  refine St.done ?_
  refine St.thenN ?_
  refine St.prune (Γ' := [(0, _), (1, _)]) ⟨rfl, rfl, trivial⟩ (.k .z) ?_
  refine St.seq ?_
  refine St.region ?_
  iterate 6 refine St.p rfl rfl ?_
  refine St.buildSlice rfl rfl rfl rfl rfl rfl rfl rfl fun g1 => ?_
  obtain ⟨l1, hl1, h⟩ := bnd_e h
  refine St.app (E := eu8) hl1 rfl rfl rfl (.s .z) rfl rfl rfl rfl rfl rfl rfl rfl (srcB (.head _) rfl rfl) rfl rfl fun A2 c2 => ?_
  refine St.p rfl rfl ?_
  refine St.done ?_
  refine St.thenN ?_
  refine St.prune (Γ' := [(4, _)]) ⟨rfl, trivial⟩ (.k (.d .z)) ?_
  refine St.ret ?_
  repeat (first | refine St.thenR ?_ | refine St.blkR ?_)
  injection h with h
  subst h
  exact St.finR Try.results68 (.tmp rfl .nil) rfl [.res (OwnL eu8 5 A2 c2 l1)] ⟨A2, c2, rfl, rfl⟩ (fun _ w => ((.k .z) : Keep _ _).sat w)

theorem ent69 : Ent Try.prog 69 := ⟨_, Try.func69, by kernel_rfl, by kernel_rfl⟩

noncomputable def m_bundle_numbers (b_p0 : (List Int)) (v_p1 : T_Version) : Option (List Int) :=
  bnd (m_bundle_short b_p0 v_p1.Major) fun r1 => bnd (m_bundle_short r1 v_p1.Minor) fun r2 => bnd (m_bundle_short r2 v_p1.Patch) fun r3 => some r3

theorem c_bundle_numbers {b_p0 : (List Int)} {v_p1 : T_Version} {A1 : Option Addr} {c1 : Nat} {r : (List Int)} (h : m_bundle_numbers b_p0 v_p1 = some r) :
    Fun Try.prog 69 [.slice A1 b_p0.length c1, .agg #[.int .i64 v_p1.Major, .int .i64 v_p1.Minor, .int .i64 v_p1.Patch]] [.res (OwnL eu8 5 A1 c1 b_p0)] (fun v_ F_ => ∃ (A1 : Option Addr) (c1 : Nat), v_ = .slice A1 r.length c1 ∧ F_ = [.res (OwnL eu8 5 A1 c1 r)]) := by
  unfold m_bundle_numbers at h
  refine Fun.intro Try.func69 rfl rfl rfl fun w R => ?_
  refine St.seq ?_
  refine St.region ?_
  refine St.box rfl rfl fun g1 => ?_
  refine St.p rfl rfl ?_
  refine St.done ?_
  refine St.thenN ?_
  refine St.prune (Γ' := [(0, _), (3, _)]) ⟨rfl, rfl, trivial⟩ (.k (.k .z)) ?_
  refine St.seq ?_
  refine St.regionX (iL [(.fl, 0), (.fl, 1), (.fx, 2), (.fl, 4), (.fl, 5), (.fl, 7), (.fl, 8), (.ef, 3), (.ef, 6), (.ef, 9), (.fl, 10)] .nil) (.res (Box g1 28 [.int .i64 v_p1.Major, .int .i64 v_p1.Minor, .int .i64 v_p1.Patch]) :: R) mixed (by kernel_rfl) (fun _ w => ((.k (.d .z)) : Keep _ _).sat w) ?_
  refine St.xfl (fun _ h => h) (Rd.p rfl) rfl ?_
  refine St.xfl (fun _ h => h) (Rd.p rfl) rfl ?_
  refine St.xfx (Rd.loadB 0 rfl (.head _) rfl rfl) rfl ?_
  refine St.xfl (fun _ h => h) (Rd.p rfl) rfl ?_
  refine St.xfl (fun _ h => h) (Rd.loadB 1 rfl (.head _) rfl rfl) rfl ?_
  refine St.xfl (fun _ h => h) (Rd.p rfl) rfl ?_
  refine St.xfl (fun _ h => h) (Rd.loadB 2 rfl (.head _) rfl rfl) rfl ?_
  refine St.xef ?_
  obtain ⟨r1, hr1, h⟩ := bnd_e h
  refine St.call (c_bundle_short hr1) ent68 rfl rfl rfl (fun _ w => (w.front (.s .z))) ?_
  rintro _ _ ⟨A2, c2, rfl, rfl⟩
  refine St.asrt (F' := .res (OwnL eu8 5 A2 c2 r1) :: .res (Box g1 28 [.int .i64 v_p1.Major, .int .i64 v_p1.Minor, .int .i64 v_p1.Patch]) :: R) (fun _ w => w) ?_
  refine St.xk (fun _ w => ((.d (.k .z)) : Keep _ _).sat w) ?_
  refine St.xef ?_
  obtain ⟨r2, hr2, h⟩ := bnd_e h
  refine St.call (c_bundle_short hr2) ent68 rfl rfl rfl (fun _ w => (w.front .z)) ?_
  rintro _ _ ⟨A3, c3, rfl, rfl⟩
  refine St.asrt (F' := .res (OwnL eu8 5 A3 c3 r2) :: .res (Box g1 28 [.int .i64 v_p1.Major, .int .i64 v_p1.Minor, .int .i64 v_p1.Patch]) :: R) (fun _ w => w) ?_
  refine St.xk (fun _ w => ((.d (.k .z)) : Keep _ _).sat w) ?_
  refine St.xef ?_
  obtain ⟨r3, hr3, h⟩ := bnd_e h
  refine St.call (c_bundle_short hr3) ent68 rfl rfl rfl (fun _ w => (w.front .z)) ?_
  rintro _ _ ⟨A4, c4, rfl, rfl⟩
  refine St.asrt (F' := .res (OwnL eu8 5 A4 c4 r3) :: .res (Box g1 28 [.int .i64 v_p1.Major, .int .i64 v_p1.Minor, .int .i64 v_p1.Patch]) :: R) (fun _ w => w) ?_
  refine St.xk (fun _ w => ((.d (.k .z)) : Keep _ _).sat w) ?_
  refine St.xfl (fun _ h => h) (Rd.p rfl) rfl ?_
  refine St.xdone ?_
  refine St.thenN ?_
  refine St.prune (Γ' := [(4, _)]) ⟨rfl, trivial⟩ (.k (.d .z)) ?_
  refine St.ret ?_
  repeat (first | refine St.thenR ?_ | refine St.blkR ?_)
  injection h with h
  subst h
  exact St.finR Try.results69 (.tmp rfl .nil) rfl [.res (OwnL eu8 5 A4 c4 r3)] ⟨A4, c4, rfl, rfl⟩ (fun _ w => ((.k .z) : Keep _ _).sat w)

theorem ent48 : Ent Try.prog 48 := ⟨_, Try.func48, by kernel_rfl, by kernel_rfl⟩

noncomputable def m_bundle_bytes (i_p0 : T_Image) : Option (List Int) :=
  bnd (m_bundle_text ([]) i_p0.Name) fun r1 => bnd (m_bundle_numbers r1 i_p0.Version) fun r2 => bnd (m_bundle_short r2 (i_p0.Data.length : Int)) fun r3 => bnd (app 1 r3 i_p0.Data) fun l1 => some l1

theorem c_bundle_bytes {i_p0 : T_Image} {A1 : Option Addr} {c1 : Nat} {r : (List Int)} (h : m_bundle_bytes i_p0 = some r) :
    Fun Try.prog 48 [.agg (bx_T_Image i_p0 A1 c1).toArray] [.ro (SlL eu8 A1 c1 i_p0.Data)] (fun v_ F_ => ∃ (A1 : Option Addr) (c1 : Nat), v_ = .slice A1 r.length c1 ∧ F_ = [.res (OwnL eu8 5 A1 c1 r)]) := by
  unfold m_bundle_bytes at h
  refine Fun.intro Try.func48 rfl rfl rfl fun w R => ?_
  refine St.seq ?_
  refine St.region ?_
  refine St.box rfl rfl fun g1 => ?_
  refine St.p rfl rfl ?_
  refine St.done ?_
  refine St.thenN ?_
  refine St.prune (Γ' := [(1, _)]) ⟨rfl, trivial⟩ (.k (.k .z)) ?_
  refine St.seq ?_
  refine St.regionX (iL [(.fl, 0), (.fx, 1), (.fl, 3), (.fl, 4), (.fl, 6), (.fl, 7), (.fl, 8), (.fl, 10), (.fl, 11), (.ef, 2), (.ef, 5), (.ef, 9), (.ef, 12), (.fl, 13)] .nil) (.res (Box g1 30 (bx_T_Image i_p0 A1 c1)) :: .ro (SlL eu8 A1 c1 i_p0.Data) :: R) mixed (by kernel_rfl) (fun _ w => ((.k (.k .z)) : Keep _ _).sat w) ?_
  refine St.xfl (fun _ h => h) (Rd.p rfl) rfl ?_
  refine St.xfx (Rd.loadB 0 rfl (.head _) rfl rfl) rfl ?_
  refine St.xfl (fun _ h => h) (Rd.p rfl) rfl ?_
  refine St.xfl (fun _ h => h) (Rd.loadB 1 rfl (.head _) rfl rfl) rfl ?_
  refine St.xfl (fun _ h => h) (Rd.p rfl) rfl ?_
  refine St.xfl (fun _ h => h) (Rd.loadB 4 rfl (.head _) rfl rfl) rfl ?_
  refine St.xfl (fun _ h => h) (Rd.p rfl) rfl ?_
  refine St.xfl (fun _ h => h) (Rd.p rfl) rfl ?_
  refine St.xfl (fun _ h => h) (Rd.loadB 4 rfl (.head _) rfl rfl) rfl ?_
  refine St.xef ?_
  refine St.asrt (fun _ w => w.nilL eu8 5) ?_
  obtain ⟨r1, hr1, h⟩ := bnd_e h
  refine St.call (c_bundle_text hr1) ent70 rfl rfl rfl (fun _ w => (w.front .z)) ?_
  rintro _ _ ⟨A2, c2, rfl, rfl⟩
  refine St.asrt (F' := .res (OwnL eu8 5 A2 c2 r1) :: .res (Box g1 30 (bx_T_Image i_p0 A1 c1)) :: .ro (SlL eu8 A1 c1 i_p0.Data) :: R) (fun _ w => w) ?_
  refine St.xk (fun _ w => ((.d (.k (.k .z))) : Keep _ _).sat w) ?_
  refine St.xef ?_
  obtain ⟨r2, hr2, h⟩ := bnd_e h
  refine St.call (c_bundle_numbers hr2) ent69 rfl rfl rfl (fun _ w => (w.front .z)) ?_
  rintro _ _ ⟨A3, c3, rfl, rfl⟩
  refine St.asrt (F' := .res (OwnL eu8 5 A3 c3 r2) :: .res (Box g1 30 (bx_T_Image i_p0 A1 c1)) :: .ro (SlL eu8 A1 c1 i_p0.Data) :: R) (fun _ w => w) ?_
  refine St.xk (fun _ w => ((.d (.k (.k .z))) : Keep _ _).sat w) ?_
  refine St.xef ?_
  obtain ⟨r3, hr3, h⟩ := bnd_e h
  refine St.call (c_bundle_short hr3) ent68 rfl rfl rfl (fun _ w => (w.front .z)) ?_
  rintro _ _ ⟨A4, c4, rfl, rfl⟩
  refine St.asrt (F' := .res (OwnL eu8 5 A4 c4 r3) :: .res (Box g1 30 (bx_T_Image i_p0 A1 c1)) :: .ro (SlL eu8 A1 c1 i_p0.Data) :: R) (fun _ w => w) ?_
  refine St.xk (fun _ w => ((.d (.k (.k .z))) : Keep _ _).sat w) ?_
  refine St.xef ?_
  obtain ⟨l1, hl1, h⟩ := bnd_e h
  refine St.app (E := eu8) hl1 rfl rfl rfl .z rfl rfl rfl rfl rfl rfl rfl rfl (srcL (.tail _ (.tail _ (.head _)))) rfl rfl fun A5 c5 => ?_
  refine St.xk (fun _ w => ((.d (.k (.k .z))) : Keep _ _).sat w) ?_
  refine St.xfl (fun _ h => h) (Rd.p rfl) rfl ?_
  refine St.xdone ?_
  refine St.thenN ?_
  refine St.prune (Γ' := [(2, _)]) ⟨rfl, trivial⟩ (.k (.d (.d .z))) ?_
  refine St.ret ?_
  repeat (first | refine St.thenR ?_ | refine St.blkR ?_)
  injection h with h
  subst h
  exact St.finR Try.results48 (.tmp rfl .nil) rfl [.res (OwnL eu8 5 A5 c5 l1)] ⟨A5, c5, rfl, rfl⟩ (fun _ w => ((.k .z) : Keep _ _).sat w)

theorem ent47 : Ent Try.prog 47 := ⟨_, Try.func47, by kernel_rfl, by kernel_rfl⟩

noncomputable def m_checksum_CRC32 (b_p0 : (List Int)) : Option Int :=
  bnd (loopM (τ := Int) (fun (s1 : Int × Int) => bif decide (s1.2 < (b_p0.length : Int)) then (bnd (elt b_p0 s1.2) fun x1 => bnd (loopM (τ := Int) (fun (s2 : Int × Int) => bif decide (s2.2 < 8) then (some (.next (iXor .u32 (iShr .u32 s2.1 1) (IntKind.wrap .u32 ((iAnd .u32 s2.1 1) * 3988292384)), IntKind.wrap .i64 (s2.2 + 1)))) else (some (.done s2.1))) (iXor .u32 s1.1 (IntKind.wrap .u32 x1), 0)) fun o2 => some (.next (o2, IntKind.wrap .i64 (s1.2 + 1)))) else (some (.done s1.1))) (4294967295, 0)) fun o1 => some (iXor .u32 (if IntKind.signed .u32 then -1 else IntKind.max .u32) o1)

theorem c_checksum_CRC32 {b_p0 : (List Int)} {A1 : Option Addr} {c1 : Nat} {r : Int} (h : m_checksum_CRC32 b_p0 = some r) :
    Fun Try.prog 47 [.slice A1 b_p0.length c1] [.ro (SlL eu8 A1 c1 b_p0)] (Val (.int .u32 r)) := by
  unfold m_checksum_CRC32 at h
  refine Fun.intro Try.func47 rfl rfl rfl fun w R => ?_
  refine St.seq ?_
  refine St.region ?_
  refine St.p rfl rfl ?_
  refine St.done ?_
  refine St.thenN ?_
  refine St.prune (Γ' := [(0, _)]) ⟨rfl, trivial⟩ (.k .z) ?_
  refine St.seq ?_
  refine St.region ?_
  refine St.p rfl rfl ?_
  refine St.done ?_
  refine St.thenN ?_
  refine St.seq ?_
  refine St.seq ?_
  refine St.region ?_
  iterate 3 refine St.p rfl rfl ?_
  refine St.done ?_
  refine St.thenN ?_
  refine St.prune (Γ' := [(3, _), (7, _), (8, _), (9, _)]) ⟨rfl, rfl, rfl, rfl, trivial⟩ (.k .z) ?_
  obtain ⟨o1, hl1, h⟩ := bnd_e h
  refine St.cutE (fun (e2 : Unit) => [(3, .int .u32 o1)]) (fun e2 => R) ?_ ?_
  · refine St.block ?_
    refine St.loop hl1 (fun (s1 : Int × Int) (e1 : Unit) => [(3, .int .u32 s1.1), (7, .slice A1 b_p0.length c1), (8, .int .i64 (b_p0.length : Int)), (9, .int .i64 s1.2)]) (fun s1 e1 => .ro (SlL eu8 A1 c1 b_p0) :: R) (fun _ _ => True) () trivial ⟨rfl, rfl, rfl, rfl, trivial⟩ (fun _ w => ((.k .z) : Keep _ _).sat w) ?_
    rintro s1 e1 - hit1
    obtain ⟨st1, hm1, hd1⟩ := iter_e hit1
    have h1 := hm1
    refine St.seq ?_
    refine St.region ?_
    refine St.p rfl rfl ?_
    refine St.done ?_
    refine St.thenN ?_
    refine St.seq ?_
    refine St.cond _ rfl (fun hb1 => ?_) (fun hb1 => ?_)
    · replace h1 := bif_t hb1 h1
      refine St.skip ?_
      refine St.thenN ?_
      refine St.prune (Γ' := [(3, _), (7, _), (8, _), (9, _)]) ⟨rfl, rfl, rfl, rfl, trivial⟩ (.k .z) ?_
      refine St.seq ?_
      refine St.block ?_
      refine St.seq ?_
      refine St.region ?_
      obtain ⟨x1, hx1, h1⟩ := bnd_e h1
      refine St.ixL hx1 rfl rfl rfl (.head _) rfl rfl rfl rfl rfl fun b1 ob1 => ?_
      refine St.load ob1 0 rfl rfl (.head _) rfl rfl ?_
      refine St.p rfl rfl ?_
      refine St.done ?_
      refine St.thenN ?_
      refine St.prune (Γ' := [(3, _), (5, _), (7, _), (8, _), (9, _)]) ⟨rfl, rfl, rfl, rfl, rfl, trivial⟩ (.d (.k .z)) ?_
      refine St.seq ?_
      refine St.region ?_
      iterate 5 refine St.p rfl rfl ?_
      refine St.done ?_
      refine St.thenN ?_
      refine St.prune (Γ' := [(3, _), (7, _), (8, _), (9, _)]) ⟨rfl, rfl, rfl, rfl, trivial⟩ (.k .z) ?_
      refine St.seq ?_
      refine St.region ?_
      refine St.p rfl rfl ?_
      refine St.done ?_
      refine St.thenN ?_
      obtain ⟨o2, hl2, h1⟩ := bnd_e h1
      refine St.selfThen ?_
      refine St.cutE (fun (e4 : Unit) => [(3, .int .u32 o2), (7, .slice A1 b_p0.length c1), (8, .int .i64 (b_p0.length : Int)), (9, .int .i64 s1.2)]) (fun e4 => .ro (SlL eu8 A1 c1 b_p0) :: R) ?_ ?_
      · refine St.block ?_
        refine St.loop hl2 (fun (s2 : Int × Int) (e3 : Unit) => [(3, .int .u32 s2.1), (7, .slice A1 b_p0.length c1), (8, .int .i64 (b_p0.length : Int)), (9, .int .i64 s1.2), (17, .int .i64 s2.2)]) (fun s2 e3 => .ro (SlL eu8 A1 c1 b_p0) :: R) (fun _ _ => True) () trivial ⟨rfl, rfl, rfl, rfl, rfl, trivial⟩ (fun _ w => ((.k .z) : Keep _ _).sat w) ?_
        rintro s2 e3 - hit2
        obtain ⟨st2, hm2, hd2⟩ := iter_e hit2
        have h2 := hm2
        refine St.seq ?_
        refine St.region ?_
        refine St.p rfl rfl ?_
        refine St.done ?_
        refine St.thenN ?_
        refine St.seq ?_
        refine St.cond _ rfl (fun hb2 => ?_) (fun hb2 => ?_)
        · replace h2 := bif_t hb2 h2
          refine St.skip ?_
          refine St.thenN ?_
          refine St.prune (Γ' := [(3, _), (7, _), (8, _), (9, _), (17, _)]) ⟨rfl, rfl, rfl, rfl, rfl, trivial⟩ (.k .z) ?_
          refine St.seq ?_
          refine St.block ?_
          refine St.seq ?_
          refine St.region ?_
          iterate 3 refine St.p rfl rfl ?_
          refine St.done ?_
          refine St.thenN ?_
          refine St.prune (Γ' := [(3, _), (6, _), (7, _), (8, _), (9, _), (17, _)]) ⟨rfl, rfl, rfl, rfl, rfl, rfl, trivial⟩ (.k .z) ?_
          refine St.region ?_
          iterate 6 refine St.p rfl rfl ?_
          refine St.done ?_
          refine St.blkN ?_
          refine St.thenN ?_
          refine St.prune (Γ' := [(3, _), (7, _), (8, _), (9, _), (17, _)]) ⟨rfl, rfl, rfl, rfl, rfl, trivial⟩ (.k .z) ?_
          refine St.region ?_
          refine St.p rfl rfl ?_
          refine St.p rfl rfl ?_
          refine St.done ?_
          injection h2 with h2
          subst h2
          refine St.thenN ?_
          exact St.again _ () hm2 trivial ⟨rfl, rfl, rfl, rfl, rfl, trivial⟩ (fun _ w => ((.k .z) : Keep _ _).sat w)
        · replace h2 := bif_f hb2 h2
          refine St.exit ?_
          repeat (first | refine St.thenX ?_ | refine St.blkMiss rfl ?_)
          refine St.blkHit ?_
          injection h2 with h2
          subst h2
          have ho := hd2 _ rfl
          subst ho
          refine St.thenN ?_
          exact St.hereE () ⟨rfl, rfl, rfl, rfl, trivial⟩ (fun _ w => ((.k .z) : Keep _ _).sat w)
      · rintro e4
        refine St.blkN ?_
        refine St.thenN ?_
        refine St.region ?_
        refine St.p rfl rfl ?_
        refine St.p rfl rfl ?_
        refine St.done ?_
        injection h1 with h1
        subst h1
        refine St.thenN ?_
        exact St.again _ () hm1 trivial ⟨rfl, rfl, rfl, rfl, trivial⟩ (fun _ w => ((.k .z) : Keep _ _).sat w)
    · replace h1 := bif_f hb1 h1
      refine St.exit ?_
      repeat (first | refine St.thenX ?_ | refine St.blkMiss rfl ?_)
      refine St.blkHit ?_
      injection h1 with h1
      subst h1
      have ho := hd1 _ rfl
      subst ho
      refine St.thenN ?_
      exact St.hereE () ⟨rfl, trivial⟩ (fun _ w => ((.d .z) : Keep _ _).sat w)
  · rintro e2
    refine St.seq ?_
    refine St.region ?_
    iterate 3 refine St.p rfl rfl ?_
    refine St.done ?_
    refine St.thenN ?_
    refine St.prune (Γ' := [(2, _)]) ⟨rfl, trivial⟩ .z ?_
    refine St.ret ?_
    repeat (first | refine St.thenR ?_ | refine St.blkR ?_)
    injection h with h
    subst h
    exact St.finR Try.results47 (.tmp rfl .nil) rfl [] ⟨rfl, rfl⟩ (fun _ w => (.z : Keep _ _).sat w)

theorem ent15 : Ent Try.prog 15 := ⟨_, Try.func15, by kernel_rfl, by kernel_rfl⟩

noncomputable def m_bundle_Sum (i_p0 : T_Image) : Option Int :=
  bnd (m_bundle_Right i_p0) fun r1 => bif !r1 then (some 0) else (bnd (m_bundle_bytes i_p0) fun r2 => bnd (m_checksum_CRC32 r2) fun r3 => some r3)

theorem c_bundle_Sum {i_p0 : T_Image} {A1 : Option Addr} {c1 : Nat} {r : Int} (h : m_bundle_Sum i_p0 = some r) :
    Fun Try.prog 15 [.agg (bx_T_Image i_p0 A1 c1).toArray] [.ro (SlL eu8 A1 c1 i_p0.Data)] (Val (.int .u32 r)) := by
  unfold m_bundle_Sum at h
  refine Fun.intro Try.func15 rfl rfl rfl fun w R => ?_
  refine St.seq ?_
  refine St.region ?_
  refine St.box rfl rfl fun g1 => ?_
  refine St.p rfl rfl ?_
  refine St.done ?_
  refine St.thenN ?_
  refine St.prune (Γ' := [(1, _)]) ⟨rfl, trivial⟩ (.k (.k .z)) ?_
  refine St.seq ?_
  refine St.seq ?_
  refine St.region ?_
  refine St.loadB 0 rfl rfl (.head _) rfl rfl ?_
  obtain ⟨r1, hr1, h⟩ := bnd_e h
  refine St.callV (c_bundle_Right hr1) ent41 rfl rfl rfl rfl ⟨(.tail _ (.head _)), trivial⟩ ?_
  refine St.p rfl rfl ?_
  refine St.done ?_
  refine St.thenN ?_
  refine St.prune (Γ' := [(1, _), (5, _)]) ⟨rfl, rfl, trivial⟩ (.k (.k .z)) ?_
  refine St.cond _ rfl (fun hb1 => ?_) (fun hb1 => ?_)
  · replace h := bif_t hb1 h
    refine St.seq ?_
    refine St.region ?_
    refine St.p rfl rfl ?_
    refine St.done ?_
    refine St.thenN ?_
    refine St.prune (Γ' := [(2, _)]) ⟨rfl, trivial⟩ (.d (.d .z)) ?_
    refine St.ret ?_
    repeat (first | refine St.thenR ?_ | refine St.blkR ?_)
    injection h with h
    subst h
    exact St.finR Try.results15 (.tmp rfl .nil) rfl [] ⟨rfl, rfl⟩ (fun _ w => (.z : Keep _ _).sat w)
  · replace h := bif_f hb1 h
    refine St.skip ?_
    refine St.thenN ?_
    refine St.prune (Γ' := [(1, _)]) ⟨rfl, trivial⟩ (.k (.k .z)) ?_
    refine St.seq ?_
    refine St.region ?_
    refine St.loadB 0 rfl rfl (.head _) rfl rfl ?_
    obtain ⟨r2, hr2, h⟩ := bnd_e h
    refine St.call (c_bundle_bytes hr2) ent48 rfl rfl rfl (fun _ w => Sat.dup (G := [.ro (SlL eu8 A1 c1 i_p0.Data)]) rfl ⟨(.tail _ (.head _)), trivial⟩ w) ?_
    rintro _ _ ⟨A2, c2, rfl, rfl⟩
    refine St.asrt (F' := .res (OwnL eu8 5 A2 c2 r2) :: .res (Box g1 30 (bx_T_Image i_p0 A1 c1)) :: .ro (SlL eu8 A1 c1 i_p0.Data) :: R) (fun _ w => w) ?_
    refine St.asrt (fun _ w => (w.front .z).meltL) ?_
    obtain ⟨r3, hr3, h⟩ := bnd_e h
    refine St.callV (c_checksum_CRC32 hr3) ent47 rfl rfl rfl rfl ⟨(.head _), trivial⟩ ?_
    refine St.p rfl rfl ?_
    refine St.done ?_
    refine St.thenN ?_
    refine St.prune (Γ' := [(2, _)]) ⟨rfl, trivial⟩ (.d (.d (.d .z))) ?_
    refine St.ret ?_
    repeat (first | refine St.thenR ?_ | refine St.blkR ?_)
    injection h with h
    subst h
    exact St.finR Try.results15 (.tmp rfl .nil) rfl [] ⟨rfl, rfl⟩ (fun _ w => (.z : Keep _ _).sat w)

theorem ent11 : Ent Try.prog 11 := ⟨_, Try.func11, by kernel_rfl, by kernel_rfl⟩

noncomputable def m_bank_New (i_p0 : T_Image) : Option (T_Device × Int) :=
  bnd (m_bundle_Right i_p0) fun r1 => bif !r1 then (some ((⟨⟨#[]⟩, (⟨(⟨(⟨⟨#[]⟩, (⟨0, 0, 0⟩ : T_Version), []⟩ : T_Image), 0⟩ : T_Slot), (⟨(⟨⟨#[]⟩, (⟨0, 0, 0⟩ : T_Version), []⟩ : T_Image), 0⟩ : T_Slot)⟩ : (Arr2 T_Slot)), 0, 0, false⟩ : T_Device), 1)) else (bnd (m_bank_image i_p0) fun r2 => bnd (m_bundle_Sum i_p0) fun r3 => some ((⟨i_p0.Name, (⟨(⟨r2, r3⟩ : T_Slot), (⟨(⟨⟨#[]⟩, (⟨0, 0, 0⟩ : T_Version), []⟩ : T_Image), 0⟩ : T_Slot)⟩ : (Arr2 T_Slot)), 0, 0, false⟩ : T_Device), 0))

theorem c_bank_New {i_p0 : T_Image} {A1 : Option Addr} {c1 : Nat} {r : (T_Device × Int)} (h : m_bank_New i_p0 = some r) :
    Fun Try.prog 11 [.agg (bx_T_Image i_p0 A1 c1).toArray] [.ro (SlL eu8 A1 c1 i_p0.Data)] (fun v_ F_ => ∃ (A1 : Option Addr) (c1 : Nat) (A2 : Option Addr) (c2 : Nat), v_ = .tuple #[.agg (bx_T_Device r.1 A1 c1 A2 c2).toArray, .int .i64 r.2] ∧ F_ = [.ro (SlL eu8 A1 c1 r.1.Slots.e0.Image.Data), .ro (SlL eu8 A2 c2 r.1.Slots.e1.Image.Data)]) := by
  unfold m_bank_New at h
  refine Fun.intro Try.func11 rfl rfl rfl fun w R => ?_
  refine St.seq ?_
  refine St.region ?_
  refine St.box rfl rfl fun g1 => ?_
  refine St.alloc rfl rfl fun g2 => ?_
  refine St.p rfl rfl ?_
  refine St.done ?_
  refine St.thenN ?_
  refine St.prune (Γ' := [(1, _), (2, _)]) ⟨rfl, rfl, trivial⟩ (.k (.k (.k .z))) ?_
  refine St.seq ?_
  refine St.seq ?_
  refine St.region ?_
  refine St.loadB 0 rfl rfl (.tail _ (.head _)) rfl rfl ?_
  obtain ⟨r1, hr1, h⟩ := bnd_e h
  refine St.callV (c_bundle_Right hr1) ent41 rfl rfl rfl rfl ⟨(.tail _ (.tail _ (.head _))), trivial⟩ ?_
  refine St.p rfl rfl ?_
  refine St.done ?_
  refine St.thenN ?_
  refine St.prune (Γ' := [(1, _), (2, _), (7, _)]) ⟨rfl, rfl, rfl, trivial⟩ (.k (.k (.k .z))) ?_
  refine St.cond _ rfl (fun hb1 => ?_) (fun hb1 => ?_)
  · replace h := bif_t hb1 h
    refine St.seq ?_
    refine St.region ?_
    refine St.p rfl rfl ?_
    refine St.store 0 rfl rfl rfl rfl rfl rfl .z rfl ?_
    refine St.p rfl rfl ?_
    refine St.done ?_
    refine St.thenN ?_
    refine St.prune (Γ' := [(2, _), (3, _)]) ⟨rfl, rfl, trivial⟩ (.k (.d (.d .z))) ?_
    refine St.ret ?_
    repeat (first | refine St.thenR ?_ | refine St.blkR ?_)
    refine St.asrt (fun _ w => w.nilSl (cod eu8)) ?_
    refine St.asrt (fun _ w => w.nilSl (cod eu8)) ?_
    injection h with h
    subst h
    exact St.finR Try.results11 (.cell rfl (.tail _ (.tail _ (.head _))) rfl (.tmp rfl .nil)) rfl [.ro (SlL eu8 none 0 ([] : List Int)), .ro (SlL eu8 none 0 ([] : List Int))] ⟨none, 0, none, 0, rfl, rfl⟩ (fun _ w => ((.k (.k (.d (.d (.d .z))))) : Keep _ _).sat (Sat.dup (G := [.ro (SlL eu8 none 0 ([] : List Int)), .ro (SlL eu8 none 0 ([] : List Int))]) rfl ⟨(.head _), (.head _), trivial⟩ w))
  · replace h := bif_f hb1 h
    refine St.skip ?_
    refine St.thenN ?_
    refine St.prune (Γ' := [(1, _), (2, _)]) ⟨rfl, rfl, trivial⟩ (.k (.k (.k .z))) ?_
    refine St.seq ?_
    refine St.region ?_
    refine St.p rfl rfl ?_
    refine St.loadB 0 rfl rfl (.tail _ (.head _)) rfl rfl ?_
    refine St.p rfl rfl ?_
    refine St.alloc rfl rfl fun g3 => ?_
    refine St.store 0 rfl rfl rfl rfl rfl rfl .z rfl ?_
    refine St.done ?_
    refine St.thenN ?_
    refine St.prune (Γ' := [(1, _), (2, _), (4, _)]) ⟨rfl, rfl, rfl, trivial⟩ (.k (.k (.k (.k .z)))) ?_
    refine St.seq ?_
    refine St.regionX (iL [(.fx, 0), (.fl, 2), (.fl, 5), (.ef, 1), (.qc, 3), (.fl, 4), (.fl, 6), (.ef, 7)] .nil) (.res (Box g2 35 [.string (⟨#[]⟩), .string (⟨#[]⟩), .int .i64 0, .int .i64 0, .int .i64 0, .slice none 0 0, .int .u32 0, .string (⟨#[]⟩), .int .i64 0, .int .i64 0, .int .i64 0, .slice none 0 0, .int .u32 0, .int .i64 0, .int .i64 0, .bool false]) :: .res (Box g1 30 (bx_T_Image i_p0 A1 c1)) :: .ro (SlL eu8 A1 c1 i_p0.Data) :: R) mixed (by kernel_rfl) (fun _ w => ((.d (.k (.k (.k .z)))) : Keep _ _).sat w) ?_
    refine St.xfx (Rd.loadB 0 rfl (.tail _ (.tail _ (.head _))) rfl rfl) rfl ?_
    refine St.xfl (fun _ h => h) (Rd.loadB 0 rfl (.tail _ (.head _)) rfl rfl) rfl ?_
    refine St.xfl (fun _ h => h) (Rd.p rfl) rfl ?_
    refine St.xef ?_
    obtain ⟨r2, hr2, h⟩ := bnd_e h
    refine St.call (c_bank_image hr2) ent42 rfl rfl rfl (fun _ w => Sat.dup (G := [.ro (SlL eu8 A1 c1 i_p0.Data)]) rfl ⟨(.tail _ (.tail _ (.tail _ (.head _)))), trivial⟩ w) ?_
    rintro _ _ ⟨A2, c2, rfl, rfl⟩
    refine St.asrt (F' := .ro (SlL eu8 A2 c2 r2.Data) :: .res (Box g3 35 [.string i_p0.Name, .string (⟨#[]⟩), .int .i64 0, .int .i64 0, .int .i64 0, .slice none 0 0, .int .u32 0, .string (⟨#[]⟩), .int .i64 0, .int .i64 0, .int .i64 0, .slice none 0 0, .int .u32 0, .int .i64 0, .int .i64 0, .bool false]) :: .res (Box g2 35 [.string (⟨#[]⟩), .string (⟨#[]⟩), .int .i64 0, .int .i64 0, .int .i64 0, .slice none 0 0, .int .u32 0, .string (⟨#[]⟩), .int .i64 0, .int .i64 0, .int .i64 0, .slice none 0 0, .int .u32 0, .int .i64 0, .int .i64 0, .bool false]) :: .res (Box g1 30 (bx_T_Image i_p0 A1 c1)) :: .ro (SlL eu8 A1 c1 i_p0.Data) :: R) (fun _ w => w) ?_
    refine St.xk (fun _ w => ((.d (.d (.k (.k (.k .z))))) : Keep _ _).sat w) ?_
    obtain ⟨r3, hr3, h⟩ := bnd_e h
    refine St.xqc (fun _ h => h) (c_bundle_Sum hr3) ent15 rfl rfl rfl rfl ⟨(.tail _ (.tail _ (.head _))), trivial⟩ ?_
    refine St.xfl (fun _ h => h) (Rd.p rfl) rfl ?_
    refine St.xfl (fun _ h => h) (Rd.p rfl) rfl ?_
    refine St.xef ?_
    refine St.store 1 rfl rfl rfl rfl rfl rfl (.s .z) rfl ?_
    refine St.xk (fun _ w => ((.d (.d (.k (.k (.k .z))))) : Keep _ _).sat w) ?_
    refine St.xdone ?_
    refine St.thenN ?_
    refine St.prune (Γ' := [(2, _), (4, _)]) ⟨rfl, rfl, trivial⟩ (.k (.k (.k (.d (.d .z))))) ?_
    refine St.seq ?_
    refine St.region ?_
    refine St.loadB 0 rfl rfl (.head _) rfl rfl ?_
    refine St.store 0 rfl rfl rfl rfl rfl rfl (.s (.s .z)) rfl ?_
    refine St.p rfl rfl ?_
    refine St.done ?_
    refine St.thenN ?_
    refine St.prune (Γ' := [(2, _), (3, _)]) ⟨rfl, rfl, trivial⟩ (.k (.d (.k .z))) ?_
    refine St.ret ?_
    repeat (first | refine St.thenR ?_ | refine St.blkR ?_)
    refine St.asrt (fun _ w => w.nilSl (cod eu8)) ?_
    injection h with h
    subst h
    exact St.finR Try.results11 (.cell rfl (.tail _ (.head _)) rfl (.tmp rfl .nil)) rfl [.ro (SlL eu8 A2 c2 r2.Data), .ro (SlL eu8 none 0 ([] : List Int))] ⟨A2, c2, none, 0, rfl, rfl⟩ (fun _ w => ((.k (.k (.d (.d (.d .z))))) : Keep _ _).sat (Sat.dup (G := [.ro (SlL eu8 A2 c2 r2.Data), .ro (SlL eu8 none 0 ([] : List Int))]) rfl ⟨(.tail _ (.tail _ (.head _))), (.head _), trivial⟩ w))

theorem ent33 : Ent Try.prog 33 := ⟨_, Try.func33, by kernel_rfl, by kernel_rfl⟩

noncomputable def m_bank_Whole (s_p0 : T_Slot) : Option Bool :=
  bnd ((bnd (m_bundle_Right s_p0.Image) fun r1 => bif r1 then (bnd (m_bundle_Sum s_p0.Image) fun r2 => some (s_p0.Sum == r2)) else (some false) : Option Bool)) fun o1 => some o1

theorem c_bank_Whole {s_p0 : T_Slot} {A1 : Option Addr} {c1 : Nat} {r : Bool} (h : m_bank_Whole s_p0 = some r) :
    Fun Try.prog 33 [.agg (bx_T_Slot s_p0 A1 c1).toArray] [.ro (SlL eu8 A1 c1 s_p0.Image.Data)] (Val (.bool r)) := by
  unfold m_bank_Whole at h
  refine Fun.intro Try.func33 rfl rfl rfl fun w R => ?_
  refine St.seq ?_
  refine St.region ?_
  refine St.box rfl rfl fun g1 => ?_
  refine St.p rfl rfl ?_
  refine St.done ?_
  refine St.thenN ?_
  refine St.prune (Γ' := [(1, _)]) ⟨rfl, trivial⟩ (.k (.k .z)) ?_
  refine St.seq ?_
  obtain ⟨o1, hj1, h⟩ := bnd_e h
  refine St.cutE (fun (e1 : Unit) => [(2, .bool o1)]) (fun e1 => R) ?_ ?_
  · refine St.regionF mixed (by kernel_rfl) ?_
    refine St.p rfl rfl ?_
    refine St.loadB 0 rfl rfl (.head _) rfl rfl ?_
    obtain ⟨r1, hr1, hj1⟩ := bnd_e hj1
    refine St.callV (c_bundle_Right hr1) ent41 rfl rfl rfl rfl ⟨(.tail _ (.head _)), trivial⟩ ?_
    refine St.p rfl rfl ?_
    refine St.gSplit (dj := 6) _ rfl (fun hb1 => ?_) (fun hb1 => ?_)
    · replace hj1 := bif_t hb1 hj1
      refine St.gOn (dj := 6) rfl rfl ?_
      refine St.p rfl rfl ?_
      refine St.gOn (dj := 6) rfl rfl ?_
      refine St.loadB 5 rfl rfl (.head _) rfl rfl ?_
      refine St.gOn (dj := 6) rfl rfl ?_
      refine St.p rfl rfl ?_
      refine St.gOn (dj := 6) rfl rfl ?_
      refine St.loadB 0 rfl rfl (.head _) rfl rfl ?_
      refine St.gOn (dj := 6) rfl rfl ?_
      obtain ⟨r2, hr2, hj1⟩ := bnd_e hj1
      refine St.callV (c_bundle_Sum hr2) ent15 rfl rfl rfl rfl ⟨(.tail _ (.head _)), trivial⟩ ?_
      refine St.gOn (dj := 6) rfl rfl ?_
      iterate 3 refine St.p rfl rfl ?_
      refine St.doneQ ?_
      injection hj1 with hj1
      subst hj1
      refine St.thenN ?_
      exact St.hereE () ⟨rfl, trivial⟩ (fun _ w => ((.d (.d .z)) : Keep _ _).sat w)
    · replace hj1 := bif_f hb1 hj1
      refine St.gOff (dj := 6) rfl rfl rfl rfl ?_
      refine St.gOff (dj := 6) rfl rfl rfl rfl ?_
      refine St.gOff (dj := 6) rfl rfl rfl rfl ?_
      refine St.gOff (dj := 6) rfl rfl rfl rfl ?_
      refine St.gOff (dj := 6) rfl rfl rfl rfl ?_
      refine St.gOff (dj := 6) rfl rfl rfl rfl ?_
      refine St.p rfl rfl ?_
      refine St.p rfl rfl ?_
      refine St.doneQ ?_
      injection hj1 with hj1
      subst hj1
      refine St.thenN ?_
      exact St.hereE () ⟨rfl, trivial⟩ (fun _ w => ((.d (.d .z)) : Keep _ _).sat w)
  · rintro e1
    refine St.ret ?_
    repeat (first | refine St.thenR ?_ | refine St.blkR ?_)
    injection h with h
    subst h
    exact St.finR Try.results33 (.tmp rfl .nil) rfl [] ⟨rfl, rfl⟩ (fun _ w => (.z : Keep _ _).sat w)

theorem ent46 : Ent Try.prog 46 := ⟨_, Try.func46, by kernel_rfl, by kernel_rfl⟩

noncomputable def m_bank_own (d_p0 : T_Device) (s_p1 : T_Slot) : Option Bool :=
  bnd ((bnd (m_bank_Whole s_p1) fun r1 => bif r1 then (some (s_p1.Image.Name.toList == d_p0.Name.toList)) else (some false) : Option Bool)) fun o1 => some o1

theorem c_bank_own {d_p0 : T_Device} {s_p1 : T_Slot} {A1 : Option Addr} {c1 : Nat} {A2 : Option Addr} {c2 : Nat} {A3 : Option Addr} {c3 : Nat} {r : Bool} (h : m_bank_own d_p0 s_p1 = some r) :
    Fun Try.prog 46 [.agg (bx_T_Device d_p0 A1 c1 A2 c2).toArray, .agg (bx_T_Slot s_p1 A3 c3).toArray] [.ro (SlL eu8 A1 c1 d_p0.Slots.e0.Image.Data), .ro (SlL eu8 A2 c2 d_p0.Slots.e1.Image.Data), .ro (SlL eu8 A3 c3 s_p1.Image.Data)] (Val (.bool r)) := by
  unfold m_bank_own at h
  refine Fun.intro Try.func46 rfl rfl rfl fun w R => ?_
  refine St.seq ?_
  refine St.region ?_
  refine St.box rfl rfl fun g1 => ?_
  refine St.box rfl rfl fun g2 => ?_
  refine St.p rfl rfl ?_
  refine St.done ?_
  refine St.thenN ?_
  refine St.prune (Γ' := [(2, _), (3, _)]) ⟨rfl, rfl, trivial⟩ (.k (.k (.k (.k (.k .z))))) ?_
  refine St.seq ?_
  obtain ⟨o1, hj1, h⟩ := bnd_e h
  refine St.cutE (fun (e1 : Unit) => [(4, .bool o1)]) (fun e1 => R) ?_ ?_
  · refine St.region ?_
    refine St.loadB 0 rfl rfl (.head _) rfl rfl ?_
    obtain ⟨r1, hr1, hj1⟩ := bnd_e hj1
    refine St.callV (c_bank_Whole hr1) ent33 rfl rfl rfl rfl ⟨(.tail _ (.tail _ (.tail _ (.tail _ (.head _))))), trivial⟩ ?_
    refine St.p rfl rfl ?_
    refine St.gSplit (dj := 7) _ rfl (fun hb1 => ?_) (fun hb1 => ?_)
    · replace hj1 := bif_t hb1 hj1
      refine St.gOn (dj := 7) rfl rfl ?_
      refine St.p rfl rfl ?_
      refine St.gOn (dj := 7) rfl rfl ?_
      refine St.p rfl rfl ?_
      refine St.gOn (dj := 7) rfl rfl ?_
      refine St.loadB 0 rfl rfl (.head _) rfl rfl ?_
      refine St.gOn (dj := 7) rfl rfl ?_
      refine St.p rfl rfl ?_
      refine St.gOn (dj := 7) rfl rfl ?_
      refine St.loadB 0 rfl rfl (.tail _ (.head _)) rfl rfl ?_
      refine St.gOn (dj := 7) rfl rfl ?_
      iterate 3 refine St.p rfl rfl ?_
      refine St.done ?_
      injection hj1 with hj1
      subst hj1
      refine St.thenN ?_
      exact St.hereE () ⟨rfl, trivial⟩ (fun _ w => ((.d (.d (.d (.d (.d .z))))) : Keep _ _).sat w)
    · replace hj1 := bif_f hb1 hj1
      refine St.gOff (dj := 7) rfl rfl rfl rfl ?_
      refine St.gOff (dj := 7) rfl rfl rfl rfl ?_
      refine St.gOff (dj := 7) rfl rfl rfl rfl ?_
      refine St.gOff (dj := 7) rfl rfl rfl rfl ?_
      refine St.gOff (dj := 7) rfl rfl rfl rfl ?_
      refine St.gOff (dj := 7) rfl rfl rfl rfl ?_
      refine St.p rfl rfl ?_
      refine St.p rfl rfl ?_
      refine St.done ?_
      injection hj1 with hj1
      subst hj1
      refine St.thenN ?_
      exact St.hereE () ⟨rfl, trivial⟩ (fun _ w => ((.d (.d (.d (.d (.d .z))))) : Keep _ _).sat w)
  · rintro e1
    refine St.ret ?_
    repeat (first | refine St.thenR ?_ | refine St.blkR ?_)
    injection h with h
    subst h
    exact St.finR Try.results46 (.tmp rfl .nil) rfl [] ⟨rfl, rfl⟩ (fun _ w => (.z : Keep _ _).sat w)

theorem ent45 : Ent Try.prog 45 := ⟨_, Try.func45, by kernel_rfl, by kernel_rfl⟩

noncomputable def m_bank_other (d_p0 : T_Device) : Option Int :=
  bnd (elt [d_p0.Slots.e0, d_p0.Slots.e1] (IntKind.wrap .i64 (1 - d_p0.Running))) fun x1 => some (IntKind.wrap .i64 (1 - d_p0.Running))

theorem c_bank_other {d_p0 : T_Device} {A1 : Option Addr} {c1 : Nat} {A2 : Option Addr} {c2 : Nat} {gb1 : Nat} {r : Int} (h : m_bank_other d_p0 = some r) :
    Fun Try.prog 45 [.pointer (some ⟨gb1, 0, none⟩)] [.ro (SlL eu8 A1 c1 d_p0.Slots.e0.Image.Data), .ro (SlL eu8 A2 c2 d_p0.Slots.e1.Image.Data), .res (Box gb1 35 (bx_T_Device d_p0 A1 c1 A2 c2))] (fun v_ F_ => v_ = .pointer (some ⟨gb1, 1 + Int.toNat r * 6, none⟩) ∧ F_ = [.res (Box gb1 35 (bx_T_Device d_p0 A1 c1 A2 c2))]) := by
  unfold m_bank_other at h
  refine Fun.intro Try.func45 rfl rfl rfl fun w R => ?_
  refine St.seq ?_
  refine St.region ?_
  refine St.p rfl rfl ?_
  refine St.done ?_
  refine St.thenN ?_
  refine St.prune (Γ' := [(0, _)]) ⟨rfl, trivial⟩ (.k (.k (.k .z))) ?_
  refine St.seq ?_
  refine St.regionF mixed (by kernel_rfl) ?_
  iterate 4 refine St.p rfl rfl ?_
  refine St.loadB 14 rfl rfl (.tail _ (.tail _ (.head _))) rfl rfl ?_
  iterate 3 refine St.p rfl rfl ?_
  obtain ⟨x1, hx1, h⟩ := bnd_e h
  refine St.ixP (sz := 6) hx1 rfl rfl rfl rfl rfl rfl rfl rfl ?_
  refine St.p rfl rfl ?_
  refine St.doneQ ?_
  refine St.thenN ?_
  refine St.prune (Γ' := [(2, _)]) ⟨rfl, trivial⟩ (.k (.k (.k .z))) ?_
  refine St.ret ?_
  repeat (first | refine St.thenR ?_ | refine St.blkR ?_)
  injection h with h
  subst h
  exact St.finR Try.results45 (.tmp rfl .nil) rfl [.res (Box gb1 35 (bx_T_Device d_p0 A1 c1 A2 c2))] ⟨rfl, rfl⟩ (fun _ w => ((.k (.d (.d .z))) : Keep _ _).sat (w.front (.s (.s .z))))

theorem ent21 : Ent Try.prog 21 := ⟨_, Try.func21, by kernel_rfl, by kernel_rfl⟩

noncomputable def m_bank_Valid (d_p0 : T_Device) : Option Bool :=
  bnd ((bif decide (d_p0.Active < 0) then (some true) else (bif decide (d_p0.Active > 1) then (some true) else (bif decide (d_p0.Running < 0) then (some true) else (bif decide (d_p0.Running > 1) then (some true) else (bnd (elt [d_p0.Slots.e0, d_p0.Slots.e1] d_p0.Active) fun x1 => bnd (m_bank_own d_p0 x1) fun r1 => bif !r1 then (some true) else (bnd (elt [d_p0.Slots.e0, d_p0.Slots.e1] d_p0.Running) fun x2 => bnd (m_bank_own d_p0 x2) fun r2 => some (!r2)))))) : Option Bool)) fun o1 => bif o1 then (some false) else (bnd ((bif !d_p0.Trial then (some true) else (bif (d_p0.Running == d_p0.Active) then (bnd (m_bank_other d_p0) fun r3 => bnd (elt [d_p0.Slots.e0, d_p0.Slots.e1] r3) fun x3 => bnd (m_bank_own d_p0 x3) fun r4 => some r4) else (some false)) : Option Bool)) fun o2 => some o2)

set_option maxHeartbeats 4000000 in
theorem c_bank_Valid {d_p0 : T_Device} {A1 : Option Addr} {c1 : Nat} {A2 : Option Addr} {c2 : Nat} {r : Bool} (h : m_bank_Valid d_p0 = some r) :
    Fun Try.prog 21 [.agg (bx_T_Device d_p0 A1 c1 A2 c2).toArray] [.ro (SlL eu8 A1 c1 d_p0.Slots.e0.Image.Data), .ro (SlL eu8 A2 c2 d_p0.Slots.e1.Image.Data)] (Val (.bool r)) := by
  unfold m_bank_Valid at h
  refine Fun.intro Try.func21 rfl rfl rfl fun w R => ?_
  refine St.seq ?_
  refine St.region ?_
  refine St.box rfl rfl fun g1 => ?_
  refine St.p rfl rfl ?_
  refine St.done ?_
  refine St.thenN ?_
  refine St.prune (Γ' := [(1, _)]) ⟨rfl, trivial⟩ (.k (.k (.k .z))) ?_
  refine St.seq ?_
  refine St.seq ?_
  obtain ⟨o1, hj1, h⟩ := bnd_e h
  refine St.cutE (fun (e1 : Unit) => [(1, .pointer (some ⟨g1, 0, none⟩)), (40, .bool o1)]) (fun e1 => .res (Box g1 35 (bx_T_Device d_p0 A1 c1 A2 c2)) :: .ro (SlL eu8 A1 c1 d_p0.Slots.e0.Image.Data) :: .ro (SlL eu8 A2 c2 d_p0.Slots.e1.Image.Data) :: R) ?_ ?_
  · refine St.regionF mixed (by kernel_rfl) ?_
    refine St.p rfl rfl ?_
    refine St.loadB 13 rfl rfl (.head _) rfl rfl ?_
    refine St.p rfl rfl ?_
    refine St.p rfl rfl ?_
    refine St.gSplit (dj := 6) _ rfl (fun hb1 => ?_) (fun hb1 => ?_)
    · replace hj1 := bif_t hb1 hj1
      refine St.gOff (dj := 6) rfl rfl rfl rfl ?_
      refine St.gOff (dj := 6) rfl rfl rfl rfl ?_
      refine St.gOff (dj := 6) rfl rfl rfl rfl ?_
      refine St.p rfl rfl ?_
      refine St.p rfl rfl ?_
      refine St.gOff (dj := 11) rfl rfl rfl rfl ?_
      refine St.gOff (dj := 11) rfl rfl rfl rfl ?_
      refine St.gOff (dj := 11) rfl rfl rfl rfl ?_
      refine St.p rfl rfl ?_
      refine St.p rfl rfl ?_
      refine St.gOff (dj := 16) rfl rfl rfl rfl ?_
      refine St.gOff (dj := 16) rfl rfl rfl rfl ?_
      refine St.gOff (dj := 16) rfl rfl rfl rfl ?_
      refine St.p rfl rfl ?_
      refine St.p rfl rfl ?_
      refine St.gOff (dj := 21) rfl rfl rfl rfl ?_
      refine St.gOff (dj := 21) rfl rfl rfl rfl ?_
      refine St.gOff (dj := 21) rfl rfl rfl rfl ?_
      refine St.gOff (dj := 21) rfl rfl rfl rfl ?_
      refine St.gOff (dj := 21) rfl rfl rfl rfl ?_
      refine St.gOff (dj := 21) rfl rfl rfl rfl ?_
      refine St.gOff (dj := 21) rfl rfl rfl rfl ?_
      refine St.gOff (dj := 21) rfl rfl rfl rfl ?_
      refine St.p rfl rfl ?_
      refine St.p rfl rfl ?_
      refine St.gOff (dj := 31) rfl rfl rfl rfl ?_
      refine St.gOff (dj := 31) rfl rfl rfl rfl ?_
      refine St.gOff (dj := 31) rfl rfl rfl rfl ?_
      refine St.gOff (dj := 31) rfl rfl rfl rfl ?_
      refine St.gOff (dj := 31) rfl rfl rfl rfl ?_
      refine St.gOff (dj := 31) rfl rfl rfl rfl ?_
      refine St.gOff (dj := 31) rfl rfl rfl rfl ?_
      refine St.gOff (dj := 31) rfl rfl rfl rfl ?_
      refine St.p rfl rfl ?_
      refine St.doneQ ?_
      injection hj1 with hj1
      subst hj1
      refine St.thenN ?_
      exact St.hereE () ⟨rfl, rfl, trivial⟩ (fun _ w => ((.k (.k (.k .z))) : Keep _ _).sat w)
    · replace hj1 := bif_f hb1 hj1
      refine St.gOn (dj := 6) rfl rfl ?_
      refine St.p rfl rfl ?_
      refine St.gOn (dj := 6) rfl rfl ?_
      refine St.loadB 13 rfl rfl (.head _) rfl rfl ?_
      refine St.gOn (dj := 6) rfl rfl ?_
      iterate 3 refine St.p rfl rfl ?_
      refine St.gSplit (dj := 11) _ rfl (fun hb2 => ?_) (fun hb2 => ?_)
      · replace hj1 := bif_t hb2 hj1
        refine St.gOff (dj := 11) rfl rfl rfl rfl ?_
        refine St.gOff (dj := 11) rfl rfl rfl rfl ?_
        refine St.gOff (dj := 11) rfl rfl rfl rfl ?_
        refine St.p rfl rfl ?_
        refine St.p rfl rfl ?_
        refine St.gOff (dj := 16) rfl rfl rfl rfl ?_
        refine St.gOff (dj := 16) rfl rfl rfl rfl ?_
        refine St.gOff (dj := 16) rfl rfl rfl rfl ?_
        refine St.p rfl rfl ?_
        refine St.p rfl rfl ?_
        refine St.gOff (dj := 21) rfl rfl rfl rfl ?_
        refine St.gOff (dj := 21) rfl rfl rfl rfl ?_
        refine St.gOff (dj := 21) rfl rfl rfl rfl ?_
        refine St.gOff (dj := 21) rfl rfl rfl rfl ?_
        refine St.gOff (dj := 21) rfl rfl rfl rfl ?_
        refine St.gOff (dj := 21) rfl rfl rfl rfl ?_
        refine St.gOff (dj := 21) rfl rfl rfl rfl ?_
        refine St.gOff (dj := 21) rfl rfl rfl rfl ?_
        refine St.p rfl rfl ?_
        refine St.p rfl rfl ?_
        refine St.gOff (dj := 31) rfl rfl rfl rfl ?_
        refine St.gOff (dj := 31) rfl rfl rfl rfl ?_
        refine St.gOff (dj := 31) rfl rfl rfl rfl ?_
        refine St.gOff (dj := 31) rfl rfl rfl rfl ?_
        refine St.gOff (dj := 31) rfl rfl rfl rfl ?_
        refine St.gOff (dj := 31) rfl rfl rfl rfl ?_
        refine St.gOff (dj := 31) rfl rfl rfl rfl ?_
        refine St.gOff (dj := 31) rfl rfl rfl rfl ?_
        refine St.p rfl rfl ?_
        refine St.doneQ ?_
        injection hj1 with hj1
        subst hj1
        refine St.thenN ?_
        exact St.hereE () ⟨rfl, rfl, trivial⟩ (fun _ w => ((.k (.k (.k .z))) : Keep _ _).sat w)
      · replace hj1 := bif_f hb2 hj1
        refine St.gOn (dj := 11) rfl rfl ?_
        refine St.p rfl rfl ?_
        refine St.gOn (dj := 11) rfl rfl ?_
        refine St.loadB 14 rfl rfl (.head _) rfl rfl ?_
        refine St.gOn (dj := 11) rfl rfl ?_
        iterate 3 refine St.p rfl rfl ?_
        refine St.gSplit (dj := 16) _ rfl (fun hb3 => ?_) (fun hb3 => ?_)
        · replace hj1 := bif_t hb3 hj1
          refine St.gOff (dj := 16) rfl rfl rfl rfl ?_
          refine St.gOff (dj := 16) rfl rfl rfl rfl ?_
          refine St.gOff (dj := 16) rfl rfl rfl rfl ?_
          refine St.p rfl rfl ?_
          refine St.p rfl rfl ?_
          refine St.gOff (dj := 21) rfl rfl rfl rfl ?_
          refine St.gOff (dj := 21) rfl rfl rfl rfl ?_
          refine St.gOff (dj := 21) rfl rfl rfl rfl ?_
          refine St.gOff (dj := 21) rfl rfl rfl rfl ?_
          refine St.gOff (dj := 21) rfl rfl rfl rfl ?_
          refine St.gOff (dj := 21) rfl rfl rfl rfl ?_
          refine St.gOff (dj := 21) rfl rfl rfl rfl ?_
          refine St.gOff (dj := 21) rfl rfl rfl rfl ?_
          refine St.p rfl rfl ?_
          refine St.p rfl rfl ?_
          refine St.gOff (dj := 31) rfl rfl rfl rfl ?_
          refine St.gOff (dj := 31) rfl rfl rfl rfl ?_
          refine St.gOff (dj := 31) rfl rfl rfl rfl ?_
          refine St.gOff (dj := 31) rfl rfl rfl rfl ?_
          refine St.gOff (dj := 31) rfl rfl rfl rfl ?_
          refine St.gOff (dj := 31) rfl rfl rfl rfl ?_
          refine St.gOff (dj := 31) rfl rfl rfl rfl ?_
          refine St.gOff (dj := 31) rfl rfl rfl rfl ?_
          refine St.p rfl rfl ?_
          refine St.doneQ ?_
          injection hj1 with hj1
          subst hj1
          refine St.thenN ?_
          exact St.hereE () ⟨rfl, rfl, trivial⟩ (fun _ w => ((.k (.k (.k .z))) : Keep _ _).sat w)
        · replace hj1 := bif_f hb3 hj1
          refine St.gOn (dj := 16) rfl rfl ?_
          refine St.p rfl rfl ?_
          refine St.gOn (dj := 16) rfl rfl ?_
          refine St.loadB 14 rfl rfl (.head _) rfl rfl ?_
          refine St.gOn (dj := 16) rfl rfl ?_
          iterate 3 refine St.p rfl rfl ?_
          refine St.gSplit (dj := 21) _ rfl (fun hb4 => ?_) (fun hb4 => ?_)
          · replace hj1 := bif_t hb4 hj1
            refine St.gOff (dj := 21) rfl rfl rfl rfl ?_
            refine St.gOff (dj := 21) rfl rfl rfl rfl ?_
            refine St.gOff (dj := 21) rfl rfl rfl rfl ?_
            refine St.gOff (dj := 21) rfl rfl rfl rfl ?_
            refine St.gOff (dj := 21) rfl rfl rfl rfl ?_
            refine St.gOff (dj := 21) rfl rfl rfl rfl ?_
            refine St.gOff (dj := 21) rfl rfl rfl rfl ?_
            refine St.gOff (dj := 21) rfl rfl rfl rfl ?_
            refine St.p rfl rfl ?_
            refine St.p rfl rfl ?_
            refine St.gOff (dj := 31) rfl rfl rfl rfl ?_
            refine St.gOff (dj := 31) rfl rfl rfl rfl ?_
            refine St.gOff (dj := 31) rfl rfl rfl rfl ?_
            refine St.gOff (dj := 31) rfl rfl rfl rfl ?_
            refine St.gOff (dj := 31) rfl rfl rfl rfl ?_
            refine St.gOff (dj := 31) rfl rfl rfl rfl ?_
            refine St.gOff (dj := 31) rfl rfl rfl rfl ?_
            refine St.gOff (dj := 31) rfl rfl rfl rfl ?_
            refine St.p rfl rfl ?_
            refine St.doneQ ?_
            injection hj1 with hj1
            subst hj1
            refine St.thenN ?_
            exact St.hereE () ⟨rfl, rfl, trivial⟩ (fun _ w => ((.k (.k (.k .z))) : Keep _ _).sat w)
          · replace hj1 := bif_f hb4 hj1
            refine St.gOn (dj := 21) rfl rfl ?_
            refine St.loadB 0 rfl rfl (.head _) rfl rfl ?_
            refine St.gOn (dj := 21) rfl rfl ?_
            refine St.p rfl rfl ?_
            refine St.gOn (dj := 21) rfl rfl ?_
            refine St.loadB 13 rfl rfl (.head _) rfl rfl ?_
            refine St.gOn (dj := 21) rfl rfl ?_
            refine St.p rfl rfl ?_
            refine St.gOn (dj := 21) rfl rfl ?_
            obtain ⟨x1, hx1, hj1⟩ := bnd_e hj1
            refine St.ixP (sz := 6) hx1 rfl rfl rfl rfl rfl rfl rfl rfl ?_
            refine St.gOn (dj := 21) rfl rfl ?_
            refine St.ldP (ls := l_T_Slot) 0 [.string d_p0.Name] [.int .i64 d_p0.Active, .int .i64 d_p0.Running, .bool d_p0.Trial] [(d_p0.Slots.e0, ((A1, c1), ())), (d_p0.Slots.e1, ((A2, c2), ()))] (fun ex => .agg (bx_T_Slot x1 ex.1.1 ex.1.2).toArray) hx1 rfl rfl (.head _) rfl rfl rfl ⟨(.tail _ (.head _)), (.tail _ (.tail _ (.head _))), trivial⟩ rfl (fun _ => rfl) fun ex1 => ?_
            obtain ⟨⟨A3, c3⟩, _⟩ := ex1
            refine St.asrt (F' := .ro (SlL eu8 A3 c3 x1.Image.Data) :: .res (Box g1 35 (bx_T_Device d_p0 A1 c1 A2 c2)) :: .ro (SlL eu8 A1 c1 d_p0.Slots.e0.Image.Data) :: .ro (SlL eu8 A2 c2 d_p0.Slots.e1.Image.Data) :: R) (fun _ w => w) ?_
            refine St.gOn (dj := 21) rfl rfl ?_
            obtain ⟨r1, hr1, hj1⟩ := bnd_e hj1
            refine St.callV (c_bank_own hr1) ent46 rfl rfl rfl rfl ⟨(.tail _ (.tail _ (.head _))), (.tail _ (.tail _ (.tail _ (.head _)))), (.head _), trivial⟩ ?_
            refine St.gOn (dj := 21) rfl rfl ?_
            iterate 3 refine St.p rfl rfl ?_
            refine St.gSplit (dj := 31) _ rfl (fun hb5 => ?_) (fun hb5 => ?_)
            · replace hj1 := bif_t hb5 hj1
              refine St.gOff (dj := 31) rfl rfl rfl rfl ?_
              refine St.gOff (dj := 31) rfl rfl rfl rfl ?_
              refine St.gOff (dj := 31) rfl rfl rfl rfl ?_
              refine St.gOff (dj := 31) rfl rfl rfl rfl ?_
              refine St.gOff (dj := 31) rfl rfl rfl rfl ?_
              refine St.gOff (dj := 31) rfl rfl rfl rfl ?_
              refine St.gOff (dj := 31) rfl rfl rfl rfl ?_
              refine St.gOff (dj := 31) rfl rfl rfl rfl ?_
              refine St.p rfl rfl ?_
              refine St.doneQ ?_
              injection hj1 with hj1
              subst hj1
              refine St.thenN ?_
              exact St.hereE () ⟨rfl, rfl, trivial⟩ (fun _ w => ((.d (.k (.k (.k .z)))) : Keep _ _).sat w)
            · replace hj1 := bif_f hb5 hj1
              refine St.gOn (dj := 31) rfl rfl ?_
              refine St.loadB 0 rfl rfl (.tail _ (.head _)) rfl rfl ?_
              refine St.gOn (dj := 31) rfl rfl ?_
              refine St.p rfl rfl ?_
              refine St.gOn (dj := 31) rfl rfl ?_
              refine St.loadB 14 rfl rfl (.tail _ (.head _)) rfl rfl ?_
              refine St.gOn (dj := 31) rfl rfl ?_
              refine St.p rfl rfl ?_
              refine St.gOn (dj := 31) rfl rfl ?_
              obtain ⟨x2, hx2, hj1⟩ := bnd_e hj1
              refine St.ixP (sz := 6) hx2 rfl rfl rfl rfl rfl rfl rfl rfl ?_
              refine St.gOn (dj := 31) rfl rfl ?_
              refine St.ldP (ls := l_T_Slot) 0 [.string d_p0.Name] [.int .i64 d_p0.Active, .int .i64 d_p0.Running, .bool d_p0.Trial] [(d_p0.Slots.e0, ((A1, c1), ())), (d_p0.Slots.e1, ((A2, c2), ()))] (fun ex => .agg (bx_T_Slot x2 ex.1.1 ex.1.2).toArray) hx2 rfl rfl (.tail _ (.head _)) rfl rfl rfl ⟨(.tail _ (.tail _ (.head _))), (.tail _ (.tail _ (.tail _ (.head _)))), trivial⟩ rfl (fun _ => rfl) fun ex2 => ?_
              obtain ⟨⟨A4, c4⟩, _⟩ := ex2
              refine St.asrt (F' := .ro (SlL eu8 A4 c4 x2.Image.Data) :: .ro (SlL eu8 A3 c3 x1.Image.Data) :: .res (Box g1 35 (bx_T_Device d_p0 A1 c1 A2 c2)) :: .ro (SlL eu8 A1 c1 d_p0.Slots.e0.Image.Data) :: .ro (SlL eu8 A2 c2 d_p0.Slots.e1.Image.Data) :: R) (fun _ w => w) ?_
              refine St.gOn (dj := 31) rfl rfl ?_
              obtain ⟨r2, hr2, hj1⟩ := bnd_e hj1
              refine St.callV (c_bank_own hr2) ent46 rfl rfl rfl rfl ⟨(.tail _ (.tail _ (.tail _ (.head _)))), (.tail _ (.tail _ (.tail _ (.tail _ (.head _))))), (.head _), trivial⟩ ?_
              refine St.gOn (dj := 31) rfl rfl ?_
              refine St.p rfl rfl ?_
              refine St.p rfl rfl ?_
              refine St.doneQ ?_
              injection hj1 with hj1
              subst hj1
              refine St.thenN ?_
              exact St.hereE () ⟨rfl, rfl, trivial⟩ (fun _ w => ((.d (.d (.k (.k (.k .z))))) : Keep _ _).sat w)
  · rintro e1
    refine St.cond _ rfl (fun hb6 => ?_) (fun hb6 => ?_)
    · replace h := bif_t hb6 h
      refine St.seq ?_
      refine St.region ?_
      refine St.p rfl rfl ?_
      refine St.done ?_
      refine St.thenN ?_
      refine St.prune (Γ' := [(2, _)]) ⟨rfl, trivial⟩ (.d (.d (.d .z))) ?_
      refine St.ret ?_
      repeat (first | refine St.thenR ?_ | refine St.blkR ?_)
      injection h with h
      subst h
      exact St.finR Try.results21 (.tmp rfl .nil) rfl [] ⟨rfl, rfl⟩ (fun _ w => (.z : Keep _ _).sat w)
    · replace h := bif_f hb6 h
      refine St.skip ?_
      refine St.thenN ?_
      refine St.prune (Γ' := [(1, _)]) ⟨rfl, trivial⟩ (.k (.k (.k .z))) ?_
      refine St.seq ?_
      obtain ⟨o2, hj2, h⟩ := bnd_e h
      refine St.cutE (fun (e2 : Unit) => [(2, .bool o2)]) (fun e2 => R) ?_ ?_
      · refine St.regionX (iL [(.fl, 0), (.fx, 1), (.fl, 2), (.fl, 3), (.fl, 4), (.fx, 5), (.fl, 6), (.fx, 7), (.fl, 8), (.fl, 9), (.fl, 10), (.ef, 11), (.fl, 12), (.ef, 13), (.ef, 14), (.fl, 15), (.fl, 16), (.fl, 17)] .nil) (.res (Box g1 35 (bx_T_Device d_p0 A1 c1 A2 c2)) :: .ro (SlL eu8 A1 c1 d_p0.Slots.e0.Image.Data) :: .ro (SlL eu8 A2 c2 d_p0.Slots.e1.Image.Data) :: R) mixed (by kernel_rfl) (fun _ w => ((.k (.k (.k .z))) : Keep _ _).sat w) ?_
        refine St.xfl (fun _ h => h) (Rd.p rfl) rfl ?_
        refine St.xfx (Rd.loadB 15 rfl (.head _) rfl rfl) rfl ?_
        refine St.xfl (fun _ h => h) (Rd.p rfl) rfl ?_
        refine St.xfl (fun _ h => h) (Rd.p rfl) rfl ?_
        refine St.splitB (dj := 44) _ rfl (fun hb7 => ?_) (fun hb7 => ?_)
        · replace hj2 := bif_t hb7 hj2
          refine St.xgOff (dj := 44) rfl rfl rfl rfl ?_
          refine St.xgOff (dj := 44) rfl rfl rfl rfl ?_
          refine St.xgOff (dj := 44) rfl rfl rfl rfl ?_
          refine St.xgOff (dj := 44) rfl rfl rfl rfl ?_
          refine St.xgOff (dj := 44) rfl rfl rfl rfl ?_
          refine St.xgOff (dj := 44) rfl rfl rfl rfl ?_
          refine St.xgOff (dj := 50) rfl rfl rfl rfl ?_
          refine St.xgOff (dj := 50) rfl rfl rfl rfl ?_
          refine St.xgOff (dj := 50) rfl rfl rfl rfl ?_
          refine St.xgOff (dj := 50) rfl rfl rfl rfl ?_
          refine St.xgOff (dj := 50) rfl rfl rfl rfl ?_
          refine St.xgOff (dj := 44) rfl rfl rfl rfl ?_
          refine St.xfl (fun _ h => h) (Rd.p rfl) rfl ?_
          refine St.xfl (fun _ h => h) (Rd.p rfl) rfl ?_
          refine St.xdone ?_
          injection hj2 with hj2
          subst hj2
          refine St.thenN ?_
          exact St.hereE () ⟨rfl, trivial⟩ (fun _ w => ((.d (.d (.d .z))) : Keep _ _).sat w)
        · replace hj2 := bif_f hb7 hj2
          refine St.xgOn (dj := 44) rfl rfl ?_
          refine St.xfl (fun _ h => h) (Rd.p rfl) rfl ?_
          refine St.xgOn (dj := 44) rfl rfl ?_
          refine St.xfx (Rd.loadB 14 rfl (.head _) rfl rfl) rfl ?_
          refine St.xgOn (dj := 44) rfl rfl ?_
          refine St.xfl (fun _ h => h) (Rd.p rfl) rfl ?_
          refine St.xgOn (dj := 44) rfl rfl ?_
          refine St.xfx (Rd.loadB 13 rfl (.head _) rfl rfl) rfl ?_
          refine St.xgOn (dj := 44) rfl rfl ?_
          refine St.xfl (fun _ h => h) (Rd.p rfl) rfl ?_
          refine St.xgOn (dj := 44) rfl rfl ?_
          refine St.xfl (fun _ h => h) (Rd.p rfl) rfl ?_
          refine St.splitB (dj := 50) _ rfl (fun hb8 => ?_) (fun hb8 => ?_)
          · replace hj2 := bif_t hb8 hj2
            refine St.xgOn (dj := 50) rfl rfl ?_
            refine St.xfl (fun _ h => h) (Rd.loadB 0 rfl (.head _) rfl rfl) rfl ?_
            refine St.xgOn (dj := 50) rfl rfl ?_
            refine St.xef ?_
            obtain ⟨r3, hr3, hj2⟩ := bnd_e hj2
            refine St.call (c_bank_other hr3) ent45 rfl rfl rfl (fun _ w => Sat.dup (G := [.ro (SlL eu8 A1 c1 d_p0.Slots.e0.Image.Data), .ro (SlL eu8 A2 c2 d_p0.Slots.e1.Image.Data)]) rfl ⟨(.tail _ (.head _)), (.tail _ (.tail _ (.head _))), trivial⟩ (w.front .z)) ?_
            rintro _ _ ⟨rfl, rfl⟩
            refine St.asrt (F' := .res (Box g1 35 (bx_T_Device d_p0 A1 c1 A2 c2)) :: .ro (SlL eu8 A1 c1 d_p0.Slots.e0.Image.Data) :: .ro (SlL eu8 A2 c2 d_p0.Slots.e1.Image.Data) :: R) (fun _ w => w) ?_
            refine St.xk (fun _ w => ((.k (.k (.k .z))) : Keep _ _).sat w) ?_
            refine St.xgOn (dj := 50) rfl rfl ?_
            refine St.xfl (fun _ h => h) (Rd.p rfl) rfl ?_
            refine St.xgOn (dj := 50) rfl rfl ?_
            refine St.xef ?_
            obtain ⟨x3, hx3, hj2⟩ := bnd_e hj2
            refine St.ldP (ls := l_T_Slot) 0 [.string d_p0.Name] [.int .i64 d_p0.Active, .int .i64 d_p0.Running, .bool d_p0.Trial] [(d_p0.Slots.e0, ((A1, c1), ())), (d_p0.Slots.e1, ((A2, c2), ()))] (fun ex => .agg (bx_T_Slot x3 ex.1.1 ex.1.2).toArray) hx3 rfl rfl (.head _) rfl rfl rfl ⟨(.tail _ (.head _)), (.tail _ (.tail _ (.head _))), trivial⟩ rfl (fun _ => rfl) fun ex3 => ?_
            obtain ⟨⟨A5, c5⟩, _⟩ := ex3
            refine St.asrt (F' := .ro (SlL eu8 A5 c5 x3.Image.Data) :: .res (Box g1 35 (bx_T_Device d_p0 A1 c1 A2 c2)) :: .ro (SlL eu8 A1 c1 d_p0.Slots.e0.Image.Data) :: .ro (SlL eu8 A2 c2 d_p0.Slots.e1.Image.Data) :: R) (fun _ w => w) ?_
            refine St.xk (fun _ w => ((.d (.k (.k (.k .z)))) : Keep _ _).sat w) ?_
            refine St.xgOn (dj := 50) rfl rfl ?_
            refine St.xef ?_
            obtain ⟨r4, hr4, hj2⟩ := bnd_e hj2
            refine St.callV (c_bank_own hr4) ent46 rfl rfl rfl rfl ⟨(.tail _ (.tail _ (.head _))), (.tail _ (.tail _ (.tail _ (.head _)))), (.head _), trivial⟩ ?_
            refine St.xk (fun _ w => ((.d (.k (.k (.k .z)))) : Keep _ _).sat w) ?_
            refine St.xgOn (dj := 44) rfl rfl ?_
            refine St.xfl (fun _ h => h) (Rd.p rfl) rfl ?_
            refine St.xfl (fun _ h => h) (Rd.p rfl) rfl ?_
            refine St.xfl (fun _ h => h) (Rd.p rfl) rfl ?_
            refine St.xdone ?_
            injection hj2 with hj2
            subst hj2
            refine St.thenN ?_
            exact St.hereE () ⟨rfl, trivial⟩ (fun _ w => ((.d (.d (.d (.d .z)))) : Keep _ _).sat w)
          · replace hj2 := bif_f hb8 hj2
            refine St.xgOff (dj := 50) rfl rfl rfl rfl ?_
            refine St.xgOff (dj := 50) rfl rfl rfl rfl ?_
            refine St.xgOff (dj := 50) rfl rfl rfl rfl ?_
            refine St.xgOff (dj := 50) rfl rfl rfl rfl ?_
            refine St.xgOff (dj := 50) rfl rfl rfl rfl ?_
            refine St.xgOn (dj := 44) rfl rfl ?_
            refine St.xfl (fun _ h => h) (Rd.p rfl) rfl ?_
            refine St.xfl (fun _ h => h) (Rd.p rfl) rfl ?_
            refine St.xfl (fun _ h => h) (Rd.p rfl) rfl ?_
            refine St.xdone ?_
            injection hj2 with hj2
            subst hj2
            refine St.thenN ?_
            exact St.hereE () ⟨rfl, trivial⟩ (fun _ w => ((.d (.d (.d .z))) : Keep _ _).sat w)
      · rintro e2
        refine St.ret ?_
        repeat (first | refine St.thenR ?_ | refine St.blkR ?_)
        injection h with h
        subst h
        exact St.finR Try.results21 (.tmp rfl .nil) rfl [] ⟨rfl, rfl⟩ (fun _ w => (.z : Keep _ _).sat w)

theorem ent43 : Ent Try.prog 43 := ⟨_, Try.func43, by kernel_rfl, by kernel_rfl⟩

noncomputable def m_bank_writable (d_p0 : T_Device) : Option Int :=
  bnd (m_bank_Valid d_p0) fun r1 => bif !r1 then (some 1) else (bnd ((bif (d_p0.Running != d_p0.Active) then (some true) else (some d_p0.Trial) : Option Bool)) fun o1 => bif o1 then (some 46) else (some 0))

theorem c_bank_writable {d_p0 : T_Device} {A1 : Option Addr} {c1 : Nat} {A2 : Option Addr} {c2 : Nat} {r : Int} (h : m_bank_writable d_p0 = some r) :
    Fun Try.prog 43 [.agg (bx_T_Device d_p0 A1 c1 A2 c2).toArray] [.ro (SlL eu8 A1 c1 d_p0.Slots.e0.Image.Data), .ro (SlL eu8 A2 c2 d_p0.Slots.e1.Image.Data)] (Val (.int .i64 r)) := by
  unfold m_bank_writable at h
  refine Fun.intro Try.func43 rfl rfl rfl fun w R => ?_
  refine St.seq ?_
  refine St.region ?_
  refine St.box rfl rfl fun g1 => ?_
  refine St.p rfl rfl ?_
  refine St.done ?_
  refine St.thenN ?_
  refine St.prune (Γ' := [(1, _)]) ⟨rfl, trivial⟩ (.k (.k (.k .z))) ?_
  refine St.seq ?_
  refine St.seq ?_
  refine St.region ?_
  refine St.loadB 0 rfl rfl (.head _) rfl rfl ?_
  obtain ⟨r1, hr1, h⟩ := bnd_e h
  refine St.callV (c_bank_Valid hr1) ent21 rfl rfl rfl rfl ⟨(.tail _ (.head _)), (.tail _ (.tail _ (.head _))), trivial⟩ ?_
  refine St.p rfl rfl ?_
  refine St.done ?_
  refine St.thenN ?_
  refine St.prune (Γ' := [(1, _), (5, _)]) ⟨rfl, rfl, trivial⟩ (.k (.k (.k .z))) ?_
  refine St.cond _ rfl (fun hb1 => ?_) (fun hb1 => ?_)
  · replace h := bif_t hb1 h
    refine St.seq ?_
    refine St.region ?_
    refine St.p rfl rfl ?_
    refine St.done ?_
    refine St.thenN ?_
    refine St.prune (Γ' := [(2, _)]) ⟨rfl, trivial⟩ (.d (.d (.d .z))) ?_
    refine St.ret ?_
    repeat (first | refine St.thenR ?_ | refine St.blkR ?_)
    injection h with h
    subst h
    exact St.finR Try.results43 (.tmp rfl .nil) rfl [] ⟨rfl, rfl⟩ (fun _ w => (.z : Keep _ _).sat w)
  · replace h := bif_f hb1 h
    refine St.skip ?_
    refine St.thenN ?_
    refine St.prune (Γ' := [(1, _)]) ⟨rfl, trivial⟩ (.k (.k (.k .z))) ?_
    refine St.seq ?_
    refine St.seq ?_
    obtain ⟨o1, hj1, h⟩ := bnd_e h
    refine St.cutE (fun (e1 : Unit) => [(14, .bool o1)]) (fun e1 => R) ?_ ?_
    · refine St.region ?_
      refine St.p rfl rfl ?_
      refine St.loadB 14 rfl rfl (.head _) rfl rfl ?_
      refine St.p rfl rfl ?_
      refine St.loadB 13 rfl rfl (.head _) rfl rfl ?_
      refine St.p rfl rfl ?_
      refine St.p rfl rfl ?_
      refine St.gSplit (dj := 11) _ rfl (fun hb2 => ?_) (fun hb2 => ?_)
      · replace hj1 := bif_t hb2 hj1
        refine St.gOff (dj := 11) rfl rfl rfl rfl ?_
        refine St.gOff (dj := 11) rfl rfl rfl rfl ?_
        refine St.p rfl rfl ?_
        refine St.done ?_
        injection hj1 with hj1
        subst hj1
        refine St.thenN ?_
        exact St.hereE () ⟨rfl, trivial⟩ (fun _ w => ((.d (.d (.d .z))) : Keep _ _).sat w)
      · replace hj1 := bif_f hb2 hj1
        refine St.gOn (dj := 11) rfl rfl ?_
        refine St.p rfl rfl ?_
        refine St.gOn (dj := 11) rfl rfl ?_
        refine St.loadB 15 rfl rfl (.head _) rfl rfl ?_
        refine St.p rfl rfl ?_
        refine St.done ?_
        injection hj1 with hj1
        subst hj1
        refine St.thenN ?_
        exact St.hereE () ⟨rfl, trivial⟩ (fun _ w => ((.d (.d (.d .z))) : Keep _ _).sat w)
    · rintro e1
      refine St.cond _ rfl (fun hb3 => ?_) (fun hb3 => ?_)
      · replace h := bif_t hb3 h
        refine St.seq ?_
        refine St.region ?_
        refine St.p rfl rfl ?_
        refine St.done ?_
        refine St.thenN ?_
        refine St.prune (Γ' := [(2, _)]) ⟨rfl, trivial⟩ .z ?_
        refine St.ret ?_
        repeat (first | refine St.thenR ?_ | refine St.blkR ?_)
        injection h with h
        subst h
        exact St.finR Try.results43 (.tmp rfl .nil) rfl [] ⟨rfl, rfl⟩ (fun _ w => (.z : Keep _ _).sat w)
      · replace h := bif_f hb3 h
        refine St.skip ?_
        refine St.thenN ?_
        refine St.prune (Γ' := []) trivial .z ?_
        refine St.seq ?_
        refine St.region ?_
        refine St.p rfl rfl ?_
        refine St.done ?_
        refine St.thenN ?_
        refine St.ret ?_
        repeat (first | refine St.thenR ?_ | refine St.blkR ?_)
        injection h with h
        subst h
        exact St.finR Try.results43 (.tmp rfl .nil) rfl [] ⟨rfl, rfl⟩ (fun _ w => (.z : Keep _ _).sat w)

theorem ent44 : Ent Try.prog 44 := ⟨_, Try.func44, by kernel_rfl, by kernel_rfl⟩

noncomputable def m_bank_copied (d_p0 : T_Device) : Option T_Device :=
  bnd (m_bank_image d_p0.Slots.e0.Image) fun r1 => bnd (m_bank_image d_p0.Slots.e1.Image) fun r2 => some (⟨d_p0.Name, (⟨(⟨r1, d_p0.Slots.e0.Sum⟩ : T_Slot), (⟨r2, d_p0.Slots.e1.Sum⟩ : T_Slot)⟩ : (Arr2 T_Slot)), d_p0.Active, d_p0.Running, d_p0.Trial⟩ : T_Device)

theorem c_bank_copied {d_p0 : T_Device} {A1 : Option Addr} {c1 : Nat} {A2 : Option Addr} {c2 : Nat} {r : T_Device} (h : m_bank_copied d_p0 = some r) :
    Fun Try.prog 44 [.agg (bx_T_Device d_p0 A1 c1 A2 c2).toArray] [.ro (SlL eu8 A1 c1 d_p0.Slots.e0.Image.Data), .ro (SlL eu8 A2 c2 d_p0.Slots.e1.Image.Data)] (fun v_ F_ => ∃ (A1 : Option Addr) (c1 : Nat) (A2 : Option Addr) (c2 : Nat), v_ = .agg (bx_T_Device r A1 c1 A2 c2).toArray ∧ F_ = [.ro (SlL eu8 A1 c1 r.Slots.e0.Image.Data), .ro (SlL eu8 A2 c2 r.Slots.e1.Image.Data)]) := by
  unfold m_bank_copied at h
  refine Fun.intro Try.func44 rfl rfl rfl fun w R => ?_
  refine St.seq ?_
  refine St.region ?_
  refine St.box rfl rfl fun g1 => ?_
  refine St.alloc rfl rfl fun g2 => ?_
  refine St.done ?_
  refine St.thenN ?_
  refine St.prune (Γ' := [(1, _), (2, _)]) ⟨rfl, rfl, trivial⟩ (.k (.k (.k (.k .z)))) ?_
  refine St.seq ?_
  refine St.seq ?_
  refine St.region ?_
  refine St.p rfl rfl ?_
  refine St.done ?_
  refine St.thenN ?_
  refine St.block ?_
  refine St.rounds 9 ?_
  refine St.round ?_
  refine St.seq ?_
  refine St.region ?_
  refine St.p rfl rfl ?_
  refine St.done ?_
  refine St.thenN ?_
  refine St.seq ?_
  refine St.condT rfl ?_
  refine St.skip ?_
  refine St.thenN ?_
  refine St.prune (Γ' := [(1, _), (2, _), (4, _)]) ⟨rfl, rfl, rfl, trivial⟩ (.k (.k (.k (.k .z)))) ?_
  refine St.seq ?_
  refine St.block ?_
  refine St.seq ?_
  refine St.region ?_
  refine St.p rfl rfl ?_
  refine St.p rfl rfl ?_
  refine St.done ?_
  refine St.thenN ?_
  refine St.prune (Γ' := [(1, _), (2, _), (3, _), (4, _)]) ⟨rfl, rfl, rfl, rfl, trivial⟩ (.k (.k (.k (.k .z)))) ?_
  refine St.region ?_
  iterate 5 refine St.p rfl rfl ?_
  refine St.loadB 1 rfl rfl (.tail _ (.head _)) rfl rfl ?_
  obtain ⟨r1, hr1, h⟩ := bnd_e h
  refine St.call (c_bank_image hr1) ent42 rfl rfl rfl (fun _ w => Sat.dup (G := [.ro (SlL eu8 A1 c1 d_p0.Slots.e0.Image.Data)]) rfl ⟨(.tail _ (.tail _ (.head _))), trivial⟩ w) ?_
  rintro _ _ ⟨A3, c3, rfl, rfl⟩
  refine St.asrt (F' := .ro (SlL eu8 A3 c3 r1.Data) :: .res (Box g2 35 [.string (⟨#[]⟩), .string (⟨#[]⟩), .int .i64 0, .int .i64 0, .int .i64 0, .slice none 0 0, .int .u32 0, .string (⟨#[]⟩), .int .i64 0, .int .i64 0, .int .i64 0, .slice none 0 0, .int .u32 0, .int .i64 0, .int .i64 0, .bool false]) :: .res (Box g1 35 (bx_T_Device d_p0 A1 c1 A2 c2)) :: .ro (SlL eu8 A1 c1 d_p0.Slots.e0.Image.Data) :: .ro (SlL eu8 A2 c2 d_p0.Slots.e1.Image.Data) :: R) (fun _ w => w) ?_
  iterate 3 refine St.p rfl rfl ?_
  refine St.store 1 rfl rfl rfl rfl rfl rfl (.s (.s .z)) rfl ?_
  refine St.done ?_
  refine St.blkN ?_
  refine St.thenN ?_
  refine St.prune (Γ' := [(1, _), (2, _), (4, _)]) ⟨rfl, rfl, rfl, trivial⟩ (.k (.k (.k (.d (.k .z))))) ?_
  refine St.region ?_
  refine St.p rfl rfl ?_
  refine St.p rfl rfl ?_
  refine St.done ?_
  refine St.thenN ?_
  refine St.round ?_
  refine St.prune (Γ' := [(1, _), (2, _), (4, _)]) ⟨rfl, rfl, rfl, trivial⟩ (.k (.k (.k (.k .z)))) ?_
  refine St.seq ?_
  refine St.region ?_
  refine St.p rfl rfl ?_
  refine St.done ?_
  refine St.thenN ?_
  refine St.seq ?_
  refine St.condT rfl ?_
  refine St.skip ?_
  refine St.thenN ?_
  refine St.prune (Γ' := [(1, _), (2, _), (4, _)]) ⟨rfl, rfl, rfl, trivial⟩ (.k (.k (.k (.k .z)))) ?_
  refine St.seq ?_
  refine St.block ?_
  refine St.seq ?_
  refine St.region ?_
  refine St.p rfl rfl ?_
  refine St.p rfl rfl ?_
  refine St.done ?_
  refine St.thenN ?_
  refine St.prune (Γ' := [(1, _), (2, _), (3, _), (4, _)]) ⟨rfl, rfl, rfl, rfl, trivial⟩ (.k (.k (.k (.k .z)))) ?_
  refine St.region ?_
  iterate 5 refine St.p rfl rfl ?_
  refine St.loadB 7 rfl rfl (.head _) rfl rfl ?_
  obtain ⟨r2, hr2, h⟩ := bnd_e h
  refine St.call (c_bank_image hr2) ent42 rfl rfl rfl (fun _ w => Sat.dup (G := [.ro (SlL eu8 A2 c2 d_p0.Slots.e1.Image.Data)]) rfl ⟨(.tail _ (.tail _ (.tail _ (.head _)))), trivial⟩ w) ?_
  rintro _ _ ⟨A4, c4, rfl, rfl⟩
  refine St.asrt (F' := .ro (SlL eu8 A4 c4 r2.Data) :: .res (Box g1 35 [.string d_p0.Name, .string r1.Name, .int .i64 r1.Version.Major, .int .i64 r1.Version.Minor, .int .i64 r1.Version.Patch, .slice A3 r1.Data.length c3, .int .u32 d_p0.Slots.e0.Sum, .string d_p0.Slots.e1.Image.Name, .int .i64 d_p0.Slots.e1.Image.Version.Major, .int .i64 d_p0.Slots.e1.Image.Version.Minor, .int .i64 d_p0.Slots.e1.Image.Version.Patch, .slice A2 d_p0.Slots.e1.Image.Data.length c2, .int .u32 d_p0.Slots.e1.Sum, .int .i64 d_p0.Active, .int .i64 d_p0.Running, .bool d_p0.Trial]) :: .ro (SlL eu8 A3 c3 r1.Data) :: .res (Box g2 35 [.string (⟨#[]⟩), .string (⟨#[]⟩), .int .i64 0, .int .i64 0, .int .i64 0, .slice none 0 0, .int .u32 0, .string (⟨#[]⟩), .int .i64 0, .int .i64 0, .int .i64 0, .slice none 0 0, .int .u32 0, .int .i64 0, .int .i64 0, .bool false]) :: .ro (SlL eu8 A2 c2 d_p0.Slots.e1.Image.Data) :: R) (fun _ w => w) ?_
  iterate 3 refine St.p rfl rfl ?_
  refine St.store 7 rfl rfl rfl rfl rfl rfl (.s .z) rfl ?_
  refine St.done ?_
  refine St.blkN ?_
  refine St.thenN ?_
  refine St.prune (Γ' := [(1, _), (2, _), (4, _)]) ⟨rfl, rfl, rfl, trivial⟩ (.k (.k (.k (.k (.d .z))))) ?_
  refine St.region ?_
  refine St.p rfl rfl ?_
  refine St.p rfl rfl ?_
  refine St.done ?_
  refine St.thenN ?_
  refine St.round ?_
  refine St.prune (Γ' := [(1, _), (2, _), (4, _)]) ⟨rfl, rfl, rfl, trivial⟩ (.k (.k (.k (.k .z)))) ?_
  refine St.seq ?_
  refine St.region ?_
  refine St.p rfl rfl ?_
  refine St.done ?_
  refine St.thenN ?_
  refine St.seq ?_
  refine St.condF rfl ?_
  refine St.exit ?_
  repeat (first | refine St.thenX ?_ | refine St.blkMiss rfl ?_)
  refine St.blkHit ?_
  refine St.thenN ?_
  refine St.prune (Γ' := [(1, _), (2, _)]) ⟨rfl, rfl, trivial⟩ (.k (.k (.k (.k .z)))) ?_
  refine St.seq ?_
  refine St.region ?_
  refine St.loadB 0 rfl rfl (.head _) rfl rfl ?_
  refine St.store 0 rfl rfl rfl rfl rfl rfl (.s (.s (.s .z))) rfl ?_
  refine St.done ?_
  refine St.thenN ?_
  refine St.prune (Γ' := [(2, _)]) ⟨rfl, trivial⟩ (.k (.d (.k (.k .z)))) ?_
  refine St.ret ?_
  repeat (first | refine St.thenR ?_ | refine St.blkR ?_)
  injection h with h
  subst h
  exact St.finR Try.results44 (.cell rfl (.head _) rfl .nil) rfl [.ro (SlL eu8 A3 c3 r1.Data), .ro (SlL eu8 A4 c4 r2.Data)] ⟨A3, c3, A4, c4, rfl, rfl⟩ (fun _ w => ((.k (.k (.d (.d (.d .z))))) : Keep _ _).sat (Sat.dup (G := [.ro (SlL eu8 A3 c3 r1.Data), .ro (SlL eu8 A4 c4 r2.Data)]) rfl ⟨(.tail _ (.tail _ (.head _))), (.tail _ (.head _)), trivial⟩ w))

theorem ent13 : Ent Try.prog 13 := ⟨_, Try.func13, by kernel_rfl, by kernel_rfl⟩

noncomputable def m_bank_Write (d_p0 : T_Device) (i_p1 : T_Image) (n_p2 : Int) : Option (T_Device × Int) :=
  bnd (m_bank_writable d_p0) fun r1 => bif (r1 != 0) then (some ((⟨⟨#[]⟩, (⟨(⟨(⟨⟨#[]⟩, (⟨0, 0, 0⟩ : T_Version), []⟩ : T_Image), 0⟩ : T_Slot), (⟨(⟨⟨#[]⟩, (⟨0, 0, 0⟩ : T_Version), []⟩ : T_Image), 0⟩ : T_Slot)⟩ : (Arr2 T_Slot)), 0, 0, false⟩ : T_Device), r1)) else (bnd ((bnd (m_bundle_Right i_p1) fun r2 => bif !r2 then (some true) else (bif !(i_p1.Name.toList == d_p0.Name.toList) then (some true) else (bif decide (n_p2 < 0) then (some true) else (some (decide (n_p2 > (i_p1.Data.length : Int)))))) : Option Bool)) fun o1 => bif o1 then (some ((⟨⟨#[]⟩, (⟨(⟨(⟨⟨#[]⟩, (⟨0, 0, 0⟩ : T_Version), []⟩ : T_Image), 0⟩ : T_Slot), (⟨(⟨⟨#[]⟩, (⟨0, 0, 0⟩ : T_Version), []⟩ : T_Image), 0⟩ : T_Slot)⟩ : (Arr2 T_Slot)), 0, 0, false⟩ : T_Device), 2)) else (bnd (m_bank_copied d_p0) fun r3 => bnd (sub i_p1.Data 0 n_p2) fun l1 => bnd (m_bank_other r3) fun r4 => bnd (m_bank_image (⟨i_p1.Name, i_p1.Version, l1⟩ : T_Image)) fun r5 => bnd (elt [r3.Slots.e0, r3.Slots.e1] r4) fun x1 => bnd (Arr2.set r3.Slots r4 (⟨r5, 0⟩ : T_Slot)) fun z1 => some ((⟨r3.Name, z1, r3.Active, r3.Running, r3.Trial⟩ : T_Device), 0)))

theorem c_bank_Write {d_p0 : T_Device} {i_p1 : T_Image} {n_p2 : Int} {A1 : Option Addr} {c1 : Nat} {A2 : Option Addr} {c2 : Nat} {A3 : Option Addr} {c3 : Nat} {r : (T_Device × Int)} (h : m_bank_Write d_p0 i_p1 n_p2 = some r) :
    Fun Try.prog 13 [.agg (bx_T_Device d_p0 A1 c1 A2 c2).toArray, .agg (bx_T_Image i_p1 A3 c3).toArray, .int .i64 n_p2] [.ro (SlL eu8 A1 c1 d_p0.Slots.e0.Image.Data), .ro (SlL eu8 A2 c2 d_p0.Slots.e1.Image.Data), .ro (SlL eu8 A3 c3 i_p1.Data)] (fun v_ F_ => ∃ (A1 : Option Addr) (c1 : Nat) (A2 : Option Addr) (c2 : Nat), v_ = .tuple #[.agg (bx_T_Device r.1 A1 c1 A2 c2).toArray, .int .i64 r.2] ∧ F_ = [.ro (SlL eu8 A1 c1 r.1.Slots.e0.Image.Data), .ro (SlL eu8 A2 c2 r.1.Slots.e1.Image.Data)]) := by
  unfold m_bank_Write at h
  refine Fun.intro Try.func13 rfl rfl rfl fun w R => ?_
  refine St.seq ?_
  refine St.region ?_
  refine St.box rfl rfl fun g1 => ?_
  refine St.box rfl rfl fun g2 => ?_
  refine St.alloc rfl rfl fun g3 => ?_
  refine St.p rfl rfl ?_
  refine St.done ?_
  refine St.thenN ?_
  refine St.prune (Γ' := [(2, _), (3, _), (4, _), (6, _)]) ⟨rfl, rfl, rfl, rfl, trivial⟩ (.k (.k (.k (.k (.k (.k .z)))))) ?_
  refine St.seq ?_
  refine St.seq ?_
  refine St.region ?_
  refine St.loadB 0 rfl rfl (.tail _ (.tail _ (.head _))) rfl rfl ?_
  obtain ⟨r1, hr1, h⟩ := bnd_e h
  refine St.callV (c_bank_writable hr1) ent43 rfl rfl rfl rfl ⟨(.tail _ (.tail _ (.tail _ (.head _)))), (.tail _ (.tail _ (.tail _ (.tail _ (.head _))))), trivial⟩ ?_
  refine St.p rfl rfl ?_
  refine St.done ?_
  refine St.thenN ?_
  refine St.prune (Γ' := [(2, _), (3, _), (4, _), (6, _), (8, _)]) ⟨rfl, rfl, rfl, rfl, rfl, trivial⟩ (.k (.k (.k (.k (.k (.k .z)))))) ?_
  refine St.seq ?_
  refine St.region ?_
  refine St.p rfl rfl ?_
  refine St.p rfl rfl ?_
  refine St.done ?_
  refine St.thenN ?_
  refine St.prune (Γ' := [(2, _), (3, _), (4, _), (6, _), (8, _), (13, _)]) ⟨rfl, rfl, rfl, rfl, rfl, rfl, trivial⟩ (.k (.k (.k (.k (.k (.k .z)))))) ?_
  refine St.cond _ rfl (fun hb1 => ?_) (fun hb1 => ?_)
  · replace h := bif_t hb1 h
    refine St.seq ?_
    refine St.region ?_
    refine St.p rfl rfl ?_
    refine St.p rfl rfl ?_
    refine St.store 0 rfl rfl rfl rfl rfl rfl .z rfl ?_
    refine St.p rfl rfl ?_
    refine St.done ?_
    refine St.thenN ?_
    refine St.prune (Γ' := [(6, _), (7, _)]) ⟨rfl, rfl, trivial⟩ (.k (.d (.d (.d (.d (.d .z)))))) ?_
    refine St.ret ?_
    repeat (first | refine St.thenR ?_ | refine St.blkR ?_)
    refine St.asrt (fun _ w => w.nilSl (cod eu8)) ?_
    refine St.asrt (fun _ w => w.nilSl (cod eu8)) ?_
    injection h with h
    subst h
    exact St.finR Try.results13 (.cell rfl (.tail _ (.tail _ (.head _))) rfl (.tmp rfl .nil)) rfl [.ro (SlL eu8 none 0 ([] : List Int)), .ro (SlL eu8 none 0 ([] : List Int))] ⟨none, 0, none, 0, rfl, rfl⟩ (fun _ w => ((.k (.k (.d (.d (.d .z))))) : Keep _ _).sat (Sat.dup (G := [.ro (SlL eu8 none 0 ([] : List Int)), .ro (SlL eu8 none 0 ([] : List Int))]) rfl ⟨(.head _), (.head _), trivial⟩ w))
  · replace h := bif_f hb1 h
    refine St.skip ?_
    refine St.thenN ?_
    refine St.prune (Γ' := [(2, _), (3, _), (4, _), (6, _)]) ⟨rfl, rfl, rfl, rfl, trivial⟩ (.k (.k (.k (.k (.k (.k .z)))))) ?_
    refine St.seq ?_
    refine St.seq ?_
    obtain ⟨o1, hj1, h⟩ := bnd_e h
    refine St.cutE (fun (e1 : Unit) => [(2, .int .i64 n_p2), (3, .pointer (some ⟨g1, 0, none⟩)), (4, .pointer (some ⟨g2, 0, none⟩)), (6, .pointer (some ⟨g3, 0, none⟩)), (36, .bool o1)]) (fun e1 => .res (Box g3 35 [.string (⟨#[]⟩), .string (⟨#[]⟩), .int .i64 0, .int .i64 0, .int .i64 0, .slice none 0 0, .int .u32 0, .string (⟨#[]⟩), .int .i64 0, .int .i64 0, .int .i64 0, .slice none 0 0, .int .u32 0, .int .i64 0, .int .i64 0, .bool false]) :: .res (Box g2 30 (bx_T_Image i_p1 A3 c3)) :: .res (Box g1 35 (bx_T_Device d_p0 A1 c1 A2 c2)) :: .ro (SlL eu8 A1 c1 d_p0.Slots.e0.Image.Data) :: .ro (SlL eu8 A2 c2 d_p0.Slots.e1.Image.Data) :: .ro (SlL eu8 A3 c3 i_p1.Data) :: R) ?_ ?_
    · refine St.region ?_
      refine St.loadB 0 rfl rfl (.tail _ (.head _)) rfl rfl ?_
      obtain ⟨r2, hr2, hj1⟩ := bnd_e hj1
      refine St.callV (c_bundle_Right hr2) ent41 rfl rfl rfl rfl ⟨(.tail _ (.tail _ (.tail _ (.tail _ (.tail _ (.head _)))))), trivial⟩ ?_
      refine St.p rfl rfl ?_
      refine St.p rfl rfl ?_
      refine St.gSplit (dj := 19) _ rfl (fun hb2 => ?_) (fun hb2 => ?_)
      · replace hj1 := bif_t hb2 hj1
        refine St.gOff (dj := 19) rfl rfl rfl rfl ?_
        refine St.gOff (dj := 19) rfl rfl rfl rfl ?_
        refine St.gOff (dj := 19) rfl rfl rfl rfl ?_
        refine St.gOff (dj := 19) rfl rfl rfl rfl ?_
        refine St.gOff (dj := 19) rfl rfl rfl rfl ?_
        refine St.p rfl rfl ?_
        refine St.p rfl rfl ?_
        refine St.gOff (dj := 26) rfl rfl rfl rfl ?_
        refine St.gOff (dj := 26) rfl rfl rfl rfl ?_
        refine St.p rfl rfl ?_
        refine St.p rfl rfl ?_
        refine St.gOff (dj := 30) rfl rfl rfl rfl ?_
        refine St.gOff (dj := 30) rfl rfl rfl rfl ?_
        refine St.gOff (dj := 30) rfl rfl rfl rfl ?_
        refine St.gOff (dj := 30) rfl rfl rfl rfl ?_
        refine St.gOff (dj := 30) rfl rfl rfl rfl ?_
        refine St.p rfl rfl ?_
        refine St.done ?_
        injection hj1 with hj1
        subst hj1
        refine St.thenN ?_
        exact St.hereE () ⟨rfl, rfl, rfl, rfl, rfl, trivial⟩ (fun _ w => ((.k (.k (.k (.k (.k (.k .z)))))) : Keep _ _).sat w)
      · replace hj1 := bif_f hb2 hj1
        refine St.gOn (dj := 19) rfl rfl ?_
        refine St.p rfl rfl ?_
        refine St.gOn (dj := 19) rfl rfl ?_
        refine St.loadB 0 rfl rfl (.tail _ (.head _)) rfl rfl ?_
        refine St.gOn (dj := 19) rfl rfl ?_
        refine St.p rfl rfl ?_
        refine St.gOn (dj := 19) rfl rfl ?_
        refine St.loadB 0 rfl rfl (.tail _ (.tail _ (.head _))) rfl rfl ?_
        refine St.gOn (dj := 19) rfl rfl ?_
        iterate 3 refine St.p rfl rfl ?_
        refine St.gSplit (dj := 26) _ rfl (fun hb3 => ?_) (fun hb3 => ?_)
        · replace hj1 := bif_t hb3 hj1
          refine St.gOff (dj := 26) rfl rfl rfl rfl ?_
          refine St.gOff (dj := 26) rfl rfl rfl rfl ?_
          refine St.p rfl rfl ?_
          refine St.p rfl rfl ?_
          refine St.gOff (dj := 30) rfl rfl rfl rfl ?_
          refine St.gOff (dj := 30) rfl rfl rfl rfl ?_
          refine St.gOff (dj := 30) rfl rfl rfl rfl ?_
          refine St.gOff (dj := 30) rfl rfl rfl rfl ?_
          refine St.gOff (dj := 30) rfl rfl rfl rfl ?_
          refine St.p rfl rfl ?_
          refine St.done ?_
          injection hj1 with hj1
          subst hj1
          refine St.thenN ?_
          exact St.hereE () ⟨rfl, rfl, rfl, rfl, rfl, trivial⟩ (fun _ w => ((.k (.k (.k (.k (.k (.k .z)))))) : Keep _ _).sat w)
        · replace hj1 := bif_f hb3 hj1
          refine St.gOn (dj := 26) rfl rfl ?_
          refine St.p rfl rfl ?_
          refine St.gOn (dj := 26) rfl rfl ?_
          iterate 3 refine St.p rfl rfl ?_
          refine St.gSplit (dj := 30) _ rfl (fun hb4 => ?_) (fun hb4 => ?_)
          · replace hj1 := bif_t hb4 hj1
            refine St.gOff (dj := 30) rfl rfl rfl rfl ?_
            refine St.gOff (dj := 30) rfl rfl rfl rfl ?_
            refine St.gOff (dj := 30) rfl rfl rfl rfl ?_
            refine St.gOff (dj := 30) rfl rfl rfl rfl ?_
            refine St.gOff (dj := 30) rfl rfl rfl rfl ?_
            refine St.p rfl rfl ?_
            refine St.done ?_
            injection hj1 with hj1
            subst hj1
            refine St.thenN ?_
            exact St.hereE () ⟨rfl, rfl, rfl, rfl, rfl, trivial⟩ (fun _ w => ((.k (.k (.k (.k (.k (.k .z)))))) : Keep _ _).sat w)
          · replace hj1 := bif_f hb4 hj1
            refine St.gOn (dj := 30) rfl rfl ?_
            refine St.p rfl rfl ?_
            refine St.gOn (dj := 30) rfl rfl ?_
            refine St.p rfl rfl ?_
            refine St.gOn (dj := 30) rfl rfl ?_
            refine St.loadB 4 rfl rfl (.tail _ (.head _)) rfl rfl ?_
            refine St.gOn (dj := 30) rfl rfl ?_
            refine St.p rfl rfl ?_
            refine St.gOn (dj := 30) rfl rfl ?_
            refine St.p rfl rfl ?_
            refine St.p rfl rfl ?_
            refine St.done ?_
            injection hj1 with hj1
            subst hj1
            refine St.thenN ?_
            exact St.hereE () ⟨rfl, rfl, rfl, rfl, rfl, trivial⟩ (fun _ w => ((.k (.k (.k (.k (.k (.k .z)))))) : Keep _ _).sat w)
    · rintro e1
      refine St.cond _ rfl (fun hb5 => ?_) (fun hb5 => ?_)
      · replace h := bif_t hb5 h
        refine St.seq ?_
        refine St.region ?_
        refine St.p rfl rfl ?_
        refine St.store 0 rfl rfl rfl rfl rfl rfl .z rfl ?_
        refine St.p rfl rfl ?_
        refine St.done ?_
        refine St.thenN ?_
        refine St.prune (Γ' := [(6, _), (7, _)]) ⟨rfl, rfl, trivial⟩ (.k (.d (.d (.d (.d (.d .z)))))) ?_
        refine St.ret ?_
        repeat (first | refine St.thenR ?_ | refine St.blkR ?_)
        refine St.asrt (fun _ w => w.nilSl (cod eu8)) ?_
        refine St.asrt (fun _ w => w.nilSl (cod eu8)) ?_
        injection h with h
        subst h
        exact St.finR Try.results13 (.cell rfl (.tail _ (.tail _ (.head _))) rfl (.tmp rfl .nil)) rfl [.ro (SlL eu8 none 0 ([] : List Int)), .ro (SlL eu8 none 0 ([] : List Int))] ⟨none, 0, none, 0, rfl, rfl⟩ (fun _ w => ((.k (.k (.d (.d (.d .z))))) : Keep _ _).sat (Sat.dup (G := [.ro (SlL eu8 none 0 ([] : List Int)), .ro (SlL eu8 none 0 ([] : List Int))]) rfl ⟨(.head _), (.head _), trivial⟩ w))
      · replace h := bif_f hb5 h
        refine St.skip ?_
        refine St.thenN ?_
        refine St.prune (Γ' := [(2, _), (3, _), (4, _), (6, _)]) ⟨rfl, rfl, rfl, rfl, trivial⟩ (.k (.k (.k (.k (.k (.k .z)))))) ?_
        refine St.seq ?_
        refine St.region ?_
        refine St.loadB 0 rfl rfl (.tail _ (.tail _ (.head _))) rfl rfl ?_
        obtain ⟨r3, hr3, h⟩ := bnd_e h
        refine St.call (c_bank_copied hr3) ent44 rfl rfl rfl (fun _ w => Sat.dup (G := [.ro (SlL eu8 A1 c1 d_p0.Slots.e0.Image.Data), .ro (SlL eu8 A2 c2 d_p0.Slots.e1.Image.Data)]) rfl ⟨(.tail _ (.tail _ (.tail _ (.head _)))), (.tail _ (.tail _ (.tail _ (.tail _ (.head _))))), trivial⟩ w) ?_
        rintro _ _ ⟨A4, c4, A5, c5, rfl, rfl⟩
        refine St.asrt (F' := .ro (SlL eu8 A4 c4 r3.Slots.e0.Image.Data) :: .ro (SlL eu8 A5 c5 r3.Slots.e1.Image.Data) :: .res (Box g3 35 [.string (⟨#[]⟩), .string (⟨#[]⟩), .int .i64 0, .int .i64 0, .int .i64 0, .slice none 0 0, .int .u32 0, .string (⟨#[]⟩), .int .i64 0, .int .i64 0, .int .i64 0, .slice none 0 0, .int .u32 0, .int .i64 0, .int .i64 0, .bool false]) :: .res (Box g2 30 (bx_T_Image i_p1 A3 c3)) :: .res (Box g1 35 (bx_T_Device d_p0 A1 c1 A2 c2)) :: .ro (SlL eu8 A1 c1 d_p0.Slots.e0.Image.Data) :: .ro (SlL eu8 A2 c2 d_p0.Slots.e1.Image.Data) :: .ro (SlL eu8 A3 c3 i_p1.Data) :: R) (fun _ w => w) ?_
        refine St.alloc rfl rfl fun g4 => ?_
        refine St.store 0 rfl rfl rfl rfl rfl rfl .z rfl ?_
        refine St.done ?_
        refine St.thenN ?_
        refine St.prune (Γ' := [(2, _), (4, _), (6, _), (9, _)]) ⟨rfl, rfl, rfl, rfl, trivial⟩ (.k (.k (.k (.k (.k (.d (.d (.d (.k .z))))))))) ?_
        refine St.seq ?_
        refine St.region ?_
        refine St.p rfl rfl ?_
        refine St.loadB 4 rfl rfl (.tail _ (.tail _ (.tail _ (.tail _ (.head _))))) rfl rfl ?_
        refine St.p rfl rfl ?_
        obtain ⟨l1, hl1, h⟩ := bnd_e h
        refine St.sub (E := (cod eu8)) rfl rfl (.tail _ (.tail _ (.tail _ (.tail _ (.tail _ (.head _)))))) rfl rfl rfl rfl rfl rfl rfl hl1 fun A6 c6 => ?_
        refine St.p rfl rfl ?_
        refine St.store 4 rfl rfl rfl rfl rfl rfl (.s (.s (.s (.s (.s .z))))) rfl ?_
        refine St.done ?_
        refine St.thenN ?_
        refine St.prune (Γ' := [(4, _), (6, _), (9, _)]) ⟨rfl, rfl, rfl, trivial⟩ (.k (.k (.k (.k (.k (.k (.d .z))))))) ?_
        refine St.seq ?_
        refine St.regionX (iL [(.fl, 1), (.ef, 0), (.ef, 2), (.fl, 3), (.fl, 4), (.ef, 5)] .nil) (.res (Box g2 30 [.string i_p1.Name, .int .i64 i_p1.Version.Major, .int .i64 i_p1.Version.Minor, .int .i64 i_p1.Version.Patch, .slice A6 l1.length c6]) :: .ro (SlL eu8 A6 c6 l1) :: .ro (SlL eu8 A4 c4 r3.Slots.e0.Image.Data) :: .ro (SlL eu8 A5 c5 r3.Slots.e1.Image.Data) :: .res (Box g3 35 [.string (⟨#[]⟩), .string (⟨#[]⟩), .int .i64 0, .int .i64 0, .int .i64 0, .slice none 0 0, .int .u32 0, .string (⟨#[]⟩), .int .i64 0, .int .i64 0, .int .i64 0, .slice none 0 0, .int .u32 0, .int .i64 0, .int .i64 0, .bool false]) :: R) mixed (by kernel_rfl) (fun _ w => ((.k (.k (.d (.k (.k (.k .z)))))) : Keep _ _).sat w) ?_
        refine St.xfl (fun _ h => h) (Rd.loadB 0 rfl (.head _) rfl rfl) rfl ?_
        refine St.xef ?_
        obtain ⟨r4, hr4, h⟩ := bnd_e h
        refine St.call (c_bank_other hr4) ent45 rfl rfl rfl (fun _ w => Sat.dup (G := [.ro (SlL eu8 A4 c4 r3.Slots.e0.Image.Data), .ro (SlL eu8 A5 c5 r3.Slots.e1.Image.Data)]) rfl ⟨(.tail _ (.tail _ (.tail _ (.head _)))), (.tail _ (.tail _ (.tail _ (.tail _ (.head _))))), trivial⟩ (w.front (.s (.s .z)))) ?_
        rintro _ _ ⟨rfl, rfl⟩
        refine St.asrt (F' := .res (Box g4 35 (bx_T_Device r3 A4 c4 A5 c5)) :: .res (Box g2 30 [.string i_p1.Name, .int .i64 i_p1.Version.Major, .int .i64 i_p1.Version.Minor, .int .i64 i_p1.Version.Patch, .slice A6 l1.length c6]) :: .ro (SlL eu8 A6 c6 l1) :: .ro (SlL eu8 A4 c4 r3.Slots.e0.Image.Data) :: .ro (SlL eu8 A5 c5 r3.Slots.e1.Image.Data) :: .res (Box g3 35 [.string (⟨#[]⟩), .string (⟨#[]⟩), .int .i64 0, .int .i64 0, .int .i64 0, .slice none 0 0, .int .u32 0, .string (⟨#[]⟩), .int .i64 0, .int .i64 0, .int .i64 0, .slice none 0 0, .int .u32 0, .int .i64 0, .int .i64 0, .bool false]) :: R) (fun _ w => w) ?_
        refine St.xk (fun _ w => ((.d (.k (.k (.k (.k (.k .z)))))) : Keep _ _).sat w) ?_
        refine St.xef ?_
        obtain ⟨r5, hr5, h⟩ := bnd_e h
        refine St.call (c_bank_image hr5) ent42 rfl rfl rfl (fun _ w => Sat.dup (G := [.ro (SlL eu8 A6 c6 l1)]) rfl ⟨(.tail _ (.tail _ (.head _))), trivial⟩ w) ?_
        rintro _ _ ⟨A7, c7, rfl, rfl⟩
        refine St.asrt (F' := .ro (SlL eu8 A7 c7 r5.Data) :: .res (Box g4 35 (bx_T_Device r3 A4 c4 A5 c5)) :: .res (Box g2 30 [.string i_p1.Name, .int .i64 i_p1.Version.Major, .int .i64 i_p1.Version.Minor, .int .i64 i_p1.Version.Patch, .slice A6 l1.length c6]) :: .ro (SlL eu8 A6 c6 l1) :: .ro (SlL eu8 A4 c4 r3.Slots.e0.Image.Data) :: .ro (SlL eu8 A5 c5 r3.Slots.e1.Image.Data) :: .res (Box g3 35 [.string (⟨#[]⟩), .string (⟨#[]⟩), .int .i64 0, .int .i64 0, .int .i64 0, .slice none 0 0, .int .u32 0, .string (⟨#[]⟩), .int .i64 0, .int .i64 0, .int .i64 0, .slice none 0 0, .int .u32 0, .int .i64 0, .int .i64 0, .bool false]) :: R) (fun _ w => w) ?_
        refine St.xk (fun _ w => ((.d (.d (.k (.k (.k (.k (.k .z))))))) : Keep _ _).sat w) ?_
        refine St.xfl (fun _ h => h) (Rd.p rfl) rfl ?_
        refine St.xfl (fun _ h => h) (Rd.p rfl) rfl ?_
        refine St.xef ?_
        obtain ⟨x1, hx1, h⟩ := bnd_e h
        obtain ⟨z1, hz1, h⟩ := bnd_e h
        refine St.stP (ls := l_T_Slot) 0 [.string r3.Name] [.int .i64 r3.Active, .int .i64 r3.Running, .bool r3.Trial] [(r3.Slots.e0, ((A4, c4), ())), (r3.Slots.e1, ((A5, c5), ()))] (fun ex => ((A7, c7), ())) hx1 (Arr2.set_e hz1) rfl rfl (.s .z) rfl rfl rfl ⟨(.tail _ (.tail _ (.tail _ (.head _)))), (.tail _ (.tail _ (.tail _ (.tail _ (.head _))))), trivial⟩ rfl rfl rfl rfl (fun _ => rfl) (fun _ => ⟨(.tail _ (.head _)), trivial⟩) fun ye1 hye1 => ?_
        obtain ⟨ex1, ex2, rfl⟩ := pairs2 hye1
        obtain ⟨⟨A8, c8⟩, _⟩ := ex1
        obtain ⟨⟨A9, c9⟩, _⟩ := ex2
        refine St.asrt (F' := .res (Box g4 35 [.string r3.Name, .string z1.e0.Image.Name, .int .i64 z1.e0.Image.Version.Major, .int .i64 z1.e0.Image.Version.Minor, .int .i64 z1.e0.Image.Version.Patch, .slice A8 z1.e0.Image.Data.length c8, .int .u32 z1.e0.Sum, .string z1.e1.Image.Name, .int .i64 z1.e1.Image.Version.Major, .int .i64 z1.e1.Image.Version.Minor, .int .i64 z1.e1.Image.Version.Patch, .slice A9 z1.e1.Image.Data.length c9, .int .u32 z1.e1.Sum, .int .i64 r3.Active, .int .i64 r3.Running, .bool r3.Trial]) :: .ro (SlL eu8 A8 c8 z1.e0.Image.Data) :: .ro (SlL eu8 A9 c9 z1.e1.Image.Data) :: .ro (SlL eu8 A7 c7 r5.Data) :: .res (Box g2 30 [.string i_p1.Name, .int .i64 i_p1.Version.Major, .int .i64 i_p1.Version.Minor, .int .i64 i_p1.Version.Patch, .slice A6 l1.length c6]) :: .ro (SlL eu8 A6 c6 l1) :: .ro (SlL eu8 A4 c4 r3.Slots.e0.Image.Data) :: .ro (SlL eu8 A5 c5 r3.Slots.e1.Image.Data) :: .res (Box g3 35 [.string (⟨#[]⟩), .string (⟨#[]⟩), .int .i64 0, .int .i64 0, .int .i64 0, .slice none 0 0, .int .u32 0, .string (⟨#[]⟩), .int .i64 0, .int .i64 0, .int .i64 0, .slice none 0 0, .int .u32 0, .int .i64 0, .int .i64 0, .bool false]) :: R) (fun _ w => w) ?_
        refine St.xk (fun _ w => ((.d (.d (.d (.d (.k (.k (.k (.k (.k .z))))))))) : Keep _ _).sat w) ?_
        refine St.xdone ?_
        refine St.thenN ?_
        refine St.prune (Γ' := [(6, _), (9, _)]) ⟨rfl, rfl, trivial⟩ (.k (.k (.k (.d (.d (.d (.d (.d (.k .z))))))))) ?_
        refine St.seq ?_
        refine St.region ?_
        refine St.loadB 0 rfl rfl (.head _) rfl rfl ?_
        refine St.store 0 rfl rfl rfl rfl rfl rfl (.s (.s (.s .z))) rfl ?_
        refine St.p rfl rfl ?_
        refine St.done ?_
        refine St.thenN ?_
        refine St.prune (Γ' := [(6, _), (7, _)]) ⟨rfl, rfl, trivial⟩ (.k (.d (.k (.k .z)))) ?_
        refine St.ret ?_
        repeat (first | refine St.thenR ?_ | refine St.blkR ?_)
        injection h with h
        subst h
        exact St.finR Try.results13 (.cell rfl (.head _) rfl (.tmp rfl .nil)) rfl [.ro (SlL eu8 A8 c8 z1.e0.Image.Data), .ro (SlL eu8 A9 c9 z1.e1.Image.Data)] ⟨A8, c8, A9, c9, rfl, rfl⟩ (fun _ w => ((.k (.k (.d (.d (.d .z))))) : Keep _ _).sat (Sat.dup (G := [.ro (SlL eu8 A8 c8 z1.e0.Image.Data), .ro (SlL eu8 A9 c9 z1.e1.Image.Data)]) rfl ⟨(.tail _ (.head _)), (.tail _ (.tail _ (.head _))), trivial⟩ w))

theorem ent16 : Ent Try.prog 16 := ⟨_, Try.func16, by kernel_rfl, by kernel_rfl⟩

noncomputable def m_bank_Finish (d_p0 : T_Device) (sum : Int) : Option (T_Device × Int) :=
  bnd (m_bank_writable d_p0) fun r1 => bif (r1 != 0) then (some ((⟨⟨#[]⟩, (⟨(⟨(⟨⟨#[]⟩, (⟨0, 0, 0⟩ : T_Version), []⟩ : T_Image), 0⟩ : T_Slot), (⟨(⟨⟨#[]⟩, (⟨0, 0, 0⟩ : T_Version), []⟩ : T_Image), 0⟩ : T_Slot)⟩ : (Arr2 T_Slot)), 0, 0, false⟩ : T_Device), r1)) else (bnd (m_bank_copied d_p0) fun r2 => bnd (m_bank_other r2) fun r3 => bnd (elt [r2.Slots.e0, r2.Slots.e1] r3) fun x1 => bnd (Arr2.set r2.Slots r3 (⟨x1.Image, sum⟩ : T_Slot)) fun z1 => bnd (m_bank_other (⟨r2.Name, z1, r2.Active, r2.Running, r2.Trial⟩ : T_Device)) fun r4 => bnd (elt [z1.e0, z1.e1] r4) fun x2 => bnd (m_bank_own (⟨r2.Name, z1, r2.Active, r2.Running, r2.Trial⟩ : T_Device) x2) fun r5 => bif !r5 then (some ((⟨⟨#[]⟩, (⟨(⟨(⟨⟨#[]⟩, (⟨0, 0, 0⟩ : T_Version), []⟩ : T_Image), 0⟩ : T_Slot), (⟨(⟨⟨#[]⟩, (⟨0, 0, 0⟩ : T_Version), []⟩ : T_Image), 0⟩ : T_Slot)⟩ : (Arr2 T_Slot)), 0, 0, false⟩ : T_Device), 5)) else (some ((⟨r2.Name, z1, r2.Active, r2.Running, r2.Trial⟩ : T_Device), 0)))

theorem c_bank_Finish {d_p0 : T_Device} {sum : Int} {A1 : Option Addr} {c1 : Nat} {A2 : Option Addr} {c2 : Nat} {r : (T_Device × Int)} (h : m_bank_Finish d_p0 sum = some r) :
    Fun Try.prog 16 [.agg (bx_T_Device d_p0 A1 c1 A2 c2).toArray, .int .u32 sum] [.ro (SlL eu8 A1 c1 d_p0.Slots.e0.Image.Data), .ro (SlL eu8 A2 c2 d_p0.Slots.e1.Image.Data)] (fun v_ F_ => ∃ (A1 : Option Addr) (c1 : Nat) (A2 : Option Addr) (c2 : Nat), v_ = .tuple #[.agg (bx_T_Device r.1 A1 c1 A2 c2).toArray, .int .i64 r.2] ∧ F_ = [.ro (SlL eu8 A1 c1 r.1.Slots.e0.Image.Data), .ro (SlL eu8 A2 c2 r.1.Slots.e1.Image.Data)]) := by
  unfold m_bank_Finish at h
  refine Fun.intro Try.func16 rfl rfl rfl fun w R => ?_
  refine St.seq ?_
  refine St.region ?_
  refine St.box rfl rfl fun g1 => ?_
  refine St.alloc rfl rfl fun g2 => ?_
  refine St.p rfl rfl ?_
  refine St.done ?_
  refine St.thenN ?_
  refine St.prune (Γ' := [(1, _), (2, _), (4, _)]) ⟨rfl, rfl, rfl, trivial⟩ (.k (.k (.k (.k .z)))) ?_
  refine St.seq ?_
  refine St.seq ?_
  refine St.region ?_
  refine St.loadB 0 rfl rfl (.tail _ (.head _)) rfl rfl ?_
  obtain ⟨r1, hr1, h⟩ := bnd_e h
  refine St.callV (c_bank_writable hr1) ent43 rfl rfl rfl rfl ⟨(.tail _ (.tail _ (.head _))), (.tail _ (.tail _ (.tail _ (.head _)))), trivial⟩ ?_
  refine St.p rfl rfl ?_
  refine St.done ?_
  refine St.thenN ?_
  refine St.prune (Γ' := [(1, _), (2, _), (4, _), (6, _)]) ⟨rfl, rfl, rfl, rfl, trivial⟩ (.k (.k (.k (.k .z)))) ?_
  refine St.seq ?_
  refine St.region ?_
  refine St.p rfl rfl ?_
  refine St.p rfl rfl ?_
  refine St.done ?_
  refine St.thenN ?_
  refine St.prune (Γ' := [(1, _), (2, _), (4, _), (6, _), (11, _)]) ⟨rfl, rfl, rfl, rfl, rfl, trivial⟩ (.k (.k (.k (.k .z)))) ?_
  refine St.cond _ rfl (fun hb1 => ?_) (fun hb1 => ?_)
  · replace h := bif_t hb1 h
    refine St.seq ?_
    refine St.region ?_
    refine St.p rfl rfl ?_
    refine St.p rfl rfl ?_
    refine St.store 0 rfl rfl rfl rfl rfl rfl .z rfl ?_
    refine St.p rfl rfl ?_
    refine St.done ?_
    refine St.thenN ?_
    refine St.prune (Γ' := [(4, _), (5, _)]) ⟨rfl, rfl, trivial⟩ (.k (.d (.d (.d .z)))) ?_
    refine St.ret ?_
    repeat (first | refine St.thenR ?_ | refine St.blkR ?_)
    refine St.asrt (fun _ w => w.nilSl (cod eu8)) ?_
    refine St.asrt (fun _ w => w.nilSl (cod eu8)) ?_
    injection h with h
    subst h
    exact St.finR Try.results16 (.cell rfl (.tail _ (.tail _ (.head _))) rfl (.tmp rfl .nil)) rfl [.ro (SlL eu8 none 0 ([] : List Int)), .ro (SlL eu8 none 0 ([] : List Int))] ⟨none, 0, none, 0, rfl, rfl⟩ (fun _ w => ((.k (.k (.d (.d (.d .z))))) : Keep _ _).sat (Sat.dup (G := [.ro (SlL eu8 none 0 ([] : List Int)), .ro (SlL eu8 none 0 ([] : List Int))]) rfl ⟨(.head _), (.head _), trivial⟩ w))
  · replace h := bif_f hb1 h
    refine St.skip ?_
    refine St.thenN ?_
    refine St.prune (Γ' := [(1, _), (2, _), (4, _)]) ⟨rfl, rfl, rfl, trivial⟩ (.k (.k (.k (.k .z)))) ?_
    refine St.seq ?_
    refine St.region ?_
    refine St.loadB 0 rfl rfl (.tail _ (.head _)) rfl rfl ?_
    obtain ⟨r2, hr2, h⟩ := bnd_e h
    refine St.call (c_bank_copied hr2) ent44 rfl rfl rfl (fun _ w => Sat.dup (G := [.ro (SlL eu8 A1 c1 d_p0.Slots.e0.Image.Data), .ro (SlL eu8 A2 c2 d_p0.Slots.e1.Image.Data)]) rfl ⟨(.tail _ (.tail _ (.head _))), (.tail _ (.tail _ (.tail _ (.head _)))), trivial⟩ w) ?_
    rintro _ _ ⟨A3, c3, A4, c4, rfl, rfl⟩
    refine St.asrt (F' := .ro (SlL eu8 A3 c3 r2.Slots.e0.Image.Data) :: .ro (SlL eu8 A4 c4 r2.Slots.e1.Image.Data) :: .res (Box g2 35 [.string (⟨#[]⟩), .string (⟨#[]⟩), .int .i64 0, .int .i64 0, .int .i64 0, .slice none 0 0, .int .u32 0, .string (⟨#[]⟩), .int .i64 0, .int .i64 0, .int .i64 0, .slice none 0 0, .int .u32 0, .int .i64 0, .int .i64 0, .bool false]) :: .res (Box g1 35 (bx_T_Device d_p0 A1 c1 A2 c2)) :: .ro (SlL eu8 A1 c1 d_p0.Slots.e0.Image.Data) :: .ro (SlL eu8 A2 c2 d_p0.Slots.e1.Image.Data) :: R) (fun _ w => w) ?_
    refine St.alloc rfl rfl fun g3 => ?_
    refine St.store 0 rfl rfl rfl rfl rfl rfl .z rfl ?_
    refine St.done ?_
    refine St.thenN ?_
    refine St.prune (Γ' := [(1, _), (4, _), (7, _)]) ⟨rfl, rfl, rfl, trivial⟩ (.k (.k (.k (.k (.d (.d (.d .z))))))) ?_
    refine St.seq ?_
    refine St.region ?_
    obtain ⟨r3, hr3, h⟩ := bnd_e h
    refine St.call (c_bank_other hr3) ent45 rfl rfl rfl (fun _ w => Sat.dup (G := [.ro (SlL eu8 A3 c3 r2.Slots.e0.Image.Data), .ro (SlL eu8 A4 c4 r2.Slots.e1.Image.Data)]) rfl ⟨(.tail _ (.head _)), (.tail _ (.tail _ (.head _))), trivial⟩ (w.front .z)) ?_
    rintro _ _ ⟨rfl, rfl⟩
    refine St.asrt (F' := .res (Box g3 35 (bx_T_Device r2 A3 c3 A4 c4)) :: .ro (SlL eu8 A3 c3 r2.Slots.e0.Image.Data) :: .ro (SlL eu8 A4 c4 r2.Slots.e1.Image.Data) :: .res (Box g2 35 [.string (⟨#[]⟩), .string (⟨#[]⟩), .int .i64 0, .int .i64 0, .int .i64 0, .slice none 0 0, .int .u32 0, .string (⟨#[]⟩), .int .i64 0, .int .i64 0, .int .i64 0, .slice none 0 0, .int .u32 0, .int .i64 0, .int .i64 0, .bool false]) :: R) (fun _ w => w) ?_
    iterate 3 refine St.p rfl rfl ?_
    obtain ⟨x1, hx1, h⟩ := bnd_e h
    obtain ⟨z1, hz1, h⟩ := bnd_e h
    refine St.stP (ls := l_T_Slot) 5 [.string r2.Name] [.int .i64 r2.Active, .int .i64 r2.Running, .bool r2.Trial] [(r2.Slots.e0, ((A3, c3), ())), (r2.Slots.e1, ((A4, c4), ()))] (fun ex => ((ex.1.1, ex.1.2), ())) hx1 (Arr2.set_e hz1) rfl rfl .z rfl rfl rfl ⟨(.head _), (.tail _ (.head _)), trivial⟩ rfl rfl rfl rfl (fun _ => rfl) (fun _ => ⟨(.head _), trivial⟩) fun ye1 hye1 => ?_
    obtain ⟨ex1, ex2, rfl⟩ := pairs2 hye1
    obtain ⟨⟨A5, c5⟩, _⟩ := ex1
    obtain ⟨⟨A6, c6⟩, _⟩ := ex2
    refine St.asrt (F' := .res (Box g3 35 [.string r2.Name, .string z1.e0.Image.Name, .int .i64 z1.e0.Image.Version.Major, .int .i64 z1.e0.Image.Version.Minor, .int .i64 z1.e0.Image.Version.Patch, .slice A5 z1.e0.Image.Data.length c5, .int .u32 z1.e0.Sum, .string z1.e1.Image.Name, .int .i64 z1.e1.Image.Version.Major, .int .i64 z1.e1.Image.Version.Minor, .int .i64 z1.e1.Image.Version.Patch, .slice A6 z1.e1.Image.Data.length c6, .int .u32 z1.e1.Sum, .int .i64 r2.Active, .int .i64 r2.Running, .bool r2.Trial]) :: .ro (SlL eu8 A5 c5 z1.e0.Image.Data) :: .ro (SlL eu8 A6 c6 z1.e1.Image.Data) :: .ro (SlL eu8 A3 c3 r2.Slots.e0.Image.Data) :: .ro (SlL eu8 A4 c4 r2.Slots.e1.Image.Data) :: .res (Box g2 35 [.string (⟨#[]⟩), .string (⟨#[]⟩), .int .i64 0, .int .i64 0, .int .i64 0, .slice none 0 0, .int .u32 0, .string (⟨#[]⟩), .int .i64 0, .int .i64 0, .int .i64 0, .slice none 0 0, .int .u32 0, .int .i64 0, .int .i64 0, .bool false]) :: R) (fun _ w => w) ?_
    refine St.done ?_
    refine St.thenN ?_
    refine St.prune (Γ' := [(4, _), (7, _)]) ⟨rfl, rfl, trivial⟩ (.k (.k (.k (.d (.d (.k .z)))))) ?_
    refine St.seq ?_
    refine St.seq ?_
    refine St.regionX (iL [(.fl, 0), (.ef, 1), (.fl, 2), (.ef, 3), (.ef, 4), (.fl, 5)] .nil) (.res (Box g3 35 [.string r2.Name, .string z1.e0.Image.Name, .int .i64 z1.e0.Image.Version.Major, .int .i64 z1.e0.Image.Version.Minor, .int .i64 z1.e0.Image.Version.Patch, .slice A5 z1.e0.Image.Data.length c5, .int .u32 z1.e0.Sum, .string z1.e1.Image.Name, .int .i64 z1.e1.Image.Version.Major, .int .i64 z1.e1.Image.Version.Minor, .int .i64 z1.e1.Image.Version.Patch, .slice A6 z1.e1.Image.Data.length c6, .int .u32 z1.e1.Sum, .int .i64 r2.Active, .int .i64 r2.Running, .bool r2.Trial]) :: .ro (SlL eu8 A5 c5 z1.e0.Image.Data) :: .ro (SlL eu8 A6 c6 z1.e1.Image.Data) :: .res (Box g2 35 [.string (⟨#[]⟩), .string (⟨#[]⟩), .int .i64 0, .int .i64 0, .int .i64 0, .slice none 0 0, .int .u32 0, .string (⟨#[]⟩), .int .i64 0, .int .i64 0, .int .i64 0, .slice none 0 0, .int .u32 0, .int .i64 0, .int .i64 0, .bool false]) :: R) mixed (by kernel_rfl) (fun _ w => ((.k (.k (.k (.k .z)))) : Keep _ _).sat w) ?_
    refine St.xfl (fun _ h => h) (Rd.loadB 0 rfl (.head _) rfl rfl) rfl ?_
    refine St.xef ?_
    obtain ⟨r4, hr4, h⟩ := bnd_e h
    refine St.call (c_bank_other hr4) ent45 rfl rfl rfl (fun _ w => Sat.dup (G := [.ro (SlL eu8 A5 c5 z1.e0.Image.Data), .ro (SlL eu8 A6 c6 z1.e1.Image.Data)]) rfl ⟨(.tail _ (.head _)), (.tail _ (.tail _ (.head _))), trivial⟩ (w.front .z)) ?_
    rintro _ _ ⟨rfl, rfl⟩
    refine St.asrt (F' := .res (Box g3 35 [.string r2.Name, .string z1.e0.Image.Name, .int .i64 z1.e0.Image.Version.Major, .int .i64 z1.e0.Image.Version.Minor, .int .i64 z1.e0.Image.Version.Patch, .slice A5 z1.e0.Image.Data.length c5, .int .u32 z1.e0.Sum, .string z1.e1.Image.Name, .int .i64 z1.e1.Image.Version.Major, .int .i64 z1.e1.Image.Version.Minor, .int .i64 z1.e1.Image.Version.Patch, .slice A6 z1.e1.Image.Data.length c6, .int .u32 z1.e1.Sum, .int .i64 r2.Active, .int .i64 r2.Running, .bool r2.Trial]) :: .ro (SlL eu8 A5 c5 z1.e0.Image.Data) :: .ro (SlL eu8 A6 c6 z1.e1.Image.Data) :: .res (Box g2 35 [.string (⟨#[]⟩), .string (⟨#[]⟩), .int .i64 0, .int .i64 0, .int .i64 0, .slice none 0 0, .int .u32 0, .string (⟨#[]⟩), .int .i64 0, .int .i64 0, .int .i64 0, .slice none 0 0, .int .u32 0, .int .i64 0, .int .i64 0, .bool false]) :: R) (fun _ w => w) ?_
    refine St.xk (fun _ w => ((.k (.k (.k (.k .z)))) : Keep _ _).sat w) ?_
    refine St.xfl (fun _ h => h) (Rd.p rfl) rfl ?_
    refine St.xef ?_
    obtain ⟨x2, hx2, h⟩ := bnd_e h
    refine St.ldP (ls := l_T_Slot) 0 [.string r2.Name] [.int .i64 r2.Active, .int .i64 r2.Running, .bool r2.Trial] [(z1.e0, ((A5, c5), ())), (z1.e1, ((A6, c6), ()))] (fun ex => .agg (bx_T_Slot x2 ex.1.1 ex.1.2).toArray) hx2 rfl rfl (.head _) rfl rfl rfl ⟨(.tail _ (.head _)), (.tail _ (.tail _ (.head _))), trivial⟩ rfl (fun _ => rfl) fun ex3 => ?_
    obtain ⟨⟨A7, c7⟩, _⟩ := ex3
    refine St.asrt (F' := .ro (SlL eu8 A7 c7 x2.Image.Data) :: .res (Box g3 35 [.string r2.Name, .string z1.e0.Image.Name, .int .i64 z1.e0.Image.Version.Major, .int .i64 z1.e0.Image.Version.Minor, .int .i64 z1.e0.Image.Version.Patch, .slice A5 z1.e0.Image.Data.length c5, .int .u32 z1.e0.Sum, .string z1.e1.Image.Name, .int .i64 z1.e1.Image.Version.Major, .int .i64 z1.e1.Image.Version.Minor, .int .i64 z1.e1.Image.Version.Patch, .slice A6 z1.e1.Image.Data.length c6, .int .u32 z1.e1.Sum, .int .i64 r2.Active, .int .i64 r2.Running, .bool r2.Trial]) :: .ro (SlL eu8 A5 c5 z1.e0.Image.Data) :: .ro (SlL eu8 A6 c6 z1.e1.Image.Data) :: .res (Box g2 35 [.string (⟨#[]⟩), .string (⟨#[]⟩), .int .i64 0, .int .i64 0, .int .i64 0, .slice none 0 0, .int .u32 0, .string (⟨#[]⟩), .int .i64 0, .int .i64 0, .int .i64 0, .slice none 0 0, .int .u32 0, .int .i64 0, .int .i64 0, .bool false]) :: R) (fun _ w => w) ?_
    refine St.xk (fun _ w => ((.d (.k (.k (.k (.k .z))))) : Keep _ _).sat w) ?_
    refine St.xef ?_
    obtain ⟨r5, hr5, h⟩ := bnd_e h
    refine St.callV (c_bank_own hr5) ent46 rfl rfl rfl rfl ⟨(.tail _ (.tail _ (.head _))), (.tail _ (.tail _ (.tail _ (.head _)))), (.head _), trivial⟩ ?_
    refine St.xk (fun _ w => ((.d (.k (.k (.k (.k .z))))) : Keep _ _).sat w) ?_
    refine St.xfl (fun _ h => h) (Rd.p rfl) rfl ?_
    refine St.xdone ?_
    refine St.thenN ?_
    refine St.prune (Γ' := [(4, _), (7, _), (25, _)]) ⟨rfl, rfl, rfl, trivial⟩ (.d (.k (.k (.k (.k .z))))) ?_
    refine St.cond _ rfl (fun hb2 => ?_) (fun hb2 => ?_)
    · replace h := bif_t hb2 h
      refine St.seq ?_
      refine St.region ?_
      refine St.p rfl rfl ?_
      refine St.store 0 rfl rfl rfl rfl rfl rfl (.s (.s (.s .z))) rfl ?_
      refine St.p rfl rfl ?_
      refine St.done ?_
      refine St.thenN ?_
      refine St.prune (Γ' := [(4, _), (5, _)]) ⟨rfl, rfl, trivial⟩ (.k (.d (.d (.d .z)))) ?_
      refine St.ret ?_
      repeat (first | refine St.thenR ?_ | refine St.blkR ?_)
      refine St.asrt (fun _ w => w.nilSl (cod eu8)) ?_
      refine St.asrt (fun _ w => w.nilSl (cod eu8)) ?_
      injection h with h
      subst h
      exact St.finR Try.results16 (.cell rfl (.tail _ (.tail _ (.head _))) rfl (.tmp rfl .nil)) rfl [.ro (SlL eu8 none 0 ([] : List Int)), .ro (SlL eu8 none 0 ([] : List Int))] ⟨none, 0, none, 0, rfl, rfl⟩ (fun _ w => ((.k (.k (.d (.d (.d .z))))) : Keep _ _).sat (Sat.dup (G := [.ro (SlL eu8 none 0 ([] : List Int)), .ro (SlL eu8 none 0 ([] : List Int))]) rfl ⟨(.head _), (.head _), trivial⟩ w))
    · replace h := bif_f hb2 h
      refine St.skip ?_
      refine St.thenN ?_
      refine St.prune (Γ' := [(4, _), (7, _)]) ⟨rfl, rfl, trivial⟩ (.k (.k (.k (.k .z)))) ?_
      refine St.seq ?_
      refine St.region ?_
      refine St.loadB 0 rfl rfl (.head _) rfl rfl ?_
      refine St.store 0 rfl rfl rfl rfl rfl rfl (.s (.s (.s .z))) rfl ?_
      refine St.p rfl rfl ?_
      refine St.done ?_
      refine St.thenN ?_
      refine St.prune (Γ' := [(4, _), (5, _)]) ⟨rfl, rfl, trivial⟩ (.k (.d (.k (.k .z)))) ?_
      refine St.ret ?_
      repeat (first | refine St.thenR ?_ | refine St.blkR ?_)
      injection h with h
      subst h
      exact St.finR Try.results16 (.cell rfl (.head _) rfl (.tmp rfl .nil)) rfl [.ro (SlL eu8 A5 c5 z1.e0.Image.Data), .ro (SlL eu8 A6 c6 z1.e1.Image.Data)] ⟨A5, c5, A6, c6, rfl, rfl⟩ (fun _ w => ((.k (.k (.d (.d (.d .z))))) : Keep _ _).sat (Sat.dup (G := [.ro (SlL eu8 A5 c5 z1.e0.Image.Data), .ro (SlL eu8 A6 c6 z1.e1.Image.Data)]) rfl ⟨(.tail _ (.head _)), (.tail _ (.tail _ (.head _))), trivial⟩ w))

theorem ent14 : Ent Try.prog 14 := ⟨_, Try.func14, by kernel_rfl, by kernel_rfl⟩

noncomputable def m_bank_Switch (d_p0 : T_Device) : Option (T_Device × Int) :=
  bnd (m_bank_writable d_p0) fun r1 => bif (r1 != 0) then (some ((⟨⟨#[]⟩, (⟨(⟨(⟨⟨#[]⟩, (⟨0, 0, 0⟩ : T_Version), []⟩ : T_Image), 0⟩ : T_Slot), (⟨(⟨⟨#[]⟩, (⟨0, 0, 0⟩ : T_Version), []⟩ : T_Image), 0⟩ : T_Slot)⟩ : (Arr2 T_Slot)), 0, 0, false⟩ : T_Device), r1)) else (bnd (m_bank_other d_p0) fun r2 => bnd (elt [d_p0.Slots.e0, d_p0.Slots.e1] r2) fun x1 => bnd (m_bank_own d_p0 x1) fun r3 => bif !r3 then (some ((⟨⟨#[]⟩, (⟨(⟨(⟨⟨#[]⟩, (⟨0, 0, 0⟩ : T_Version), []⟩ : T_Image), 0⟩ : T_Slot), (⟨(⟨⟨#[]⟩, (⟨0, 0, 0⟩ : T_Version), []⟩ : T_Image), 0⟩ : T_Slot)⟩ : (Arr2 T_Slot)), 0, 0, false⟩ : T_Device), 46)) else (bnd (m_bank_copied d_p0) fun r4 => some ((⟨r4.Name, r4.Slots, r4.Active, r4.Running, true⟩ : T_Device), 0)))

theorem c_bank_Switch {d_p0 : T_Device} {A1 : Option Addr} {c1 : Nat} {A2 : Option Addr} {c2 : Nat} {r : (T_Device × Int)} (h : m_bank_Switch d_p0 = some r) :
    Fun Try.prog 14 [.agg (bx_T_Device d_p0 A1 c1 A2 c2).toArray] [.ro (SlL eu8 A1 c1 d_p0.Slots.e0.Image.Data), .ro (SlL eu8 A2 c2 d_p0.Slots.e1.Image.Data)] (fun v_ F_ => ∃ (A1 : Option Addr) (c1 : Nat) (A2 : Option Addr) (c2 : Nat), v_ = .tuple #[.agg (bx_T_Device r.1 A1 c1 A2 c2).toArray, .int .i64 r.2] ∧ F_ = [.ro (SlL eu8 A1 c1 r.1.Slots.e0.Image.Data), .ro (SlL eu8 A2 c2 r.1.Slots.e1.Image.Data)]) := by
  unfold m_bank_Switch at h
  refine Fun.intro Try.func14 rfl rfl rfl fun w R => ?_
  refine St.seq ?_
  refine St.region ?_
  refine St.box rfl rfl fun g1 => ?_
  refine St.alloc rfl rfl fun g2 => ?_
  refine St.p rfl rfl ?_
  refine St.done ?_
  refine St.thenN ?_
  refine St.prune (Γ' := [(1, _), (2, _)]) ⟨rfl, rfl, trivial⟩ (.k (.k (.k (.k .z)))) ?_
  refine St.seq ?_
  refine St.seq ?_
  refine St.region ?_
  refine St.loadB 0 rfl rfl (.tail _ (.head _)) rfl rfl ?_
  obtain ⟨r1, hr1, h⟩ := bnd_e h
  refine St.callV (c_bank_writable hr1) ent43 rfl rfl rfl rfl ⟨(.tail _ (.tail _ (.head _))), (.tail _ (.tail _ (.tail _ (.head _)))), trivial⟩ ?_
  refine St.p rfl rfl ?_
  refine St.done ?_
  refine St.thenN ?_
  refine St.prune (Γ' := [(1, _), (2, _), (4, _)]) ⟨rfl, rfl, rfl, trivial⟩ (.k (.k (.k (.k .z)))) ?_
  refine St.seq ?_
  refine St.region ?_
  refine St.p rfl rfl ?_
  refine St.p rfl rfl ?_
  refine St.done ?_
  refine St.thenN ?_
  refine St.prune (Γ' := [(1, _), (2, _), (4, _), (9, _)]) ⟨rfl, rfl, rfl, rfl, trivial⟩ (.k (.k (.k (.k .z)))) ?_
  refine St.cond _ rfl (fun hb1 => ?_) (fun hb1 => ?_)
  · replace h := bif_t hb1 h
    refine St.seq ?_
    refine St.region ?_
    refine St.p rfl rfl ?_
    refine St.p rfl rfl ?_
    refine St.store 0 rfl rfl rfl rfl rfl rfl .z rfl ?_
    refine St.p rfl rfl ?_
    refine St.done ?_
    refine St.thenN ?_
    refine St.prune (Γ' := [(2, _), (3, _)]) ⟨rfl, rfl, trivial⟩ (.k (.d (.d (.d .z)))) ?_
    refine St.ret ?_
    repeat (first | refine St.thenR ?_ | refine St.blkR ?_)
    refine St.asrt (fun _ w => w.nilSl (cod eu8)) ?_
    refine St.asrt (fun _ w => w.nilSl (cod eu8)) ?_
    injection h with h
    subst h
    exact St.finR Try.results14 (.cell rfl (.tail _ (.tail _ (.head _))) rfl (.tmp rfl .nil)) rfl [.ro (SlL eu8 none 0 ([] : List Int)), .ro (SlL eu8 none 0 ([] : List Int))] ⟨none, 0, none, 0, rfl, rfl⟩ (fun _ w => ((.k (.k (.d (.d (.d .z))))) : Keep _ _).sat (Sat.dup (G := [.ro (SlL eu8 none 0 ([] : List Int)), .ro (SlL eu8 none 0 ([] : List Int))]) rfl ⟨(.head _), (.head _), trivial⟩ w))
  · replace h := bif_f hb1 h
    refine St.skip ?_
    refine St.thenN ?_
    refine St.prune (Γ' := [(1, _), (2, _)]) ⟨rfl, rfl, trivial⟩ (.k (.k (.k (.k .z)))) ?_
    refine St.seq ?_
    refine St.seq ?_
    refine St.regionX (iL [(.fl, 0), (.ef, 1), (.fl, 2), (.ef, 3), (.ef, 4), (.fl, 5)] .nil) (.res (Box g2 35 [.string (⟨#[]⟩), .string (⟨#[]⟩), .int .i64 0, .int .i64 0, .int .i64 0, .slice none 0 0, .int .u32 0, .string (⟨#[]⟩), .int .i64 0, .int .i64 0, .int .i64 0, .slice none 0 0, .int .u32 0, .int .i64 0, .int .i64 0, .bool false]) :: .res (Box g1 35 (bx_T_Device d_p0 A1 c1 A2 c2)) :: .ro (SlL eu8 A1 c1 d_p0.Slots.e0.Image.Data) :: .ro (SlL eu8 A2 c2 d_p0.Slots.e1.Image.Data) :: R) mixed (by kernel_rfl) (fun _ w => ((.k (.k (.k (.k .z)))) : Keep _ _).sat w) ?_
    refine St.xfl (fun _ h => h) (Rd.loadB 0 rfl (.tail _ (.head _)) rfl rfl) rfl ?_
    refine St.xef ?_
    obtain ⟨r2, hr2, h⟩ := bnd_e h
    refine St.call (c_bank_other hr2) ent45 rfl rfl rfl (fun _ w => Sat.dup (G := [.ro (SlL eu8 A1 c1 d_p0.Slots.e0.Image.Data), .ro (SlL eu8 A2 c2 d_p0.Slots.e1.Image.Data)]) rfl ⟨(.tail _ (.tail _ (.head _))), (.tail _ (.tail _ (.tail _ (.head _)))), trivial⟩ (w.front (.s .z))) ?_
    rintro _ _ ⟨rfl, rfl⟩
    refine St.asrt (F' := .res (Box g1 35 (bx_T_Device d_p0 A1 c1 A2 c2)) :: .res (Box g2 35 [.string (⟨#[]⟩), .string (⟨#[]⟩), .int .i64 0, .int .i64 0, .int .i64 0, .slice none 0 0, .int .u32 0, .string (⟨#[]⟩), .int .i64 0, .int .i64 0, .int .i64 0, .slice none 0 0, .int .u32 0, .int .i64 0, .int .i64 0, .bool false]) :: .ro (SlL eu8 A1 c1 d_p0.Slots.e0.Image.Data) :: .ro (SlL eu8 A2 c2 d_p0.Slots.e1.Image.Data) :: R) (fun _ w => w) ?_
    refine St.xk (fun _ w => ((.k (.k (.k (.k .z)))) : Keep _ _).sat ((((w.front (.s (.s (.s .z)))).front (.s (.s (.s .z)))).front (.s (.s .z))).front (.s (.s (.s .z))))) ?_
    refine St.xfl (fun _ h => h) (Rd.p rfl) rfl ?_
    refine St.xef ?_
    obtain ⟨x1, hx1, h⟩ := bnd_e h
    refine St.ldP (ls := l_T_Slot) 0 [.string d_p0.Name] [.int .i64 d_p0.Active, .int .i64 d_p0.Running, .bool d_p0.Trial] [(d_p0.Slots.e0, ((A1, c1), ())), (d_p0.Slots.e1, ((A2, c2), ()))] (fun ex => .agg (bx_T_Slot x1 ex.1.1 ex.1.2).toArray) hx1 rfl rfl (.head _) rfl rfl rfl ⟨(.tail _ (.tail _ (.head _))), (.tail _ (.tail _ (.tail _ (.head _)))), trivial⟩ rfl (fun _ => rfl) fun ex1 => ?_
    obtain ⟨⟨A3, c3⟩, _⟩ := ex1
    refine St.asrt (F' := .ro (SlL eu8 A3 c3 x1.Image.Data) :: .res (Box g1 35 (bx_T_Device d_p0 A1 c1 A2 c2)) :: .res (Box g2 35 [.string (⟨#[]⟩), .string (⟨#[]⟩), .int .i64 0, .int .i64 0, .int .i64 0, .slice none 0 0, .int .u32 0, .string (⟨#[]⟩), .int .i64 0, .int .i64 0, .int .i64 0, .slice none 0 0, .int .u32 0, .int .i64 0, .int .i64 0, .bool false]) :: .ro (SlL eu8 A1 c1 d_p0.Slots.e0.Image.Data) :: .ro (SlL eu8 A2 c2 d_p0.Slots.e1.Image.Data) :: R) (fun _ w => w) ?_
    refine St.xk (fun _ w => ((.k (.k (.k (.k (.d .z))))) : Keep _ _).sat ((((w.front (.s (.s (.s (.s .z))))).front (.s (.s (.s (.s .z))))).front (.s (.s (.s .z)))).front (.s (.s (.s (.s .z)))))) ?_
    refine St.xef ?_
    obtain ⟨r3, hr3, h⟩ := bnd_e h
    refine St.callV (c_bank_own hr3) ent46 rfl rfl rfl rfl ⟨(.tail _ (.tail _ (.tail _ (.head _)))), (.tail _ (.tail _ (.tail _ (.tail _ (.head _))))), (.head _), trivial⟩ ?_
    refine St.xk (fun _ w => ((.k (.k (.k (.k (.d .z))))) : Keep _ _).sat ((((w.front (.s (.s (.s (.s .z))))).front (.s (.s (.s (.s .z))))).front (.s (.s (.s .z)))).front (.s (.s (.s (.s .z)))))) ?_
    refine St.xfl (fun _ h => h) (Rd.p rfl) rfl ?_
    refine St.xdone ?_
    refine St.thenN ?_
    refine St.prune (Γ' := [(1, _), (2, _), (17, _)]) ⟨rfl, rfl, rfl, trivial⟩ (.d (.k (.k (.k (.k .z))))) ?_
    refine St.cond _ rfl (fun hb2 => ?_) (fun hb2 => ?_)
    · replace h := bif_t hb2 h
      refine St.seq ?_
      refine St.region ?_
      refine St.p rfl rfl ?_
      refine St.store 0 rfl rfl rfl rfl rfl rfl (.s .z) rfl ?_
      refine St.p rfl rfl ?_
      refine St.done ?_
      refine St.thenN ?_
      refine St.prune (Γ' := [(2, _), (3, _)]) ⟨rfl, rfl, trivial⟩ (.k (.d (.d (.d .z)))) ?_
      refine St.ret ?_
      repeat (first | refine St.thenR ?_ | refine St.blkR ?_)
      refine St.asrt (fun _ w => w.nilSl (cod eu8)) ?_
      refine St.asrt (fun _ w => w.nilSl (cod eu8)) ?_
      injection h with h
      subst h
      exact St.finR Try.results14 (.cell rfl (.tail _ (.tail _ (.head _))) rfl (.tmp rfl .nil)) rfl [.ro (SlL eu8 none 0 ([] : List Int)), .ro (SlL eu8 none 0 ([] : List Int))] ⟨none, 0, none, 0, rfl, rfl⟩ (fun _ w => ((.k (.k (.d (.d (.d .z))))) : Keep _ _).sat (Sat.dup (G := [.ro (SlL eu8 none 0 ([] : List Int)), .ro (SlL eu8 none 0 ([] : List Int))]) rfl ⟨(.head _), (.head _), trivial⟩ w))
    · replace h := bif_f hb2 h
      refine St.skip ?_
      refine St.thenN ?_
      refine St.prune (Γ' := [(1, _), (2, _)]) ⟨rfl, rfl, trivial⟩ (.k (.k (.k (.k .z)))) ?_
      refine St.seq ?_
      refine St.region ?_
      refine St.loadB 0 rfl rfl (.head _) rfl rfl ?_
      obtain ⟨r4, hr4, h⟩ := bnd_e h
      refine St.call (c_bank_copied hr4) ent44 rfl rfl rfl (fun _ w => Sat.dup (G := [.ro (SlL eu8 A1 c1 d_p0.Slots.e0.Image.Data), .ro (SlL eu8 A2 c2 d_p0.Slots.e1.Image.Data)]) rfl ⟨(.tail _ (.tail _ (.head _))), (.tail _ (.tail _ (.tail _ (.head _)))), trivial⟩ w) ?_
      rintro _ _ ⟨A4, c4, A5, c5, rfl, rfl⟩
      refine St.asrt (F' := .ro (SlL eu8 A4 c4 r4.Slots.e0.Image.Data) :: .ro (SlL eu8 A5 c5 r4.Slots.e1.Image.Data) :: .res (Box g1 35 (bx_T_Device d_p0 A1 c1 A2 c2)) :: .res (Box g2 35 [.string (⟨#[]⟩), .string (⟨#[]⟩), .int .i64 0, .int .i64 0, .int .i64 0, .slice none 0 0, .int .u32 0, .string (⟨#[]⟩), .int .i64 0, .int .i64 0, .int .i64 0, .slice none 0 0, .int .u32 0, .int .i64 0, .int .i64 0, .bool false]) :: .ro (SlL eu8 A1 c1 d_p0.Slots.e0.Image.Data) :: .ro (SlL eu8 A2 c2 d_p0.Slots.e1.Image.Data) :: R) (fun _ w => w) ?_
      refine St.alloc rfl rfl fun g3 => ?_
      refine St.store 0 rfl rfl rfl rfl rfl rfl .z rfl ?_
      refine St.done ?_
      refine St.thenN ?_
      refine St.prune (Γ' := [(2, _), (5, _)]) ⟨rfl, rfl, trivial⟩ (.k (.k (.k (.d (.k (.d (.d .z))))))) ?_
      refine St.seq ?_
      refine St.region ?_
      refine St.p rfl rfl ?_
      refine St.store 15 rfl rfl rfl rfl rfl rfl .z rfl ?_
      refine St.done ?_
      refine St.thenN ?_
      refine St.prune (Γ' := [(2, _), (5, _)]) ⟨rfl, rfl, trivial⟩ (.k (.k (.k (.k .z)))) ?_
      refine St.seq ?_
      refine St.region ?_
      refine St.loadB 0 rfl rfl (.head _) rfl rfl ?_
      refine St.store 0 rfl rfl rfl rfl rfl rfl (.s (.s (.s .z))) rfl ?_
      refine St.p rfl rfl ?_
      refine St.done ?_
      refine St.thenN ?_
      refine St.prune (Γ' := [(2, _), (3, _)]) ⟨rfl, rfl, trivial⟩ (.k (.d (.k (.k .z)))) ?_
      refine St.ret ?_
      repeat (first | refine St.thenR ?_ | refine St.blkR ?_)
      injection h with h
      subst h
      exact St.finR Try.results14 (.cell rfl (.head _) rfl (.tmp rfl .nil)) rfl [.ro (SlL eu8 A4 c4 r4.Slots.e0.Image.Data), .ro (SlL eu8 A5 c5 r4.Slots.e1.Image.Data)] ⟨A4, c4, A5, c5, rfl, rfl⟩ (fun _ w => ((.k (.k (.d (.d (.d .z))))) : Keep _ _).sat (Sat.dup (G := [.ro (SlL eu8 A4 c4 r4.Slots.e0.Image.Data), .ro (SlL eu8 A5 c5 r4.Slots.e1.Image.Data)]) rfl ⟨(.tail _ (.head _)), (.tail _ (.tail _ (.head _))), trivial⟩ w))

theorem ent20 : Ent Try.prog 20 := ⟨_, Try.func20, by kernel_rfl, by kernel_rfl⟩

noncomputable def m_bank_Boot (d_p0 : T_Device) : Option T_Device :=
  bnd (m_bank_Valid d_p0) fun r1 => bif !r1 then (some (⟨⟨#[]⟩, (⟨(⟨(⟨⟨#[]⟩, (⟨0, 0, 0⟩ : T_Version), []⟩ : T_Image), 0⟩ : T_Slot), (⟨(⟨⟨#[]⟩, (⟨0, 0, 0⟩ : T_Version), []⟩ : T_Image), 0⟩ : T_Slot)⟩ : (Arr2 T_Slot)), 0, 0, false⟩ : T_Device)) else (bnd (m_bank_copied d_p0) fun r2 => bif r2.Trial then (some (⟨r2.Name, r2.Slots, r2.Active, IntKind.wrap .i64 (1 - r2.Active), false⟩ : T_Device)) else (some (⟨r2.Name, r2.Slots, r2.Active, r2.Active, r2.Trial⟩ : T_Device)))

theorem c_bank_Boot {d_p0 : T_Device} {A1 : Option Addr} {c1 : Nat} {A2 : Option Addr} {c2 : Nat} {r : T_Device} (h : m_bank_Boot d_p0 = some r) :
    Fun Try.prog 20 [.agg (bx_T_Device d_p0 A1 c1 A2 c2).toArray] [.ro (SlL eu8 A1 c1 d_p0.Slots.e0.Image.Data), .ro (SlL eu8 A2 c2 d_p0.Slots.e1.Image.Data)] (fun v_ F_ => ∃ (A1 : Option Addr) (c1 : Nat) (A2 : Option Addr) (c2 : Nat), v_ = .agg (bx_T_Device r A1 c1 A2 c2).toArray ∧ F_ = [.ro (SlL eu8 A1 c1 r.Slots.e0.Image.Data), .ro (SlL eu8 A2 c2 r.Slots.e1.Image.Data)]) := by
  unfold m_bank_Boot at h
  refine Fun.intro Try.func20 rfl rfl rfl fun w R => ?_
  refine St.seq ?_
  refine St.region ?_
  refine St.box rfl rfl fun g1 => ?_
  refine St.alloc rfl rfl fun g2 => ?_
  refine St.done ?_
  refine St.thenN ?_
  refine St.prune (Γ' := [(1, _), (2, _)]) ⟨rfl, rfl, trivial⟩ (.k (.k (.k (.k .z)))) ?_
  refine St.seq ?_
  refine St.seq ?_
  refine St.region ?_
  refine St.loadB 0 rfl rfl (.tail _ (.head _)) rfl rfl ?_
  obtain ⟨r1, hr1, h⟩ := bnd_e h
  refine St.callV (c_bank_Valid hr1) ent21 rfl rfl rfl rfl ⟨(.tail _ (.tail _ (.head _))), (.tail _ (.tail _ (.tail _ (.head _)))), trivial⟩ ?_
  refine St.p rfl rfl ?_
  refine St.done ?_
  refine St.thenN ?_
  refine St.prune (Γ' := [(1, _), (2, _), (6, _)]) ⟨rfl, rfl, rfl, trivial⟩ (.k (.k (.k (.k .z)))) ?_
  refine St.cond _ rfl (fun hb1 => ?_) (fun hb1 => ?_)
  · replace h := bif_t hb1 h
    refine St.seq ?_
    refine St.region ?_
    refine St.p rfl rfl ?_
    refine St.store 0 rfl rfl rfl rfl rfl rfl .z rfl ?_
    refine St.done ?_
    refine St.thenN ?_
    refine St.prune (Γ' := [(2, _)]) ⟨rfl, trivial⟩ (.k (.d (.d (.d .z)))) ?_
    refine St.ret ?_
    repeat (first | refine St.thenR ?_ | refine St.blkR ?_)
    refine St.asrt (fun _ w => w.nilSl (cod eu8)) ?_
    refine St.asrt (fun _ w => w.nilSl (cod eu8)) ?_
    injection h with h
    subst h
    exact St.finR Try.results20 (.cell rfl (.tail _ (.tail _ (.head _))) rfl .nil) rfl [.ro (SlL eu8 none 0 ([] : List Int)), .ro (SlL eu8 none 0 ([] : List Int))] ⟨none, 0, none, 0, rfl, rfl⟩ (fun _ w => ((.k (.k (.d (.d (.d .z))))) : Keep _ _).sat (Sat.dup (G := [.ro (SlL eu8 none 0 ([] : List Int)), .ro (SlL eu8 none 0 ([] : List Int))]) rfl ⟨(.head _), (.head _), trivial⟩ w))
  · replace h := bif_f hb1 h
    refine St.skip ?_
    refine St.thenN ?_
    refine St.prune (Γ' := [(1, _), (2, _)]) ⟨rfl, rfl, trivial⟩ (.k (.k (.k (.k .z)))) ?_
    refine St.seq ?_
    refine St.region ?_
    refine St.loadB 0 rfl rfl (.tail _ (.head _)) rfl rfl ?_
    obtain ⟨r2, hr2, h⟩ := bnd_e h
    refine St.call (c_bank_copied hr2) ent44 rfl rfl rfl (fun _ w => Sat.dup (G := [.ro (SlL eu8 A1 c1 d_p0.Slots.e0.Image.Data), .ro (SlL eu8 A2 c2 d_p0.Slots.e1.Image.Data)]) rfl ⟨(.tail _ (.tail _ (.head _))), (.tail _ (.tail _ (.tail _ (.head _)))), trivial⟩ w) ?_
    rintro _ _ ⟨A3, c3, A4, c4, rfl, rfl⟩
    refine St.asrt (F' := .ro (SlL eu8 A3 c3 r2.Slots.e0.Image.Data) :: .ro (SlL eu8 A4 c4 r2.Slots.e1.Image.Data) :: .res (Box g2 35 [.string (⟨#[]⟩), .string (⟨#[]⟩), .int .i64 0, .int .i64 0, .int .i64 0, .slice none 0 0, .int .u32 0, .string (⟨#[]⟩), .int .i64 0, .int .i64 0, .int .i64 0, .slice none 0 0, .int .u32 0, .int .i64 0, .int .i64 0, .bool false]) :: .res (Box g1 35 (bx_T_Device d_p0 A1 c1 A2 c2)) :: .ro (SlL eu8 A1 c1 d_p0.Slots.e0.Image.Data) :: .ro (SlL eu8 A2 c2 d_p0.Slots.e1.Image.Data) :: R) (fun _ w => w) ?_
    refine St.alloc rfl rfl fun g3 => ?_
    refine St.store 0 rfl rfl rfl rfl rfl rfl .z rfl ?_
    refine St.done ?_
    refine St.thenN ?_
    refine St.prune (Γ' := [(2, _), (3, _)]) ⟨rfl, rfl, trivial⟩ (.k (.k (.k (.k (.d (.d (.d .z))))))) ?_
    refine St.seq ?_
    refine St.region ?_
    refine St.p rfl rfl ?_
    refine St.loadB 13 rfl rfl (.head _) rfl rfl ?_
    refine St.p rfl rfl ?_
    refine St.store 14 rfl rfl rfl rfl rfl rfl .z rfl ?_
    refine St.done ?_
    refine St.thenN ?_
    refine St.prune (Γ' := [(2, _), (3, _)]) ⟨rfl, rfl, trivial⟩ (.k (.k (.k (.k .z)))) ?_
    refine St.seq ?_
    refine St.seq ?_
    refine St.region ?_
    refine St.p rfl rfl ?_
    refine St.loadB 15 rfl rfl (.head _) rfl rfl ?_
    refine St.done ?_
    refine St.thenN ?_
    refine St.prune (Γ' := [(2, _), (3, _), (14, _)]) ⟨rfl, rfl, rfl, trivial⟩ (.k (.k (.k (.k .z)))) ?_
    refine St.cond _ rfl (fun hb2 => ?_) (fun hb2 => ?_)
    · replace h := bif_t hb2 h
      refine St.region ?_
      refine St.p rfl rfl ?_
      refine St.loadB 13 rfl rfl (.head _) rfl rfl ?_
      refine St.p rfl rfl ?_
      refine St.p rfl rfl ?_
      refine St.store 14 rfl rfl rfl rfl rfl rfl .z rfl ?_
      refine St.p rfl rfl ?_
      refine St.store 15 rfl rfl rfl rfl rfl rfl .z rfl ?_
      refine St.done ?_
      refine St.thenN ?_
      refine St.prune (Γ' := [(2, _), (3, _)]) ⟨rfl, rfl, trivial⟩ (.k (.k (.k (.k .z)))) ?_
      refine St.seq ?_
      refine St.region ?_
      refine St.loadB 0 rfl rfl (.head _) rfl rfl ?_
      refine St.store 0 rfl rfl rfl rfl rfl rfl (.s (.s (.s .z))) rfl ?_
      refine St.done ?_
      refine St.thenN ?_
      refine St.prune (Γ' := [(2, _)]) ⟨rfl, trivial⟩ (.k (.d (.k (.k .z)))) ?_
      refine St.ret ?_
      repeat (first | refine St.thenR ?_ | refine St.blkR ?_)
      injection h with h
      subst h
      exact St.finR Try.results20 (.cell rfl (.head _) rfl .nil) rfl [.ro (SlL eu8 A3 c3 r2.Slots.e0.Image.Data), .ro (SlL eu8 A4 c4 r2.Slots.e1.Image.Data)] ⟨A3, c3, A4, c4, rfl, rfl⟩ (fun _ w => ((.k (.k (.d (.d (.d .z))))) : Keep _ _).sat (Sat.dup (G := [.ro (SlL eu8 A3 c3 r2.Slots.e0.Image.Data), .ro (SlL eu8 A4 c4 r2.Slots.e1.Image.Data)]) rfl ⟨(.tail _ (.head _)), (.tail _ (.tail _ (.head _))), trivial⟩ w))
    · replace h := bif_f hb2 h
      refine St.skip ?_
      refine St.thenN ?_
      refine St.prune (Γ' := [(2, _), (3, _)]) ⟨rfl, rfl, trivial⟩ (.k (.k (.k (.k .z)))) ?_
      refine St.seq ?_
      refine St.region ?_
      refine St.loadB 0 rfl rfl (.head _) rfl rfl ?_
      refine St.store 0 rfl rfl rfl rfl rfl rfl (.s (.s (.s .z))) rfl ?_
      refine St.done ?_
      refine St.thenN ?_
      refine St.prune (Γ' := [(2, _)]) ⟨rfl, trivial⟩ (.k (.d (.k (.k .z)))) ?_
      refine St.ret ?_
      repeat (first | refine St.thenR ?_ | refine St.blkR ?_)
      injection h with h
      subst h
      exact St.finR Try.results20 (.cell rfl (.head _) rfl .nil) rfl [.ro (SlL eu8 A3 c3 r2.Slots.e0.Image.Data), .ro (SlL eu8 A4 c4 r2.Slots.e1.Image.Data)] ⟨A3, c3, A4, c4, rfl, rfl⟩ (fun _ w => ((.k (.k (.d (.d (.d .z))))) : Keep _ _).sat (Sat.dup (G := [.ro (SlL eu8 A3 c3 r2.Slots.e0.Image.Data), .ro (SlL eu8 A4 c4 r2.Slots.e1.Image.Data)]) rfl ⟨(.tail _ (.head _)), (.tail _ (.tail _ (.head _))), trivial⟩ w))

theorem ent31 : Ent Try.prog 31 := ⟨_, Try.func31, by kernel_rfl, by kernel_rfl⟩

noncomputable def m_bank_Version (d_p0 : T_Device) : Option T_Version :=
  bnd (m_bank_Valid d_p0) fun r1 => bif !r1 then (some (⟨0, 0, 0⟩ : T_Version)) else (bnd (elt [d_p0.Slots.e0, d_p0.Slots.e1] d_p0.Running) fun x1 => some x1.Image.Version)

theorem c_bank_Version {d_p0 : T_Device} {A1 : Option Addr} {c1 : Nat} {A2 : Option Addr} {c2 : Nat} {r : T_Version} (h : m_bank_Version d_p0 = some r) :
    Fun Try.prog 31 [.agg (bx_T_Device d_p0 A1 c1 A2 c2).toArray] [.ro (SlL eu8 A1 c1 d_p0.Slots.e0.Image.Data), .ro (SlL eu8 A2 c2 d_p0.Slots.e1.Image.Data)] (Val (.agg #[.int .i64 r.Major, .int .i64 r.Minor, .int .i64 r.Patch])) := by
  unfold m_bank_Version at h
  refine Fun.intro Try.func31 rfl rfl rfl fun w R => ?_
  refine St.seq ?_
  refine St.region ?_
  refine St.box rfl rfl fun g1 => ?_
  refine St.alloc rfl rfl fun g2 => ?_
  refine St.done ?_
  refine St.thenN ?_
  refine St.prune (Γ' := [(1, _), (2, _)]) ⟨rfl, rfl, trivial⟩ (.k (.k (.k (.k .z)))) ?_
  refine St.seq ?_
  refine St.seq ?_
  refine St.region ?_
  refine St.loadB 0 rfl rfl (.tail _ (.head _)) rfl rfl ?_
  obtain ⟨r1, hr1, h⟩ := bnd_e h
  refine St.callV (c_bank_Valid hr1) ent21 rfl rfl rfl rfl ⟨(.tail _ (.tail _ (.head _))), (.tail _ (.tail _ (.tail _ (.head _)))), trivial⟩ ?_
  refine St.p rfl rfl ?_
  refine St.done ?_
  refine St.thenN ?_
  refine St.prune (Γ' := [(1, _), (2, _), (5, _)]) ⟨rfl, rfl, rfl, trivial⟩ (.k (.k (.k (.k .z)))) ?_
  refine St.cond _ rfl (fun hb1 => ?_) (fun hb1 => ?_)
  · replace h := bif_t hb1 h
    refine St.seq ?_
    refine St.region ?_
    refine St.p rfl rfl ?_
    refine St.store 0 rfl rfl rfl rfl rfl rfl .z rfl ?_
    refine St.done ?_
    refine St.thenN ?_
    refine St.prune (Γ' := [(2, _)]) ⟨rfl, trivial⟩ (.k (.d (.d (.d .z)))) ?_
    refine St.ret ?_
    repeat (first | refine St.thenR ?_ | refine St.blkR ?_)
    injection h with h
    subst h
    exact St.finR Try.results31 (.cell rfl (.head _) rfl .nil) rfl [] ⟨rfl, rfl⟩ (fun _ w => ((.d .z) : Keep _ _).sat w)
  · replace h := bif_f hb1 h
    refine St.skip ?_
    refine St.thenN ?_
    refine St.prune (Γ' := [(1, _), (2, _)]) ⟨rfl, rfl, trivial⟩ (.k (.k (.k (.k .z)))) ?_
    refine St.seq ?_
    refine St.region ?_
    refine St.p rfl rfl ?_
    refine St.loadB 14 rfl rfl (.tail _ (.head _)) rfl rfl ?_
    refine St.p rfl rfl ?_
    obtain ⟨x1, hx1, h⟩ := bnd_e h
    refine St.ixP (sz := 6) hx1 rfl rfl rfl rfl rfl rfl rfl rfl ?_
    refine St.p rfl rfl ?_
    refine St.p rfl rfl ?_
    refine St.ldP (ls := l_T_Slot) 1 [.string d_p0.Name] [.int .i64 d_p0.Active, .int .i64 d_p0.Running, .bool d_p0.Trial] [(d_p0.Slots.e0, ((A1, c1), ())), (d_p0.Slots.e1, ((A2, c2), ()))] (fun ex => .agg #[.int .i64 x1.Image.Version.Major, .int .i64 x1.Image.Version.Minor, .int .i64 x1.Image.Version.Patch]) hx1 rfl rfl (.tail _ (.head _)) rfl rfl rfl ⟨(.tail _ (.tail _ (.head _))), (.tail _ (.tail _ (.tail _ (.head _)))), trivial⟩ rfl (fun _ => rfl) fun ex1 => ?_
    obtain ⟨⟨A3, c3⟩, _⟩ := ex1
    refine St.asrt (F' := .ro (SlL eu8 A3 c3 x1.Image.Data) :: .res (Box g2 28 [.int .i64 0, .int .i64 0, .int .i64 0]) :: .res (Box g1 35 (bx_T_Device d_p0 A1 c1 A2 c2)) :: .ro (SlL eu8 A1 c1 d_p0.Slots.e0.Image.Data) :: .ro (SlL eu8 A2 c2 d_p0.Slots.e1.Image.Data) :: R) (fun _ w => w) ?_
    refine St.store 0 rfl rfl rfl rfl rfl rfl (.s .z) rfl ?_
    refine St.done ?_
    refine St.thenN ?_
    refine St.prune (Γ' := [(2, _)]) ⟨rfl, trivial⟩ (.k (.d (.d (.d (.d .z))))) ?_
    refine St.ret ?_
    repeat (first | refine St.thenR ?_ | refine St.blkR ?_)
    injection h with h
    subst h
    exact St.finR Try.results31 (.cell rfl (.head _) rfl .nil) rfl [] ⟨rfl, rfl⟩ (fun _ w => ((.d .z) : Keep _ _).sat w)

theorem ent9 : Ent Try.prog 9 := ⟨_, Try.func9, by kernel_rfl, by kernel_rfl⟩

noncomputable def m_law29_awake  : Option Bool :=
  bnd (m_bank_New (⟨⟨#[98, 105, 111, 115]⟩, (⟨1, 0, 0⟩ : T_Version), [1]⟩ : T_Image)) fun r1 => bnd (m_bank_Write r1.1 (⟨⟨#[98, 105, 111, 115]⟩, (⟨2, 0, 0⟩ : T_Version), [2]⟩ : T_Image) 1) fun r2 => bnd (m_bundle_Sum (⟨⟨#[98, 105, 111, 115]⟩, (⟨2, 0, 0⟩ : T_Version), [2]⟩ : T_Image)) fun r3 => bnd (m_bank_Finish r2.1 r3) fun r4 => bnd (m_bank_Switch r4.1) fun r5 => bnd (m_bank_Boot r5.1) fun r6 => bnd (m_bank_Version r6) fun r7 => bnd (m_bank_Boot r6) fun r8 => bnd ((bif (r1.2 == 0) then (bif (r2.2 == 0) then (bif (r4.2 == 0) then (bif (r5.2 == 0) then (bif ((r7.Major == 2) && ((r7.Minor == 0) && ((r7.Patch == 0) && true))) then (bnd (m_bank_Version r8) fun r9 => some (r9.Major == 1)) else (some false)) else (some false)) else (some false)) else (some false)) else (some false) : Option Bool)) fun o1 => some o1

set_option maxHeartbeats 4000000 in
theorem c_law29_awake  {r : Bool} (h : m_law29_awake = some r) :
    Fun Try.prog 9 [] [] (Val (.bool r)) := by
  unfold m_law29_awake at h
  refine Fun.intro Try.func9 rfl rfl rfl fun w R => ?_
  refine St.seq ?_
  refine St.region ?_
  refine St.p rfl rfl ?_
  refine St.done ?_
  refine St.thenN ?_
  refine St.prune (Γ' := []) trivial .z ?_
  refine St.seq ?_
  refine St.region ?_
  refine St.p rfl rfl ?_
  refine St.buildSlice rfl rfl rfl rfl rfl rfl rfl rfl fun g1 => ?_
  refine St.p rfl rfl ?_
  refine St.alloc rfl rfl fun g2 => ?_
  refine St.store 0 rfl rfl rfl rfl rfl rfl .z rfl ?_
  refine St.done ?_
  refine St.thenN ?_
  refine St.prune (Γ' := [(1, _)]) ⟨rfl, trivial⟩ (.k (.k .z)) ?_
  refine St.seq ?_
  refine St.region ?_
  refine St.p rfl rfl ?_
  refine St.buildSlice rfl rfl rfl rfl rfl rfl rfl rfl fun g3 => ?_
  refine St.p rfl rfl ?_
  refine St.asrt (fun _ w => (w.front .z).litL (E := eu8) (e := 5) [1] rfl rfl) ?_
  refine St.asrt (fun _ w => (w.front .z).meltL) ?_
  obtain ⟨r1, hr1, h⟩ := bnd_e h
  refine St.call (c_bank_New hr1) ent11 rfl rfl rfl (fun _ w => Sat.dup (G := [.ro (SlL eu8 (some ⟨g3, 0, none⟩) ([1] : List Int).length ([1]))]) rfl ⟨(.head _), trivial⟩ w) ?_
  rintro _ _ ⟨A1, c1, A2, c2, rfl, rfl⟩
  refine St.asrt (F' := .ro (SlL eu8 A1 c1 r1.1.Slots.e0.Image.Data) :: .ro (SlL eu8 A2 c2 r1.1.Slots.e1.Image.Data) :: .ro (SlL eu8 (some ⟨g3, 0, none⟩) ([1] : List Int).length ([1])) :: .res (Box g2 30 [.string (⟨#[98, 105, 111, 115]⟩), .int .i64 2, .int .i64 0, .int .i64 0, .slice (some ⟨g1, 0, none⟩) 1 1]) :: .res (Box g1 5 [.int .u8 2]) :: R) (fun _ w => w) ?_
  iterate 3 refine St.p rfl rfl ?_
  refine St.alloc rfl rfl fun g4 => ?_
  refine St.store 0 rfl rfl rfl rfl rfl rfl .z rfl ?_
  refine St.p rfl rfl ?_
  refine St.done ?_
  refine St.thenN ?_
  refine St.prune (Γ' := [(1, _), (2, _), (3, _)]) ⟨rfl, rfl, rfl, trivial⟩ (.k (.k (.k (.d (.k (.k .z)))))) ?_
  refine St.seq ?_
  refine St.region ?_
  refine St.loadB 0 rfl rfl (.head _) rfl rfl ?_
  refine St.loadB 0 rfl rfl (.tail _ (.tail _ (.tail _ (.head _)))) rfl rfl ?_
  refine St.asrt (fun _ w => (w.front (.s (.s (.s (.s .z))))).litL (E := eu8) (e := 5) [2] rfl rfl) ?_
  refine St.asrt (fun _ w => (w.front .z).meltL) ?_
  obtain ⟨r2, hr2, h⟩ := bnd_e h
  refine St.call (c_bank_Write hr2) ent13 rfl rfl rfl (fun _ w => Sat.dup (G := [.ro (SlL eu8 A1 c1 r1.1.Slots.e0.Image.Data), .ro (SlL eu8 A2 c2 r1.1.Slots.e1.Image.Data), .ro (SlL eu8 (some ⟨g1, 0, none⟩) ([2] : List Int).length ([2]))]) rfl ⟨(.tail _ (.tail _ (.head _))), (.tail _ (.tail _ (.tail _ (.head _)))), (.head _), trivial⟩ w) ?_
  rintro _ _ ⟨A3, c3, A4, c4, rfl, rfl⟩
  refine St.asrt (F' := .ro (SlL eu8 A3 c3 r2.1.Slots.e0.Image.Data) :: .ro (SlL eu8 A4 c4 r2.1.Slots.e1.Image.Data) :: .ro (SlL eu8 (some ⟨g1, 0, none⟩) ([2] : List Int).length ([2])) :: .res (Box g4 35 (bx_T_Device r1.1 A1 c1 A2 c2)) :: .ro (SlL eu8 A1 c1 r1.1.Slots.e0.Image.Data) :: .ro (SlL eu8 A2 c2 r1.1.Slots.e1.Image.Data) :: .res (Box g2 30 [.string (⟨#[98, 105, 111, 115]⟩), .int .i64 2, .int .i64 0, .int .i64 0, .slice (some ⟨g1, 0, none⟩) ([2]).length ([2] : List Int).length]) :: R) (fun _ w => w) ?_
  iterate 3 refine St.p rfl rfl ?_
  refine St.store 0 rfl rfl rfl rfl rfl rfl (.s (.s (.s .z))) rfl ?_
  refine St.p rfl rfl ?_
  refine St.done ?_
  refine St.thenN ?_
  refine St.prune (Γ' := [(1, _), (2, _), (3, _), (4, _)]) ⟨rfl, rfl, rfl, rfl, trivial⟩ (.k (.k (.k (.k (.d (.d (.k .z))))))) ?_
  refine St.seq ?_
  refine St.regionX (iL [(.fx, 0), (.fx, 1), (.qc, 2), (.ef, 3), (.fl, 4), (.fl, 5), (.fl, 6), (.ef, 7), (.fl, 8)] .nil) (.ro (SlL eu8 A3 c3 r2.1.Slots.e0.Image.Data) :: .ro (SlL eu8 A4 c4 r2.1.Slots.e1.Image.Data) :: .ro (SlL eu8 (some ⟨g1, 0, none⟩) ([2] : List Int).length ([2])) :: .res (Box g2 30 [.string (⟨#[98, 105, 111, 115]⟩), .int .i64 2, .int .i64 0, .int .i64 0, .slice (some ⟨g1, 0, none⟩) ([2]).length ([2] : List Int).length]) :: R) mixed (by kernel_rfl) (fun _ w => ((.d (.k (.k (.k (.k .z))))) : Keep _ _).sat w) ?_
  refine St.xfx (Rd.loadB 0 rfl (.head _) rfl rfl) rfl ?_
  refine St.xfx (Rd.loadB 0 rfl (.tail _ (.tail _ (.tail _ (.tail _ (.head _))))) rfl rfl) rfl ?_
  obtain ⟨r3, hr3, h⟩ := bnd_e h
  refine St.xqc (fun _ h => h) (c_bundle_Sum hr3) ent15 rfl rfl rfl rfl ⟨(.tail _ (.tail _ (.head _))), trivial⟩ ?_
  refine St.xef ?_
  obtain ⟨r4, hr4, h⟩ := bnd_e h
  refine St.call (c_bank_Finish hr4) ent16 rfl rfl rfl (fun _ w => Sat.dup (G := [.ro (SlL eu8 A3 c3 r2.1.Slots.e0.Image.Data), .ro (SlL eu8 A4 c4 r2.1.Slots.e1.Image.Data)]) rfl ⟨(.tail _ (.head _)), (.tail _ (.tail _ (.head _))), trivial⟩ w) ?_
  rintro _ _ ⟨A5, c5, A6, c6, rfl, rfl⟩
  refine St.asrt (F' := .ro (SlL eu8 A5 c5 r4.1.Slots.e0.Image.Data) :: .ro (SlL eu8 A6 c6 r4.1.Slots.e1.Image.Data) :: .res (Box g4 35 (bx_T_Device r2.1 A3 c3 A4 c4)) :: .ro (SlL eu8 A3 c3 r2.1.Slots.e0.Image.Data) :: .ro (SlL eu8 A4 c4 r2.1.Slots.e1.Image.Data) :: .ro (SlL eu8 (some ⟨g1, 0, none⟩) ([2] : List Int).length ([2])) :: .res (Box g2 30 [.string (⟨#[98, 105, 111, 115]⟩), .int .i64 2, .int .i64 0, .int .i64 0, .slice (some ⟨g1, 0, none⟩) ([2]).length ([2] : List Int).length]) :: R) (fun _ w => w) ?_
  refine St.xk (fun _ w => ((.d (.d (.d (.k (.k (.k (.k .z))))))) : Keep _ _).sat w) ?_
  refine St.xfl (fun _ h => h) (Rd.p rfl) rfl ?_
  refine St.xfl (fun _ h => h) (Rd.p rfl) rfl ?_
  refine St.xfl (fun _ h => h) (Rd.p rfl) rfl ?_
  refine St.xef ?_
  refine St.store 0 rfl rfl rfl rfl rfl rfl (.s (.s .z)) rfl ?_
  refine St.xk (fun _ w => ((.d (.d (.d (.k (.k (.k (.k .z))))))) : Keep _ _).sat w) ?_
  refine St.xfl (fun _ h => h) (Rd.p rfl) rfl ?_
  refine St.xdone ?_
  refine St.thenN ?_
  refine St.prune (Γ' := [(1, _), (2, _), (3, _), (4, _), (5, _)]) ⟨rfl, rfl, rfl, rfl, rfl, trivial⟩ (.k (.k (.k (.d (.d (.k (.k .z))))))) ?_
  refine St.seq ?_
  refine St.region ?_
  refine St.loadB 0 rfl rfl (.head _) rfl rfl ?_
  obtain ⟨r5, hr5, h⟩ := bnd_e h
  refine St.call (c_bank_Switch hr5) ent14 rfl rfl rfl (fun _ w => Sat.dup (G := [.ro (SlL eu8 A5 c5 r4.1.Slots.e0.Image.Data), .ro (SlL eu8 A6 c6 r4.1.Slots.e1.Image.Data)]) rfl ⟨(.tail _ (.head _)), (.tail _ (.tail _ (.head _))), trivial⟩ w) ?_
  rintro _ _ ⟨A7, c7, A8, c8, rfl, rfl⟩
  refine St.asrt (F' := .ro (SlL eu8 A7 c7 r5.1.Slots.e0.Image.Data) :: .ro (SlL eu8 A8 c8 r5.1.Slots.e1.Image.Data) :: .res (Box g4 35 (bx_T_Device r4.1 A5 c5 A6 c6)) :: .ro (SlL eu8 A5 c5 r4.1.Slots.e0.Image.Data) :: .ro (SlL eu8 A6 c6 r4.1.Slots.e1.Image.Data) :: .ro (SlL eu8 (some ⟨g1, 0, none⟩) ([2] : List Int).length ([2])) :: .res (Box g2 30 [.string (⟨#[98, 105, 111, 115]⟩), .int .i64 2, .int .i64 0, .int .i64 0, .slice (some ⟨g1, 0, none⟩) ([2]).length ([2] : List Int).length]) :: R) (fun _ w => w) ?_
  iterate 3 refine St.p rfl rfl ?_
  refine St.store 0 rfl rfl rfl rfl rfl rfl (.s (.s .z)) rfl ?_
  refine St.p rfl rfl ?_
  refine St.done ?_
  refine St.thenN ?_
  refine St.prune (Γ' := [(1, _), (2, _), (3, _), (4, _), (5, _), (6, _)]) ⟨rfl, rfl, rfl, rfl, rfl, rfl, trivial⟩ (.k (.k (.k (.d (.d (.k (.k .z))))))) ?_
  refine St.seq ?_
  refine St.region ?_
  refine St.loadB 0 rfl rfl (.head _) rfl rfl ?_
  obtain ⟨r6, hr6, h⟩ := bnd_e h
  refine St.call (c_bank_Boot hr6) ent20 rfl rfl rfl (fun _ w => Sat.dup (G := [.ro (SlL eu8 A7 c7 r5.1.Slots.e0.Image.Data), .ro (SlL eu8 A8 c8 r5.1.Slots.e1.Image.Data)]) rfl ⟨(.tail _ (.head _)), (.tail _ (.tail _ (.head _))), trivial⟩ w) ?_
  rintro _ _ ⟨A9, c9, A10, c10, rfl, rfl⟩
  refine St.asrt (F' := .ro (SlL eu8 A9 c9 r6.Slots.e0.Image.Data) :: .ro (SlL eu8 A10 c10 r6.Slots.e1.Image.Data) :: .res (Box g4 35 (bx_T_Device r5.1 A7 c7 A8 c8)) :: .ro (SlL eu8 A7 c7 r5.1.Slots.e0.Image.Data) :: .ro (SlL eu8 A8 c8 r5.1.Slots.e1.Image.Data) :: .ro (SlL eu8 (some ⟨g1, 0, none⟩) ([2] : List Int).length ([2])) :: .res (Box g2 30 [.string (⟨#[98, 105, 111, 115]⟩), .int .i64 2, .int .i64 0, .int .i64 0, .slice (some ⟨g1, 0, none⟩) ([2]).length ([2] : List Int).length]) :: R) (fun _ w => w) ?_
  refine St.store 0 rfl rfl rfl rfl rfl rfl (.s (.s .z)) rfl ?_
  refine St.done ?_
  refine St.thenN ?_
  refine St.prune (Γ' := [(1, _), (2, _), (3, _), (4, _), (5, _), (6, _)]) ⟨rfl, rfl, rfl, rfl, rfl, rfl, trivial⟩ (.k (.k (.k (.d (.d (.k (.k .z))))))) ?_
  refine St.seq ?_
  refine St.region ?_
  refine St.loadB 0 rfl rfl (.head _) rfl rfl ?_
  obtain ⟨r7, hr7, h⟩ := bnd_e h
  refine St.callV (c_bank_Version hr7) ent31 rfl rfl rfl rfl ⟨(.tail _ (.head _)), (.tail _ (.tail _ (.head _))), trivial⟩ ?_
  refine St.alloc rfl rfl fun g5 => ?_
  refine St.store 0 rfl rfl rfl rfl rfl rfl .z rfl ?_
  refine St.done ?_
  refine St.thenN ?_
  refine St.prune (Γ' := [(1, _), (2, _), (3, _), (4, _), (5, _), (6, _), (7, _)]) ⟨rfl, rfl, rfl, rfl, rfl, rfl, rfl, trivial⟩ (.k (.k (.k (.k (.k (.k .z)))))) ?_
  refine St.seq ?_
  refine St.region ?_
  refine St.loadB 0 rfl rfl (.tail _ (.head _)) rfl rfl ?_
  obtain ⟨r8, hr8, h⟩ := bnd_e h
  refine St.call (c_bank_Boot hr8) ent20 rfl rfl rfl (fun _ w => Sat.dup (G := [.ro (SlL eu8 A9 c9 r6.Slots.e0.Image.Data), .ro (SlL eu8 A10 c10 r6.Slots.e1.Image.Data)]) rfl ⟨(.tail _ (.tail _ (.head _))), (.tail _ (.tail _ (.tail _ (.head _)))), trivial⟩ w) ?_
  rintro _ _ ⟨A11, c11, A12, c12, rfl, rfl⟩
  refine St.asrt (F' := .ro (SlL eu8 A11 c11 r8.Slots.e0.Image.Data) :: .ro (SlL eu8 A12 c12 r8.Slots.e1.Image.Data) :: .res (Box g5 28 [.int .i64 r7.Major, .int .i64 r7.Minor, .int .i64 r7.Patch]) :: .res (Box g4 35 (bx_T_Device r6 A9 c9 A10 c10)) :: .ro (SlL eu8 A9 c9 r6.Slots.e0.Image.Data) :: .ro (SlL eu8 A10 c10 r6.Slots.e1.Image.Data) :: .ro (SlL eu8 (some ⟨g1, 0, none⟩) ([2] : List Int).length ([2])) :: .res (Box g2 30 [.string (⟨#[98, 105, 111, 115]⟩), .int .i64 2, .int .i64 0, .int .i64 0, .slice (some ⟨g1, 0, none⟩) ([2]).length ([2] : List Int).length]) :: R) (fun _ w => w) ?_
  refine St.store 0 rfl rfl rfl rfl rfl rfl (.s (.s (.s .z))) rfl ?_
  refine St.done ?_
  refine St.thenN ?_
  refine St.prune (Γ' := [(1, _), (2, _), (3, _), (4, _), (5, _), (6, _), (7, _)]) ⟨rfl, rfl, rfl, rfl, rfl, rfl, rfl, trivial⟩ (.k (.k (.k (.k (.d (.d (.k (.k .z)))))))) ?_
  refine St.seq ?_
  obtain ⟨o1, hj1, h⟩ := bnd_e h
  refine St.cutE (fun (e1 : Unit) => [(0, .bool o1)]) (fun e1 => R) ?_ ?_
  · refine St.region ?_
    iterate 3 refine St.p rfl rfl ?_
    refine St.gSplit (dj := 44) _ rfl (fun hb1 => ?_) (fun hb1 => ?_)
    · replace hj1 := bif_t hb1 hj1
      refine St.gOn (dj := 44) rfl rfl ?_
      refine St.p rfl rfl ?_
      refine St.gOn (dj := 44) rfl rfl ?_
      iterate 3 refine St.p rfl rfl ?_
      refine St.gSplit (dj := 48) _ rfl (fun hb2 => ?_) (fun hb2 => ?_)
      · replace hj1 := bif_t hb2 hj1
        refine St.gOn (dj := 48) rfl rfl ?_
        refine St.p rfl rfl ?_
        refine St.gOn (dj := 48) rfl rfl ?_
        iterate 3 refine St.p rfl rfl ?_
        refine St.gSplit (dj := 52) _ rfl (fun hb3 => ?_) (fun hb3 => ?_)
        · replace hj1 := bif_t hb3 hj1
          refine St.gOn (dj := 52) rfl rfl ?_
          refine St.p rfl rfl ?_
          refine St.gOn (dj := 52) rfl rfl ?_
          iterate 3 refine St.p rfl rfl ?_
          refine St.gSplit (dj := 56) _ rfl (fun hb4 => ?_) (fun hb4 => ?_)
          · replace hj1 := bif_t hb4 hj1
            refine St.gOn (dj := 56) rfl rfl ?_
            refine St.loadB 0 rfl rfl (.tail _ (.tail _ (.tail _ (.head _)))) rfl rfl ?_
            refine St.gOn (dj := 56) rfl rfl ?_
            refine St.p rfl rfl ?_
            refine St.gOn (dj := 56) rfl rfl ?_
            refine St.loadB 1 rfl rfl (.tail _ (.tail _ (.tail _ (.tail _ (.tail _ (.head _)))))) rfl rfl ?_
            refine St.gOn (dj := 56) rfl rfl ?_
            iterate 3 refine St.p rfl rfl ?_
            refine St.gSplit (dj := 62) _ rfl (fun hb5 => ?_) (fun hb5 => ?_)
            · replace hj1 := bif_t hb5 hj1
              refine St.gOn (dj := 62) rfl rfl ?_
              refine St.loadB 0 rfl rfl (.head _) rfl rfl ?_
              refine St.gOn (dj := 62) rfl rfl ?_
              obtain ⟨r9, hr9, hj1⟩ := bnd_e hj1
              refine St.callV (c_bank_Version hr9) ent31 rfl rfl rfl rfl ⟨(.tail _ (.head _)), (.tail _ (.tail _ (.head _))), trivial⟩ ?_
              refine St.gOn (dj := 62) rfl rfl ?_
              refine St.p rfl rfl ?_
              refine St.gOn (dj := 62) rfl rfl ?_
              iterate 3 refine St.p rfl rfl ?_
              refine St.done ?_
              injection hj1 with hj1
              subst hj1
              refine St.thenN ?_
              exact St.hereE () ⟨rfl, trivial⟩ (fun _ w => ((.d (.d (.d (.d (.d (.d .z)))))) : Keep _ _).sat w)
            · replace hj1 := bif_f hb5 hj1
              refine St.gOff (dj := 62) rfl rfl rfl rfl ?_
              refine St.gOff (dj := 62) rfl rfl rfl rfl ?_
              refine St.gOff (dj := 62) rfl rfl rfl rfl ?_
              refine St.gOff (dj := 62) rfl rfl rfl rfl ?_
              refine St.p rfl rfl ?_
              refine St.p rfl rfl ?_
              refine St.done ?_
              injection hj1 with hj1
              subst hj1
              refine St.thenN ?_
              exact St.hereE () ⟨rfl, trivial⟩ (fun _ w => ((.d (.d (.d (.d (.d (.d .z)))))) : Keep _ _).sat w)
          · replace hj1 := bif_f hb4 hj1
            refine St.gOff (dj := 56) rfl rfl rfl rfl ?_
            refine St.gOff (dj := 56) rfl rfl rfl rfl ?_
            refine St.gOff (dj := 56) rfl rfl rfl rfl ?_
            refine St.gOff (dj := 56) rfl rfl rfl rfl ?_
            refine St.p rfl rfl ?_
            refine St.p rfl rfl ?_
            refine St.gOff (dj := 62) rfl rfl rfl rfl ?_
            refine St.gOff (dj := 62) rfl rfl rfl rfl ?_
            refine St.gOff (dj := 62) rfl rfl rfl rfl ?_
            refine St.gOff (dj := 62) rfl rfl rfl rfl ?_
            refine St.p rfl rfl ?_
            refine St.p rfl rfl ?_
            refine St.done ?_
            injection hj1 with hj1
            subst hj1
            refine St.thenN ?_
            exact St.hereE () ⟨rfl, trivial⟩ (fun _ w => ((.d (.d (.d (.d (.d (.d .z)))))) : Keep _ _).sat w)
        · replace hj1 := bif_f hb3 hj1
          refine St.gOff (dj := 52) rfl rfl rfl rfl ?_
          refine St.gOff (dj := 52) rfl rfl rfl rfl ?_
          refine St.p rfl rfl ?_
          refine St.p rfl rfl ?_
          refine St.gOff (dj := 56) rfl rfl rfl rfl ?_
          refine St.gOff (dj := 56) rfl rfl rfl rfl ?_
          refine St.gOff (dj := 56) rfl rfl rfl rfl ?_
          refine St.gOff (dj := 56) rfl rfl rfl rfl ?_
          refine St.p rfl rfl ?_
          refine St.p rfl rfl ?_
          refine St.gOff (dj := 62) rfl rfl rfl rfl ?_
          refine St.gOff (dj := 62) rfl rfl rfl rfl ?_
          refine St.gOff (dj := 62) rfl rfl rfl rfl ?_
          refine St.gOff (dj := 62) rfl rfl rfl rfl ?_
          refine St.p rfl rfl ?_
          refine St.p rfl rfl ?_
          refine St.done ?_
          injection hj1 with hj1
          subst hj1
          refine St.thenN ?_
          exact St.hereE () ⟨rfl, trivial⟩ (fun _ w => ((.d (.d (.d (.d (.d (.d .z)))))) : Keep _ _).sat w)
      · replace hj1 := bif_f hb2 hj1
        refine St.gOff (dj := 48) rfl rfl rfl rfl ?_
        refine St.gOff (dj := 48) rfl rfl rfl rfl ?_
        refine St.p rfl rfl ?_
        refine St.p rfl rfl ?_
        refine St.gOff (dj := 52) rfl rfl rfl rfl ?_
        refine St.gOff (dj := 52) rfl rfl rfl rfl ?_
        refine St.p rfl rfl ?_
        refine St.p rfl rfl ?_
        refine St.gOff (dj := 56) rfl rfl rfl rfl ?_
        refine St.gOff (dj := 56) rfl rfl rfl rfl ?_
        refine St.gOff (dj := 56) rfl rfl rfl rfl ?_
        refine St.gOff (dj := 56) rfl rfl rfl rfl ?_
        refine St.p rfl rfl ?_
        refine St.p rfl rfl ?_
        refine St.gOff (dj := 62) rfl rfl rfl rfl ?_
        refine St.gOff (dj := 62) rfl rfl rfl rfl ?_
        refine St.gOff (dj := 62) rfl rfl rfl rfl ?_
        refine St.gOff (dj := 62) rfl rfl rfl rfl ?_
        refine St.p rfl rfl ?_
        refine St.p rfl rfl ?_
        refine St.done ?_
        injection hj1 with hj1
        subst hj1
        refine St.thenN ?_
        exact St.hereE () ⟨rfl, trivial⟩ (fun _ w => ((.d (.d (.d (.d (.d (.d .z)))))) : Keep _ _).sat w)
    · replace hj1 := bif_f hb1 hj1
      refine St.gOff (dj := 44) rfl rfl rfl rfl ?_
      refine St.gOff (dj := 44) rfl rfl rfl rfl ?_
      refine St.p rfl rfl ?_
      refine St.p rfl rfl ?_
      refine St.gOff (dj := 48) rfl rfl rfl rfl ?_
      refine St.gOff (dj := 48) rfl rfl rfl rfl ?_
      refine St.p rfl rfl ?_
      refine St.p rfl rfl ?_
      refine St.gOff (dj := 52) rfl rfl rfl rfl ?_
      refine St.gOff (dj := 52) rfl rfl rfl rfl ?_
      refine St.p rfl rfl ?_
      refine St.p rfl rfl ?_
      refine St.gOff (dj := 56) rfl rfl rfl rfl ?_
      refine St.gOff (dj := 56) rfl rfl rfl rfl ?_
      refine St.gOff (dj := 56) rfl rfl rfl rfl ?_
      refine St.gOff (dj := 56) rfl rfl rfl rfl ?_
      refine St.p rfl rfl ?_
      refine St.p rfl rfl ?_
      refine St.gOff (dj := 62) rfl rfl rfl rfl ?_
      refine St.gOff (dj := 62) rfl rfl rfl rfl ?_
      refine St.gOff (dj := 62) rfl rfl rfl rfl ?_
      refine St.gOff (dj := 62) rfl rfl rfl rfl ?_
      refine St.p rfl rfl ?_
      refine St.p rfl rfl ?_
      refine St.done ?_
      injection hj1 with hj1
      subst hj1
      refine St.thenN ?_
      exact St.hereE () ⟨rfl, trivial⟩ (fun _ w => ((.d (.d (.d (.d (.d (.d .z)))))) : Keep _ _).sat w)
  · rintro e1
    refine St.ret ?_
    repeat (first | refine St.thenR ?_ | refine St.blkR ?_)
    injection h with h
    subst h
    exact St.finR Try.results9 (.tmp rfl .nil) rfl [] ⟨rfl, rfl⟩ (fun _ w => (.z : Keep _ _).sat w)

theorem ent10 : Ent Try.prog 10 := ⟨_, Try.func10, by kernel_rfl, by kernel_rfl⟩

noncomputable def m_field_New (l_p0 : (List Int)) (most : Int) : Option T_Codes :=
  bnd (sub l_p0 0 (min (l_p0.length : Int) most)) fun l1 => some (⟨l1, 0⟩ : T_Codes)

theorem c_field_New {l_p0 : (List Int)} {most : Int} {A1 : Option Addr} {c1 : Nat} {r : T_Codes} (h : m_field_New l_p0 most = some r) :
    Fun Try.prog 10 [.slice A1 l_p0.length c1, .int .i64 most] [.ro (SlL eu8 A1 c1 l_p0)] (fun v_ F_ => ∃ (g1 : Nat) (A1 : Option Addr) (c1 : Nat), v_ = .pointer (some ⟨g1, 0, none⟩) ∧ F_ = [.ro (SlL eu8 A1 c1 r.L), .res (Box g1 63 [.slice A1 r.L.length c1, .int .i64 r.At])]) := by
  unfold m_field_New at h
  refine Fun.intro Try.func10 rfl rfl rfl fun w R => ?_
  refine St.seq ?_
  refine St.region ?_
  refine St.p rfl rfl ?_
  refine St.done ?_
  refine St.thenN ?_
  refine St.prune (Γ' := [(0, _), (1, _)]) ⟨rfl, rfl, trivial⟩ (.k .z) ?_
  refine St.seq ?_
  refine St.region ?_
  iterate 5 refine St.p rfl rfl ?_
  obtain ⟨l1, hl1, h⟩ := bnd_e h
  refine St.sub (E := (cod eu8)) rfl rfl (.head _) rfl rfl rfl rfl rfl rfl rfl hl1 fun A2 c2 => ?_
  refine St.p rfl rfl ?_
  refine St.box rfl rfl fun g1 => ?_
  refine St.p rfl rfl ?_
  refine St.done ?_
  refine St.thenN ?_
  refine St.prune (Γ' := [(4, _)]) ⟨rfl, trivial⟩ (.k (.k (.d .z))) ?_
  refine St.ret ?_
  repeat (first | refine St.thenR ?_ | refine St.blkR ?_)
  injection h with h
  subst h
  exact St.finR Try.results10 (.tmp rfl .nil) rfl [.ro (SlL eu8 A2 c2 l1), .res (Box g1 63 [.slice A2 l1.length c2, .int .i64 0])] ⟨g1, A2, c2, rfl, rfl⟩ (fun _ w => ((.k (.k (.d .z))) : Keep _ _).sat (Sat.dup (G := [.ro (SlL eu8 A2 c2 l1)]) rfl ⟨(.tail _ (.head _)), trivial⟩ w))

theorem ent51 : Ent Try.prog 51 := ⟨_, Try.func51, by kernel_rfl, by kernel_rfl⟩

noncomputable def m_field_Codes_Left (c_p0 : T_Codes) : Option Bool :=
  some (decide (c_p0.At < (c_p0.L.length : Int)))

theorem c_field_Codes_Left {c_p0 : T_Codes} {A1 : Option Addr} {c1 : Nat} {gb1 : Nat} {r : Bool} (h : m_field_Codes_Left c_p0 = some r) :
    Fun Try.prog 51 [.pointer (some ⟨gb1, 0, none⟩)] [.ro (SlL eu8 A1 c1 c_p0.L), .res (Box gb1 63 [.slice A1 c_p0.L.length c1, .int .i64 c_p0.At])] (fun v_ F_ => v_ = .bool r ∧ F_ = [.res (Box gb1 63 [.slice A1 c_p0.L.length c1, .int .i64 c_p0.At])]) := by
  unfold m_field_Codes_Left at h
  refine Fun.intro Try.func51 rfl rfl rfl fun w R => ?_
  refine St.seq ?_
  refine St.region ?_
  refine St.p rfl rfl ?_
  refine St.done ?_
  refine St.thenN ?_
  refine St.prune (Γ' := [(0, _)]) ⟨rfl, trivial⟩ (.k (.k .z)) ?_
  refine St.seq ?_
  refine St.regionF mixed (by kernel_rfl) ?_
  iterate 3 refine St.p rfl rfl ?_
  refine St.loadB 1 rfl rfl (.tail _ (.head _)) rfl rfl ?_
  iterate 3 refine St.p rfl rfl ?_
  refine St.loadB 0 rfl rfl (.tail _ (.head _)) rfl rfl ?_
  iterate 3 refine St.p rfl rfl ?_
  refine St.doneQ ?_
  refine St.thenN ?_
  refine St.prune (Γ' := [(2, _)]) ⟨rfl, trivial⟩ (.k (.k .z)) ?_
  refine St.ret ?_
  repeat (first | refine St.thenR ?_ | refine St.blkR ?_)
  injection h with h
  subst h
  exact St.finR Try.results51 (.tmp rfl .nil) rfl [.res (Box gb1 63 [.slice A1 c_p0.L.length c1, .int .i64 c_p0.At])] ⟨rfl, rfl⟩ (fun _ w => ((.k (.d .z)) : Keep _ _).sat (w.front (.s .z)))

theorem ent23 : Ent Try.prog 23 := ⟨_, Try.func23, by kernel_rfl, by kernel_rfl⟩

noncomputable def m_field_Codes_Next (c_p0 : T_Codes) (n_p1 : Int) : Option (T_Codes × Int) :=
  bnd ((bnd (m_field_Codes_Left c_p0) fun r1 => bif !r1 then (some true) else (some (decide (n_p1 < 1))) : Option Bool)) fun o1 => bif o1 then (some (c_p0, 0)) else (bnd (elt c_p0.L c_p0.At) fun x1 => bnd ((bif decide (n_p1 > 256) then (bnd (m_field_Codes_Left (⟨c_p0.L, IntKind.wrap .i64 (c_p0.At + 1)⟩ : T_Codes)) fun r2 => some r2) else (some false) : Option Bool)) fun o2 => bif o2 then (bnd (elt c_p0.L (IntKind.wrap .i64 (c_p0.At + 1))) fun x2 => bnd (remM (iOr .i64 (IntKind.wrap .i64 x1) (iShl .i64 (IntKind.wrap .i64 x2) 8)) n_p1) fun q1 => some ((⟨c_p0.L, IntKind.wrap .i64 ((IntKind.wrap .i64 (c_p0.At + 1)) + 1)⟩ : T_Codes), q1)) else (bnd (remM (IntKind.wrap .i64 x1) n_p1) fun q2 => some ((⟨c_p0.L, IntKind.wrap .i64 (c_p0.At + 1)⟩ : T_Codes), q2)))

theorem c_field_Codes_Next {c_p0 : T_Codes} {n_p1 : Int} {A1 : Option Addr} {c1 : Nat} {gb1 : Nat} {r : (T_Codes × Int)} (h : m_field_Codes_Next c_p0 n_p1 = some r) :
    Fun Try.prog 23 [.pointer (some ⟨gb1, 0, none⟩), .int .i64 n_p1] [.ro (SlL eu8 A1 c1 c_p0.L), .res (Box gb1 63 [.slice A1 c_p0.L.length c1, .int .i64 c_p0.At])] (fun v_ F_ => ∃ (A1 : Option Addr) (c1 : Nat), v_ = .int .i64 r.2 ∧ F_ = [.ro (SlL eu8 A1 c1 r.1.L), .res (Box gb1 63 [.slice A1 r.1.L.length c1, .int .i64 r.1.At])]) := by
  unfold m_field_Codes_Next at h
  refine Fun.intro Try.func23 rfl rfl rfl fun w R => ?_
  refine St.seq ?_
  refine St.region ?_
  refine St.p rfl rfl ?_
  refine St.done ?_
  refine St.thenN ?_
  refine St.prune (Γ' := [(0, _), (1, _)]) ⟨rfl, rfl, trivial⟩ (.k (.k .z)) ?_
  refine St.seq ?_
  refine St.seq ?_
  obtain ⟨o1, hj1, h⟩ := bnd_e h
  refine St.cutE (fun (e1 : Unit) => [(0, .pointer (some ⟨gb1, 0, none⟩)), (1, .int .i64 n_p1), (12, .bool o1)]) (fun e1 => .ro (SlL eu8 A1 c1 c_p0.L) :: .res (Box gb1 63 [.slice A1 c_p0.L.length c1, .int .i64 c_p0.At]) :: R) ?_ ?_
  · refine St.region ?_
    refine St.p rfl rfl ?_
    obtain ⟨r1, hr1, hj1⟩ := bnd_e hj1
    refine St.call (c_field_Codes_Left hr1) ent51 rfl rfl rfl (fun _ w => Sat.dup (G := [.ro (SlL eu8 A1 c1 c_p0.L)]) rfl ⟨(.tail _ (.head _)), trivial⟩ (w.front (.s .z))) ?_
    rintro _ _ ⟨rfl, rfl⟩
    refine St.asrt (F' := .res (Box gb1 63 [.slice A1 c_p0.L.length c1, .int .i64 c_p0.At]) :: .ro (SlL eu8 A1 c1 c_p0.L) :: R) (fun _ w => w) ?_
    refine St.p rfl rfl ?_
    refine St.p rfl rfl ?_
    refine St.gSplit (dj := 9) _ rfl (fun hb1 => ?_) (fun hb1 => ?_)
    · replace hj1 := bif_t hb1 hj1
      refine St.gOff (dj := 9) rfl rfl rfl rfl ?_
      refine St.gOff (dj := 9) rfl rfl rfl rfl ?_
      refine St.p rfl rfl ?_
      refine St.done ?_
      injection hj1 with hj1
      subst hj1
      refine St.thenN ?_
      exact St.hereE () ⟨rfl, rfl, rfl, trivial⟩ (fun _ w => ((.k (.k .z)) : Keep _ _).sat ((w.front .z).front (.s .z)))
    · replace hj1 := bif_f hb1 hj1
      refine St.gOn (dj := 9) rfl rfl ?_
      refine St.p rfl rfl ?_
      refine St.gOn (dj := 9) rfl rfl ?_
      refine St.p rfl rfl ?_
      refine St.p rfl rfl ?_
      refine St.done ?_
      injection hj1 with hj1
      subst hj1
      refine St.thenN ?_
      exact St.hereE () ⟨rfl, rfl, rfl, trivial⟩ (fun _ w => ((.k (.k .z)) : Keep _ _).sat ((w.front .z).front (.s .z)))
  · rintro e1
    refine St.cond _ rfl (fun hb2 => ?_) (fun hb2 => ?_)
    · replace h := bif_t hb2 h
      refine St.seq ?_
      refine St.region ?_
      refine St.p rfl rfl ?_
      refine St.done ?_
      refine St.thenN ?_
      refine St.prune (Γ' := [(4, _)]) ⟨rfl, trivial⟩ (.k (.k .z)) ?_
      refine St.ret ?_
      repeat (first | refine St.thenR ?_ | refine St.blkR ?_)
      injection h with h
      subst h
      exact St.finR Try.results23 (.tmp rfl .nil) rfl [.ro (SlL eu8 A1 c1 c_p0.L), .res (Box gb1 63 [.slice A1 c_p0.L.length c1, .int .i64 c_p0.At])] ⟨A1, c1, rfl, rfl⟩ (fun _ w => ((.k (.k (.d .z))) : Keep _ _).sat (Sat.dup (G := [.ro (SlL eu8 A1 c1 c_p0.L)]) rfl ⟨(.tail _ (.head _)), trivial⟩ (w.front (.s .z))))
    · replace h := bif_f hb2 h
      refine St.skip ?_
      refine St.thenN ?_
      refine St.prune (Γ' := [(0, _), (1, _)]) ⟨rfl, rfl, trivial⟩ (.k (.k .z)) ?_
      refine St.seq ?_
      refine St.regionF mixed (by kernel_rfl) ?_
      iterate 3 refine St.p rfl rfl ?_
      refine St.loadB 0 rfl rfl (.tail _ (.head _)) rfl rfl ?_
      iterate 3 refine St.p rfl rfl ?_
      refine St.loadB 1 rfl rfl (.tail _ (.head _)) rfl rfl ?_
      obtain ⟨x1, hx1, h⟩ := bnd_e h
      refine St.ixL hx1 rfl rfl rfl (.head _) rfl rfl rfl rfl rfl fun b1 ob1 => ?_
      refine St.load ob1 0 rfl rfl (.head _) rfl rfl ?_
      refine St.p rfl rfl ?_
      refine St.p rfl rfl ?_
      refine St.doneQ ?_
      refine St.thenN ?_
      refine St.prune (Γ' := [(0, _), (1, _), (5, _)]) ⟨rfl, rfl, rfl, trivial⟩ (.d (.k (.k .z))) ?_
      refine St.seq ?_
      refine St.region ?_
      iterate 3 refine St.p rfl rfl ?_
      refine St.loadB 1 rfl rfl (.tail _ (.head _)) rfl rfl ?_
      iterate 3 refine St.p rfl rfl ?_
      refine St.store 1 rfl rfl rfl rfl rfl rfl (.s .z) rfl ?_
      refine St.done ?_
      refine St.thenN ?_
      refine St.prune (Γ' := [(0, _), (1, _), (5, _)]) ⟨rfl, rfl, rfl, trivial⟩ (.k (.k .z)) ?_
      refine St.seq ?_
      refine St.seq ?_
      obtain ⟨o2, hj2, h⟩ := bnd_e h
      refine St.cutE (fun (e2 : Unit) => [(0, .pointer (some ⟨gb1, 0, none⟩)), (1, .int .i64 n_p1), (5, .int .i64 (IntKind.wrap .i64 x1)), (36, .bool o2)]) (fun e2 => .res (Box gb1 63 [.slice A1 c_p0.L.length c1, .int .i64 (IntKind.wrap .i64 (c_p0.At + 1))]) :: .ro (SlL eu8 A1 c1 c_p0.L) :: R) ?_ ?_
      · refine St.region ?_
        iterate 3 refine St.p rfl rfl ?_
        refine St.gSplit (dj := 33) _ rfl (fun hb3 => ?_) (fun hb3 => ?_)
        · replace hj2 := bif_t hb3 hj2
          refine St.gOn (dj := 33) rfl rfl ?_
          refine St.p rfl rfl ?_
          refine St.gOn (dj := 33) rfl rfl ?_
          obtain ⟨r2, hr2, hj2⟩ := bnd_e hj2
          refine St.call (c_field_Codes_Left hr2) ent51 rfl rfl rfl (fun _ w => Sat.dup (G := [.ro (SlL eu8 A1 c1 c_p0.L)]) rfl ⟨(.tail _ (.head _)), trivial⟩ (w.front .z)) ?_
          rintro _ _ ⟨rfl, rfl⟩
          refine St.asrt (F' := .res (Box gb1 63 [.slice A1 c_p0.L.length c1, .int .i64 (IntKind.wrap .i64 (c_p0.At + 1))]) :: .ro (SlL eu8 A1 c1 c_p0.L) :: R) (fun _ w => w) ?_
          refine St.p rfl rfl ?_
          refine St.done ?_
          injection hj2 with hj2
          subst hj2
          refine St.thenN ?_
          exact St.hereE () ⟨rfl, rfl, rfl, rfl, trivial⟩ (fun _ w => ((.k (.k .z)) : Keep _ _).sat w)
        · replace hj2 := bif_f hb3 hj2
          refine St.gOff (dj := 33) rfl rfl rfl rfl ?_
          refine St.gOff (dj := 33) rfl rfl rfl rfl ?_
          refine St.p rfl rfl ?_
          refine St.done ?_
          injection hj2 with hj2
          subst hj2
          refine St.thenN ?_
          exact St.hereE () ⟨rfl, rfl, rfl, rfl, trivial⟩ (fun _ w => ((.k (.k .z)) : Keep _ _).sat w)
      · rintro e2
        refine St.cond _ rfl (fun hb4 => ?_) (fun hb4 => ?_)
        · replace h := bif_t hb4 h
          refine St.seq ?_
          refine St.regionF mixed (by kernel_rfl) ?_
          iterate 4 refine St.p rfl rfl ?_
          refine St.loadB 0 rfl rfl (.head _) rfl rfl ?_
          iterate 3 refine St.p rfl rfl ?_
          refine St.loadB 1 rfl rfl (.head _) rfl rfl ?_
          obtain ⟨x2, hx2, h⟩ := bnd_e h
          refine St.ixL hx2 rfl rfl rfl (.tail _ (.head _)) rfl rfl rfl rfl rfl fun b2 ob2 => ?_
          refine St.load ob2 0 rfl rfl (.head _) rfl rfl ?_
          iterate 4 refine St.p rfl rfl ?_
          refine St.doneQ ?_
          refine St.thenN ?_
          refine St.prune (Γ' := [(0, _), (1, _), (5, _)]) ⟨rfl, rfl, rfl, trivial⟩ (.d (.k (.k .z))) ?_
          refine St.region ?_
          iterate 3 refine St.p rfl rfl ?_
          refine St.loadB 1 rfl rfl (.head _) rfl rfl ?_
          iterate 3 refine St.p rfl rfl ?_
          refine St.store 1 rfl rfl rfl rfl rfl rfl .z rfl ?_
          refine St.done ?_
          refine St.thenN ?_
          refine St.prune (Γ' := [(1, _), (5, _)]) ⟨rfl, rfl, trivial⟩ (.k (.k .z)) ?_
          refine St.seq ?_
          refine St.region ?_
          refine St.p rfl rfl ?_
          refine St.p rfl rfl ?_
          obtain ⟨q1, hq1, h⟩ := bnd_e h
          refine St.rem rfl rfl rfl hq1 ?_
          refine St.p rfl rfl ?_
          refine St.done ?_
          refine St.thenN ?_
          refine St.prune (Γ' := [(4, _)]) ⟨rfl, trivial⟩ (.k (.k .z)) ?_
          refine St.ret ?_
          repeat (first | refine St.thenR ?_ | refine St.blkR ?_)
          injection h with h
          subst h
          exact St.finR Try.results23 (.tmp rfl .nil) rfl [.ro (SlL eu8 A1 c1 c_p0.L), .res (Box gb1 63 [.slice A1 c_p0.L.length c1, .int .i64 (IntKind.wrap .i64 ((IntKind.wrap .i64 (c_p0.At + 1)) + 1))])] ⟨A1, c1, rfl, rfl⟩ (fun _ w => ((.k (.k (.d .z))) : Keep _ _).sat (Sat.dup (G := [.ro (SlL eu8 A1 c1 c_p0.L)]) rfl ⟨(.tail _ (.head _)), trivial⟩ w))
        · replace h := bif_f hb4 h
          refine St.skip ?_
          refine St.thenN ?_
          refine St.prune (Γ' := [(1, _), (5, _)]) ⟨rfl, rfl, trivial⟩ (.k (.k .z)) ?_
          refine St.seq ?_
          refine St.region ?_
          refine St.p rfl rfl ?_
          refine St.p rfl rfl ?_
          obtain ⟨q2, hq2, h⟩ := bnd_e h
          refine St.rem rfl rfl rfl hq2 ?_
          refine St.p rfl rfl ?_
          refine St.done ?_
          refine St.thenN ?_
          refine St.prune (Γ' := [(4, _)]) ⟨rfl, trivial⟩ (.k (.k .z)) ?_
          refine St.ret ?_
          repeat (first | refine St.thenR ?_ | refine St.blkR ?_)
          injection h with h
          subst h
          exact St.finR Try.results23 (.tmp rfl .nil) rfl [.ro (SlL eu8 A1 c1 c_p0.L), .res (Box gb1 63 [.slice A1 c_p0.L.length c1, .int .i64 (IntKind.wrap .i64 (c_p0.At + 1))])] ⟨A1, c1, rfl, rfl⟩ (fun _ w => ((.k (.k (.d .z))) : Keep _ _).sat (Sat.dup (G := [.ro (SlL eu8 A1 c1 c_p0.L)]) rfl ⟨(.tail _ (.head _)), trivial⟩ w))

theorem ent12 : Ent Try.prog 12 := ⟨_, Try.func12, by kernel_rfl, by kernel_rfl⟩

noncomputable def m_field_Codes_Bytes (c_p0 : T_Codes) (n_p1 : Int) : Option (T_Codes × (List Int)) :=
  bnd (m_field_Codes_Next c_p0 (IntKind.wrap .i64 (n_p1 + 1))) fun r1 => bnd (loopM (τ := List Int × List Int × Int) (fun (s1 : List Int × Int × List Int × Int) => bif decide (s1.2.1 > 0) then (bnd (m_field_Codes_Next (⟨s1.2.2.1, s1.2.2.2⟩ : T_Codes) 256) fun r2 => bnd (app 1 s1.1 [IntKind.wrap .u8 r2.2]) fun l1 => some (.next (l1, IntKind.wrap .i64 (s1.2.1 - 1), r2.1.L, r2.1.At))) else (some (.done (s1.1, s1.2.2.1, s1.2.2.2)))) ([], r1.2, r1.1.L, r1.1.At)) fun o1 => some ((⟨o1.2.1, o1.2.2⟩ : T_Codes), o1.1)

theorem c_field_Codes_Bytes {c_p0 : T_Codes} {n_p1 : Int} {A1 : Option Addr} {c1 : Nat} {gb1 : Nat} {r : (T_Codes × (List Int))} (h : m_field_Codes_Bytes c_p0 n_p1 = some r) :
    Fun Try.prog 12 [.pointer (some ⟨gb1, 0, none⟩), .int .i64 n_p1] [.ro (SlL eu8 A1 c1 c_p0.L), .res (Box gb1 63 [.slice A1 c_p0.L.length c1, .int .i64 c_p0.At])] (fun v_ F_ => ∃ (A1 : Option Addr) (c1 : Nat) (A2 : Option Addr) (c2 : Nat), v_ = .slice A2 r.2.length c2 ∧ F_ = [.ro (SlL eu8 A1 c1 r.1.L), .res (Box gb1 63 [.slice A1 r.1.L.length c1, .int .i64 r.1.At]), .res (OwnL eu8 5 A2 c2 r.2)]) := by
  unfold m_field_Codes_Bytes at h
  refine Fun.intro Try.func12 rfl rfl rfl fun w R => ?_
  refine St.seq ?_
  refine St.region ?_
  refine St.p rfl rfl ?_
  refine St.done ?_
  refine St.thenN ?_
  refine St.prune (Γ' := [(0, _), (1, _)]) ⟨rfl, rfl, trivial⟩ (.k (.k .z)) ?_
  refine St.seq ?_
  refine St.region ?_
  refine St.p rfl rfl ?_
  refine St.done ?_
  refine St.thenN ?_
  refine St.seq ?_
  refine St.seq ?_
  refine St.region ?_
  iterate 3 refine St.p rfl rfl ?_
  obtain ⟨r1, hr1, h⟩ := bnd_e h
  refine St.call (c_field_Codes_Next hr1) ent23 rfl rfl rfl (fun _ w => Sat.dup (G := [.ro (SlL eu8 A1 c1 c_p0.L)]) rfl ⟨(.tail _ (.head _)), trivial⟩ (w.front (.s .z))) ?_
  rintro _ _ ⟨A2, c2, rfl, rfl⟩
  refine St.asrt (F' := .ro (SlL eu8 A2 c2 r1.1.L) :: .res (Box gb1 63 [.slice A2 r1.1.L.length c2, .int .i64 r1.1.At]) :: .ro (SlL eu8 A1 c1 c_p0.L) :: R) (fun _ w => w) ?_
  refine St.p rfl rfl ?_
  refine St.done ?_
  refine St.thenN ?_
  refine St.prune (Γ' := [(0, _), (5, _), (6, _)]) ⟨rfl, rfl, rfl, trivial⟩ (.k (.k (.d .z))) ?_
  refine St.asrt (fun _ w => w.nilL eu8 5) ?_
  obtain ⟨o1, hl1, h⟩ := bnd_e h
  refine St.cutE (fun (e2 : Option Addr × Nat × Option Addr × Nat) => [(5, .slice e2.1 o1.1.length e2.2.1)]) (fun e2 => .ro (SlL eu8 e2.2.2.1 e2.2.2.2 o1.2.1) :: .res (OwnL eu8 5 e2.1 e2.2.1 o1.1) :: .res (Box gb1 63 [.slice e2.2.2.1 o1.2.1.length e2.2.2.2, .int .i64 o1.2.2]) :: R) ?_ ?_
  · refine St.block ?_
    refine St.loop hl1 (fun (s1 : List Int × Int × List Int × Int) (e1 : Option Addr × Nat × Option Addr × Nat) => [(0, .pointer (some ⟨gb1, 0, none⟩)), (5, .slice e1.1 s1.1.length e1.2.1), (6, .int .i64 s1.2.1)]) (fun s1 e1 => .ro (SlL eu8 e1.2.2.1 e1.2.2.2 s1.2.2.1) :: .res (OwnL eu8 5 e1.1 e1.2.1 s1.1) :: .res (Box gb1 63 [.slice e1.2.2.1 s1.2.2.1.length e1.2.2.2, .int .i64 s1.2.2.2]) :: R) (fun _ _ => True) (none, 0, A2, c2) trivial ⟨rfl, rfl, rfl, trivial⟩ (fun _ w => ((.k (.k (.k .z))) : Keep _ _).sat (((w.front (.s (.s .z))).front (.s .z)).front (.s (.s .z)))) ?_
    rintro s1 ⟨A3, c3, A4, c4⟩ - hit1
    obtain ⟨st1, hm1, hd1⟩ := iter_e hit1
    have h1 := hm1
    refine St.seq ?_
    refine St.seq ?_
    refine St.region ?_
    refine St.p rfl rfl ?_
    refine St.p rfl rfl ?_
    refine St.done ?_
    refine St.thenN ?_
    refine St.prune (Γ' := [(0, _), (5, _), (6, _), (12, _)]) ⟨rfl, rfl, rfl, rfl, trivial⟩ (.k (.k (.k .z))) ?_
    refine St.cond _ rfl (fun hb1 => ?_) (fun hb1 => ?_)
    · replace h1 := bif_t hb1 h1
      refine St.skip ?_
      refine St.thenN ?_
      refine St.prune (Γ' := [(0, _), (5, _), (6, _)]) ⟨rfl, rfl, rfl, trivial⟩ (.k (.k (.k .z))) ?_
      refine St.seq ?_
      refine St.block ?_
      refine St.region ?_
      refine St.p rfl rfl ?_
      refine St.p rfl rfl ?_
      obtain ⟨r2, hr2, h1⟩ := bnd_e h1
      refine St.call (c_field_Codes_Next hr2) ent23 rfl rfl rfl (fun _ w => Sat.dup (G := [.ro (SlL eu8 A4 c4 s1.2.2.1)]) rfl ⟨(.tail _ (.head _)), trivial⟩ (w.front (.s (.s .z)))) ?_
      rintro _ _ ⟨A7, c7, rfl, rfl⟩
      refine St.asrt (F' := .ro (SlL eu8 A7 c7 r2.1.L) :: .res (Box gb1 63 [.slice A7 r2.1.L.length c7, .int .i64 r2.1.At]) :: .ro (SlL eu8 A4 c4 s1.2.2.1) :: .res (OwnL eu8 5 A3 c3 s1.1) :: R) (fun _ w => w) ?_
      refine St.p rfl rfl ?_
      refine St.buildSlice rfl rfl rfl rfl rfl rfl rfl rfl fun g1 => ?_
      obtain ⟨l1, hl1, h1⟩ := bnd_e h1
      refine St.app (E := eu8) hl1 rfl rfl rfl (.s (.s (.s (.s .z)))) rfl rfl rfl rfl rfl rfl rfl rfl (srcB (.head _) rfl rfl) rfl rfl fun A8 c8 => ?_
      refine St.p rfl rfl ?_
      refine St.done ?_
      refine St.blkN ?_
      refine St.thenN ?_
      refine St.prune (Γ' := [(0, _), (5, _), (6, _)]) ⟨rfl, rfl, rfl, trivial⟩ (.k (.d (.k (.k (.d .z))))) ?_
      refine St.region ?_
      iterate 3 refine St.p rfl rfl ?_
      refine St.done ?_
      injection h1 with h1
      subst h1
      refine St.thenN ?_
      exact St.again _ (A8, c8, A7, c7) hm1 trivial ⟨rfl, rfl, rfl, trivial⟩ (fun _ w => ((.k (.k (.k .z))) : Keep _ _).sat (((w.front (.s (.s .z))).front (.s .z)).front (.s (.s .z))))
    · replace h1 := bif_f hb1 h1
      refine St.exit ?_
      repeat (first | refine St.thenX ?_ | refine St.blkMiss rfl ?_)
      refine St.blkHit ?_
      injection h1 with h1
      subst h1
      have ho := hd1 _ rfl
      subst ho
      refine St.thenN ?_
      exact St.hereE (A3, c3, A4, c4) ⟨rfl, trivial⟩ (fun _ w => ((.k (.k (.k .z))) : Keep _ _).sat w)
  · rintro ⟨A5, c5, A6, c6⟩
    refine St.seq ?_
    refine St.region ?_
    refine St.p rfl rfl ?_
    refine St.p rfl rfl ?_
    refine St.done ?_
    refine St.thenN ?_
    refine St.prune (Γ' := [(4, _)]) ⟨rfl, trivial⟩ (.k (.k (.k .z))) ?_
    refine St.ret ?_
    repeat (first | refine St.thenR ?_ | refine St.blkR ?_)
    injection h with h
    subst h
    exact St.finR Try.results12 (.tmp rfl .nil) rfl [.ro (SlL eu8 A6 c6 o1.2.1), .res (Box gb1 63 [.slice A6 o1.2.1.length c6, .int .i64 o1.2.2]), .res (OwnL eu8 5 A5 c5 o1.1)] ⟨A6, c6, A5, c5, rfl, rfl⟩ (fun _ w => ((.k (.k (.k (.d .z)))) : Keep _ _).sat (Sat.dup (G := [.ro (SlL eu8 A6 c6 o1.2.1)]) rfl ⟨(.tail _ (.tail _ (.head _))), trivial⟩ ((w.front (.s .z)).front (.s (.s .z)))))

theorem ent17 : Ent Try.prog 17 := ⟨_, Try.func17, by kernel_rfl, by kernel_rfl⟩

noncomputable def m_ref28_SameImage (a_p0 : T_Image) (b_p1 : T_Image) : Option Bool :=
  bnd ((bif (a_p0.Name.toList == b_p1.Name.toList) then (bif ((a_p0.Version.Major == b_p1.Version.Major) && ((a_p0.Version.Minor == b_p1.Version.Minor) && ((a_p0.Version.Patch == b_p1.Version.Patch) && true))) then (some ((strOf a_p0.Data).toList == (strOf b_p1.Data).toList)) else (some false)) else (some false) : Option Bool)) fun o1 => some o1

theorem c_ref28_SameImage {a_p0 : T_Image} {b_p1 : T_Image} {A1 : Option Addr} {c1 : Nat} {A2 : Option Addr} {c2 : Nat} {r : Bool} (h : m_ref28_SameImage a_p0 b_p1 = some r) :
    Fun Try.prog 17 [.agg (bx_T_Image a_p0 A1 c1).toArray, .agg (bx_T_Image b_p1 A2 c2).toArray] [.ro (SlL eu8 A1 c1 a_p0.Data), .ro (SlL eu8 A2 c2 b_p1.Data)] (Val (.bool r)) := by
  unfold m_ref28_SameImage at h
  refine Fun.intro Try.func17 rfl rfl rfl fun w R => ?_
  refine St.seq ?_
  refine St.region ?_
  refine St.box rfl rfl fun g1 => ?_
  refine St.box rfl rfl fun g2 => ?_
  refine St.p rfl rfl ?_
  refine St.done ?_
  refine St.thenN ?_
  refine St.prune (Γ' := [(2, _), (3, _)]) ⟨rfl, rfl, trivial⟩ (.k (.k (.k (.k .z)))) ?_
  refine St.seq ?_
  obtain ⟨o1, hj1, h⟩ := bnd_e h
  refine St.cutE (fun (e1 : Unit) => [(4, .bool o1)]) (fun e1 => R) ?_ ?_
  · refine St.region ?_
    refine St.p rfl rfl ?_
    refine St.loadB 0 rfl rfl (.tail _ (.head _)) rfl rfl ?_
    refine St.p rfl rfl ?_
    refine St.loadB 0 rfl rfl (.head _) rfl rfl ?_
    refine St.p rfl rfl ?_
    refine St.p rfl rfl ?_
    refine St.gSplit (dj := 10) _ rfl (fun hb1 => ?_) (fun hb1 => ?_)
    · replace hj1 := bif_t hb1 hj1
      refine St.gOn (dj := 10) rfl rfl ?_
      refine St.p rfl rfl ?_
      refine St.gOn (dj := 10) rfl rfl ?_
      refine St.loadB 1 rfl rfl (.tail _ (.head _)) rfl rfl ?_
      refine St.gOn (dj := 10) rfl rfl ?_
      refine St.p rfl rfl ?_
      refine St.gOn (dj := 10) rfl rfl ?_
      refine St.loadB 1 rfl rfl (.head _) rfl rfl ?_
      refine St.gOn (dj := 10) rfl rfl ?_
      iterate 3 refine St.p rfl rfl ?_
      refine St.gSplit (dj := 17) _ rfl (fun hb2 => ?_) (fun hb2 => ?_)
      · replace hj1 := bif_t hb2 hj1
        refine St.gOn (dj := 17) rfl rfl ?_
        refine St.p rfl rfl ?_
        refine St.gOn (dj := 17) rfl rfl ?_
        refine St.loadB 4 rfl rfl (.tail _ (.head _)) rfl rfl ?_
        refine St.gOn (dj := 17) rfl rfl ?_
        refine St.b2s rfl rfl rfl rfl rfl rfl rfl rfl rfl (srcL (E := eu8) (.tail _ (.tail _ (.head _)))) ?_
        refine St.gOn (dj := 17) rfl rfl ?_
        refine St.p rfl rfl ?_
        refine St.gOn (dj := 17) rfl rfl ?_
        refine St.loadB 4 rfl rfl (.head _) rfl rfl ?_
        refine St.gOn (dj := 17) rfl rfl ?_
        refine St.b2s rfl rfl rfl rfl rfl rfl rfl rfl rfl (srcL (E := eu8) (.tail _ (.tail _ (.tail _ (.head _))))) ?_
        refine St.gOn (dj := 17) rfl rfl ?_
        iterate 3 refine St.p rfl rfl ?_
        refine St.done ?_
        injection hj1 with hj1
        subst hj1
        refine St.thenN ?_
        exact St.hereE () ⟨rfl, trivial⟩ (fun _ w => ((.d (.d (.d (.d .z)))) : Keep _ _).sat w)
      · replace hj1 := bif_f hb2 hj1
        refine St.gOff (dj := 17) rfl rfl rfl rfl ?_
        refine St.gOff (dj := 17) rfl rfl rfl rfl ?_
        refine St.gOff (dj := 17) rfl rfl rfl rfl ?_
        refine St.gOff (dj := 17) rfl rfl rfl rfl ?_
        refine St.gOff (dj := 17) rfl rfl rfl rfl ?_
        refine St.gOff (dj := 17) rfl rfl rfl rfl ?_
        refine St.gOff (dj := 17) rfl rfl rfl rfl ?_
        refine St.p rfl rfl ?_
        refine St.p rfl rfl ?_
        refine St.done ?_
        injection hj1 with hj1
        subst hj1
        refine St.thenN ?_
        exact St.hereE () ⟨rfl, trivial⟩ (fun _ w => ((.d (.d (.d (.d .z)))) : Keep _ _).sat w)
    · replace hj1 := bif_f hb1 hj1
      refine St.gOff (dj := 10) rfl rfl rfl rfl ?_
      refine St.gOff (dj := 10) rfl rfl rfl rfl ?_
      refine St.gOff (dj := 10) rfl rfl rfl rfl ?_
      refine St.gOff (dj := 10) rfl rfl rfl rfl ?_
      refine St.gOff (dj := 10) rfl rfl rfl rfl ?_
      refine St.p rfl rfl ?_
      refine St.p rfl rfl ?_
      refine St.gOff (dj := 17) rfl rfl rfl rfl ?_
      refine St.gOff (dj := 17) rfl rfl rfl rfl ?_
      refine St.gOff (dj := 17) rfl rfl rfl rfl ?_
      refine St.gOff (dj := 17) rfl rfl rfl rfl ?_
      refine St.gOff (dj := 17) rfl rfl rfl rfl ?_
      refine St.gOff (dj := 17) rfl rfl rfl rfl ?_
      refine St.gOff (dj := 17) rfl rfl rfl rfl ?_
      refine St.p rfl rfl ?_
      refine St.p rfl rfl ?_
      refine St.done ?_
      injection hj1 with hj1
      subst hj1
      refine St.thenN ?_
      exact St.hereE () ⟨rfl, trivial⟩ (fun _ w => ((.d (.d (.d (.d .z)))) : Keep _ _).sat w)
  · rintro e1
    refine St.ret ?_
    repeat (first | refine St.thenR ?_ | refine St.blkR ?_)
    injection h with h
    subst h
    exact St.finR Try.results17 (.tmp rfl .nil) rfl [] ⟨rfl, rfl⟩ (fun _ w => (.z : Keep _ _).sat w)

theorem ent49 : Ent Try.prog 49 := ⟨_, Try.func49, by kernel_rfl, by kernel_rfl⟩

noncomputable def m_field_Codes_plain (c_p0 : T_Codes) : Option (T_Codes × T_Version) :=
  bnd (m_field_Codes_Next c_p0 3) fun r1 => bnd (m_field_Codes_Next r1.1 5) fun r2 => some (r2.1, (⟨IntKind.wrap .i64 (1 + r1.2), IntKind.wrap .i64 (r2.2.tdiv 4), 0⟩ : T_Version))

theorem c_field_Codes_plain {c_p0 : T_Codes} {A1 : Option Addr} {c1 : Nat} {gb1 : Nat} {r : (T_Codes × T_Version)} (h : m_field_Codes_plain c_p0 = some r) :
    Fun Try.prog 49 [.pointer (some ⟨gb1, 0, none⟩)] [.ro (SlL eu8 A1 c1 c_p0.L), .res (Box gb1 63 [.slice A1 c_p0.L.length c1, .int .i64 c_p0.At])] (fun v_ F_ => ∃ (A1 : Option Addr) (c1 : Nat), v_ = .agg #[.int .i64 r.2.Major, .int .i64 r.2.Minor, .int .i64 r.2.Patch] ∧ F_ = [.ro (SlL eu8 A1 c1 r.1.L), .res (Box gb1 63 [.slice A1 r.1.L.length c1, .int .i64 r.1.At])]) := by
  unfold m_field_Codes_plain at h
  refine Fun.intro Try.func49 rfl rfl rfl fun w R => ?_
  refine St.seq ?_
  refine St.region ?_
  refine St.alloc rfl rfl fun g1 => ?_
  refine St.done ?_
  refine St.thenN ?_
  refine St.seq ?_
  refine St.region ?_
  refine St.p rfl rfl ?_
  obtain ⟨r1, hr1, h⟩ := bnd_e h
  refine St.call (c_field_Codes_Next hr1) ent23 rfl rfl rfl (fun _ w => Sat.dup (G := [.ro (SlL eu8 A1 c1 c_p0.L)]) rfl ⟨(.tail _ (.tail _ (.head _))), trivial⟩ (w.front (.s (.s .z)))) ?_
  rintro _ _ ⟨A2, c2, rfl, rfl⟩
  refine St.asrt (F' := .ro (SlL eu8 A2 c2 r1.1.L) :: .res (Box gb1 63 [.slice A2 r1.1.L.length c2, .int .i64 r1.1.At]) :: .res (Box g1 28 [.int .i64 0, .int .i64 0, .int .i64 0]) :: .ro (SlL eu8 A1 c1 c_p0.L) :: R) (fun _ w => w) ?_
  refine St.p rfl rfl ?_
  refine St.p rfl rfl ?_
  obtain ⟨r2, hr2, h⟩ := bnd_e h
  refine St.call (c_field_Codes_Next hr2) ent23 rfl rfl rfl (fun _ w => Sat.dup (G := [.ro (SlL eu8 A2 c2 r1.1.L)]) rfl ⟨(.tail _ (.head _)), trivial⟩ (w.front (.s .z))) ?_
  rintro _ _ ⟨A3, c3, rfl, rfl⟩
  refine St.asrt (F' := .ro (SlL eu8 A3 c3 r2.1.L) :: .res (Box gb1 63 [.slice A3 r2.1.L.length c3, .int .i64 r2.1.At]) :: .ro (SlL eu8 A2 c2 r1.1.L) :: .res (Box g1 28 [.int .i64 0, .int .i64 0, .int .i64 0]) :: .ro (SlL eu8 A1 c1 c_p0.L) :: R) (fun _ w => w) ?_
  refine St.p rfl rfl ?_
  refine St.p rfl rfl ?_
  refine St.store 0 rfl rfl rfl rfl rfl rfl (.s (.s (.s .z))) rfl ?_
  refine St.done ?_
  refine St.thenN ?_
  refine St.prune (Γ' := [(2, _)]) ⟨rfl, trivial⟩ (.k (.k (.k (.d (.d .z))))) ?_
  refine St.ret ?_
  repeat (first | refine St.thenR ?_ | refine St.blkR ?_)
  injection h with h
  subst h
  exact St.finR Try.results49 (.cell rfl (.head _) rfl .nil) rfl [.ro (SlL eu8 A3 c3 r2.1.L), .res (Box gb1 63 [.slice A3 r2.1.L.length c3, .int .i64 r2.1.At])] ⟨A3, c3, rfl, rfl⟩ (fun _ w => ((.k (.k (.d (.d .z)))) : Keep _ _).sat (Sat.dup (G := [.ro (SlL eu8 A3 c3 r2.1.L)]) rfl ⟨(.tail _ (.tail _ (.head _))), trivial⟩ (w.front (.s (.s .z)))))

theorem ent58 : Ent Try.prog 58 := ⟨_, Try.func58, by kernel_rfl, by kernel_rfl⟩

noncomputable def m_ref27_Name (s_p0 : ByteArray) : Option Bool :=
  bnd ((bif decide ((s_p0.size : Int) < 1) then (some true) else (bif decide ((s_p0.size : Int) > 16) then (some true) else (bnd (eltS s_p0 0) fun y1 => bif decide (y1 < 97) then (some true) else (some (decide (y1 > 122))))) : Option Bool)) fun o1 => bif o1 then (some false) else (bnd (loopM (τ := Bool ⊕ Unit) (fun (s1 : Int) => bif decide (s1 < (s_p0.size : Int)) then (bnd ((bnd (eltS s_p0 s1) fun y2 => bif decide (y2 ≥ 97) then (bif decide (y2 ≤ 122) then (some false) else (bif decide (y2 ≥ 48) then (bif decide (y2 ≤ 57) then (some false) else (some (!(y2 == 45)))) else (some (!(y2 == 45))))) else (bif decide (y2 ≥ 48) then (bif decide (y2 ≤ 57) then (some false) else (some (!(y2 == 45)))) else (some (!(y2 == 45)))) : Option Bool)) fun o4 => bif o4 then (some (.done (.inl false))) else (some (.next (IntKind.wrap .i64 (s1 + 1))))) else (some (.done (.inr ())))) 0) fun o2 => retOr o2 fun o3 => some true)

end Go.Proofs.Ytcjhemblnemhfaa
