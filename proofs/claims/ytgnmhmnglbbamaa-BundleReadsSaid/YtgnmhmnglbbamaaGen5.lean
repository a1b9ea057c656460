/-
 Models of functions of the program, and that the functions compute them.
 Conditions: none.
-/
import Derived.Test.YtgnmhmnglbbamaaGen4
namespace Go.Proofs.Ytgnmhmnglbbamaa
open Go
set_option linter.unusedVariables false
set_option maxRecDepth 4000

theorem c_ref27_Valid {v_p0 : T_Version} {r : Bool} (h : m_ref27_Valid v_p0 = some r) :
  Fun Try.prog 46 [.agg #[.int .i64 v_p0.Major, .int .i64 v_p0.Minor, .int .i64 v_p0.Patch]] [] (Val (.bool r)) := by
 unfold m_ref27_Valid at h
 refine Fun.intro Try.func46 rfl rfl rfl fun w R => ?_
 refine St.seq ?_
 refine St.region ?_
 refine St.box rfl rfl fun g1 => ?_
 refine St.p rfl rfl ?_
 refine St.done ?_
 refine St.thenN ?_
 refine St.prune (Γ' := [(1, _)]) ⟨rfl, trivial⟩ (.k .z) ?_
 refine St.seq ?_
 obtain ⟨o1, hj1, h⟩ := bnd_e h
 refine St.cutE (fun (e1 : Unit) => [(2, .bool o1)]) (fun e1 => R) ?_ ?_
 ·refine St.region ?_
  refine St.p rfl rfl ?_
  refine St.loadB 0 rfl rfl (.head _) rfl rfl ?_
  refine St.p rfl rfl ?_
  refine St.p rfl rfl ?_
  refine St.gSplit (dj := 6) _ rfl (fun hb1 => ?_) (fun hb1 => ?_)
  ·replace hj1 := bif_t hb1 hj1
   refine St.gOn (dj := 6) rfl rfl ?_
   refine St.p rfl rfl ?_
   refine St.gOn (dj := 6) rfl rfl ?_
   refine St.loadB 0 rfl rfl (.head _) rfl rfl ?_
   refine St.gOn (dj := 6) rfl rfl ?_
   iterate 3 refine St.p rfl rfl ?_
   refine St.gSplit (dj := 11) _ rfl (fun hb2 => ?_) (fun hb2 => ?_)
   ·replace hj1 := bif_t hb2 hj1
    refine St.gOn (dj := 11) rfl rfl ?_
    refine St.p rfl rfl ?_
    refine St.gOn (dj := 11) rfl rfl ?_
    refine St.loadB 1 rfl rfl (.head _) rfl rfl ?_
    refine St.gOn (dj := 11) rfl rfl ?_
    iterate 3 refine St.p rfl rfl ?_
    refine St.gSplit (dj := 16) _ rfl (fun hb3 => ?_) (fun hb3 => ?_)
    ·replace hj1 := bif_t hb3 hj1
     refine St.gOn (dj := 16) rfl rfl ?_
     refine St.p rfl rfl ?_
     refine St.gOn (dj := 16) rfl rfl ?_
     refine St.loadB 1 rfl rfl (.head _) rfl rfl ?_
     refine St.gOn (dj := 16) rfl rfl ?_
     iterate 3 refine St.p rfl rfl ?_
     refine St.gSplit (dj := 21) _ rfl (fun hb4 => ?_) (fun hb4 => ?_)
     ·replace hj1 := bif_t hb4 hj1
      refine St.gOn (dj := 21) rfl rfl ?_
      refine St.p rfl rfl ?_
      refine St.gOn (dj := 21) rfl rfl ?_
      refine St.loadB 2 rfl rfl (.head _) rfl rfl ?_
      refine St.gOn (dj := 21) rfl rfl ?_
      iterate 3 refine St.p rfl rfl ?_
      refine St.gSplit (dj := 26) _ rfl (fun hb5 => ?_) (fun hb5 => ?_)
      ·replace hj1 := bif_t hb5 hj1
       refine St.gOn (dj := 26) rfl rfl ?_
       refine St.p rfl rfl ?_
       refine St.gOn (dj := 26) rfl rfl ?_
       refine St.loadB 2 rfl rfl (.head _) rfl rfl ?_
       refine St.gOn (dj := 26) rfl rfl ?_
       iterate 3 refine St.p rfl rfl ?_
       refine St.done ?_
       injection hj1 with hj1
       subst hj1
       refine St.thenN ?_
       exact St.hereE () ⟨rfl, trivial⟩ (fun _ w => ((.d .z) : Keep _ _).sat w)
      ·replace hj1 := bif_f hb5 hj1
       refine St.gOff (dj := 26) rfl rfl rfl rfl ?_
       refine St.gOff (dj := 26) rfl rfl rfl rfl ?_
       refine St.gOff (dj := 26) rfl rfl rfl rfl ?_
       refine St.p rfl rfl ?_
       refine St.p rfl rfl ?_
       refine St.done ?_
       injection hj1 with hj1
       subst hj1
       refine St.thenN ?_
       exact St.hereE () ⟨rfl, trivial⟩ (fun _ w => ((.d .z) : Keep _ _).sat w)
     ·replace hj1 := bif_f hb4 hj1
      refine St.gOff (dj := 21) rfl rfl rfl rfl ?_
      refine St.gOff (dj := 21) rfl rfl rfl rfl ?_
      refine St.gOff (dj := 21) rfl rfl rfl rfl ?_
      refine St.p rfl rfl ?_
      refine St.p rfl rfl ?_
      refine St.gOff (dj := 26) rfl rfl rfl rfl ?_
      refine St.gOff (dj := 26) rfl rfl rfl rfl ?_
      refine St.gOff (dj := 26) rfl rfl rfl rfl ?_
      refine St.p rfl rfl ?_
      refine St.p rfl rfl ?_
      refine St.done ?_
      injection hj1 with hj1
      subst hj1
      refine St.thenN ?_
      exact St.hereE () ⟨rfl, trivial⟩ (fun _ w => ((.d .z) : Keep _ _).sat w)
    ·replace hj1 := bif_f hb3 hj1
     refine St.gOff (dj := 16) rfl rfl rfl rfl ?_
     refine St.gOff (dj := 16) rfl rfl rfl rfl ?_
     refine St.gOff (dj := 16) rfl rfl rfl rfl ?_
     refine St.p rfl rfl ?_
     refine St.p rfl rfl ?_
     refine St.gOff (dj := 21) rfl rfl rfl rfl ?_
     refine St.gOff (dj := 21) rfl rfl rfl rfl ?_
     refine St.gOff (dj := 21) rfl rfl rfl rfl ?_
     refine St.p rfl rfl ?_
     refine St.p rfl rfl ?_
     refine St.gOff (dj := 26) rfl rfl rfl rfl ?_
     refine St.gOff (dj := 26) rfl rfl rfl rfl ?_
     refine St.gOff (dj := 26) rfl rfl rfl rfl ?_
     refine St.p rfl rfl ?_
     refine St.p rfl rfl ?_
     refine St.done ?_
     injection hj1 with hj1
     subst hj1
     refine St.thenN ?_
     exact St.hereE () ⟨rfl, trivial⟩ (fun _ w => ((.d .z) : Keep _ _).sat w)
   ·replace hj1 := bif_f hb2 hj1
    refine St.gOff (dj := 11) rfl rfl rfl rfl ?_
    refine St.gOff (dj := 11) rfl rfl rfl rfl ?_
    refine St.gOff (dj := 11) rfl rfl rfl rfl ?_
    refine St.p rfl rfl ?_
    refine St.p rfl rfl ?_
    refine St.gOff (dj := 16) rfl rfl rfl rfl ?_
    refine St.gOff (dj := 16) rfl rfl rfl rfl ?_
    refine St.gOff (dj := 16) rfl rfl rfl rfl ?_
    refine St.p rfl rfl ?_
    refine St.p rfl rfl ?_
    refine St.gOff (dj := 21) rfl rfl rfl rfl ?_
    refine St.gOff (dj := 21) rfl rfl rfl rfl ?_
    refine St.gOff (dj := 21) rfl rfl rfl rfl ?_
    refine St.p rfl rfl ?_
    refine St.p rfl rfl ?_
    refine St.gOff (dj := 26) rfl rfl rfl rfl ?_
    refine St.gOff (dj := 26) rfl rfl rfl rfl ?_
    refine St.gOff (dj := 26) rfl rfl rfl rfl ?_
    refine St.p rfl rfl ?_
    refine St.p rfl rfl ?_
    refine St.done ?_
    injection hj1 with hj1
    subst hj1
    refine St.thenN ?_
    exact St.hereE () ⟨rfl, trivial⟩ (fun _ w => ((.d .z) : Keep _ _).sat w)
  ·replace hj1 := bif_f hb1 hj1
   refine St.gOff (dj := 6) rfl rfl rfl rfl ?_
   refine St.gOff (dj := 6) rfl rfl rfl rfl ?_
   refine St.gOff (dj := 6) rfl rfl rfl rfl ?_
   refine St.p rfl rfl ?_
   refine St.p rfl rfl ?_
   refine St.gOff (dj := 11) rfl rfl rfl rfl ?_
   refine St.gOff (dj := 11) rfl rfl rfl rfl ?_
   refine St.gOff (dj := 11) rfl rfl rfl rfl ?_
   refine St.p rfl rfl ?_
   refine St.p rfl rfl ?_
   refine St.gOff (dj := 16) rfl rfl rfl rfl ?_
   refine St.gOff (dj := 16) rfl rfl rfl rfl ?_
   refine St.gOff (dj := 16) rfl rfl rfl rfl ?_
   refine St.p rfl rfl ?_
   refine St.p rfl rfl ?_
   refine St.gOff (dj := 21) rfl rfl rfl rfl ?_
   refine St.gOff (dj := 21) rfl rfl rfl rfl ?_
   refine St.gOff (dj := 21) rfl rfl rfl rfl ?_
   refine St.p rfl rfl ?_
   refine St.p rfl rfl ?_
   refine St.gOff (dj := 26) rfl rfl rfl rfl ?_
   refine St.gOff (dj := 26) rfl rfl rfl rfl ?_
   refine St.gOff (dj := 26) rfl rfl rfl rfl ?_
   refine St.p rfl rfl ?_
   refine St.p rfl rfl ?_
   refine St.done ?_
   injection hj1 with hj1
   subst hj1
   refine St.thenN ?_
   exact St.hereE () ⟨rfl, trivial⟩ (fun _ w => ((.d .z) : Keep _ _).sat w)
 ·rintro e1
  refine St.ret ?_
  repeat (first | refine St.thenR ?_ | refine St.blkR ?_)
  injection h with h
  subst h
  exact St.finR Try.results46 (.tmp rfl .nil) rfl [] ⟨rfl, rfl⟩ (fun _ w => (.z : Keep _ _).sat w)

theorem ent18 : Ent Try.prog 18 := ⟨_, Try.func18, by kernel_rfl, by kernel_rfl⟩

noncomputable def m_ref28_Right (i_p0 : T_Image) : Option Bool :=
 bnd ((bnd (m_ref27_Name i_p0.Name) fun r1 => bif r1 then (bnd (m_ref27_Valid i_p0.Version) fun r2 => bif r2 then (bif decide ((i_p0.Data.length : Int) ≥ 1) then (some (decide ((i_p0.Data.length : Int) ≤ 512))) else (some false)) else (some false)) else (some false) : Option Bool)) fun o1 => some o1

theorem c_ref28_Right {i_p0 : T_Image} {A1 : Option Addr} {c1 : Nat} {r : Bool} (h : m_ref28_Right i_p0 = some r) :
  Fun Try.prog 18 [.agg (bx_T_Image i_p0 A1 c1).toArray] [.ro (SlL eu8 A1 c1 i_p0.Data)] (Val (.bool r)) := by
 unfold m_ref28_Right at h
 refine Fun.intro Try.func18 rfl rfl rfl fun w R => ?_
 refine St.seq ?_
 refine St.region ?_
 refine St.box rfl rfl fun g1 => ?_
 refine St.p rfl rfl ?_
 refine St.done ?_
 refine St.thenN ?_
 refine St.prune (Γ' := [(1, _)]) ⟨rfl, trivial⟩ (.k (.k .z)) ?_
 refine St.seq ?_
 obtain ⟨o1, hj1, h⟩ := bnd_e h
 refine St.cutE (fun (e1 : Unit) => [(2, .bool o1)]) (fun e1 => R) ?_ ?_
 ·refine St.region ?_
  refine St.p rfl rfl ?_
  refine St.loadB 0 rfl rfl (.head _) rfl rfl ?_
  obtain ⟨r1, hr1, hj1⟩ := bnd_e hj1
  refine St.callV (c_ref27_Name hr1) ent45 rfl rfl rfl rfl trivial ?_
  refine St.p rfl rfl ?_
  refine St.gSplit (dj := 6) _ rfl (fun hb1 => ?_) (fun hb1 => ?_)
  ·replace hj1 := bif_t hb1 hj1
   refine St.gOn (dj := 6) rfl rfl ?_
   refine St.p rfl rfl ?_
   refine St.gOn (dj := 6) rfl rfl ?_
   refine St.loadB 1 rfl rfl (.head _) rfl rfl ?_
   refine St.gOn (dj := 6) rfl rfl ?_
   obtain ⟨r2, hr2, hj1⟩ := bnd_e hj1
   refine St.callV (c_ref27_Valid hr2) ent46 rfl rfl rfl rfl trivial ?_
   refine St.p rfl rfl ?_
   refine St.p rfl rfl ?_
   refine St.gSplit (dj := 11) _ rfl (fun hb2 => ?_) (fun hb2 => ?_)
   ·replace hj1 := bif_t hb2 hj1
    refine St.gOn (dj := 11) rfl rfl ?_
    refine St.p rfl rfl ?_
    refine St.gOn (dj := 11) rfl rfl ?_
    refine St.loadB 4 rfl rfl (.head _) rfl rfl ?_
    refine St.gOn (dj := 11) rfl rfl ?_
    refine St.p rfl rfl ?_
    refine St.gOn (dj := 11) rfl rfl ?_
    iterate 3 refine St.p rfl rfl ?_
    refine St.gSplit (dj := 17) _ rfl (fun hb3 => ?_) (fun hb3 => ?_)
    ·replace hj1 := bif_t hb3 hj1
     refine St.gOn (dj := 17) rfl rfl ?_
     refine St.p rfl rfl ?_
     refine St.gOn (dj := 17) rfl rfl ?_
     refine St.loadB 4 rfl rfl (.head _) rfl rfl ?_
     refine St.gOn (dj := 17) rfl rfl ?_
     refine St.p rfl rfl ?_
     refine St.gOn (dj := 17) rfl rfl ?_
     iterate 3 refine St.p rfl rfl ?_
     refine St.done ?_
     injection hj1 with hj1
     subst hj1
     refine St.thenN ?_
     exact St.hereE () ⟨rfl, trivial⟩ (fun _ w => ((.d (.d .z)) : Keep _ _).sat w)
    ·replace hj1 := bif_f hb3 hj1
     refine St.gOff (dj := 17) rfl rfl rfl rfl ?_
     refine St.gOff (dj := 17) rfl rfl rfl rfl ?_
     refine St.gOff (dj := 17) rfl rfl rfl rfl ?_
     refine St.gOff (dj := 17) rfl rfl rfl rfl ?_
     refine St.p rfl rfl ?_
     refine St.p rfl rfl ?_
     refine St.done ?_
     injection hj1 with hj1
     subst hj1
     refine St.thenN ?_
     exact St.hereE () ⟨rfl, trivial⟩ (fun _ w => ((.d (.d .z)) : Keep _ _).sat w)
   ·replace hj1 := bif_f hb2 hj1
    refine St.gOff (dj := 11) rfl rfl rfl rfl ?_
    refine St.gOff (dj := 11) rfl rfl rfl rfl ?_
    refine St.gOff (dj := 11) rfl rfl rfl rfl ?_
    refine St.gOff (dj := 11) rfl rfl rfl rfl ?_
    refine St.p rfl rfl ?_
    refine St.p rfl rfl ?_
    refine St.gOff (dj := 17) rfl rfl rfl rfl ?_
    refine St.gOff (dj := 17) rfl rfl rfl rfl ?_
    refine St.gOff (dj := 17) rfl rfl rfl rfl ?_
    refine St.gOff (dj := 17) rfl rfl rfl rfl ?_
    refine St.p rfl rfl ?_
    refine St.p rfl rfl ?_
    refine St.done ?_
    injection hj1 with hj1
    subst hj1
    refine St.thenN ?_
    exact St.hereE () ⟨rfl, trivial⟩ (fun _ w => ((.d (.d .z)) : Keep _ _).sat w)
  ·replace hj1 := bif_f hb1 hj1
   refine St.gOff (dj := 6) rfl rfl rfl rfl ?_
   refine St.gOff (dj := 6) rfl rfl rfl rfl ?_
   refine St.gOff (dj := 6) rfl rfl rfl rfl ?_
   refine St.p rfl rfl ?_
   refine St.p rfl rfl ?_
   refine St.gOff (dj := 11) rfl rfl rfl rfl ?_
   refine St.gOff (dj := 11) rfl rfl rfl rfl ?_
   refine St.gOff (dj := 11) rfl rfl rfl rfl ?_
   refine St.gOff (dj := 11) rfl rfl rfl rfl ?_
   refine St.p rfl rfl ?_
   refine St.p rfl rfl ?_
   refine St.gOff (dj := 17) rfl rfl rfl rfl ?_
   refine St.gOff (dj := 17) rfl rfl rfl rfl ?_
   refine St.gOff (dj := 17) rfl rfl rfl rfl ?_
   refine St.gOff (dj := 17) rfl rfl rfl rfl ?_
   refine St.p rfl rfl ?_
   refine St.p rfl rfl ?_
   refine St.done ?_
   injection hj1 with hj1
   subst hj1
   refine St.thenN ?_
   exact St.hereE () ⟨rfl, trivial⟩ (fun _ w => ((.d (.d .z)) : Keep _ _).sat w)
 ·rintro e1
  refine St.ret ?_
  repeat (first | refine St.thenR ?_ | refine St.blkR ?_)
  injection h with h
  subst h
  exact St.finR Try.results18 (.tmp rfl .nil) rfl [] ⟨rfl, rfl⟩ (fun _ w => (.z : Keep _ _).sat w)

theorem ent40 : Ent Try.prog 40 := ⟨_, Try.func40, by kernel_rfl, by kernel_rfl⟩

noncomputable def m_ref27_Needs (l_p0 : (List T_Need)) : Option Bool :=
 bif decide ((l_p0.length : Int) > 16) then (some false) else (bnd (loopM (τ := Bool ⊕ Unit) (fun (s1 : Int) => bif decide (s1 < (l_p0.length : Int)) then (bnd ((bnd (elt l_p0 s1) fun x1 => bnd (m_ref27_Name x1.Component) fun r1 => bif !r1 then (some true) else (bnd (m_ref27_Name x1.On) fun r2 => bif !r2 then (some true) else (bif (x1.Component.toList == x1.On.toList) then (some true) else (bnd (m_ref27_Valid x1.From) fun r3 => bif !r3 then (some true) else (bnd (m_ref27_Valid x1.At) fun r4 => some (!r4))))) : Option Bool)) fun o3 => bif o3 then (some (.done (.inl false))) else (some (.next (IntKind.wrap .i64 (s1 + 1))))) else (some (.done (.inr ())))) 0) fun o1 => retOr o1 fun o2 => some true)

set_option maxHeartbeats 4000000 in
theorem c_ref27_Needs {l_p0 : (List T_Need)} {A1 : Option Addr} {c1 : Nat} {r : Bool} (h : m_ref27_Needs l_p0 = some r) :
  Fun Try.prog 40 [.slice A1 l_p0.length c1] [.ro (SlL e_Need A1 c1 l_p0)] (Val (.bool r)) := by
 unfold m_ref27_Needs at h
 refine Fun.intro Try.func40 rfl rfl rfl fun w R => ?_
 refine St.seq ?_
 refine St.region ?_
 refine St.p rfl rfl ?_
 refine St.done ?_
 refine St.thenN ?_
 refine St.prune (Γ' := [(0, _)]) ⟨rfl, trivial⟩ (.k .z) ?_
 refine St.seq ?_
 refine St.seq ?_
 refine St.region ?_
 iterate 3 refine St.p rfl rfl ?_
 refine St.done ?_
 refine St.thenN ?_
 refine St.prune (Γ' := [(0, _), (6, _)]) ⟨rfl, rfl, trivial⟩ (.k .z) ?_
 refine St.cond _ rfl (fun hb1 => ?_) (fun hb1 => ?_)
 ·replace h := bif_t hb1 h
  refine St.seq ?_
  refine St.region ?_
  refine St.p rfl rfl ?_
  refine St.done ?_
  refine St.thenN ?_
  refine St.prune (Γ' := [(2, _)]) ⟨rfl, trivial⟩ (.d .z) ?_
  refine St.ret ?_
  repeat (first | refine St.thenR ?_ | refine St.blkR ?_)
  injection h with h
  subst h
  exact St.finR Try.results40 (.tmp rfl .nil) rfl [] ⟨rfl, rfl⟩ (fun _ w => (.z : Keep _ _).sat w)
 ·replace h := bif_f hb1 h
  refine St.skip ?_
  refine St.thenN ?_
  refine St.prune (Γ' := [(0, _)]) ⟨rfl, trivial⟩ (.k .z) ?_
  refine St.seq ?_
  refine St.seq ?_
  refine St.region ?_
  refine St.p rfl rfl ?_
  refine St.done ?_
  refine St.thenN ?_
  obtain ⟨o1, hl1, h⟩ := bnd_e h
  refine St.cutI (fun (o2 : Unit) (e2 : Unit) => []) (fun o2 e2 => R) (fun o2 => o1 = .inr o2) ?_ ?_
  ·refine St.block ?_
   refine St.loop hl1 (fun (s1 : Int) (e1 : Unit) => [(0, .slice A1 l_p0.length c1), (3, .int .i64 s1)]) (fun s1 e1 => .ro (SlL e_Need A1 c1 l_p0) :: R) (fun _ _ => True) () trivial ⟨rfl, rfl, trivial⟩ (fun _ w => ((.k .z) : Keep _ _).sat w) ?_
   rintro s1 e1 - hit1
   obtain ⟨st1, hm1, hd1⟩ := iter_e hit1
   have h1 := hm1
   refine St.seq ?_
   refine St.seq ?_
   refine St.region ?_
   iterate 4 refine St.p rfl rfl ?_
   refine St.done ?_
   refine St.thenN ?_
   refine St.prune (Γ' := [(0, _), (3, _), (10, _)]) ⟨rfl, rfl, rfl, trivial⟩ (.k .z) ?_
   refine St.cond _ rfl (fun hb2 => ?_) (fun hb2 => ?_)
   ·replace h1 := bif_t hb2 h1
    refine St.skip ?_
    refine St.thenN ?_
    refine St.prune (Γ' := [(0, _), (3, _)]) ⟨rfl, rfl, trivial⟩ (.k .z) ?_
    refine St.seq ?_
    refine St.block ?_
    refine St.seq ?_
    obtain ⟨o3, hj1, h1⟩ := bnd_e h1
    refine St.cutE (fun (e3 : Unit) => [(0, .slice A1 l_p0.length c1), (3, .int .i64 s1), (59, .bool o3)]) (fun e3 => .ro (SlL e_Need A1 c1 l_p0) :: R) ?_ ?_
    ·refine St.regionF mixed (by kernel_rfl) ?_
     refine St.p rfl rfl ?_
     refine St.p rfl rfl ?_
     obtain ⟨x1, hx1, hj1⟩ := bnd_e hj1
     refine St.ixL hx1 rfl rfl rfl (.head _) rfl rfl rfl rfl rfl fun b1 ob1 => ?_
     refine St.p rfl rfl ?_
     refine St.load ob1 0 rfl rfl (.head _) rfl rfl ?_
     obtain ⟨r1, hr1, hj1⟩ := bnd_e hj1
     refine St.callV (c_ref27_Name hr1) ent45 rfl rfl rfl rfl trivial ?_
     refine St.p rfl rfl ?_
     refine St.p rfl rfl ?_
     refine St.gSplit (dj := 20) _ rfl (fun hb3 => ?_) (fun hb3 => ?_)
     ·replace hj1 := bif_t hb3 hj1
      refine St.gOff (dj := 20) rfl rfl rfl rfl ?_
      refine St.gOff (dj := 20) rfl rfl rfl rfl ?_
      refine St.gOff (dj := 20) rfl rfl rfl rfl ?_
      refine St.gOff (dj := 20) rfl rfl rfl rfl ?_
      refine St.gOff (dj := 20) rfl rfl rfl rfl ?_
      refine St.gOff (dj := 20) rfl rfl rfl rfl ?_
      refine St.gOff (dj := 20) rfl rfl rfl rfl ?_
      refine St.p rfl rfl ?_
      refine St.p rfl rfl ?_
      refine St.gOff (dj := 29) rfl rfl rfl rfl ?_
      refine St.gOff (dj := 29) rfl rfl rfl rfl ?_
      refine St.gOff (dj := 29) rfl rfl rfl rfl ?_
      refine St.gOff (dj := 29) rfl rfl rfl rfl ?_
      refine St.gOff (dj := 29) rfl rfl rfl rfl ?_
      refine St.gOff (dj := 29) rfl rfl rfl rfl ?_
      refine St.gOff (dj := 29) rfl rfl rfl rfl ?_
      refine St.gOff (dj := 29) rfl rfl rfl rfl ?_
      refine St.gOff (dj := 29) rfl rfl rfl rfl ?_
      refine St.gOff (dj := 29) rfl rfl rfl rfl ?_
      refine St.gOff (dj := 29) rfl rfl rfl rfl ?_
      refine St.p rfl rfl ?_
      refine St.p rfl rfl ?_
      refine St.gOff (dj := 42) rfl rfl rfl rfl ?_
      refine St.gOff (dj := 42) rfl rfl rfl rfl ?_
      refine St.gOff (dj := 42) rfl rfl rfl rfl ?_
      refine St.gOff (dj := 42) rfl rfl rfl rfl ?_
      refine St.gOff (dj := 42) rfl rfl rfl rfl ?_
      refine St.gOff (dj := 42) rfl rfl rfl rfl ?_
      refine St.gOff (dj := 42) rfl rfl rfl rfl ?_
      refine St.p rfl rfl ?_
      refine St.p rfl rfl ?_
      refine St.gOff (dj := 51) rfl rfl rfl rfl ?_
      refine St.gOff (dj := 51) rfl rfl rfl rfl ?_
      refine St.gOff (dj := 51) rfl rfl rfl rfl ?_
      refine St.gOff (dj := 51) rfl rfl rfl rfl ?_
      refine St.gOff (dj := 51) rfl rfl rfl rfl ?_
      refine St.gOff (dj := 51) rfl rfl rfl rfl ?_
      refine St.gOff (dj := 51) rfl rfl rfl rfl ?_
      refine St.p rfl rfl ?_
      refine St.doneQ ?_
      injection hj1 with hj1
      subst hj1
      refine St.thenN ?_
      exact St.hereE () ⟨rfl, rfl, rfl, trivial⟩ (fun _ w => ((.d (.k .z)) : Keep _ _).sat w)
     ·replace hj1 := bif_f hb3 hj1
      refine St.gOn (dj := 20) rfl rfl ?_
      refine St.p rfl rfl ?_
      refine St.gOn (dj := 20) rfl rfl ?_
      refine St.p rfl rfl ?_
      refine St.gOn (dj := 20) rfl rfl ?_
      refine St.ixL hx1 rfl rfl rfl (.tail _ (.head _)) rfl rfl rfl rfl rfl fun b2 ob2 => ?_
      refine St.gOn (dj := 20) rfl rfl ?_
      refine St.p rfl rfl ?_
      refine St.gOn (dj := 20) rfl rfl ?_
      refine St.load ob2 4 rfl rfl (.head _) rfl rfl ?_
      refine St.gOn (dj := 20) rfl rfl ?_
      obtain ⟨r2, hr2, hj1⟩ := bnd_e hj1
      refine St.callV (c_ref27_Name hr2) ent45 rfl rfl rfl rfl trivial ?_
      refine St.gOn (dj := 20) rfl rfl ?_
      iterate 3 refine St.p rfl rfl ?_
      refine St.gSplit (dj := 29) _ rfl (fun hb4 => ?_) (fun hb4 => ?_)
      ·replace hj1 := bif_t hb4 hj1
       refine St.gOff (dj := 29) rfl rfl rfl rfl ?_
       refine St.gOff (dj := 29) rfl rfl rfl rfl ?_
       refine St.gOff (dj := 29) rfl rfl rfl rfl ?_
       refine St.gOff (dj := 29) rfl rfl rfl rfl ?_
       refine St.gOff (dj := 29) rfl rfl rfl rfl ?_
       refine St.gOff (dj := 29) rfl rfl rfl rfl ?_
       refine St.gOff (dj := 29) rfl rfl rfl rfl ?_
       refine St.gOff (dj := 29) rfl rfl rfl rfl ?_
       refine St.gOff (dj := 29) rfl rfl rfl rfl ?_
       refine St.gOff (dj := 29) rfl rfl rfl rfl ?_
       refine St.gOff (dj := 29) rfl rfl rfl rfl ?_
       refine St.p rfl rfl ?_
       refine St.p rfl rfl ?_
       refine St.gOff (dj := 42) rfl rfl rfl rfl ?_
       refine St.gOff (dj := 42) rfl rfl rfl rfl ?_
       refine St.gOff (dj := 42) rfl rfl rfl rfl ?_
       refine St.gOff (dj := 42) rfl rfl rfl rfl ?_
       refine St.gOff (dj := 42) rfl rfl rfl rfl ?_
       refine St.gOff (dj := 42) rfl rfl rfl rfl ?_
       refine St.gOff (dj := 42) rfl rfl rfl rfl ?_
       refine St.p rfl rfl ?_
       refine St.p rfl rfl ?_
       refine St.gOff (dj := 51) rfl rfl rfl rfl ?_
       refine St.gOff (dj := 51) rfl rfl rfl rfl ?_
       refine St.gOff (dj := 51) rfl rfl rfl rfl ?_
       refine St.gOff (dj := 51) rfl rfl rfl rfl ?_
       refine St.gOff (dj := 51) rfl rfl rfl rfl ?_
       refine St.gOff (dj := 51) rfl rfl rfl rfl ?_
       refine St.gOff (dj := 51) rfl rfl rfl rfl ?_
       refine St.p rfl rfl ?_
       refine St.doneQ ?_
       injection hj1 with hj1
       subst hj1
       refine St.thenN ?_
       exact St.hereE () ⟨rfl, rfl, rfl, trivial⟩ (fun _ w => ((.d (.d (.k .z))) : Keep _ _).sat w)
      ·replace hj1 := bif_f hb4 hj1
       refine St.gOn (dj := 29) rfl rfl ?_
       refine St.p rfl rfl ?_
       refine St.gOn (dj := 29) rfl rfl ?_
       refine St.p rfl rfl ?_
       refine St.gOn (dj := 29) rfl rfl ?_
       refine St.ixL hx1 rfl rfl rfl (.tail _ (.tail _ (.head _))) rfl rfl rfl rfl rfl fun b3 ob3 => ?_
       refine St.gOn (dj := 29) rfl rfl ?_
       refine St.p rfl rfl ?_
       refine St.gOn (dj := 29) rfl rfl ?_
       refine St.load ob3 0 rfl rfl (.head _) rfl rfl ?_
       refine St.gOn (dj := 29) rfl rfl ?_
       refine St.p rfl rfl ?_
       refine St.gOn (dj := 29) rfl rfl ?_
       refine St.p rfl rfl ?_
       refine St.gOn (dj := 29) rfl rfl ?_
       refine St.ixL hx1 rfl rfl rfl (.tail _ (.tail _ (.tail _ (.head _)))) rfl rfl rfl rfl rfl fun b4 ob4 => ?_
       refine St.gOn (dj := 29) rfl rfl ?_
       refine St.p rfl rfl ?_
       refine St.gOn (dj := 29) rfl rfl ?_
       refine St.load ob4 4 rfl rfl (.head _) rfl rfl ?_
       refine St.gOn (dj := 29) rfl rfl ?_
       iterate 3 refine St.p rfl rfl ?_
       refine St.gSplit (dj := 42) _ rfl (fun hb5 => ?_) (fun hb5 => ?_)
       ·replace hj1 := bif_t hb5 hj1
        refine St.gOff (dj := 42) rfl rfl rfl rfl ?_
        refine St.gOff (dj := 42) rfl rfl rfl rfl ?_
        refine St.gOff (dj := 42) rfl rfl rfl rfl ?_
        refine St.gOff (dj := 42) rfl rfl rfl rfl ?_
        refine St.gOff (dj := 42) rfl rfl rfl rfl ?_
        refine St.gOff (dj := 42) rfl rfl rfl rfl ?_
        refine St.gOff (dj := 42) rfl rfl rfl rfl ?_
        refine St.p rfl rfl ?_
        refine St.p rfl rfl ?_
        refine St.gOff (dj := 51) rfl rfl rfl rfl ?_
        refine St.gOff (dj := 51) rfl rfl rfl rfl ?_
        refine St.gOff (dj := 51) rfl rfl rfl rfl ?_
        refine St.gOff (dj := 51) rfl rfl rfl rfl ?_
        refine St.gOff (dj := 51) rfl rfl rfl rfl ?_
        refine St.gOff (dj := 51) rfl rfl rfl rfl ?_
        refine St.gOff (dj := 51) rfl rfl rfl rfl ?_
        refine St.p rfl rfl ?_
        refine St.doneQ ?_
        injection hj1 with hj1
        subst hj1
        refine St.thenN ?_
        exact St.hereE () ⟨rfl, rfl, rfl, trivial⟩ (fun _ w => ((.d (.d (.d (.d (.k .z))))) : Keep _ _).sat w)
       ·replace hj1 := bif_f hb5 hj1
        refine St.gOn (dj := 42) rfl rfl ?_
        refine St.p rfl rfl ?_
        refine St.gOn (dj := 42) rfl rfl ?_
        refine St.p rfl rfl ?_
        refine St.gOn (dj := 42) rfl rfl ?_
        refine St.ixL hx1 rfl rfl rfl (.tail _ (.tail _ (.tail _ (.tail _ (.head _))))) rfl rfl rfl rfl rfl fun b5 ob5 => ?_
        refine St.gOn (dj := 42) rfl rfl ?_
        refine St.p rfl rfl ?_
        refine St.gOn (dj := 42) rfl rfl ?_
        refine St.load ob5 1 rfl rfl (.head _) rfl rfl ?_
        refine St.gOn (dj := 42) rfl rfl ?_
        obtain ⟨r3, hr3, hj1⟩ := bnd_e hj1
        refine St.callV (c_ref27_Valid hr3) ent46 rfl rfl rfl rfl trivial ?_
        refine St.gOn (dj := 42) rfl rfl ?_
        iterate 3 refine St.p rfl rfl ?_
        refine St.gSplit (dj := 51) _ rfl (fun hb6 => ?_) (fun hb6 => ?_)
        ·replace hj1 := bif_t hb6 hj1
         refine St.gOff (dj := 51) rfl rfl rfl rfl ?_
         refine St.gOff (dj := 51) rfl rfl rfl rfl ?_
         refine St.gOff (dj := 51) rfl rfl rfl rfl ?_
         refine St.gOff (dj := 51) rfl rfl rfl rfl ?_
         refine St.gOff (dj := 51) rfl rfl rfl rfl ?_
         refine St.gOff (dj := 51) rfl rfl rfl rfl ?_
         refine St.gOff (dj := 51) rfl rfl rfl rfl ?_
         refine St.p rfl rfl ?_
         refine St.doneQ ?_
         injection hj1 with hj1
         subst hj1
         refine St.thenN ?_
         exact St.hereE () ⟨rfl, rfl, rfl, trivial⟩ (fun _ w => ((.d (.d (.d (.d (.d (.k .z)))))) : Keep _ _).sat w)
        ·replace hj1 := bif_f hb6 hj1
         refine St.gOn (dj := 51) rfl rfl ?_
         refine St.p rfl rfl ?_
         refine St.gOn (dj := 51) rfl rfl ?_
         refine St.p rfl rfl ?_
         refine St.gOn (dj := 51) rfl rfl ?_
         refine St.ixL hx1 rfl rfl rfl (.tail _ (.tail _ (.tail _ (.tail _ (.tail _ (.head _)))))) rfl rfl rfl rfl rfl fun b6 ob6 => ?_
         refine St.gOn (dj := 51) rfl rfl ?_
         refine St.p rfl rfl ?_
         refine St.gOn (dj := 51) rfl rfl ?_
         refine St.load ob6 5 rfl rfl (.head _) rfl rfl ?_
         refine St.gOn (dj := 51) rfl rfl ?_
         obtain ⟨r4, hr4, hj1⟩ := bnd_e hj1
         refine St.callV (c_ref27_Valid hr4) ent46 rfl rfl rfl rfl trivial ?_
         refine St.gOn (dj := 51) rfl rfl ?_
         refine St.p rfl rfl ?_
         refine St.p rfl rfl ?_
         refine St.doneQ ?_
         injection hj1 with hj1
         subst hj1
         refine St.thenN ?_
         exact St.hereE () ⟨rfl, rfl, rfl, trivial⟩ (fun _ w => ((.d (.d (.d (.d (.d (.d (.k .z))))))) : Keep _ _).sat w)
    ·rintro e3
     refine St.cond _ rfl (fun hb7 => ?_) (fun hb7 => ?_)
     ·replace h1 := bif_t hb7 h1
      refine St.seq ?_
      refine St.region ?_
      refine St.p rfl rfl ?_
      refine St.done ?_
      refine St.thenN ?_
      refine St.prune (Γ' := [(2, _)]) ⟨rfl, trivial⟩ (.d .z) ?_
      refine St.ret ?_
      repeat (first | refine St.thenR ?_ | refine St.blkR ?_)
      injection h1 with h1
      subst h1
      have ho := hd1 _ rfl
      subst ho
      have h : some _ = some _ := h
      injection h with h
      subst h
      exact St.finR Try.results40 (.tmp rfl .nil) rfl [] ⟨rfl, rfl⟩ (fun _ w => (.z : Keep _ _).sat w)
     ·replace h1 := bif_f hb7 h1
      refine St.skip ?_
      refine St.blkN ?_
      refine St.thenN ?_
      refine St.prune (Γ' := [(0, _), (3, _)]) ⟨rfl, rfl, trivial⟩ (.k .z) ?_
      refine St.region ?_
      iterate 3 refine St.p rfl rfl ?_
      refine St.done ?_
      injection h1 with h1
      subst h1
      refine St.thenN ?_
      exact St.again _ () hm1 trivial ⟨rfl, rfl, trivial⟩ (fun _ w => ((.k .z) : Keep _ _).sat w)
   ·replace h1 := bif_f hb2 h1
    refine St.exit ?_
    repeat (first | refine St.thenX ?_ | refine St.blkMiss rfl ?_)
    refine St.blkHit ?_
    injection h1 with h1
    subst h1
    have ho := hd1 _ rfl
    subst ho
    refine St.thenN ?_
    exact St.hereI () () rfl trivial (fun _ w => ((.d .z) : Keep _ _).sat w)
  ·rintro o2 e2 ho
   subst ho
   have h : _ = some _ := h
   refine St.seq ?_
   refine St.region ?_
   refine St.p rfl rfl ?_
   refine St.done ?_
   refine St.thenN ?_
   refine St.ret ?_
   repeat (first | refine St.thenR ?_ | refine St.blkR ?_)
   injection h with h
   subst h
   exact St.finR Try.results40 (.tmp rfl .nil) rfl [] ⟨rfl, rfl⟩ (fun _ w => (.z : Keep _ _).sat w)

theorem ent14 : Ent Try.prog 14 := ⟨_, Try.func14, by kernel_rfl, by kernel_rfl⟩

noncomputable def m_ref28_Valid (b_p0 : T_Bundle) : Option Int :=
 bnd ((bif decide ((b_p0.Images.length : Int) < 1) then (some true) else (some (decide ((b_p0.Images.length : Int) > 8))) : Option Bool)) fun o1 => bif o1 then (some 2) else (bnd (loopM (τ := Int ⊕ Unit) (fun (s1 : Int) => bif decide (s1 < (b_p0.Images.length : Int)) then (bnd (elt b_p0.Images s1) fun x1 => bnd (m_ref28_Right x1) fun r1 => bif !r1 then (some (.done (.inl 1))) else (bnd ((bif decide (s1 > 0) then (bnd (elt b_p0.Images (IntKind.wrap .i64 (s1 - 1))) fun x2 => some (!(Op.bytesLess x2.Name.toList x1.Name.toList))) else (some false) : Option Bool)) fun o4 => bif o4 then (some (.done (.inl 7))) else (some (.next (IntKind.wrap .i64 (s1 + 1)))))) else (some (.done (.inr ())))) 0) fun o2 => retOr o2 fun o3 => bif decide ((b_p0.Needs.length : Int) > 16) then (some 3) else (bnd (m_ref27_Needs b_p0.Needs) fun r2 => bif !r2 then (some 1) else (some 0)))

set_option maxHeartbeats 4000000 in
theorem c_ref28_Valid {b_p0 : T_Bundle} {A1 : Option Addr} {c1 : Nat} {A2 : Option Addr} {c2 : Nat} {r : Int} (h : m_ref28_Valid b_p0 = some r) :
  Fun Try.prog 14 [.agg #[.slice A1 b_p0.Images.length c1, .slice A2 b_p0.Needs.length c2]] [.ro (Sl (codL l_T_Image) A1 c1 b_p0.Images), .ro (SlL e_Need A2 c2 b_p0.Needs)] (Val (.int .i64 r)) := by
 unfold m_ref28_Valid at h
 refine Fun.intro Try.func14 rfl rfl rfl fun w R => ?_
 refine St.seq ?_
 refine St.region ?_
 refine St.box rfl rfl fun g1 => ?_
 refine St.p rfl rfl ?_
 refine St.done ?_
 refine St.thenN ?_
 refine St.prune (Γ' := [(1, _)]) ⟨rfl, trivial⟩ (.k (.k (.k .z))) ?_
 refine St.seq ?_
 refine St.seq ?_
 obtain ⟨o1, hj1, h⟩ := bnd_e h
 refine St.cutE (fun (e1 : Unit) => [(1, .pointer (some ⟨g1, 0, none⟩)), (13, .bool o1)]) (fun e1 => .res (Box g1 26 [.slice A1 b_p0.Images.length c1, .slice A2 b_p0.Needs.length c2]) :: .ro (Sl (codL l_T_Image) A1 c1 b_p0.Images) :: .ro (SlL e_Need A2 c2 b_p0.Needs) :: R) ?_ ?_
 ·refine St.region ?_
  refine St.p rfl rfl ?_
  refine St.loadB 0 rfl rfl (.head _) rfl rfl ?_
  iterate 3 refine St.p rfl rfl ?_
  refine St.gSplit (dj := 8) _ rfl (fun hb1 => ?_) (fun hb1 => ?_)
  ·replace hj1 := bif_t hb1 hj1
   refine St.gOff (dj := 8) rfl rfl rfl rfl ?_
   refine St.gOff (dj := 8) rfl rfl rfl rfl ?_
   refine St.gOff (dj := 8) rfl rfl rfl rfl ?_
   refine St.gOff (dj := 8) rfl rfl rfl rfl ?_
   refine St.p rfl rfl ?_
   refine St.done ?_
   injection hj1 with hj1
   subst hj1
   refine St.thenN ?_
   exact St.hereE () ⟨rfl, rfl, trivial⟩ (fun _ w => ((.k (.k (.k .z))) : Keep _ _).sat w)
  ·replace hj1 := bif_f hb1 hj1
   refine St.gOn (dj := 8) rfl rfl ?_
   refine St.p rfl rfl ?_
   refine St.gOn (dj := 8) rfl rfl ?_
   refine St.loadB 0 rfl rfl (.head _) rfl rfl ?_
   refine St.gOn (dj := 8) rfl rfl ?_
   refine St.p rfl rfl ?_
   refine St.gOn (dj := 8) rfl rfl ?_
   refine St.p rfl rfl ?_
   refine St.p rfl rfl ?_
   refine St.done ?_
   injection hj1 with hj1
   subst hj1
   refine St.thenN ?_
   exact St.hereE () ⟨rfl, rfl, trivial⟩ (fun _ w => ((.k (.k (.k .z))) : Keep _ _).sat w)
 ·rintro e1
  refine St.cond _ rfl (fun hb2 => ?_) (fun hb2 => ?_)
  ·replace h := bif_t hb2 h
   refine St.seq ?_
   refine St.region ?_
   refine St.p rfl rfl ?_
   refine St.done ?_
   refine St.thenN ?_
   refine St.prune (Γ' := [(2, _)]) ⟨rfl, trivial⟩ (.d (.d (.d .z))) ?_
   refine St.ret ?_
   repeat (first | refine St.thenR ?_ | refine St.blkR ?_)
   injection h with h
   subst h
   exact St.finR Try.results14 (.tmp rfl .nil) rfl [] ⟨rfl, rfl⟩ (fun _ w => (.z : Keep _ _).sat w)
  ·replace h := bif_f hb2 h
   refine St.skip ?_
   refine St.thenN ?_
   refine St.prune (Γ' := [(1, _)]) ⟨rfl, trivial⟩ (.k (.k (.k .z))) ?_
   refine St.seq ?_
   refine St.seq ?_
   refine St.region ?_
   refine St.p rfl rfl ?_
   refine St.done ?_
   refine St.thenN ?_
   obtain ⟨o2, hl1, h⟩ := bnd_e h
   refine St.cutI (fun (o3 : Unit) (e3 : Unit) => [(1, .pointer (some ⟨g1, 0, none⟩))]) (fun o3 e3 => .res (Box g1 26 [.slice A1 b_p0.Images.length c1, .slice A2 b_p0.Needs.length c2]) :: .ro (Sl (codL l_T_Image) A1 c1 b_p0.Images) :: .ro (SlL e_Need A2 c2 b_p0.Needs) :: R) (fun o3 => o2 = .inr o3) ?_ ?_
   ·refine St.block ?_
    refine St.loop hl1 (fun (s1 : Int) (e2 : Unit) => [(1, .pointer (some ⟨g1, 0, none⟩)), (3, .int .i64 s1)]) (fun s1 e2 => .res (Box g1 26 [.slice A1 b_p0.Images.length c1, .slice A2 b_p0.Needs.length c2]) :: .ro (Sl (codL l_T_Image) A1 c1 b_p0.Images) :: .ro (SlL e_Need A2 c2 b_p0.Needs) :: R) (fun _ _ => True) () trivial ⟨rfl, rfl, trivial⟩ (fun _ w => ((.k (.k (.k .z))) : Keep _ _).sat w) ?_
    rintro s1 e2 - hit1
    obtain ⟨st1, hm1, hd1⟩ := iter_e hit1
    have h1 := hm1
    refine St.seq ?_
    refine St.seq ?_
    refine St.region ?_
    refine St.p rfl rfl ?_
    refine St.p rfl rfl ?_
    refine St.loadB 0 rfl rfl (.head _) rfl rfl ?_
    refine St.p rfl rfl ?_
    refine St.p rfl rfl ?_
    refine St.done ?_
    refine St.thenN ?_
    refine St.prune (Γ' := [(1, _), (3, _), (18, _)]) ⟨rfl, rfl, rfl, trivial⟩ (.k (.k (.k .z))) ?_
    refine St.cond _ rfl (fun hb3 => ?_) (fun hb3 => ?_)
    ·replace h1 := bif_t hb3 h1
     refine St.skip ?_
     refine St.thenN ?_
     refine St.prune (Γ' := [(1, _), (3, _)]) ⟨rfl, rfl, trivial⟩ (.k (.k (.k .z))) ?_
     refine St.seq ?_
     refine St.block ?_
     refine St.seq ?_
     refine St.seq ?_
     refine St.region ?_
     refine St.p rfl rfl ?_
     refine St.loadB 0 rfl rfl (.head _) rfl rfl ?_
     refine St.p rfl rfl ?_
     obtain ⟨x1, hx1, h1⟩ := bnd_e h1
     refine St.ixN hx1 rfl rfl rfl (.tail _ (.head _)) rfl rfl rfl rfl rfl fun b1 ob1 ex1 => ?_
     obtain ⟨⟨A3, c3⟩, _⟩ := ex1
     refine St.asrt (F' := .ro (Cells b1 ob1 (bx_T_Image x1 A3 c3)) :: .ro (SlL eu8 A3 c3 x1.Data) :: .res (Box g1 26 [.slice A1 b_p0.Images.length c1, .slice A2 b_p0.Needs.length c2]) :: .ro (Sl (codL l_T_Image) A1 c1 b_p0.Images) :: .ro (SlL e_Need A2 c2 b_p0.Needs) :: R) (fun _ w => w) ?_
     refine St.load ob1 0 rfl rfl (.head _) rfl rfl ?_
     obtain ⟨r1, hr1, h1⟩ := bnd_e h1
     refine St.callV (c_ref28_Right hr1) ent18 rfl rfl rfl rfl ⟨(.tail _ (.head _)), trivial⟩ ?_
     refine St.p rfl rfl ?_
     refine St.done ?_
     refine St.thenN ?_
     refine St.prune (Γ' := [(1, _), (3, _), (27, _)]) ⟨rfl, rfl, rfl, trivial⟩ (.d (.d (.k (.k (.k .z))))) ?_
     refine St.cond _ rfl (fun hb4 => ?_) (fun hb4 => ?_)
     ·replace h1 := bif_t hb4 h1
      refine St.seq ?_
      refine St.region ?_
      refine St.p rfl rfl ?_
      refine St.done ?_
      refine St.thenN ?_
      refine St.prune (Γ' := [(2, _)]) ⟨rfl, trivial⟩ (.d (.d (.d .z))) ?_
      refine St.ret ?_
      repeat (first | refine St.thenR ?_ | refine St.blkR ?_)
      injection h1 with h1
      subst h1
      have ho := hd1 _ rfl
      subst ho
      have h : some _ = some _ := h
      injection h with h
      subst h
      exact St.finR Try.results14 (.tmp rfl .nil) rfl [] ⟨rfl, rfl⟩ (fun _ w => (.z : Keep _ _).sat w)
     ·replace h1 := bif_f hb4 h1
      refine St.skip ?_
      refine St.thenN ?_
      refine St.prune (Γ' := [(1, _), (3, _)]) ⟨rfl, rfl, trivial⟩ (.k (.k (.k .z))) ?_
      refine St.seq ?_
      obtain ⟨o4, hj2, h1⟩ := bnd_e h1
      refine St.cutE (fun (e4 : Unit) => [(1, .pointer (some ⟨g1, 0, none⟩)), (3, .int .i64 s1), (45, .bool o4)]) (fun e4 => .res (Box g1 26 [.slice A1 b_p0.Images.length c1, .slice A2 b_p0.Needs.length c2]) :: .ro (Sl (codL l_T_Image) A1 c1 b_p0.Images) :: .ro (SlL e_Need A2 c2 b_p0.Needs) :: R) ?_ ?_
      ·refine St.regionF mixed (by kernel_rfl) ?_
       iterate 3 refine St.p rfl rfl ?_
       refine St.gSplit (dj := 30) _ rfl (fun hb5 => ?_) (fun hb5 => ?_)
       ·replace hj2 := bif_t hb5 hj2
        refine St.gOn (dj := 30) rfl rfl ?_
        refine St.p rfl rfl ?_
        refine St.gOn (dj := 30) rfl rfl ?_
        refine St.loadB 0 rfl rfl (.head _) rfl rfl ?_
        refine St.gOn (dj := 30) rfl rfl ?_
        refine St.p rfl rfl ?_
        refine St.gOn (dj := 30) rfl rfl ?_
        refine St.p rfl rfl ?_
        refine St.gOn (dj := 30) rfl rfl ?_
        obtain ⟨x2, hx2, hj2⟩ := bnd_e hj2
        refine St.ixN hx2 rfl rfl rfl (.tail _ (.head _)) rfl rfl rfl rfl rfl fun b2 ob2 ex2 => ?_
        obtain ⟨⟨A4, c4⟩, _⟩ := ex2
        refine St.asrt (F' := .ro (Cells b2 ob2 (bx_T_Image x2 A4 c4)) :: .ro (SlL eu8 A4 c4 x2.Data) :: .res (Box g1 26 [.slice A1 b_p0.Images.length c1, .slice A2 b_p0.Needs.length c2]) :: .ro (Sl (codL l_T_Image) A1 c1 b_p0.Images) :: .ro (SlL e_Need A2 c2 b_p0.Needs) :: R) (fun _ w => w) ?_
        refine St.gOn (dj := 30) rfl rfl ?_
        refine St.p rfl rfl ?_
        refine St.gOn (dj := 30) rfl rfl ?_
        refine St.load ob2 0 rfl rfl (.head _) rfl rfl ?_
        refine St.gOn (dj := 30) rfl rfl ?_
        refine St.p rfl rfl ?_
        refine St.gOn (dj := 30) rfl rfl ?_
        refine St.loadB 0 rfl rfl (.tail _ (.tail _ (.head _))) rfl rfl ?_
        refine St.gOn (dj := 30) rfl rfl ?_
        refine St.p rfl rfl ?_
        refine St.gOn (dj := 30) rfl rfl ?_
        refine St.ixN hx1 rfl rfl rfl (.tail _ (.tail _ (.tail _ (.head _)))) rfl rfl rfl rfl rfl fun b3 ob3 ex3 => ?_
        obtain ⟨⟨A5, c5⟩, _⟩ := ex3
        refine St.asrt (F' := .ro (Cells b3 ob3 (bx_T_Image x1 A5 c5)) :: .ro (SlL eu8 A5 c5 x1.Data) :: .ro (Cells b2 ob2 (bx_T_Image x2 A4 c4)) :: .ro (SlL eu8 A4 c4 x2.Data) :: .res (Box g1 26 [.slice A1 b_p0.Images.length c1, .slice A2 b_p0.Needs.length c2]) :: .ro (Sl (codL l_T_Image) A1 c1 b_p0.Images) :: .ro (SlL e_Need A2 c2 b_p0.Needs) :: R) (fun _ w => w) ?_
        refine St.gOn (dj := 30) rfl rfl ?_
        refine St.p rfl rfl ?_
        refine St.gOn (dj := 30) rfl rfl ?_
        refine St.load ob3 0 rfl rfl (.head _) rfl rfl ?_
        refine St.gOn (dj := 30) rfl rfl ?_
        refine St.p rfl rfl ?_
        refine St.p rfl rfl ?_
        refine St.doneQ ?_
        injection hj2 with hj2
        subst hj2
        refine St.thenN ?_
        exact St.hereE () ⟨rfl, rfl, rfl, trivial⟩ (fun _ w => ((.d (.d (.d (.d (.k (.k (.k .z))))))) : Keep _ _).sat w)
       ·replace hj2 := bif_f hb5 hj2
        refine St.gOff (dj := 30) rfl rfl rfl rfl ?_
        refine St.gOff (dj := 30) rfl rfl rfl rfl ?_
        refine St.gOff (dj := 30) rfl rfl rfl rfl ?_
        refine St.gOff (dj := 30) rfl rfl rfl rfl ?_
        refine St.gOff (dj := 30) rfl rfl rfl rfl ?_
        refine St.gOff (dj := 30) rfl rfl rfl rfl ?_
        refine St.gOff (dj := 30) rfl rfl rfl rfl ?_
        refine St.gOff (dj := 30) rfl rfl rfl rfl ?_
        refine St.gOff (dj := 30) rfl rfl rfl rfl ?_
        refine St.gOff (dj := 30) rfl rfl rfl rfl ?_
        refine St.gOff (dj := 30) rfl rfl rfl rfl ?_
        refine St.gOff (dj := 30) rfl rfl rfl rfl ?_
        refine St.gOff (dj := 30) rfl rfl rfl rfl ?_
        refine St.gOff (dj := 30) rfl rfl rfl rfl ?_
        refine St.p rfl rfl ?_
        refine St.doneQ ?_
        injection hj2 with hj2
        subst hj2
        refine St.thenN ?_
        exact St.hereE () ⟨rfl, rfl, rfl, trivial⟩ (fun _ w => ((.k (.k (.k .z))) : Keep _ _).sat w)
      ·rintro e4
       refine St.cond _ rfl (fun hb6 => ?_) (fun hb6 => ?_)
       ·replace h1 := bif_t hb6 h1
        refine St.seq ?_
        refine St.region ?_
        refine St.p rfl rfl ?_
        refine St.done ?_
        refine St.thenN ?_
        refine St.prune (Γ' := [(2, _)]) ⟨rfl, trivial⟩ (.d (.d (.d .z))) ?_
        refine St.ret ?_
        repeat (first | refine St.thenR ?_ | refine St.blkR ?_)
        injection h1 with h1
        subst h1
        have ho := hd1 _ rfl
        subst ho
        have h : some _ = some _ := h
        injection h with h
        subst h
        exact St.finR Try.results14 (.tmp rfl .nil) rfl [] ⟨rfl, rfl⟩ (fun _ w => (.z : Keep _ _).sat w)
       ·replace h1 := bif_f hb6 h1
        refine St.skip ?_
        refine St.blkN ?_
        refine St.thenN ?_
        refine St.prune (Γ' := [(1, _), (3, _)]) ⟨rfl, rfl, trivial⟩ (.k (.k (.k .z))) ?_
        refine St.region ?_
        iterate 3 refine St.p rfl rfl ?_
        refine St.done ?_
        injection h1 with h1
        subst h1
        refine St.thenN ?_
        exact St.again _ () hm1 trivial ⟨rfl, rfl, trivial⟩ (fun _ w => ((.k (.k (.k .z))) : Keep _ _).sat w)
    ·replace h1 := bif_f hb3 h1
     refine St.exit ?_
     repeat (first | refine St.thenX ?_ | refine St.blkMiss rfl ?_)
     refine St.blkHit ?_
     injection h1 with h1
     subst h1
     have ho := hd1 _ rfl
     subst ho
     refine St.thenN ?_
     exact St.hereI () () rfl ⟨rfl, trivial⟩ (fun _ w => ((.k (.k (.k .z))) : Keep _ _).sat w)
   ·rintro o3 e3 ho
    subst ho
    have h : _ = some _ := h
    refine St.seq ?_
    refine St.block ?_
    refine St.seq ?_
    refine St.region ?_
    refine St.p rfl rfl ?_
    refine St.loadB 1 rfl rfl (.head _) rfl rfl ?_
    iterate 3 refine St.p rfl rfl ?_
    refine St.done ?_
    refine St.thenN ?_
    refine St.prune (Γ' := [(1, _), (46, _)]) ⟨rfl, rfl, trivial⟩ (.k (.k (.k .z))) ?_
    refine St.cond _ rfl (fun hb7 => ?_) (fun hb7 => ?_)
    ·replace h := bif_t hb7 h
     refine St.seq ?_
     refine St.region ?_
     refine St.p rfl rfl ?_
     refine St.done ?_
     refine St.thenN ?_
     refine St.prune (Γ' := [(2, _)]) ⟨rfl, trivial⟩ (.d (.d (.d .z))) ?_
     refine St.ret ?_
     repeat (first | refine St.thenR ?_ | refine St.blkR ?_)
     injection h with h
     subst h
     exact St.finR Try.results14 (.tmp rfl .nil) rfl [] ⟨rfl, rfl⟩ (fun _ w => (.z : Keep _ _).sat w)
    ·replace h := bif_f hb7 h
     refine St.seq ?_
     refine St.region ?_
     refine St.p rfl rfl ?_
     refine St.loadB 1 rfl rfl (.head _) rfl rfl ?_
     obtain ⟨r2, hr2, h⟩ := bnd_e h
     refine St.callV (c_ref27_Needs hr2) ent40 rfl rfl rfl rfl ⟨(.tail _ (.tail _ (.head _))), trivial⟩ ?_
     refine St.p rfl rfl ?_
     refine St.p rfl rfl ?_
     refine St.done ?_
     refine St.thenN ?_
     refine St.prune (Γ' := [(51, _)]) ⟨rfl, trivial⟩ (.d (.d (.d .z))) ?_
     refine St.cond _ rfl (fun hb8 => ?_) (fun hb8 => ?_)
     ·replace h := bif_t hb8 h
      refine St.seq ?_
      refine St.region ?_
      refine St.p rfl rfl ?_
      refine St.done ?_
      refine St.thenN ?_
      refine St.prune (Γ' := [(2, _)]) ⟨rfl, trivial⟩ .z ?_
      refine St.ret ?_
      repeat (first | refine St.thenR ?_ | refine St.blkR ?_)
      injection h with h
      subst h
      exact St.finR Try.results14 (.tmp rfl .nil) rfl [] ⟨rfl, rfl⟩ (fun _ w => (.z : Keep _ _).sat w)
     ·replace h := bif_f hb8 h
      refine St.skip ?_
      refine St.blkN ?_
      refine St.thenN ?_
      refine St.prune (Γ' := []) trivial .z ?_
      refine St.seq ?_
      refine St.region ?_
      refine St.p rfl rfl ?_
      refine St.done ?_
      refine St.thenN ?_
      refine St.ret ?_
      repeat (first | refine St.thenR ?_ | refine St.blkR ?_)
      injection h with h
      subst h
      exact St.finR Try.results14 (.tmp rfl .nil) rfl [] ⟨rfl, rfl⟩ (fun _ w => (.z : Keep _ _).sat w)

theorem ent36 : Ent Try.prog 36 := ⟨_, Try.func36, by kernel_rfl, by kernel_rfl⟩

noncomputable def m_ref28_name (s_p0 : ByteArray) : Option (List Int) :=
 bnd (app 1 ([IntKind.wrap .u8 (s_p0.size : Int)]) (bytesOf s_p0)) fun l1 => some l1

theorem c_ref28_name {s_p0 : ByteArray} {r : (List Int)} (h : m_ref28_name s_p0 = some r) :
  Fun Try.prog 36 [.string s_p0] [] (fun v_ F_ => ∃ (A1 : Option Addr) (c1 : Nat), v_ = .slice A1 r.length c1 ∧ F_ = [.res (OwnL eu8 5 A1 c1 r)]) := by
 unfold m_ref28_name at h
 refine Fun.intro Try.func36 rfl rfl rfl fun w R => ?_
 refine St.seq ?_
 refine St.region ?_
 refine St.p rfl rfl ?_
 refine St.done ?_
 refine St.thenN ?_
 refine St.prune (Γ' := [(0, _)]) ⟨rfl, trivial⟩ .z ?_
 refine St.seq ?_
 refine St.region ?_
 iterate 3 refine St.p rfl rfl ?_
 refine St.buildSlice rfl rfl rfl rfl rfl rfl rfl rfl fun g1 => ?_
 refine St.p rfl rfl ?_
 refine St.asrt (fun _ w => (w.front .z).litL (E := eu8) (e := 5) [IntKind.wrap .u8 (s_p0.size : Int)] rfl rfl) ?_
 obtain ⟨l1, hl1, h⟩ := bnd_e h
 refine St.app (E := eu8) hl1 rfl rfl rfl .z rfl rfl rfl rfl rfl rfl rfl (by simp [bytesOf, ByteArray.toList_eq]) (srcS s_p0) rfl rfl fun A1 c1 => ?_
 refine St.p rfl rfl ?_
 refine St.done ?_
 refine St.thenN ?_
 refine St.prune (Γ' := [(2, _)]) ⟨rfl, trivial⟩ (.k .z) ?_
 refine St.ret ?_
 repeat (first | refine St.thenR ?_ | refine St.blkR ?_)
 injection h with h
 subst h
 exact St.finR Try.results36 (.tmp rfl .nil) rfl [.res (OwnL eu8 5 A1 c1 l1)] ⟨A1, c1, rfl, rfl⟩ (fun _ w => ((.k .z) : Keep _ _).sat w)

theorem ent63 : Ent Try.prog 63 := ⟨_, Try.func63, by kernel_rfl, by kernel_rfl⟩

noncomputable def m_ref28_two (n_p0 : Int) : Option (List Int) :=
 some ([IntKind.wrap .u8 (iShr .i64 n_p0 8), IntKind.wrap .u8 n_p0])

theorem c_ref28_two {n_p0 : Int} {r : (List Int)} (h : m_ref28_two n_p0 = some r) :
  Fun Try.prog 63 [.int .i64 n_p0] [] (fun v_ F_ => ∃ (A1 : Option Addr) (c1 : Nat), v_ = .slice A1 r.length c1 ∧ F_ = [.res (OwnL eu8 5 A1 c1 r)]) := by
 unfold m_ref28_two at h
 refine Fun.intro Try.func63 rfl rfl rfl fun w R => ?_
 refine St.seq ?_
 refine St.region ?_
 refine St.p rfl rfl ?_
 refine St.done ?_
 refine St.thenN ?_
 refine St.prune (Γ' := [(0, _)]) ⟨rfl, trivial⟩ .z ?_
 refine St.seq ?_
 refine St.region ?_
 iterate 5 refine St.p rfl rfl ?_
 refine St.buildSlice rfl rfl rfl rfl rfl rfl rfl rfl fun g1 => ?_
 refine St.p rfl rfl ?_
 refine St.done ?_
 refine St.thenN ?_
 refine St.prune (Γ' := [(2, _)]) ⟨rfl, trivial⟩ (.k .z) ?_
 refine St.ret ?_
 repeat (first | refine St.thenR ?_ | refine St.blkR ?_)
 refine St.asrt (fun _ w => (w.front .z).litL (E := eu8) (e := 5) [IntKind.wrap .u8 (iShr .i64 n_p0 8), IntKind.wrap .u8 n_p0] rfl rfl) ?_
 injection h with h
 subst h
 exact St.finR Try.results63 (.tmp rfl .nil) rfl [.res (OwnL eu8 5 (some ⟨g1, 0, none⟩) ([IntKind.wrap .u8 (iShr .i64 n_p0 8), IntKind.wrap .u8 n_p0] : List Int).length ([IntKind.wrap .u8 (iShr .i64 n_p0 8), IntKind.wrap .u8 n_p0]))] ⟨(some ⟨g1, 0, none⟩), ([IntKind.wrap .u8 (iShr .i64 n_p0 8), IntKind.wrap .u8 n_p0] : List Int).length, rfl, rfl⟩ (fun _ w => ((.k .z) : Keep _ _).sat w)

theorem ent37 : Ent Try.prog 37 := ⟨_, Try.func37, by kernel_rfl, by kernel_rfl⟩

noncomputable def m_ref28_version (v_p0 : T_Version) : Option (List Int) :=
 bnd (m_ref28_two v_p0.Major) fun r1 => bnd (m_ref28_two v_p0.Minor) fun r2 => bnd (app 1 r1 r2) fun l1 => bnd (m_ref28_two v_p0.Patch) fun r3 => bnd (app 1 l1 r3) fun l2 => some l2

theorem c_ref28_version {v_p0 : T_Version} {r : (List Int)} (h : m_ref28_version v_p0 = some r) :
  Fun Try.prog 37 [.agg #[.int .i64 v_p0.Major, .int .i64 v_p0.Minor, .int .i64 v_p0.Patch]] [] (fun v_ F_ => ∃ (A1 : Option Addr) (c1 : Nat), v_ = .slice A1 r.length c1 ∧ F_ = [.res (OwnL eu8 5 A1 c1 r)]) := by
 unfold m_ref28_version at h
 refine Fun.intro Try.func37 rfl rfl rfl fun w R => ?_
 refine St.seq ?_
 refine St.region ?_
 refine St.box rfl rfl fun g1 => ?_
 refine St.p rfl rfl ?_
 refine St.done ?_
 refine St.thenN ?_
 refine St.prune (Γ' := [(1, _)]) ⟨rfl, trivial⟩ (.k .z) ?_
 refine St.seq ?_
 refine St.regionX (iL [(.fl, 0), (.fx, 1), (.fl, 3), (.fl, 4), (.fl, 7), (.fl, 8), (.ef, 2), (.ef, 5), (.ef, 6), (.ef, 9), (.ef, 10), (.fl, 11)] .nil) (.res (Box g1 39 [.int .i64 v_p0.Major, .int .i64 v_p0.Minor, .int .i64 v_p0.Patch]) :: R) mixed (by kernel_rfl) (fun _ w => ((.k .z) : Keep _ _).sat w) ?_
 refine St.xfl (fun _ h => h) (Rd.p rfl) rfl ?_
 refine St.xfx (Rd.loadB 0 rfl (.head _) rfl rfl) rfl ?_
 refine St.xfl (fun _ h => h) (Rd.p rfl) rfl ?_
 refine St.xfl (fun _ h => h) (Rd.loadB 1 rfl (.head _) rfl rfl) rfl ?_
 refine St.xfl (fun _ h => h) (Rd.p rfl) rfl ?_
 refine St.xfl (fun _ h => h) (Rd.loadB 2 rfl (.head _) rfl rfl) rfl ?_
 refine St.xef ?_
 obtain ⟨r1, hr1, h⟩ := bnd_e h
 refine St.call (c_ref28_two hr1) ent63 rfl rfl rfl (fun _ w => w) ?_
 rintro _ _ ⟨A1, c1, rfl, rfl⟩
 refine St.asrt (F' := .res (OwnL eu8 5 A1 c1 r1) :: .res (Box g1 39 [.int .i64 v_p0.Major, .int .i64 v_p0.Minor, .int .i64 v_p0.Patch]) :: R) (fun _ w => w) ?_
 refine St.xk (fun _ w => ((.d (.k .z)) : Keep _ _).sat w) ?_
 refine St.xef ?_
 obtain ⟨r2, hr2, h⟩ := bnd_e h
 refine St.call (c_ref28_two hr2) ent63 rfl rfl rfl (fun _ w => w) ?_
 rintro _ _ ⟨A2, c2, rfl, rfl⟩
 refine St.asrt (F' := .res (OwnL eu8 5 A2 c2 r2) :: .res (OwnL eu8 5 A1 c1 r1) :: .res (Box g1 39 [.int .i64 v_p0.Major, .int .i64 v_p0.Minor, .int .i64 v_p0.Patch]) :: R) (fun _ w => w) ?_
 refine St.xk (fun _ w => ((.d (.d (.k .z))) : Keep _ _).sat w) ?_
 refine St.xef ?_
 refine St.asrt (fun _ w => (w.front .z).meltL) ?_
 obtain ⟨l1, hl1, h⟩ := bnd_e h
 refine St.app (E := eu8) hl1 rfl rfl rfl (.s .z) rfl rfl rfl rfl rfl rfl rfl rfl (srcL (.head _)) rfl rfl fun A3 c3 => ?_
 refine St.xk (fun _ w => ((.d (.d (.k .z))) : Keep _ _).sat w) ?_
 refine St.xef ?_
 obtain ⟨r3, hr3, h⟩ := bnd_e h
 refine St.call (c_ref28_two hr3) ent63 rfl rfl rfl (fun _ w => w) ?_
 rintro _ _ ⟨A4, c4, rfl, rfl⟩
 refine St.asrt (F' := .res (OwnL eu8 5 A4 c4 r3) :: .res (OwnL eu8 5 A3 c3 l1) :: .ro (SlL eu8 A2 c2 r2) :: .res (Box g1 39 [.int .i64 v_p0.Major, .int .i64 v_p0.Minor, .int .i64 v_p0.Patch]) :: R) (fun _ w => w) ?_
 refine St.xk (fun _ w => ((.d (.d (.d (.k .z)))) : Keep _ _).sat w) ?_
 refine St.xef ?_
 refine St.asrt (fun _ w => (w.front .z).meltL) ?_
 obtain ⟨l2, hl2, h⟩ := bnd_e h
 refine St.app (E := eu8) hl2 rfl rfl rfl (.s .z) rfl rfl rfl rfl rfl rfl rfl rfl (srcL (.head _)) rfl rfl fun A5 c5 => ?_
 refine St.xk (fun _ w => ((.d (.d (.d (.k .z)))) : Keep _ _).sat w) ?_
 refine St.xfl (fun _ h => h) (Rd.p rfl) rfl ?_
 refine St.xdone ?_
 refine St.thenN ?_
 refine St.prune (Γ' := [(2, _)]) ⟨rfl, trivial⟩ (.k (.d (.d (.d .z)))) ?_
 refine St.ret ?_
 repeat (first | refine St.thenR ?_ | refine St.blkR ?_)
 injection h with h
 subst h
 exact St.finR Try.results37 (.tmp rfl .nil) rfl [.res (OwnL eu8 5 A5 c5 l2)] ⟨A5, c5, rfl, rfl⟩ (fun _ w => ((.k .z) : Keep _ _).sat w)

theorem ent34 : Ent Try.prog 34 := ⟨_, Try.func34, by kernel_rfl, by kernel_rfl⟩

noncomputable def m_ref28_image (i_p0 : T_Image) : Option (List Int) :=
 bnd (m_ref28_name i_p0.Name) fun r1 => bnd (m_ref28_version i_p0.Version) fun r2 => bnd (app 1 r1 r2) fun l1 => bnd (m_ref28_two (i_p0.Data.length : Int)) fun r3 => bnd (app 1 l1 r3) fun l2 => bnd (app 1 l2 i_p0.Data) fun l3 => some l3

theorem c_ref28_image {i_p0 : T_Image} {A1 : Option Addr} {c1 : Nat} {r : (List Int)} (h : m_ref28_image i_p0 = some r) :
  Fun Try.prog 34 [.agg (bx_T_Image i_p0 A1 c1).toArray] [.ro (SlL eu8 A1 c1 i_p0.Data)] (fun v_ F_ => ∃ (A1 : Option Addr) (c1 : Nat), v_ = .slice A1 r.length c1 ∧ F_ = [.res (OwnL eu8 5 A1 c1 r)]) := by
 unfold m_ref28_image at h
 refine Fun.intro Try.func34 rfl rfl rfl fun w R => ?_
 refine St.seq ?_
 refine St.region ?_
 refine St.box rfl rfl fun g1 => ?_
 refine St.p rfl rfl ?_
 refine St.done ?_
 refine St.thenN ?_
 refine St.prune (Γ' := [(1, _)]) ⟨rfl, trivial⟩ (.k (.k .z)) ?_
 refine St.seq ?_
 refine St.regionX (iL [(.fl, 0), (.fx, 1), (.fl, 3), (.fl, 4), (.ef, 2), (.ef, 5), (.ef, 6), (.fl, 7)] .nil) (.res (Box g1 41 (bx_T_Image i_p0 A1 c1)) :: .ro (SlL eu8 A1 c1 i_p0.Data) :: R) mixed (by kernel_rfl) (fun _ w => ((.k (.k .z)) : Keep _ _).sat w) ?_
 refine St.xfl (fun _ h => h) (Rd.p rfl) rfl ?_
 refine St.xfx (Rd.loadB 0 rfl (.head _) rfl rfl) rfl ?_
 refine St.xfl (fun _ h => h) (Rd.p rfl) rfl ?_
 refine St.xfl (fun _ h => h) (Rd.loadB 1 rfl (.head _) rfl rfl) rfl ?_
 refine St.xef ?_
 obtain ⟨r1, hr1, h⟩ := bnd_e h
 refine St.call (c_ref28_name hr1) ent36 rfl rfl rfl (fun _ w => w) ?_
 rintro _ _ ⟨A2, c2, rfl, rfl⟩
 refine St.asrt (F' := .res (OwnL eu8 5 A2 c2 r1) :: .res (Box g1 41 (bx_T_Image i_p0 A1 c1)) :: .ro (SlL eu8 A1 c1 i_p0.Data) :: R) (fun _ w => w) ?_
 refine St.xk (fun _ w => ((.d (.k (.k .z))) : Keep _ _).sat w) ?_
 refine St.xef ?_
 obtain ⟨r2, hr2, h⟩ := bnd_e h
 refine St.call (c_ref28_version hr2) ent37 rfl rfl rfl (fun _ w => w) ?_
 rintro _ _ ⟨A3, c3, rfl, rfl⟩
 refine St.asrt (F' := .res (OwnL eu8 5 A3 c3 r2) :: .res (OwnL eu8 5 A2 c2 r1) :: .res (Box g1 41 (bx_T_Image i_p0 A1 c1)) :: .ro (SlL eu8 A1 c1 i_p0.Data) :: R) (fun _ w => w) ?_
 refine St.xk (fun _ w => ((.d (.d (.k (.k .z)))) : Keep _ _).sat w) ?_
 refine St.xef ?_
 refine St.asrt (fun _ w => (w.front .z).meltL) ?_
 obtain ⟨l1, hl1, h⟩ := bnd_e h
 refine St.app (E := eu8) hl1 rfl rfl rfl (.s .z) rfl rfl rfl rfl rfl rfl rfl rfl (srcL (.head _)) rfl rfl fun A4 c4 => ?_
 refine St.xk (fun _ w => ((.d (.d (.k (.k .z)))) : Keep _ _).sat w) ?_
 refine St.xfl (fun _ h => h) (Rd.p rfl) rfl ?_
 refine St.xdone ?_
 refine St.thenN ?_
 refine St.prune (Γ' := [(1, _), (3, _)]) ⟨rfl, rfl, trivial⟩ (.k (.d (.k (.k .z)))) ?_
 refine St.seq ?_
 refine St.region ?_
 refine St.p rfl rfl ?_
 refine St.p rfl rfl ?_
 refine St.loadB 4 rfl rfl (.tail _ (.head _)) rfl rfl ?_
 refine St.p rfl rfl ?_
 obtain ⟨r3, hr3, h⟩ := bnd_e h
 refine St.call (c_ref28_two hr3) ent63 rfl rfl rfl (fun _ w => w) ?_
 rintro _ _ ⟨A5, c5, rfl, rfl⟩
 refine St.asrt (F' := .res (OwnL eu8 5 A5 c5 r3) :: .res (OwnL eu8 5 A4 c4 l1) :: .res (Box g1 41 (bx_T_Image i_p0 A1 c1)) :: .ro (SlL eu8 A1 c1 i_p0.Data) :: R) (fun _ w => w) ?_
 refine St.asrt (fun _ w => (w.front .z).meltL) ?_
 obtain ⟨l2, hl2, h⟩ := bnd_e h
 refine St.app (E := eu8) hl2 rfl rfl rfl (.s .z) rfl rfl rfl rfl rfl rfl rfl rfl (srcL (.head _)) rfl rfl fun A6 c6 => ?_
 refine St.p rfl rfl ?_
 refine St.done ?_
 refine St.thenN ?_
 refine St.prune (Γ' := [(1, _), (3, _)]) ⟨rfl, rfl, trivial⟩ (.k (.d (.k (.k .z)))) ?_
 refine St.seq ?_
 refine St.region ?_
 refine St.p rfl rfl ?_
 refine St.p rfl rfl ?_
 refine St.loadB 4 rfl rfl (.tail _ (.head _)) rfl rfl ?_
 obtain ⟨l3, hl3, h⟩ := bnd_e h
 refine St.app (E := eu8) hl3 rfl rfl rfl .z rfl rfl rfl rfl rfl rfl rfl rfl (srcL (.tail _ (.tail _ (.head _)))) rfl rfl fun A7 c7 => ?_
 refine St.p rfl rfl ?_
 refine St.done ?_
 refine St.thenN ?_
 refine St.prune (Γ' := [(2, _)]) ⟨rfl, trivial⟩ (.k (.d (.d .z))) ?_
 refine St.ret ?_
 repeat (first | refine St.thenR ?_ | refine St.blkR ?_)
 injection h with h
 subst h
 exact St.finR Try.results34 (.tmp rfl .nil) rfl [.res (OwnL eu8 5 A7 c7 l3)] ⟨A7, c7, rfl, rfl⟩ (fun _ w => ((.k .z) : Keep _ _).sat w)

theorem ent38 : Ent Try.prog 38 := ⟨_, Try.func38, by kernel_rfl, by kernel_rfl⟩

noncomputable def m_ref01_CRC32 (b_p0 : (List Int)) : Option Int :=
 bnd (loopM (τ := Int) (fun (s1 : Int × Int) => bif decide (s1.2 < (b_p0.length : Int)) then (bnd (elt b_p0 s1.2) fun x1 => bnd (loopM (τ := Int) (fun (s2 : Int × Int) => bif decide (s2.2 < 8) then (bif ((s2.1.tmod 2) == 1) then (some (.next (iXor .u32 (IntKind.wrap .u32 (s2.1.tdiv 2)) 3988292384, IntKind.wrap .i64 (s2.2 + 1)))) else (some (.next (IntKind.wrap .u32 (s2.1.tdiv 2), IntKind.wrap .i64 (s2.2 + 1))))) else (some (.done s2.1))) (iXor .u32 s1.1 (IntKind.wrap .u32 x1), 0)) fun o2 => some (.next (o2, IntKind.wrap .i64 (s1.2 + 1)))) else (some (.done s1.1))) (4294967295, 0)) fun o1 => some (IntKind.wrap .u32 (4294967295 - o1))

theorem c_ref01_CRC32 {b_p0 : (List Int)} {A1 : Option Addr} {c1 : Nat} {r : Int} (h : m_ref01_CRC32 b_p0 = some r) :
  Fun Try.prog 38 [.slice A1 b_p0.length c1] [.ro (SlL eu8 A1 c1 b_p0)] (Val (.int .u32 r)) := by
 unfold m_ref01_CRC32 at h
 refine Fun.intro Try.func38 rfl rfl rfl fun w R => ?_
 refine St.seq ?_
 refine St.region ?_
 refine St.p rfl rfl ?_
 refine St.done ?_
 refine St.thenN ?_
 refine St.prune (Γ' := [(0, _)]) ⟨rfl, trivial⟩ (.k .z) ?_
 refine St.seq ?_
 refine St.region ?_
 refine St.p rfl rfl ?_
 refine St.done ?_
 refine St.thenN ?_
 refine St.seq ?_
 refine St.seq ?_
 refine St.region ?_
 refine St.p rfl rfl ?_
 refine St.done ?_
 refine St.thenN ?_
 obtain ⟨o1, hl1, h⟩ := bnd_e h
 refine St.cutE (fun (e2 : Unit) => [(3, .int .u32 o1)]) (fun e2 => R) ?_ ?_
 ·refine St.block ?_
  refine St.loop hl1 (fun (s1 : Int × Int) (e1 : Unit) => [(0, .slice A1 b_p0.length c1), (3, .int .u32 s1.1), (4, .int .i64 s1.2)]) (fun s1 e1 => .ro (SlL eu8 A1 c1 b_p0) :: R) (fun _ _ => True) () trivial ⟨rfl, rfl, rfl, trivial⟩ (fun _ w => ((.k .z) : Keep _ _).sat w) ?_
  rintro s1 e1 - hit1
  obtain ⟨st1, hm1, hd1⟩ := iter_e hit1
  have h1 := hm1
  refine St.seq ?_
  refine St.seq ?_
  refine St.region ?_
  iterate 4 refine St.p rfl rfl ?_
  refine St.done ?_
  refine St.thenN ?_
  refine St.prune (Γ' := [(0, _), (3, _), (4, _), (10, _)]) ⟨rfl, rfl, rfl, rfl, trivial⟩ (.k .z) ?_
  refine St.cond _ rfl (fun hb1 => ?_) (fun hb1 => ?_)
  ·replace h1 := bif_t hb1 h1
   refine St.skip ?_
   refine St.thenN ?_
   refine St.prune (Γ' := [(0, _), (3, _), (4, _)]) ⟨rfl, rfl, rfl, trivial⟩ (.k .z) ?_
   refine St.seq ?_
   refine St.block ?_
   refine St.seq ?_
   refine St.region ?_
   iterate 3 refine St.p rfl rfl ?_
   obtain ⟨x1, hx1, h1⟩ := bnd_e h1
   refine St.ixL hx1 rfl rfl rfl (.head _) rfl rfl rfl rfl rfl fun b1 ob1 => ?_
   refine St.load ob1 0 rfl rfl (.head _) rfl rfl ?_
   iterate 3 refine St.p rfl rfl ?_
   refine St.done ?_
   refine St.thenN ?_
   refine St.prune (Γ' := [(0, _), (3, _), (4, _)]) ⟨rfl, rfl, rfl, trivial⟩ (.d (.k .z)) ?_
   refine St.seq ?_
   refine St.region ?_
   refine St.p rfl rfl ?_
   refine St.done ?_
   refine St.thenN ?_
   obtain ⟨o2, hl2, h1⟩ := bnd_e h1
   refine St.selfThen ?_
   refine St.cutE (fun (e4 : Unit) => [(0, .slice A1 b_p0.length c1), (3, .int .u32 o2), (4, .int .i64 s1.2)]) (fun e4 => .ro (SlL eu8 A1 c1 b_p0) :: R) ?_ ?_
   ·refine St.block ?_
    refine St.loop hl2 (fun (s2 : Int × Int) (e3 : Unit) => [(0, .slice A1 b_p0.length c1), (3, .int .u32 s2.1), (4, .int .i64 s1.2), (5, .int .i64 s2.2)]) (fun s2 e3 => .ro (SlL eu8 A1 c1 b_p0) :: R) (fun _ _ => True) () trivial ⟨rfl, rfl, rfl, rfl, trivial⟩ (fun _ w => ((.k .z) : Keep _ _).sat w) ?_
    rintro s2 e3 - hit2
    obtain ⟨st2, hm2, hd2⟩ := iter_e hit2
    have h2 := hm2
    refine St.seq ?_
    refine St.seq ?_
    refine St.region ?_
    refine St.p rfl rfl ?_
    refine St.p rfl rfl ?_
    refine St.done ?_
    refine St.thenN ?_
    refine St.prune (Γ' := [(0, _), (3, _), (4, _), (5, _), (21, _)]) ⟨rfl, rfl, rfl, rfl, rfl, trivial⟩ (.k .z) ?_
    refine St.cond _ rfl (fun hb2 => ?_) (fun hb2 => ?_)
    ·replace h2 := bif_t hb2 h2
     refine St.skip ?_
     refine St.thenN ?_
     refine St.prune (Γ' := [(0, _), (3, _), (4, _), (5, _)]) ⟨rfl, rfl, rfl, rfl, trivial⟩ (.k .z) ?_
     refine St.seq ?_
     refine St.block ?_
     refine St.seq ?_
     refine St.region ?_
     iterate 3 refine St.p rfl rfl ?_
     refine St.done ?_
     refine St.thenN ?_
     refine St.prune (Γ' := [(0, _), (3, _), (4, _), (5, _), (6, _)]) ⟨rfl, rfl, rfl, rfl, rfl, trivial⟩ (.k .z) ?_
     refine St.seq ?_
     refine St.region ?_
     iterate 3 refine St.p rfl rfl ?_
     refine St.done ?_
     refine St.thenN ?_
     refine St.prune (Γ' := [(0, _), (3, _), (4, _), (5, _), (6, _)]) ⟨rfl, rfl, rfl, rfl, rfl, trivial⟩ (.k .z) ?_
     refine St.seq ?_
     refine St.region ?_
     refine St.p rfl rfl ?_
     refine St.p rfl rfl ?_
     refine St.done ?_
     refine St.thenN ?_
     refine St.prune (Γ' := [(0, _), (3, _), (4, _), (5, _), (29, _)]) ⟨rfl, rfl, rfl, rfl, rfl, trivial⟩ (.k .z) ?_
     refine St.cond _ rfl (fun hb3 => ?_) (fun hb3 => ?_)
     ·replace h2 := bif_t hb3 h2
      refine St.region ?_
      iterate 3 refine St.p rfl rfl ?_
      refine St.done ?_
      refine St.blkN ?_
      refine St.thenN ?_
      refine St.prune (Γ' := [(0, _), (3, _), (4, _), (5, _)]) ⟨rfl, rfl, rfl, rfl, trivial⟩ (.k .z) ?_
      refine St.region ?_
      iterate 3 refine St.p rfl rfl ?_
      refine St.done ?_
      injection h2 with h2
      subst h2
      refine St.thenN ?_
      exact St.again _ () hm2 trivial ⟨rfl, rfl, rfl, rfl, trivial⟩ (fun _ w => ((.k .z) : Keep _ _).sat w)
     ·replace h2 := bif_f hb3 h2
      refine St.skip ?_
      refine St.blkN ?_
      refine St.thenN ?_
      refine St.prune (Γ' := [(0, _), (3, _), (4, _), (5, _)]) ⟨rfl, rfl, rfl, rfl, trivial⟩ (.k .z) ?_
      refine St.region ?_
      iterate 3 refine St.p rfl rfl ?_
      refine St.done ?_
      injection h2 with h2
      subst h2
      refine St.thenN ?_
      exact St.again _ () hm2 trivial ⟨rfl, rfl, rfl, rfl, trivial⟩ (fun _ w => ((.k .z) : Keep _ _).sat w)
    ·replace h2 := bif_f hb2 h2
     refine St.exit ?_
     repeat (first | refine St.thenX ?_ | refine St.blkMiss rfl ?_)
     refine St.blkHit ?_
     injection h2 with h2
     subst h2
     have ho := hd2 _ rfl
     subst ho
     refine St.thenN ?_
     exact St.hereE () ⟨rfl, rfl, rfl, trivial⟩ (fun _ w => ((.k .z) : Keep _ _).sat w)
   ·rintro e4
    refine St.blkN ?_
    refine St.thenN ?_
    refine St.region ?_
    iterate 3 refine St.p rfl rfl ?_
    refine St.done ?_
    injection h1 with h1
    subst h1
    refine St.thenN ?_
    exact St.again _ () hm1 trivial ⟨rfl, rfl, rfl, trivial⟩ (fun _ w => ((.k .z) : Keep _ _).sat w)
  ·replace h1 := bif_f hb1 h1
   refine St.exit ?_
   repeat (first | refine St.thenX ?_ | refine St.blkMiss rfl ?_)
   refine St.blkHit ?_
   injection h1 with h1
   subst h1
   have ho := hd1 _ rfl
   subst ho
   refine St.thenN ?_
   exact St.hereE () ⟨rfl, trivial⟩ (fun _ w => ((.d .z) : Keep _ _).sat w)
 ·rintro e2
  refine St.seq ?_
  refine St.region ?_
  iterate 3 refine St.p rfl rfl ?_
  refine St.done ?_
  refine St.thenN ?_
  refine St.prune (Γ' := [(2, _)]) ⟨rfl, trivial⟩ .z ?_
  refine St.ret ?_
  repeat (first | refine St.thenR ?_ | refine St.blkR ?_)
  injection h with h
  subst h
  exact St.finR Try.results38 (.tmp rfl .nil) rfl [] ⟨rfl, rfl⟩ (fun _ w => (.z : Keep _ _).sat w)

theorem ent20 : Ent Try.prog 20 := ⟨_, Try.func20, by kernel_rfl, by kernel_rfl⟩

noncomputable def m_ref28_Sum (i_p0 : T_Image) : Option Int :=
 bnd (m_ref28_Right i_p0) fun r1 => bif !r1 then (some 0) else (bnd (m_ref28_image i_p0) fun r2 => bnd (m_ref01_CRC32 r2) fun r3 => some r3)

theorem c_ref28_Sum {i_p0 : T_Image} {A1 : Option Addr} {c1 : Nat} {r : Int} (h : m_ref28_Sum i_p0 = some r) :
  Fun Try.prog 20 [.agg (bx_T_Image i_p0 A1 c1).toArray] [.ro (SlL eu8 A1 c1 i_p0.Data)] (Val (.int .u32 r)) := by
 unfold m_ref28_Sum at h
 refine Fun.intro Try.func20 rfl rfl rfl fun w R => ?_
 refine St.seq ?_
 refine St.region ?_
 refine St.box rfl rfl fun g1 => ?_
 refine St.p rfl rfl ?_
 refine St.done ?_
 refine St.thenN ?_
 refine St.prune (Γ' := [(1, _)]) ⟨rfl, trivial⟩ (.k (.k .z)) ?_
 refine St.seq ?_
 refine St.seq ?_
 refine St.region ?_
 refine St.loadB 0 rfl rfl (.head _) rfl rfl ?_
 obtain ⟨r1, hr1, h⟩ := bnd_e h
 refine St.callV (c_ref28_Right hr1) ent18 rfl rfl rfl rfl ⟨(.tail _ (.head _)), trivial⟩ ?_
 refine St.p rfl rfl ?_
 refine St.done ?_
 refine St.thenN ?_
 refine St.prune (Γ' := [(1, _), (5, _)]) ⟨rfl, rfl, trivial⟩ (.k (.k .z)) ?_
 refine St.cond _ rfl (fun hb1 => ?_) (fun hb1 => ?_)
 ·replace h := bif_t hb1 h
  refine St.seq ?_
  refine St.region ?_
  refine St.p rfl rfl ?_
  refine St.done ?_
  refine St.thenN ?_
  refine St.prune (Γ' := [(2, _)]) ⟨rfl, trivial⟩ (.d (.d .z)) ?_
  refine St.ret ?_
  repeat (first | refine St.thenR ?_ | refine St.blkR ?_)
  injection h with h
  subst h
  exact St.finR Try.results20 (.tmp rfl .nil) rfl [] ⟨rfl, rfl⟩ (fun _ w => (.z : Keep _ _).sat w)
 ·replace h := bif_f hb1 h
  refine St.skip ?_
  refine St.thenN ?_
  refine St.prune (Γ' := [(1, _)]) ⟨rfl, trivial⟩ (.k (.k .z)) ?_
  refine St.seq ?_
  refine St.region ?_
  refine St.loadB 0 rfl rfl (.head _) rfl rfl ?_
  obtain ⟨r2, hr2, h⟩ := bnd_e h
  refine St.call (c_ref28_image hr2) ent34 rfl rfl rfl (fun _ w => Sat.dup (G := [.ro (SlL eu8 A1 c1 i_p0.Data)]) rfl ⟨(.tail _ (.head _)), trivial⟩ w) ?_
  rintro _ _ ⟨A2, c2, rfl, rfl⟩
  refine St.asrt (F' := .res (OwnL eu8 5 A2 c2 r2) :: .res (Box g1 41 (bx_T_Image i_p0 A1 c1)) :: .ro (SlL eu8 A1 c1 i_p0.Data) :: R) (fun _ w => w) ?_
  refine St.asrt (fun _ w => (w.front .z).meltL) ?_
  obtain ⟨r3, hr3, h⟩ := bnd_e h
  refine St.callV (c_ref01_CRC32 hr3) ent38 rfl rfl rfl rfl ⟨(.head _), trivial⟩ ?_
  refine St.p rfl rfl ?_
  refine St.done ?_
  refine St.thenN ?_
  refine St.prune (Γ' := [(2, _)]) ⟨rfl, trivial⟩ (.d (.d (.d .z))) ?_
  refine St.ret ?_
  repeat (first | refine St.thenR ?_ | refine St.blkR ?_)
  injection h with h
  subst h
  exact St.finR Try.results20 (.tmp rfl .nil) rfl [] ⟨rfl, rfl⟩ (fun _ w => (.z : Keep _ _).sat w)

theorem ent35 : Ent Try.prog 35 := ⟨_, Try.func35, by kernel_rfl, by kernel_rfl⟩

noncomputable def m_ref28_four (n_p0 : Int) : Option (List Int) :=
 some ([IntKind.wrap .u8 (iShr .u32 n_p0 24), IntKind.wrap .u8 (iShr .u32 n_p0 16), IntKind.wrap .u8 (iShr .u32 n_p0 8), IntKind.wrap .u8 n_p0])

theorem c_ref28_four {n_p0 : Int} {r : (List Int)} (h : m_ref28_four n_p0 = some r) :
  Fun Try.prog 35 [.int .u32 n_p0] [] (fun v_ F_ => ∃ (A1 : Option Addr) (c1 : Nat), v_ = .slice A1 r.length c1 ∧ F_ = [.res (OwnL eu8 5 A1 c1 r)]) := by
 unfold m_ref28_four at h
 refine Fun.intro Try.func35 rfl rfl rfl fun w R => ?_
 refine St.seq ?_
 refine St.region ?_
 refine St.p rfl rfl ?_
 refine St.done ?_
 refine St.thenN ?_
 refine St.prune (Γ' := [(0, _)]) ⟨rfl, trivial⟩ .z ?_
 refine St.seq ?_
 refine St.region ?_
 iterate 11 refine St.p rfl rfl ?_
 refine St.buildSlice rfl rfl rfl rfl rfl rfl rfl rfl fun g1 => ?_
 refine St.p rfl rfl ?_
 refine St.done ?_
 refine St.thenN ?_
 refine St.prune (Γ' := [(2, _)]) ⟨rfl, trivial⟩ (.k .z) ?_
 refine St.ret ?_
 repeat (first | refine St.thenR ?_ | refine St.blkR ?_)
 refine St.asrt (fun _ w => (w.front .z).litL (E := eu8) (e := 5) [IntKind.wrap .u8 (iShr .u32 n_p0 24), IntKind.wrap .u8 (iShr .u32 n_p0 16), IntKind.wrap .u8 (iShr .u32 n_p0 8), IntKind.wrap .u8 n_p0] rfl rfl) ?_
 injection h with h
 subst h
 exact St.finR Try.results35 (.tmp rfl .nil) rfl [.res (OwnL eu8 5 (some ⟨g1, 0, none⟩) ([IntKind.wrap .u8 (iShr .u32 n_p0 24), IntKind.wrap .u8 (iShr .u32 n_p0 16), IntKind.wrap .u8 (iShr .u32 n_p0 8), IntKind.wrap .u8 n_p0] : List Int).length ([IntKind.wrap .u8 (iShr .u32 n_p0 24), IntKind.wrap .u8 (iShr .u32 n_p0 16), IntKind.wrap .u8 (iShr .u32 n_p0 8), IntKind.wrap .u8 n_p0]))] ⟨(some ⟨g1, 0, none⟩), ([IntKind.wrap .u8 (iShr .u32 n_p0 24), IntKind.wrap .u8 (iShr .u32 n_p0 16), IntKind.wrap .u8 (iShr .u32 n_p0 8), IntKind.wrap .u8 n_p0] : List Int).length, rfl, rfl⟩ (fun _ w => ((.k .z) : Keep _ _).sat w)

noncomputable def m_ref01_CRC32_o0 (b_p0 : (List Int)) : Option Int :=
 bnd (loopM (τ := Int) (fun (s1 : Int × Int) => bif decide (s1.2 < (b_p0.length : Int)) then (bnd (elt b_p0 s1.2) fun x1 => bnd (loopM (τ := Int) (fun (s2 : Int × Int) => bif decide (s2.2 < 8) then (bif ((s2.1.tmod 2) == 1) then (some (.next (iXor .u32 (IntKind.wrap .u32 (s2.1.tdiv 2)) 3988292384, IntKind.wrap .i64 (s2.2 + 1)))) else (some (.next (IntKind.wrap .u32 (s2.1.tdiv 2), IntKind.wrap .i64 (s2.2 + 1))))) else (some (.done s2.1))) (iXor .u32 s1.1 (IntKind.wrap .u32 x1), 0)) fun o2 => some (.next (o2, IntKind.wrap .i64 (s1.2 + 1)))) else (some (.done s1.1))) (4294967295, 0)) fun o1 => some (IntKind.wrap .u32 (4294967295 - o1))

theorem c_ref01_CRC32_o0 {b_p0 : (List Int)} {A1 : Option Addr} {c1 : Nat} {r : Int} (h : m_ref01_CRC32_o0 b_p0 = some r) :
  Fun Try.prog 38 [.slice A1 b_p0.length c1] [.res (OwnL eu8 5 A1 c1 b_p0)] (fun v_ F_ => v_ = .int .u32 r ∧ F_ = [.res (OwnL eu8 5 A1 c1 b_p0)]) := by
 unfold m_ref01_CRC32_o0 at h
 refine Fun.intro Try.func38 rfl rfl rfl fun w R => ?_
 refine St.seq ?_
 refine St.region ?_
 refine St.p rfl rfl ?_
 refine St.done ?_
 refine St.thenN ?_
 refine St.prune (Γ' := [(0, _)]) ⟨rfl, trivial⟩ (.k .z) ?_
 refine St.seq ?_
 refine St.region ?_
 refine St.p rfl rfl ?_
 refine St.done ?_
 refine St.thenN ?_
 refine St.seq ?_
 refine St.seq ?_
 refine St.region ?_
 refine St.p rfl rfl ?_
 refine St.done ?_
 refine St.thenN ?_
 obtain ⟨o1, hl1, h⟩ := bnd_e h
 refine St.cutE (fun (e2 : Unit) => [(3, .int .u32 o1)]) (fun e2 => .res (OwnL eu8 5 A1 c1 b_p0) :: R) ?_ ?_
 ·refine St.block ?_
  refine St.loop hl1 (fun (s1 : Int × Int) (e1 : Unit) => [(0, .slice A1 b_p0.length c1), (3, .int .u32 s1.1), (4, .int .i64 s1.2)]) (fun s1 e1 => .res (OwnL eu8 5 A1 c1 b_p0) :: R) (fun _ _ => True) () trivial ⟨rfl, rfl, rfl, trivial⟩ (fun _ w => ((.k .z) : Keep _ _).sat w) ?_
  rintro s1 e1 - hit1
  obtain ⟨st1, hm1, hd1⟩ := iter_e hit1
  have h1 := hm1
  refine St.seq ?_
  refine St.seq ?_
  refine St.region ?_
  iterate 4 refine St.p rfl rfl ?_
  refine St.done ?_
  refine St.thenN ?_
  refine St.prune (Γ' := [(0, _), (3, _), (4, _), (10, _)]) ⟨rfl, rfl, rfl, rfl, trivial⟩ (.k .z) ?_
  refine St.cond _ rfl (fun hb1 => ?_) (fun hb1 => ?_)
  ·replace h1 := bif_t hb1 h1
   refine St.skip ?_
   refine St.thenN ?_
   refine St.prune (Γ' := [(0, _), (3, _), (4, _)]) ⟨rfl, rfl, rfl, trivial⟩ (.k .z) ?_
   refine St.seq ?_
   refine St.block ?_
   refine St.seq ?_
   refine St.region ?_
   iterate 3 refine St.p rfl rfl ?_
   obtain ⟨x1, hx1, h1⟩ := bnd_e h1
   refine St.ixO hx1 rfl rfl rfl (.head _) rfl rfl rfl rfl rfl fun g1 hA => ?_
   subst hA
   refine St.ldO 0 hx1 rfl rfl (.head _) rfl rfl ?_
   iterate 3 refine St.p rfl rfl ?_
   refine St.done ?_
   refine St.thenN ?_
   refine St.prune (Γ' := [(0, _), (3, _), (4, _)]) ⟨rfl, rfl, rfl, trivial⟩ (.k .z) ?_
   refine St.seq ?_
   refine St.region ?_
   refine St.p rfl rfl ?_
   refine St.done ?_
   refine St.thenN ?_
   obtain ⟨o2, hl2, h1⟩ := bnd_e h1
   refine St.selfThen ?_
   refine St.cutE (fun (e4 : Unit) => [(0, .slice (some ⟨g1, 0, none⟩) b_p0.length c1), (3, .int .u32 o2), (4, .int .i64 s1.2)]) (fun e4 => .res (OwnL eu8 5 (some ⟨g1, 0, none⟩) c1 b_p0) :: R) ?_ ?_
   ·refine St.block ?_
    refine St.loop hl2 (fun (s2 : Int × Int) (e3 : Unit) => [(0, .slice (some ⟨g1, 0, none⟩) b_p0.length c1), (3, .int .u32 s2.1), (4, .int .i64 s1.2), (5, .int .i64 s2.2)]) (fun s2 e3 => .res (OwnL eu8 5 (some ⟨g1, 0, none⟩) c1 b_p0) :: R) (fun _ _ => True) () trivial ⟨rfl, rfl, rfl, rfl, trivial⟩ (fun _ w => ((.k .z) : Keep _ _).sat w) ?_
    rintro s2 e3 - hit2
    obtain ⟨st2, hm2, hd2⟩ := iter_e hit2
    have h2 := hm2
    refine St.seq ?_
    refine St.seq ?_
    refine St.region ?_
    refine St.p rfl rfl ?_
    refine St.p rfl rfl ?_
    refine St.done ?_
    refine St.thenN ?_
    refine St.prune (Γ' := [(0, _), (3, _), (4, _), (5, _), (21, _)]) ⟨rfl, rfl, rfl, rfl, rfl, trivial⟩ (.k .z) ?_
    refine St.cond _ rfl (fun hb2 => ?_) (fun hb2 => ?_)
    ·replace h2 := bif_t hb2 h2
     refine St.skip ?_
     refine St.thenN ?_
     refine St.prune (Γ' := [(0, _), (3, _), (4, _), (5, _)]) ⟨rfl, rfl, rfl, rfl, trivial⟩ (.k .z) ?_
     refine St.seq ?_
     refine St.block ?_
     refine St.seq ?_
     refine St.region ?_
     iterate 3 refine St.p rfl rfl ?_
     refine St.done ?_
     refine St.thenN ?_
     refine St.prune (Γ' := [(0, _), (3, _), (4, _), (5, _), (6, _)]) ⟨rfl, rfl, rfl, rfl, rfl, trivial⟩ (.k .z) ?_
     refine St.seq ?_
     refine St.region ?_
     iterate 3 refine St.p rfl rfl ?_
     refine St.done ?_
     refine St.thenN ?_
     refine St.prune (Γ' := [(0, _), (3, _), (4, _), (5, _), (6, _)]) ⟨rfl, rfl, rfl, rfl, rfl, trivial⟩ (.k .z) ?_
     refine St.seq ?_
     refine St.region ?_
     refine St.p rfl rfl ?_
     refine St.p rfl rfl ?_
     refine St.done ?_
     refine St.thenN ?_
     refine St.prune (Γ' := [(0, _), (3, _), (4, _), (5, _), (29, _)]) ⟨rfl, rfl, rfl, rfl, rfl, trivial⟩ (.k .z) ?_
     refine St.cond _ rfl (fun hb3 => ?_) (fun hb3 => ?_)
     ·replace h2 := bif_t hb3 h2
      refine St.region ?_
      iterate 3 refine St.p rfl rfl ?_
      refine St.done ?_
      refine St.blkN ?_
      refine St.thenN ?_
      refine St.prune (Γ' := [(0, _), (3, _), (4, _), (5, _)]) ⟨rfl, rfl, rfl, rfl, trivial⟩ (.k .z) ?_
      refine St.region ?_
      iterate 3 refine St.p rfl rfl ?_
      refine St.done ?_
      injection h2 with h2
      subst h2
      refine St.thenN ?_
      exact St.again _ () hm2 trivial ⟨rfl, rfl, rfl, rfl, trivial⟩ (fun _ w => ((.k .z) : Keep _ _).sat w)
     ·replace h2 := bif_f hb3 h2
      refine St.skip ?_
      refine St.blkN ?_
      refine St.thenN ?_
      refine St.prune (Γ' := [(0, _), (3, _), (4, _), (5, _)]) ⟨rfl, rfl, rfl, rfl, trivial⟩ (.k .z) ?_
      refine St.region ?_
      iterate 3 refine St.p rfl rfl ?_
      refine St.done ?_
      injection h2 with h2
      subst h2
      refine St.thenN ?_
      exact St.again _ () hm2 trivial ⟨rfl, rfl, rfl, rfl, trivial⟩ (fun _ w => ((.k .z) : Keep _ _).sat w)
    ·replace h2 := bif_f hb2 h2
     refine St.exit ?_
     repeat (first | refine St.thenX ?_ | refine St.blkMiss rfl ?_)
     refine St.blkHit ?_
     injection h2 with h2
     subst h2
     have ho := hd2 _ rfl
     subst ho
     refine St.thenN ?_
     exact St.hereE () ⟨rfl, rfl, rfl, trivial⟩ (fun _ w => ((.k .z) : Keep _ _).sat w)
   ·rintro e4
    refine St.blkN ?_
    refine St.thenN ?_
    refine St.region ?_
    iterate 3 refine St.p rfl rfl ?_
    refine St.done ?_
    injection h1 with h1
    subst h1
    refine St.thenN ?_
    exact St.again _ () hm1 trivial ⟨rfl, rfl, rfl, trivial⟩ (fun _ w => ((.k .z) : Keep _ _).sat w)
  ·replace h1 := bif_f hb1 h1
   refine St.exit ?_
   repeat (first | refine St.thenX ?_ | refine St.blkMiss rfl ?_)
   refine St.blkHit ?_
   injection h1 with h1
   subst h1
   have ho := hd1 _ rfl
   subst ho
   refine St.thenN ?_
   exact St.hereE () ⟨rfl, trivial⟩ (fun _ w => ((.k .z) : Keep _ _).sat w)
 ·rintro e2
  refine St.seq ?_
  refine St.region ?_
  iterate 3 refine St.p rfl rfl ?_
  refine St.done ?_
  refine St.thenN ?_
  refine St.prune (Γ' := [(2, _)]) ⟨rfl, trivial⟩ (.k .z) ?_
  refine St.ret ?_
  repeat (first | refine St.thenR ?_ | refine St.blkR ?_)
  injection h with h
  subst h
  exact St.finR Try.results38 (.tmp rfl .nil) rfl [.res (OwnL eu8 5 A1 c1 b_p0)] ⟨rfl, rfl⟩ (fun _ w => ((.k .z) : Keep _ _).sat w)

theorem ent12 : Ent Try.prog 12 := ⟨_, Try.func12, by kernel_rfl, by kernel_rfl⟩

noncomputable def m_ref28_Encode (b_p0 : T_Bundle) : Option ((List Int) × Int) :=
 bnd (m_ref28_Valid b_p0) fun r1 => bif (r1 != 0) then (some ([], r1)) else (bnd (app 1 ([66, 77, 67, 70]) [IntKind.wrap .u8 (b_p0.Images.length : Int)]) fun l1 => bnd (loopM (τ := List Int) (fun (s1 : List Int × Int) => bif decide (s1.2 < (b_p0.Images.length : Int)) then (bnd (elt b_p0.Images s1.2) fun x1 => bnd (m_ref28_image x1) fun r2 => bnd (app 1 s1.1 r2) fun l2 => bnd (m_ref28_Sum x1) fun r3 => bnd (m_ref28_four r3) fun r4 => bnd (app 1 l2 r4) fun l3 => some (.next (l3, IntKind.wrap .i64 (s1.2 + 1)))) else (some (.done s1.1))) (l1, 0)) fun o1 => bnd (app 1 o1 [IntKind.wrap .u8 (b_p0.Needs.length : Int)]) fun l4 => bnd (loopM (τ := List Int) (fun (s2 : List Int × Int) => bif decide (s2.2 < (b_p0.Needs.length : Int)) then (bnd (elt b_p0.Needs s2.2) fun x2 => bnd (m_ref28_name x2.Component) fun r5 => bnd (app 1 s2.1 r5) fun l5 => bnd (m_ref28_version x2.From) fun r6 => bnd (app 1 l5 r6) fun l6 => bnd (m_ref28_name x2.On) fun r7 => bnd (app 1 l6 r7) fun l7 => bnd (m_ref28_version x2.At) fun r8 => bnd (app 1 l7 r8) fun l8 => some (.next (l8, IntKind.wrap .i64 (s2.2 + 1)))) else (some (.done s2.1))) (l4, 0)) fun o2 => bnd (m_ref01_CRC32_o0 o2) fun r9 => bnd (m_ref28_four r9) fun r10 => bnd (app 1 o2 r10) fun l9 => bif decide ((l9.length : Int) > 8192) then (some ([], 3)) else (some (l9, 0)))

set_option maxHeartbeats 4000000 in
theorem c_ref28_Encode {b_p0 : T_Bundle} {A1 : Option Addr} {c1 : Nat} {A2 : Option Addr} {c2 : Nat} {r : ((List Int) × Int)} (h : m_ref28_Encode b_p0 = some r) :
  Fun Try.prog 12 [.agg #[.slice A1 b_p0.Images.length c1, .slice A2 b_p0.Needs.length c2]] [.ro (Sl (codL l_T_Image) A1 c1 b_p0.Images), .ro (SlL e_Need A2 c2 b_p0.Needs)] (fun v_ F_ => ∃ (A1 : Option Addr) (c1 : Nat), v_ = .tuple #[.slice A1 r.1.length c1, .int .i64 r.2] ∧ F_ = [.res (OwnL eu8 5 A1 c1 r.1)]) := by
 unfold m_ref28_Encode at h
 refine Fun.intro Try.func12 rfl rfl rfl fun w R => ?_
 refine St.seq ?_
 refine St.region ?_
 refine St.box rfl rfl fun g1 => ?_
 refine St.p rfl rfl ?_
 refine St.p rfl rfl ?_
 refine St.done ?_
 refine St.thenN ?_
 refine St.prune (Γ' := [(1, _)]) ⟨rfl, trivial⟩ (.k (.k (.k .z))) ?_
 refine St.seq ?_
 refine St.seq ?_
 refine St.region ?_
 refine St.loadB 0 rfl rfl (.head _) rfl rfl ?_
 obtain ⟨r1, hr1, h⟩ := bnd_e h
 refine St.callV (c_ref28_Valid hr1) ent14 rfl rfl rfl rfl ⟨(.tail _ (.head _)), (.tail _ (.tail _ (.head _))), trivial⟩ ?_
 refine St.p rfl rfl ?_
 refine St.done ?_
 refine St.thenN ?_
 refine St.prune (Γ' := [(1, _), (4, _)]) ⟨rfl, rfl, trivial⟩ (.k (.k (.k .z))) ?_
 refine St.seq ?_
 refine St.region ?_
 refine St.p rfl rfl ?_
 refine St.p rfl rfl ?_
 refine St.done ?_
 refine St.thenN ?_
 refine St.prune (Γ' := [(1, _), (4, _), (12, _)]) ⟨rfl, rfl, rfl, trivial⟩ (.k (.k (.k .z))) ?_
 refine St.cond _ rfl (fun hb1 => ?_) (fun hb1 => ?_)
 ·replace h := bif_t hb1 h
  refine St.seq ?_
  refine St.region ?_
  iterate 3 refine St.p rfl rfl ?_
  refine St.done ?_
  refine St.thenN ?_
  refine St.prune (Γ' := [(2, _), (3, _)]) ⟨rfl, rfl, trivial⟩ (.d (.d (.d .z))) ?_
  refine St.ret ?_
  repeat (first | refine St.thenR ?_ | refine St.blkR ?_)
  refine St.asrt (fun _ w => w.nilL eu8 5) ?_
  injection h with h
  subst h
  exact St.finR Try.results12 (.tmp rfl (.tmp rfl .nil)) rfl [.res (OwnL eu8 5 none 0 ([] : List Int))] ⟨none, 0, rfl, rfl⟩ (fun _ w => ((.k .z) : Keep _ _).sat w)
 ·replace h := bif_f hb1 h
  refine St.skip ?_
  refine St.thenN ?_
  refine St.prune (Γ' := [(1, _)]) ⟨rfl, trivial⟩ (.k (.k (.k .z))) ?_
  refine St.seq ?_
  refine St.region ?_
  refine St.buildSlice0 rfl rfl rfl rfl rfl rfl rfl rfl fun g2 => ?_
  refine St.markB rfl rfl rfl rfl rfl rfl ?_
  refine St.p rfl rfl ?_
  refine St.loadB 0 rfl rfl (.tail _ (.head _)) rfl rfl ?_
  refine St.p rfl rfl ?_
  refine St.p rfl rfl ?_
  refine St.buildSlice rfl rfl rfl rfl rfl rfl rfl rfl fun g3 => ?_
  refine St.asrt (fun _ w => (w.front (.s .z)).litL (E := eu8) (e := 5) [66, 77, 67, 70] rfl rfl) ?_
  obtain ⟨l1, hl1, h⟩ := bnd_e h
  refine St.app (E := eu8) hl1 rfl rfl rfl .z rfl rfl rfl rfl rfl rfl rfl rfl (srcB (.tail _ (.head _)) rfl rfl) rfl rfl fun A3 c3 => ?_
  refine St.p rfl rfl ?_
  refine St.done ?_
  refine St.thenN ?_
  refine St.prune (Γ' := [(1, _), (5, _)]) ⟨rfl, rfl, trivial⟩ (.k (.d (.k (.k (.k .z))))) ?_
  refine St.seq ?_
  refine St.seq ?_
  refine St.region ?_
  refine St.p rfl rfl ?_
  refine St.done ?_
  refine St.thenN ?_
  obtain ⟨o1, hl1, h⟩ := bnd_e h
  refine St.cutE (fun (e2 : Option Addr × Nat) => [(1, .pointer (some ⟨g1, 0, none⟩)), (5, .slice e2.1 o1.length e2.2)]) (fun e2 => .res (OwnL eu8 5 e2.1 e2.2 o1) :: .res (Box g1 26 [.slice A1 b_p0.Images.length c1, .slice A2 b_p0.Needs.length c2]) :: .ro (Sl (codL l_T_Image) A1 c1 b_p0.Images) :: .ro (SlL e_Need A2 c2 b_p0.Needs) :: R) ?_ ?_
  ·refine St.block ?_
   refine St.loop hl1 (fun (s1 : List Int × Int) (e1 : Option Addr × Nat) => [(1, .pointer (some ⟨g1, 0, none⟩)), (5, .slice e1.1 s1.1.length e1.2), (6, .int .i64 s1.2)]) (fun s1 e1 => .res (OwnL eu8 5 e1.1 e1.2 s1.1) :: .res (Box g1 26 [.slice A1 b_p0.Images.length c1, .slice A2 b_p0.Needs.length c2]) :: .ro (Sl (codL l_T_Image) A1 c1 b_p0.Images) :: .ro (SlL e_Need A2 c2 b_p0.Needs) :: R) (fun _ _ => True) (A3, c3) trivial ⟨rfl, rfl, rfl, trivial⟩ (fun _ w => ((.k (.k (.k (.k .z)))) : Keep _ _).sat w) ?_
   rintro s1 ⟨A4, c4⟩ - hit1
   obtain ⟨st1, hm1, hd1⟩ := iter_e hit1
   have h1 := hm1
   refine St.seq ?_
   refine St.seq ?_
   refine St.region ?_
   refine St.p rfl rfl ?_
   refine St.p rfl rfl ?_
   refine St.loadB 0 rfl rfl (.tail _ (.head _)) rfl rfl ?_
   refine St.p rfl rfl ?_
   refine St.p rfl rfl ?_
   refine St.done ?_
   refine St.thenN ?_
   refine St.prune (Γ' := [(1, _), (5, _), (6, _), (26, _)]) ⟨rfl, rfl, rfl, rfl, trivial⟩ (.k (.k (.k (.k .z)))) ?_
   refine St.cond _ rfl (fun hb2 => ?_) (fun hb2 => ?_)
   ·replace h1 := bif_t hb2 h1
    refine St.skip ?_
    refine St.thenN ?_
    refine St.prune (Γ' := [(1, _), (5, _), (6, _)]) ⟨rfl, rfl, rfl, trivial⟩ (.k (.k (.k (.k .z)))) ?_
    refine St.seq ?_
    refine St.block ?_
    obtain ⟨x1, hx1, h1⟩ := bnd_e h1
    refine St.openN (.tail _ (.tail _ (.head _))) hx1 fun b1 ob1 ex1 hqb1 => ?_
    obtain ⟨⟨A6, c6⟩, _⟩ := ex1
    refine St.asrt (F' := .ro (Cells b1 ob1 (bx_T_Image x1 A6 c6)) :: .ro (SlL eu8 A6 c6 x1.Data) :: .res (OwnL eu8 5 A4 c4 s1.1) :: .res (Box g1 26 [.slice A1 b_p0.Images.length c1, .slice A2 b_p0.Needs.length c2]) :: .ro (Sl (codL l_T_Image) A1 c1 b_p0.Images) :: .ro (SlL e_Need A2 c2 b_p0.Needs) :: R) (fun _ w => w) ?_
    refine St.regionX (iL [(.fl, 0), (.fl, 1), (.fx, 2), (.fl, 3), (.fx, 4), (.fx, 5), (.fl, 8), (.fl, 9), (.fl, 10), (.fl, 11), (.fl, 12), (.ef, 6), (.ef, 7), (.qc, 13), (.ef, 14), (.ef, 15), (.fl, 16)] .nil) (.ro (Cells b1 ob1 (bx_T_Image x1 A6 c6)) :: .ro (SlL eu8 A6 c6 x1.Data) :: .res (Box g1 26 [.slice A1 b_p0.Images.length c1, .slice A2 b_p0.Needs.length c2]) :: .ro (Sl (codL l_T_Image) A1 c1 b_p0.Images) :: .ro (SlL e_Need A2 c2 b_p0.Needs) :: R) mixed (by kernel_rfl) (fun _ w => ((.k (.k (.d (.k (.k (.k .z)))))) : Keep _ _).sat w) ?_
    refine St.xfl (fun _ h => h) (Rd.p rfl) rfl ?_
    refine St.xfl (fun _ h => h) (Rd.p rfl) rfl ?_
    refine St.xfx (Rd.loadB 0 rfl (.tail _ (.tail _ (.tail _ (.head _)))) rfl rfl) rfl ?_
    refine St.xfl (fun _ h => h) (Rd.p rfl) rfl ?_
    refine St.xfx (Rd.ixN hqb1 hx1 rfl rfl rfl rfl rfl rfl rfl) rfl ?_
    refine St.xfx (Rd.load ob1 0 rfl (.head _) rfl rfl) rfl ?_
    refine St.xfl (fun _ h => h) (Rd.p rfl) rfl ?_
    refine St.xfl (fun _ h => h) (Rd.loadB 0 rfl (.tail _ (.tail _ (.head _))) rfl rfl) rfl ?_
    refine St.xfl (fun _ h => h) (Rd.p rfl) rfl ?_
    refine St.xfl (fun _ h => h) (Rd.ixN hqb1 hx1 rfl rfl rfl rfl rfl rfl rfl) rfl ?_
    refine St.xfl (fun _ h => h) (Rd.load ob1 0 rfl (.head _) rfl rfl) rfl ?_
    refine St.xef ?_
    obtain ⟨r2, hr2, h1⟩ := bnd_e h1
    refine St.call (c_ref28_image hr2) ent34 rfl rfl rfl (fun _ w => Sat.dup (G := [.ro (SlL eu8 A6 c6 x1.Data)]) rfl ⟨(.tail _ (.head _)), trivial⟩ w) ?_
    rintro _ _ ⟨A7, c7, rfl, rfl⟩
    refine St.asrt (F' := .res (OwnL eu8 5 A7 c7 r2) :: .ro (Cells b1 ob1 (bx_T_Image x1 A6 c6)) :: .ro (SlL eu8 A6 c6 x1.Data) :: .res (OwnL eu8 5 A4 c4 s1.1) :: .res (Box g1 26 [.slice A1 b_p0.Images.length c1, .slice A2 b_p0.Needs.length c2]) :: .ro (Sl (codL l_T_Image) A1 c1 b_p0.Images) :: .ro (SlL e_Need A2 c2 b_p0.Needs) :: R) (fun _ w => w) ?_
    refine St.xk (fun _ w => ((.d (.k (.k (.d (.k (.k (.k .z))))))) : Keep _ _).sat w) ?_
    refine St.xef ?_
    refine St.asrt (fun _ w => (w.front .z).meltL) ?_
    obtain ⟨l2, hl2, h1⟩ := bnd_e h1
    refine St.app (E := eu8) hl2 rfl rfl rfl (.s (.s (.s .z))) rfl rfl rfl rfl rfl rfl rfl rfl (srcL (.head _)) rfl rfl fun A8 c8 => ?_
    refine St.xk (fun _ w => ((.d (.d (.k (.k (.k (.k (.k .z))))))) : Keep _ _).sat w) ?_
    obtain ⟨r3, hr3, h1⟩ := bnd_e h1
    refine St.xqc (fun _ h => h) (c_ref28_Sum hr3) ent20 rfl rfl rfl rfl ⟨(.tail _ (.head _)), trivial⟩ ?_
    refine St.xef ?_
    obtain ⟨r4, hr4, h1⟩ := bnd_e h1
    refine St.call (c_ref28_four hr4) ent35 rfl rfl rfl (fun _ w => w) ?_
    rintro _ _ ⟨A9, c9, rfl, rfl⟩
    refine St.asrt (F' := .res (OwnL eu8 5 A9 c9 r4) :: .res (OwnL eu8 5 A8 c8 l2) :: .ro (SlL eu8 A7 c7 r2) :: .ro (Cells b1 ob1 (bx_T_Image x1 A6 c6)) :: .ro (SlL eu8 A6 c6 x1.Data) :: .res (Box g1 26 [.slice A1 b_p0.Images.length c1, .slice A2 b_p0.Needs.length c2]) :: .ro (Sl (codL l_T_Image) A1 c1 b_p0.Images) :: .ro (SlL e_Need A2 c2 b_p0.Needs) :: R) (fun _ w => w) ?_
    refine St.xk (fun _ w => ((.d (.d (.d (.k (.k (.k (.k (.k .z)))))))) : Keep _ _).sat w) ?_
    refine St.xef ?_
    refine St.asrt (fun _ w => (w.front .z).meltL) ?_
    obtain ⟨l3, hl3, h1⟩ := bnd_e h1
    refine St.app (E := eu8) hl3 rfl rfl rfl (.s .z) rfl rfl rfl rfl rfl rfl rfl rfl (srcL (.head _)) rfl rfl fun A10 c10 => ?_
    refine St.xk (fun _ w => ((.d (.d (.d (.k (.k (.k (.k (.k .z)))))))) : Keep _ _).sat w) ?_
    refine St.xfl (fun _ h => h) (Rd.p rfl) rfl ?_
    refine St.xdone ?_
    refine St.blkN ?_
    refine St.thenN ?_
    refine St.prune (Γ' := [(1, _), (5, _), (6, _)]) ⟨rfl, rfl, rfl, trivial⟩ (.k (.d (.d (.d (.d (.k (.k (.k .z)))))))) ?_
    refine St.region ?_
    iterate 3 refine St.p rfl rfl ?_
    refine St.done ?_
    injection h1 with h1
    subst h1
    refine St.thenN ?_
    exact St.again _ (A10, c10) hm1 trivial ⟨rfl, rfl, rfl, trivial⟩ (fun _ w => ((.k (.k (.k (.k .z)))) : Keep _ _).sat w)
   ·replace h1 := bif_f hb2 h1
    refine St.exit ?_
    repeat (first | refine St.thenX ?_ | refine St.blkMiss rfl ?_)
    refine St.blkHit ?_
    injection h1 with h1
    subst h1
    have ho := hd1 _ rfl
    subst ho
    refine St.thenN ?_
    exact St.hereE (A4, c4) ⟨rfl, rfl, trivial⟩ (fun _ w => ((.k (.k (.k (.k .z)))) : Keep _ _).sat w)
  ·rintro ⟨A5, c5⟩
   refine St.seq ?_
   refine St.region ?_
   refine St.p rfl rfl ?_
   refine St.p rfl rfl ?_
   refine St.loadB 1 rfl rfl (.tail _ (.head _)) rfl rfl ?_
   refine St.p rfl rfl ?_
   refine St.p rfl rfl ?_
   refine St.buildSlice rfl rfl rfl rfl rfl rfl rfl rfl fun g4 => ?_
   obtain ⟨l4, hl4, h⟩ := bnd_e h
   refine St.app (E := eu8) hl4 rfl rfl rfl (.s .z) rfl rfl rfl rfl rfl rfl rfl rfl (srcB (.head _) rfl rfl) rfl rfl fun A11 c11 => ?_
   refine St.p rfl rfl ?_
   refine St.done ?_
   refine St.thenN ?_
   refine St.prune (Γ' := [(1, _), (5, _)]) ⟨rfl, rfl, trivial⟩ (.k (.d (.k (.k (.k .z))))) ?_
   refine St.seq ?_
   refine St.seq ?_
   refine St.region ?_
   refine St.p rfl rfl ?_
   refine St.done ?_
   refine St.thenN ?_
   obtain ⟨o2, hl2, h⟩ := bnd_e h
   refine St.cutE (fun (e4 : Option Addr × Nat) => [(5, .slice e4.1 o2.length e4.2)]) (fun e4 => .res (OwnL eu8 5 e4.1 e4.2 o2) :: R) ?_ ?_
   ·refine St.block ?_
    refine St.loop hl2 (fun (s2 : List Int × Int) (e3 : Option Addr × Nat) => [(1, .pointer (some ⟨g1, 0, none⟩)), (5, .slice e3.1 s2.1.length e3.2), (7, .int .i64 s2.2)]) (fun s2 e3 => .res (OwnL eu8 5 e3.1 e3.2 s2.1) :: .res (Box g1 26 [.slice A1 b_p0.Images.length c1, .slice A2 b_p0.Needs.length c2]) :: .ro (Sl (codL l_T_Image) A1 c1 b_p0.Images) :: .ro (SlL e_Need A2 c2 b_p0.Needs) :: R) (fun _ _ => True) (A11, c11) trivial ⟨rfl, rfl, rfl, trivial⟩ (fun _ w => ((.k (.k (.k (.k .z)))) : Keep _ _).sat w) ?_
    rintro s2 ⟨A12, c12⟩ - hit2
    obtain ⟨st2, hm2, hd2⟩ := iter_e hit2
    have h2 := hm2
    refine St.seq ?_
    refine St.seq ?_
    refine St.region ?_
    refine St.p rfl rfl ?_
    refine St.p rfl rfl ?_
    refine St.loadB 1 rfl rfl (.tail _ (.head _)) rfl rfl ?_
    refine St.p rfl rfl ?_
    refine St.p rfl rfl ?_
    refine St.done ?_
    refine St.thenN ?_
    refine St.prune (Γ' := [(1, _), (5, _), (7, _), (56, _)]) ⟨rfl, rfl, rfl, rfl, trivial⟩ (.k (.k (.k (.k .z)))) ?_
    refine St.cond _ rfl (fun hb3 => ?_) (fun hb3 => ?_)
    ·replace h2 := bif_t hb3 h2
     refine St.skip ?_
     refine St.thenN ?_
     refine St.prune (Γ' := [(1, _), (5, _), (7, _)]) ⟨rfl, rfl, rfl, trivial⟩ (.k (.k (.k (.k .z)))) ?_
     refine St.seq ?_
     refine St.block ?_
     refine St.seq ?_
     refine St.region ?_
     refine St.p rfl rfl ?_
     refine St.loadB 1 rfl rfl (.tail _ (.head _)) rfl rfl ?_
     refine St.p rfl rfl ?_
     obtain ⟨x2, hx2, h2⟩ := bnd_e h2
     refine St.ixL hx2 rfl rfl rfl (.tail _ (.tail _ (.tail _ (.head _)))) rfl rfl rfl rfl rfl fun b2 ob2 => ?_
     refine St.load ob2 0 rfl rfl (.head _) rfl rfl ?_
     refine St.alloc rfl rfl fun g5 => ?_
     refine St.store 0 rfl rfl rfl rfl rfl rfl .z rfl ?_
     refine St.done ?_
     refine St.thenN ?_
     refine St.prune (Γ' := [(1, _), (5, _), (7, _), (8, _)]) ⟨rfl, rfl, rfl, rfl, trivial⟩ (.k (.d (.k (.k (.k (.k .z)))))) ?_
     refine St.seq ?_
     refine St.regionX (iL [(.fl, 0), (.fl, 1), (.fx, 2), (.fl, 5), (.fl, 6), (.ef, 3), (.ef, 4), (.ef, 7), (.ef, 8), (.fl, 9)] .nil) (.res (Box g5 67 (bx_T_Need x2)) :: .res (Box g1 26 [.slice A1 b_p0.Images.length c1, .slice A2 b_p0.Needs.length c2]) :: .ro (Sl (codL l_T_Image) A1 c1 b_p0.Images) :: .ro (SlL e_Need A2 c2 b_p0.Needs) :: R) mixed (by kernel_rfl) (fun _ w => ((.k (.d (.k (.k (.k .z))))) : Keep _ _).sat w) ?_
     refine St.xfl (fun _ h => h) (Rd.p rfl) rfl ?_
     refine St.xfl (fun _ h => h) (Rd.p rfl) rfl ?_
     refine St.xfx (Rd.loadB 0 rfl (.head _) rfl rfl) rfl ?_
     refine St.xfl (fun _ h => h) (Rd.p rfl) rfl ?_
     refine St.xfl (fun _ h => h) (Rd.loadB 1 rfl (.head _) rfl rfl) rfl ?_
     refine St.xef ?_
     obtain ⟨r5, hr5, h2⟩ := bnd_e h2
     refine St.call (c_ref28_name hr5) ent36 rfl rfl rfl (fun _ w => w) ?_
     rintro _ _ ⟨A14, c14, rfl, rfl⟩
     refine St.asrt (F' := .res (OwnL eu8 5 A14 c14 r5) :: .res (Box g5 67 (bx_T_Need x2)) :: .res (OwnL eu8 5 A12 c12 s2.1) :: .res (Box g1 26 [.slice A1 b_p0.Images.length c1, .slice A2 b_p0.Needs.length c2]) :: .ro (Sl (codL l_T_Image) A1 c1 b_p0.Images) :: .ro (SlL e_Need A2 c2 b_p0.Needs) :: R) (fun _ w => w) ?_
     refine St.xk (fun _ w => ((.d (.k (.d (.k (.k (.k .z)))))) : Keep _ _).sat w) ?_
     refine St.xef ?_
     refine St.asrt (fun _ w => (w.front .z).meltL) ?_
     obtain ⟨l5, hl5, h2⟩ := bnd_e h2
     refine St.app (E := eu8) hl5 rfl rfl rfl (.s (.s .z)) rfl rfl rfl rfl rfl rfl rfl rfl (srcL (.head _)) rfl rfl fun A15 c15 => ?_
     refine St.xk (fun _ w => ((.d (.d (.k (.k (.k (.k .z)))))) : Keep _ _).sat w) ?_
     refine St.xef ?_
     obtain ⟨r6, hr6, h2⟩ := bnd_e h2
     refine St.call (c_ref28_version hr6) ent37 rfl rfl rfl (fun _ w => w) ?_
     rintro _ _ ⟨A16, c16, rfl, rfl⟩
     refine St.asrt (F' := .res (OwnL eu8 5 A16 c16 r6) :: .res (OwnL eu8 5 A15 c15 l5) :: .ro (SlL eu8 A14 c14 r5) :: .res (Box g5 67 (bx_T_Need x2)) :: .res (Box g1 26 [.slice A1 b_p0.Images.length c1, .slice A2 b_p0.Needs.length c2]) :: .ro (Sl (codL l_T_Image) A1 c1 b_p0.Images) :: .ro (SlL e_Need A2 c2 b_p0.Needs) :: R) (fun _ w => w) ?_
     refine St.xk (fun _ w => ((.d (.d (.d (.k (.k (.k (.k .z))))))) : Keep _ _).sat w) ?_
     refine St.xef ?_
     refine St.asrt (fun _ w => (w.front .z).meltL) ?_
     obtain ⟨l6, hl6, h2⟩ := bnd_e h2
     refine St.app (E := eu8) hl6 rfl rfl rfl (.s .z) rfl rfl rfl rfl rfl rfl rfl rfl (srcL (.head _)) rfl rfl fun A17 c17 => ?_
     refine St.xk (fun _ w => ((.d (.d (.d (.k (.k (.k (.k .z))))))) : Keep _ _).sat w) ?_
     refine St.xfl (fun _ h => h) (Rd.p rfl) rfl ?_
     refine St.xdone ?_
     refine St.thenN ?_
     refine St.prune (Γ' := [(1, _), (5, _), (7, _), (8, _)]) ⟨rfl, rfl, rfl, rfl, trivial⟩ (.k (.d (.d (.k (.k (.k (.k .z))))))) ?_
     refine St.regionX (iL [(.fl, 0), (.fl, 1), (.fx, 2), (.fl, 5), (.fl, 6), (.ef, 3), (.ef, 4), (.ef, 7), (.ef, 8), (.fl, 9)] .nil) (.res (Box g5 67 (bx_T_Need x2)) :: .res (Box g1 26 [.slice A1 b_p0.Images.length c1, .slice A2 b_p0.Needs.length c2]) :: .ro (Sl (codL l_T_Image) A1 c1 b_p0.Images) :: .ro (SlL e_Need A2 c2 b_p0.Needs) :: R) mixed (by kernel_rfl) (fun _ w => ((.d (.k (.k (.k (.k .z))))) : Keep _ _).sat w) ?_
     refine St.xfl (fun _ h => h) (Rd.p rfl) rfl ?_
     refine St.xfl (fun _ h => h) (Rd.p rfl) rfl ?_
     refine St.xfx (Rd.loadB 4 rfl (.tail _ (.head _)) rfl rfl) rfl ?_
     refine St.xfl (fun _ h => h) (Rd.p rfl) rfl ?_
     refine St.xfl (fun _ h => h) (Rd.loadB 5 rfl (.head _) rfl rfl) rfl ?_
     refine St.xef ?_
     obtain ⟨r7, hr7, h2⟩ := bnd_e h2
     refine St.call (c_ref28_name hr7) ent36 rfl rfl rfl (fun _ w => w) ?_
     rintro _ _ ⟨A18, c18, rfl, rfl⟩
     refine St.asrt (F' := .res (OwnL eu8 5 A18 c18 r7) :: .res (OwnL eu8 5 A17 c17 l6) :: .res (Box g5 67 (bx_T_Need x2)) :: .res (Box g1 26 [.slice A1 b_p0.Images.length c1, .slice A2 b_p0.Needs.length c2]) :: .ro (Sl (codL l_T_Image) A1 c1 b_p0.Images) :: .ro (SlL e_Need A2 c2 b_p0.Needs) :: R) (fun _ w => w) ?_
     refine St.xk (fun _ w => ((.d (.d (.k (.k (.k (.k .z)))))) : Keep _ _).sat w) ?_
     refine St.xef ?_
     refine St.asrt (fun _ w => (w.front .z).meltL) ?_
     obtain ⟨l7, hl7, h2⟩ := bnd_e h2
     refine St.app (E := eu8) hl7 rfl rfl rfl (.s .z) rfl rfl rfl rfl rfl rfl rfl rfl (srcL (.head _)) rfl rfl fun A19 c19 => ?_
     refine St.xk (fun _ w => ((.d (.d (.k (.k (.k (.k .z)))))) : Keep _ _).sat w) ?_
     refine St.xef ?_
     obtain ⟨r8, hr8, h2⟩ := bnd_e h2
     refine St.call (c_ref28_version hr8) ent37 rfl rfl rfl (fun _ w => w) ?_
     rintro _ _ ⟨A20, c20, rfl, rfl⟩
     refine St.asrt (F' := .res (OwnL eu8 5 A20 c20 r8) :: .res (OwnL eu8 5 A19 c19 l7) :: .ro (SlL eu8 A18 c18 r7) :: .res (Box g5 67 (bx_T_Need x2)) :: .res (Box g1 26 [.slice A1 b_p0.Images.length c1, .slice A2 b_p0.Needs.length c2]) :: .ro (Sl (codL l_T_Image) A1 c1 b_p0.Images) :: .ro (SlL e_Need A2 c2 b_p0.Needs) :: R) (fun _ w => w) ?_
     refine St.xk (fun _ w => ((.d (.d (.d (.k (.k (.k (.k .z))))))) : Keep _ _).sat w) ?_
     refine St.xef ?_
     refine St.asrt (fun _ w => (w.front .z).meltL) ?_
     obtain ⟨l8, hl8, h2⟩ := bnd_e h2
     refine St.app (E := eu8) hl8 rfl rfl rfl (.s .z) rfl rfl rfl rfl rfl rfl rfl rfl (srcL (.head _)) rfl rfl fun A21 c21 => ?_
     refine St.xk (fun _ w => ((.d (.d (.d (.k (.k (.k (.k .z))))))) : Keep _ _).sat w) ?_
     refine St.xfl (fun _ h => h) (Rd.p rfl) rfl ?_
     refine St.xdone ?_
     refine St.blkN ?_
     refine St.thenN ?_
     refine St.prune (Γ' := [(1, _), (5, _), (7, _)]) ⟨rfl, rfl, rfl, trivial⟩ (.k (.d (.d (.d (.k (.k (.k .z))))))) ?_
     refine St.region ?_
     iterate 3 refine St.p rfl rfl ?_
     refine St.done ?_
     injection h2 with h2
     subst h2
     refine St.thenN ?_
     exact St.again _ (A21, c21) hm2 trivial ⟨rfl, rfl, rfl, trivial⟩ (fun _ w => ((.k (.k (.k (.k .z)))) : Keep _ _).sat w)
    ·replace h2 := bif_f hb3 h2
     refine St.exit ?_
     repeat (first | refine St.thenX ?_ | refine St.blkMiss rfl ?_)
     refine St.blkHit ?_
     injection h2 with h2
     subst h2
     have ho := hd2 _ rfl
     subst ho
     refine St.thenN ?_
     exact St.hereE (A12, c12) ⟨rfl, trivial⟩ (fun _ w => ((.k (.d (.d (.d .z)))) : Keep _ _).sat w)
   ·rintro ⟨A13, c13⟩
    refine St.seq ?_
    refine St.region ?_
    refine St.p rfl rfl ?_
    refine St.p rfl rfl ?_
    obtain ⟨r9, hr9, h⟩ := bnd_e h
    refine St.call (c_ref01_CRC32_o0 hr9) ent38 rfl rfl rfl (fun _ w => (w.front .z)) ?_
    rintro _ _ ⟨rfl, rfl⟩
    refine St.asrt (F' := .res (OwnL eu8 5 A13 c13 o2) :: R) (fun _ w => w) ?_
    obtain ⟨r10, hr10, h⟩ := bnd_e h
    refine St.call (c_ref28_four hr10) ent35 rfl rfl rfl (fun _ w => w) ?_
    rintro _ _ ⟨A22, c22, rfl, rfl⟩
    refine St.asrt (F' := .res (OwnL eu8 5 A22 c22 r10) :: .res (OwnL eu8 5 A13 c13 o2) :: R) (fun _ w => w) ?_
    refine St.asrt (fun _ w => (w.front .z).meltL) ?_
    obtain ⟨l9, hl9, h⟩ := bnd_e h
    refine St.app (E := eu8) hl9 rfl rfl rfl (.s .z) rfl rfl rfl rfl rfl rfl rfl rfl (srcL (.head _)) rfl rfl fun A23 c23 => ?_
    refine St.p rfl rfl ?_
    refine St.done ?_
    refine St.thenN ?_
    refine St.prune (Γ' := [(5, _)]) ⟨rfl, trivial⟩ (.k (.d .z)) ?_
    refine St.seq ?_
    refine St.seq ?_
    refine St.region ?_
    iterate 3 refine St.p rfl rfl ?_
    refine St.done ?_
    refine St.thenN ?_
    refine St.prune (Γ' := [(5, _), (89, _)]) ⟨rfl, rfl, trivial⟩ (.k .z) ?_
    refine St.cond _ rfl (fun hb4 => ?_) (fun hb4 => ?_)
    ·replace h := bif_t hb4 h
     refine St.seq ?_
     refine St.region ?_
     refine St.p rfl rfl ?_
     refine St.p rfl rfl ?_
     refine St.done ?_
     refine St.thenN ?_
     refine St.prune (Γ' := [(2, _), (3, _)]) ⟨rfl, rfl, trivial⟩ (.d .z) ?_
     refine St.ret ?_
     repeat (first | refine St.thenR ?_ | refine St.blkR ?_)
     refine St.asrt (fun _ w => w.nilL eu8 5) ?_
     injection h with h
     subst h
     exact St.finR Try.results12 (.tmp rfl (.tmp rfl .nil)) rfl [.res (OwnL eu8 5 none 0 ([] : List Int))] ⟨none, 0, rfl, rfl⟩ (fun _ w => ((.k .z) : Keep _ _).sat w)
    ·replace h := bif_f hb4 h
     refine St.skip ?_
     refine St.thenN ?_
     refine St.prune (Γ' := [(5, _)]) ⟨rfl, trivial⟩ (.k .z) ?_
     refine St.seq ?_
     refine St.region ?_
     iterate 3 refine St.p rfl rfl ?_
     refine St.done ?_
     refine St.thenN ?_
     refine St.prune (Γ' := [(2, _), (3, _)]) ⟨rfl, rfl, trivial⟩ (.k .z) ?_
     refine St.ret ?_
     repeat (first | refine St.thenR ?_ | refine St.blkR ?_)
     injection h with h
     subst h
     exact St.finR Try.results12 (.tmp rfl (.tmp rfl .nil)) rfl [.res (OwnL eu8 5 A23 c23 l9)] ⟨A23, c23, rfl, rfl⟩ (fun _ w => ((.k .z) : Keep _ _).sat w)

theorem ent56 : Ent Try.prog 56 := ⟨_, Try.func56, by kernel_rfl, by kernel_rfl⟩

noncomputable def m_ref28_SameNeeds (a_p0 : (List T_Need)) (b_p1 : (List T_Need)) : Option Bool :=
 bif ((a_p0.length : Int) != (b_p1.length : Int)) then (some false) else (bnd (loopM (τ := Bool ⊕ Unit) (fun (s1 : Int) => bif decide (s1 < (a_p0.length : Int)) then (bnd (elt a_p0 s1) fun x1 => bnd (elt b_p1 s1) fun x2 => bif !((x1.Component.toList == x2.Component.toList) && (((x1.From.Major == x2.From.Major) && ((x1.From.Minor == x2.From.Minor) && ((x1.From.Patch == x2.From.Patch) && true))) && ((x1.On.toList == x2.On.toList) && (((x1.At.Major == x2.At.Major) && ((x1.At.Minor == x2.At.Minor) && ((x1.At.Patch == x2.At.Patch) && true))) && true)))) then (some (.done (.inl false))) else (some (.next (IntKind.wrap .i64 (s1 + 1))))) else (some (.done (.inr ())))) 0) fun o1 => retOr o1 fun o2 => some true)

theorem c_ref28_SameNeeds {a_p0 : (List T_Need)} {b_p1 : (List T_Need)} {A1 : Option Addr} {c1 : Nat} {A2 : Option Addr} {c2 : Nat} {r : Bool} (h : m_ref28_SameNeeds a_p0 b_p1 = some r) :
  Fun Try.prog 56 [.slice A1 a_p0.length c1, .slice A2 b_p1.length c2] [.ro (SlL e_Need A1 c1 a_p0), .ro (SlL e_Need A2 c2 b_p1)] (Val (.bool r)) := by
 unfold m_ref28_SameNeeds at h
 refine Fun.intro Try.func56 rfl rfl rfl fun w R => ?_
 refine St.seq ?_
 refine St.region ?_
 refine St.p rfl rfl ?_
 refine St.done ?_
 refine St.thenN ?_
 refine St.prune (Γ' := [(0, _), (1, _)]) ⟨rfl, rfl, trivial⟩ (.k (.k .z)) ?_
 refine St.seq ?_
 refine St.seq ?_
 refine St.region ?_
 iterate 5 refine St.p rfl rfl ?_
 refine St.done ?_
 refine St.thenN ?_
 refine St.prune (Γ' := [(0, _), (1, _), (10, _)]) ⟨rfl, rfl, rfl, trivial⟩ (.k (.k .z)) ?_
 refine St.cond _ rfl (fun hb1 => ?_) (fun hb1 => ?_)
 ·replace h := bif_t hb1 h
  refine St.seq ?_
  refine St.region ?_
  refine St.p rfl rfl ?_
  refine St.done ?_
  refine St.thenN ?_
  refine St.prune (Γ' := [(4, _)]) ⟨rfl, trivial⟩ (.d (.d .z)) ?_
  refine St.ret ?_
  repeat (first | refine St.thenR ?_ | refine St.blkR ?_)
  injection h with h
  subst h
  exact St.finR Try.results56 (.tmp rfl .nil) rfl [] ⟨rfl, rfl⟩ (fun _ w => (.z : Keep _ _).sat w)
 ·replace h := bif_f hb1 h
  refine St.skip ?_
  refine St.thenN ?_
  refine St.prune (Γ' := [(0, _), (1, _)]) ⟨rfl, rfl, trivial⟩ (.k (.k .z)) ?_
  refine St.seq ?_
  refine St.seq ?_
  refine St.region ?_
  refine St.p rfl rfl ?_
  refine St.done ?_
  refine St.thenN ?_
  obtain ⟨o1, hl1, h⟩ := bnd_e h
  refine St.cutI (fun (o2 : Unit) (e2 : Unit) => []) (fun o2 e2 => R) (fun o2 => o1 = .inr o2) ?_ ?_
  ·refine St.block ?_
   refine St.loop hl1 (fun (s1 : Int) (e1 : Unit) => [(0, .slice A1 a_p0.length c1), (1, .slice A2 b_p1.length c2), (5, .int .i64 s1)]) (fun s1 e1 => .ro (SlL e_Need A1 c1 a_p0) :: .ro (SlL e_Need A2 c2 b_p1) :: R) (fun _ _ => True) () trivial ⟨rfl, rfl, rfl, trivial⟩ (fun _ w => ((.k (.k .z)) : Keep _ _).sat w) ?_
   rintro s1 e1 - hit1
   obtain ⟨st1, hm1, hd1⟩ := iter_e hit1
   have h1 := hm1
   refine St.seq ?_
   refine St.seq ?_
   refine St.region ?_
   iterate 4 refine St.p rfl rfl ?_
   refine St.done ?_
   refine St.thenN ?_
   refine St.prune (Γ' := [(0, _), (1, _), (5, _), (14, _)]) ⟨rfl, rfl, rfl, rfl, trivial⟩ (.k (.k .z)) ?_
   refine St.cond _ rfl (fun hb2 => ?_) (fun hb2 => ?_)
   ·replace h1 := bif_t hb2 h1
    refine St.skip ?_
    refine St.thenN ?_
    refine St.prune (Γ' := [(0, _), (1, _), (5, _)]) ⟨rfl, rfl, rfl, trivial⟩ (.k (.k .z)) ?_
    refine St.seq ?_
    refine St.block ?_
    refine St.seq ?_
    refine St.regionF mixed (by kernel_rfl) ?_
    refine St.p rfl rfl ?_
    refine St.p rfl rfl ?_
    obtain ⟨x1, hx1, h1⟩ := bnd_e h1
    refine St.ixL hx1 rfl rfl rfl (.head _) rfl rfl rfl rfl rfl fun b1 ob1 => ?_
    refine St.load ob1 0 rfl rfl (.head _) rfl rfl ?_
    refine St.p rfl rfl ?_
    refine St.p rfl rfl ?_
    obtain ⟨x2, hx2, h1⟩ := bnd_e h1
    refine St.ixL hx2 rfl rfl rfl (.tail _ (.tail _ (.head _))) rfl rfl rfl rfl rfl fun b2 ob2 => ?_
    refine St.load ob2 0 rfl rfl (.head _) rfl rfl ?_
    refine St.p rfl rfl ?_
    refine St.doneQ ?_
    refine St.thenN ?_
    refine St.prune (Γ' := [(0, _), (1, _), (5, _), (25, _)]) ⟨rfl, rfl, rfl, rfl, trivial⟩ (.d (.d (.k (.k .z)))) ?_
    refine St.cond _ rfl (fun hb3 => ?_) (fun hb3 => ?_)
    ·replace h1 := bif_t hb3 h1
     refine St.seq ?_
     refine St.region ?_
     refine St.p rfl rfl ?_
     refine St.done ?_
     refine St.thenN ?_
     refine St.prune (Γ' := [(4, _)]) ⟨rfl, trivial⟩ (.d (.d .z)) ?_
     refine St.ret ?_
     repeat (first | refine St.thenR ?_ | refine St.blkR ?_)
     injection h1 with h1
     subst h1
     have ho := hd1 _ rfl
     subst ho
     have h : some _ = some _ := h
     injection h with h
     subst h
     exact St.finR Try.results56 (.tmp rfl .nil) rfl [] ⟨rfl, rfl⟩ (fun _ w => (.z : Keep _ _).sat w)
    ·replace h1 := bif_f hb3 h1
     refine St.skip ?_
     refine St.blkN ?_
     refine St.thenN ?_
     refine St.prune (Γ' := [(0, _), (1, _), (5, _)]) ⟨rfl, rfl, rfl, trivial⟩ (.k (.k .z)) ?_
     refine St.region ?_
     iterate 3 refine St.p rfl rfl ?_
     refine St.done ?_
     injection h1 with h1
     subst h1
     refine St.thenN ?_
     exact St.again _ () hm1 trivial ⟨rfl, rfl, rfl, trivial⟩ (fun _ w => ((.k (.k .z)) : Keep _ _).sat w)
   ·replace h1 := bif_f hb2 h1
    refine St.exit ?_
    repeat (first | refine St.thenX ?_ | refine St.blkMiss rfl ?_)
    refine St.blkHit ?_
    injection h1 with h1
    subst h1
    have ho := hd1 _ rfl
    subst ho
    refine St.thenN ?_
    exact St.hereI () () rfl trivial (fun _ w => ((.d (.d .z)) : Keep _ _).sat w)
  ·rintro o2 e2 ho
   subst ho
   have h : _ = some _ := h
   refine St.seq ?_
   refine St.region ?_
   refine St.p rfl rfl ?_
   refine St.done ?_
   refine St.thenN ?_
   refine St.ret ?_
   repeat (first | refine St.thenR ?_ | refine St.blkR ?_)
   injection h with h
   subst h
   exact St.finR Try.results56 (.tmp rfl .nil) rfl [] ⟨rfl, rfl⟩ (fun _ w => (.z : Keep _ _).sat w)

theorem ent57 : Ent Try.prog 57 := ⟨_, Try.func57, by kernel_rfl, by kernel_rfl⟩

noncomputable def m_ref28_SameImage (a_p0 : T_Image) (b_p1 : T_Image) : Option Bool :=
 bnd ((bif (a_p0.Name.toList == b_p1.Name.toList) then (bif ((a_p0.Version.Major == b_p1.Version.Major) && ((a_p0.Version.Minor == b_p1.Version.Minor) && ((a_p0.Version.Patch == b_p1.Version.Patch) && true))) then (some ((strOf a_p0.Data).toList == (strOf b_p1.Data).toList)) else (some false)) else (some false) : Option Bool)) fun o1 => some o1

theorem c_ref28_SameImage {a_p0 : T_Image} {b_p1 : T_Image} {A1 : Option Addr} {c1 : Nat} {A2 : Option Addr} {c2 : Nat} {r : Bool} (h : m_ref28_SameImage a_p0 b_p1 = some r) :
  Fun Try.prog 57 [.agg (bx_T_Image a_p0 A1 c1).toArray, .agg (bx_T_Image b_p1 A2 c2).toArray] [.ro (SlL eu8 A1 c1 a_p0.Data), .ro (SlL eu8 A2 c2 b_p1.Data)] (Val (.bool r)) := by
 unfold m_ref28_SameImage at h
 refine Fun.intro Try.func57 rfl rfl rfl fun w R => ?_
 refine St.seq ?_
 refine St.region ?_
 refine St.box rfl rfl fun g1 => ?_
 refine St.box rfl rfl fun g2 => ?_
 refine St.p rfl rfl ?_
 refine St.done ?_
 refine St.thenN ?_
 refine St.prune (Γ' := [(2, _), (3, _)]) ⟨rfl, rfl, trivial⟩ (.k (.k (.k (.k .z)))) ?_
 refine St.seq ?_
 obtain ⟨o1, hj1, h⟩ := bnd_e h
 refine St.cutE (fun (e1 : Unit) => [(4, .bool o1)]) (fun e1 => R) ?_ ?_
 ·refine St.region ?_
  refine St.p rfl rfl ?_
  refine St.loadB 0 rfl rfl (.tail _ (.head _)) rfl rfl ?_
  refine St.p rfl rfl ?_
  refine St.loadB 0 rfl rfl (.head _) rfl rfl ?_
  refine St.p rfl rfl ?_
  refine St.p rfl rfl ?_
  refine St.gSplit (dj := 10) _ rfl (fun hb1 => ?_) (fun hb1 => ?_)
  ·replace hj1 := bif_t hb1 hj1
   refine St.gOn (dj := 10) rfl rfl ?_
   refine St.p rfl rfl ?_
   refine St.gOn (dj := 10) rfl rfl ?_
   refine St.loadB 1 rfl rfl (.tail _ (.head _)) rfl rfl ?_
   refine St.gOn (dj := 10) rfl rfl ?_
   refine St.p rfl rfl ?_
   refine St.gOn (dj := 10) rfl rfl ?_
   refine St.loadB 1 rfl rfl (.head _) rfl rfl ?_
   refine St.gOn (dj := 10) rfl rfl ?_
   iterate 3 refine St.p rfl rfl ?_
   refine St.gSplit (dj := 17) _ rfl (fun hb2 => ?_) (fun hb2 => ?_)
   ·replace hj1 := bif_t hb2 hj1
    refine St.gOn (dj := 17) rfl rfl ?_
    refine St.p rfl rfl ?_
    refine St.gOn (dj := 17) rfl rfl ?_
    refine St.loadB 4 rfl rfl (.tail _ (.head _)) rfl rfl ?_
    refine St.gOn (dj := 17) rfl rfl ?_
    refine St.b2s rfl rfl rfl rfl rfl rfl rfl rfl rfl (srcL (E := eu8) (.tail _ (.tail _ (.head _)))) ?_
    refine St.gOn (dj := 17) rfl rfl ?_
    refine St.p rfl rfl ?_
    refine St.gOn (dj := 17) rfl rfl ?_
    refine St.loadB 4 rfl rfl (.head _) rfl rfl ?_
    refine St.gOn (dj := 17) rfl rfl ?_
    refine St.b2s rfl rfl rfl rfl rfl rfl rfl rfl rfl (srcL (E := eu8) (.tail _ (.tail _ (.tail _ (.head _))))) ?_
    refine St.gOn (dj := 17) rfl rfl ?_
    iterate 3 refine St.p rfl rfl ?_
    refine St.done ?_
    injection hj1 with hj1
    subst hj1
    refine St.thenN ?_
    exact St.hereE () ⟨rfl, trivial⟩ (fun _ w => ((.d (.d (.d (.d .z)))) : Keep _ _).sat w)
   ·replace hj1 := bif_f hb2 hj1
    refine St.gOff (dj := 17) rfl rfl rfl rfl ?_
    refine St.gOff (dj := 17) rfl rfl rfl rfl ?_
    refine St.gOff (dj := 17) rfl rfl rfl rfl ?_
    refine St.gOff (dj := 17) rfl rfl rfl rfl ?_
    refine St.gOff (dj := 17) rfl rfl rfl rfl ?_
    refine St.gOff (dj := 17) rfl rfl rfl rfl ?_
    refine St.gOff (dj := 17) rfl rfl rfl rfl ?_
    refine St.p rfl rfl ?_
    refine St.p rfl rfl ?_
    refine St.done ?_
    injection hj1 with hj1
    subst hj1
    refine St.thenN ?_
    exact St.hereE () ⟨rfl, trivial⟩ (fun _ w => ((.d (.d (.d (.d .z)))) : Keep _ _).sat w)
  ·replace hj1 := bif_f hb1 hj1
   refine St.gOff (dj := 10) rfl rfl rfl rfl ?_
   refine St.gOff (dj := 10) rfl rfl rfl rfl ?_
   refine St.gOff (dj := 10) rfl rfl rfl rfl ?_
   refine St.gOff (dj := 10) rfl rfl rfl rfl ?_
   refine St.gOff (dj := 10) rfl rfl rfl rfl ?_
   refine St.p rfl rfl ?_
   refine St.p rfl rfl ?_
   refine St.gOff (dj := 17) rfl rfl rfl rfl ?_
   refine St.gOff (dj := 17) rfl rfl rfl rfl ?_
   refine St.gOff (dj := 17) rfl rfl rfl rfl ?_
   refine St.gOff (dj := 17) rfl rfl rfl rfl ?_
   refine St.gOff (dj := 17) rfl rfl rfl rfl ?_
   refine St.gOff (dj := 17) rfl rfl rfl rfl ?_
   refine St.gOff (dj := 17) rfl rfl rfl rfl ?_
   refine St.p rfl rfl ?_
   refine St.p rfl rfl ?_
   refine St.done ?_
   injection hj1 with hj1
   subst hj1
   refine St.thenN ?_
   exact St.hereE () ⟨rfl, trivial⟩ (fun _ w => ((.d (.d (.d (.d .z)))) : Keep _ _).sat w)
 ·rintro e1
  refine St.ret ?_
  repeat (first | refine St.thenR ?_ | refine St.blkR ?_)
  injection h with h
  subst h
  exact St.finR Try.results57 (.tmp rfl .nil) rfl [] ⟨rfl, rfl⟩ (fun _ w => (.z : Keep _ _).sat w)

theorem ent24 : Ent Try.prog 24 := ⟨_, Try.func24, by kernel_rfl, by kernel_rfl⟩

noncomputable def m_ref28_Same (a_p0 : T_Bundle) (b_p1 : T_Bundle) : Option Bool :=
 bnd ((bif ((a_p0.Images.length : Int) != (b_p1.Images.length : Int)) then (some true) else (bnd (m_ref28_SameNeeds a_p0.Needs b_p1.Needs) fun r1 => some (!r1)) : Option Bool)) fun o1 => bif o1 then (some false) else (bnd (loopM (τ := Bool ⊕ Unit) (fun (s1 : Int) => bif decide (s1 < (a_p0.Images.length : Int)) then (bnd (elt a_p0.Images s1) fun x1 => bnd (elt b_p1.Images s1) fun x2 => bnd (m_ref28_SameImage x1 x2) fun r2 => bif !r2 then (some (.done (.inl false))) else (some (.next (IntKind.wrap .i64 (s1 + 1))))) else (some (.done (.inr ())))) 0) fun o2 => retOr o2 fun o3 => some true)

theorem c_ref28_Same {a_p0 : T_Bundle} {b_p1 : T_Bundle} {A1 : Option Addr} {c1 : Nat} {A2 : Option Addr} {c2 : Nat} {A3 : Option Addr} {c3 : Nat} {A4 : Option Addr} {c4 : Nat} {r : Bool} (h : m_ref28_Same a_p0 b_p1 = some r) :
  Fun Try.prog 24 [.agg #[.slice A1 a_p0.Images.length c1, .slice A2 a_p0.Needs.length c2], .agg #[.slice A3 b_p1.Images.length c3, .slice A4 b_p1.Needs.length c4]] [.ro (Sl (codL l_T_Image) A1 c1 a_p0.Images), .ro (SlL e_Need A2 c2 a_p0.Needs), .ro (Sl (codL l_T_Image) A3 c3 b_p1.Images), .ro (SlL e_Need A4 c4 b_p1.Needs)] (Val (.bool r)) := by
 unfold m_ref28_Same at h
 refine Fun.intro Try.func24 rfl rfl rfl fun w R => ?_
 refine St.seq ?_
 refine St.region ?_
 refine St.box rfl rfl fun g1 => ?_
 refine St.box rfl rfl fun g2 => ?_
 refine St.p rfl rfl ?_
 refine St.done ?_
 refine St.thenN ?_
 refine St.prune (Γ' := [(2, _), (3, _)]) ⟨rfl, rfl, trivial⟩ (.k (.k (.k (.k (.k (.k .z)))))) ?_
 refine St.seq ?_
 refine St.seq ?_
 obtain ⟨o1, hj1, h⟩ := bnd_e h
 refine St.cutE (fun (e1 : Unit) => [(2, .pointer (some ⟨g1, 0, none⟩)), (3, .pointer (some ⟨g2, 0, none⟩)), (20, .bool o1)]) (fun e1 => .res (Box g2 26 [.slice A3 b_p1.Images.length c3, .slice A4 b_p1.Needs.length c4]) :: .res (Box g1 26 [.slice A1 a_p0.Images.length c1, .slice A2 a_p0.Needs.length c2]) :: .ro (Sl (codL l_T_Image) A1 c1 a_p0.Images) :: .ro (SlL e_Need A2 c2 a_p0.Needs) :: .ro (Sl (codL l_T_Image) A3 c3 b_p1.Images) :: .ro (SlL e_Need A4 c4 b_p1.Needs) :: R) ?_ ?_
 ·refine St.region ?_
  refine St.p rfl rfl ?_
  refine St.loadB 0 rfl rfl (.tail _ (.head _)) rfl rfl ?_
  refine St.p rfl rfl ?_
  refine St.p rfl rfl ?_
  refine St.loadB 0 rfl rfl (.head _) rfl rfl ?_
  iterate 3 refine St.p rfl rfl ?_
  refine St.gSplit (dj := 13) _ rfl (fun hb1 => ?_) (fun hb1 => ?_)
  ·replace hj1 := bif_t hb1 hj1
   refine St.gOff (dj := 13) rfl rfl rfl rfl ?_
   refine St.gOff (dj := 13) rfl rfl rfl rfl ?_
   refine St.gOff (dj := 13) rfl rfl rfl rfl ?_
   refine St.gOff (dj := 13) rfl rfl rfl rfl ?_
   refine St.gOff (dj := 13) rfl rfl rfl rfl ?_
   refine St.gOff (dj := 13) rfl rfl rfl rfl ?_
   refine St.p rfl rfl ?_
   refine St.done ?_
   injection hj1 with hj1
   subst hj1
   refine St.thenN ?_
   exact St.hereE () ⟨rfl, rfl, rfl, trivial⟩ (fun _ w => ((.k (.k (.k (.k (.k (.k .z)))))) : Keep _ _).sat w)
  ·replace hj1 := bif_f hb1 hj1
   refine St.gOn (dj := 13) rfl rfl ?_
   refine St.p rfl rfl ?_
   refine St.gOn (dj := 13) rfl rfl ?_
   refine St.loadB 1 rfl rfl (.tail _ (.head _)) rfl rfl ?_
   refine St.gOn (dj := 13) rfl rfl ?_
   refine St.p rfl rfl ?_
   refine St.gOn (dj := 13) rfl rfl ?_
   refine St.loadB 1 rfl rfl (.head _) rfl rfl ?_
   refine St.gOn (dj := 13) rfl rfl ?_
   obtain ⟨r1, hr1, hj1⟩ := bnd_e hj1
   refine St.callV (c_ref28_SameNeeds hr1) ent56 rfl rfl rfl rfl ⟨(.tail _ (.tail _ (.tail _ (.head _)))), (.tail _ (.tail _ (.tail _ (.tail _ (.tail _ (.head _)))))), trivial⟩ ?_
   refine St.gOn (dj := 13) rfl rfl ?_
   refine St.p rfl rfl ?_
   refine St.p rfl rfl ?_
   refine St.done ?_
   injection hj1 with hj1
   subst hj1
   refine St.thenN ?_
   exact St.hereE () ⟨rfl, rfl, rfl, trivial⟩ (fun _ w => ((.k (.k (.k (.k (.k (.k .z)))))) : Keep _ _).sat w)
 ·rintro e1
  refine St.cond _ rfl (fun hb2 => ?_) (fun hb2 => ?_)
  ·replace h := bif_t hb2 h
   refine St.seq ?_
   refine St.region ?_
   refine St.p rfl rfl ?_
   refine St.done ?_
   refine St.thenN ?_
   refine St.prune (Γ' := [(4, _)]) ⟨rfl, trivial⟩ (.d (.d (.d (.d (.d (.d .z)))))) ?_
   refine St.ret ?_
   repeat (first | refine St.thenR ?_ | refine St.blkR ?_)
   injection h with h
   subst h
   exact St.finR Try.results24 (.tmp rfl .nil) rfl [] ⟨rfl, rfl⟩ (fun _ w => (.z : Keep _ _).sat w)
  ·replace h := bif_f hb2 h
   refine St.skip ?_
   refine St.thenN ?_
   refine St.prune (Γ' := [(2, _), (3, _)]) ⟨rfl, rfl, trivial⟩ (.k (.k (.k (.k (.k (.k .z)))))) ?_
   refine St.seq ?_
   refine St.seq ?_
   refine St.region ?_
   refine St.p rfl rfl ?_
   refine St.done ?_
   refine St.thenN ?_
   obtain ⟨o2, hl1, h⟩ := bnd_e h
   refine St.cutI (fun (o3 : Unit) (e3 : Unit) => []) (fun o3 e3 => R) (fun o3 => o2 = .inr o3) ?_ ?_
   ·refine St.block ?_
    refine St.loop hl1 (fun (s1 : Int) (e2 : Unit) => [(2, .pointer (some ⟨g1, 0, none⟩)), (3, .pointer (some ⟨g2, 0, none⟩)), (5, .int .i64 s1)]) (fun s1 e2 => .res (Box g2 26 [.slice A3 b_p1.Images.length c3, .slice A4 b_p1.Needs.length c4]) :: .res (Box g1 26 [.slice A1 a_p0.Images.length c1, .slice A2 a_p0.Needs.length c2]) :: .ro (Sl (codL l_T_Image) A1 c1 a_p0.Images) :: .ro (SlL e_Need A2 c2 a_p0.Needs) :: .ro (Sl (codL l_T_Image) A3 c3 b_p1.Images) :: .ro (SlL e_Need A4 c4 b_p1.Needs) :: R) (fun _ _ => True) () trivial ⟨rfl, rfl, rfl, trivial⟩ (fun _ w => ((.k (.k (.k (.k (.k (.k .z)))))) : Keep _ _).sat w) ?_
    rintro s1 e2 - hit1
    obtain ⟨st1, hm1, hd1⟩ := iter_e hit1
    have h1 := hm1
    refine St.seq ?_
    refine St.seq ?_
    refine St.region ?_
    refine St.p rfl rfl ?_
    refine St.p rfl rfl ?_
    refine St.loadB 0 rfl rfl (.tail _ (.head _)) rfl rfl ?_
    refine St.p rfl rfl ?_
    refine St.p rfl rfl ?_
    refine St.done ?_
    refine St.thenN ?_
    refine St.prune (Γ' := [(2, _), (3, _), (5, _), (25, _)]) ⟨rfl, rfl, rfl, rfl, trivial⟩ (.k (.k (.k (.k (.k (.k .z)))))) ?_
    refine St.cond _ rfl (fun hb3 => ?_) (fun hb3 => ?_)
    ·replace h1 := bif_t hb3 h1
     refine St.skip ?_
     refine St.thenN ?_
     refine St.prune (Γ' := [(2, _), (3, _), (5, _)]) ⟨rfl, rfl, rfl, trivial⟩ (.k (.k (.k (.k (.k (.k .z)))))) ?_
     refine St.seq ?_
     refine St.block ?_
     refine St.seq ?_
     refine St.regionF mixed (by kernel_rfl) ?_
     refine St.p rfl rfl ?_
     refine St.loadB 0 rfl rfl (.tail _ (.head _)) rfl rfl ?_
     refine St.p rfl rfl ?_
     obtain ⟨x1, hx1, h1⟩ := bnd_e h1
     refine St.ixN hx1 rfl rfl rfl (.tail _ (.tail _ (.head _))) rfl rfl rfl rfl rfl fun b1 ob1 ex1 => ?_
     obtain ⟨⟨A5, c5⟩, _⟩ := ex1
     refine St.asrt (F' := .ro (Cells b1 ob1 (bx_T_Image x1 A5 c5)) :: .ro (SlL eu8 A5 c5 x1.Data) :: .res (Box g2 26 [.slice A3 b_p1.Images.length c3, .slice A4 b_p1.Needs.length c4]) :: .res (Box g1 26 [.slice A1 a_p0.Images.length c1, .slice A2 a_p0.Needs.length c2]) :: .ro (Sl (codL l_T_Image) A1 c1 a_p0.Images) :: .ro (SlL e_Need A2 c2 a_p0.Needs) :: .ro (Sl (codL l_T_Image) A3 c3 b_p1.Images) :: .ro (SlL e_Need A4 c4 b_p1.Needs) :: R) (fun _ w => w) ?_
     refine St.load ob1 0 rfl rfl (.head _) rfl rfl ?_
     refine St.p rfl rfl ?_
     refine St.loadB 0 rfl rfl (.tail _ (.tail _ (.head _))) rfl rfl ?_
     refine St.p rfl rfl ?_
     obtain ⟨x2, hx2, h1⟩ := bnd_e h1
     refine St.ixN hx2 rfl rfl rfl (.tail _ (.tail _ (.tail _ (.tail _ (.tail _ (.tail _ (.head _))))))) rfl rfl rfl rfl rfl fun b2 ob2 ex2 => ?_
     obtain ⟨⟨A6, c6⟩, _⟩ := ex2
     refine St.asrt (F' := .ro (Cells b2 ob2 (bx_T_Image x2 A6 c6)) :: .ro (SlL eu8 A6 c6 x2.Data) :: .ro (Cells b1 ob1 (bx_T_Image x1 A5 c5)) :: .ro (SlL eu8 A5 c5 x1.Data) :: .res (Box g2 26 [.slice A3 b_p1.Images.length c3, .slice A4 b_p1.Needs.length c4]) :: .res (Box g1 26 [.slice A1 a_p0.Images.length c1, .slice A2 a_p0.Needs.length c2]) :: .ro (Sl (codL l_T_Image) A1 c1 a_p0.Images) :: .ro (SlL e_Need A2 c2 a_p0.Needs) :: .ro (Sl (codL l_T_Image) A3 c3 b_p1.Images) :: .ro (SlL e_Need A4 c4 b_p1.Needs) :: R) (fun _ w => w) ?_
     refine St.load ob2 0 rfl rfl (.head _) rfl rfl ?_
     obtain ⟨r2, hr2, h1⟩ := bnd_e h1
     refine St.callV (c_ref28_SameImage hr2) ent57 rfl rfl rfl rfl ⟨(.tail _ (.tail _ (.tail _ (.head _)))), (.tail _ (.head _)), trivial⟩ ?_
     refine St.p rfl rfl ?_
     refine St.doneQ ?_
     refine St.thenN ?_
     refine St.prune (Γ' := [(2, _), (3, _), (5, _), (39, _)]) ⟨rfl, rfl, rfl, rfl, trivial⟩ (.d (.d (.d (.d (.k (.k (.k (.k (.k (.k .z)))))))))) ?_
     refine St.cond _ rfl (fun hb4 => ?_) (fun hb4 => ?_)
     ·replace h1 := bif_t hb4 h1
      refine St.seq ?_
      refine St.region ?_
      refine St.p rfl rfl ?_
      refine St.done ?_
      refine St.thenN ?_
      refine St.prune (Γ' := [(4, _)]) ⟨rfl, trivial⟩ (.d (.d (.d (.d (.d (.d .z)))))) ?_
      refine St.ret ?_
      repeat (first | refine St.thenR ?_ | refine St.blkR ?_)
      injection h1 with h1
      subst h1
      have ho := hd1 _ rfl
      subst ho
      have h : some _ = some _ := h
      injection h with h
      subst h
      exact St.finR Try.results24 (.tmp rfl .nil) rfl [] ⟨rfl, rfl⟩ (fun _ w => (.z : Keep _ _).sat w)
     ·replace h1 := bif_f hb4 h1
      refine St.skip ?_
      refine St.blkN ?_
      refine St.thenN ?_
      refine St.prune (Γ' := [(2, _), (3, _), (5, _)]) ⟨rfl, rfl, rfl, trivial⟩ (.k (.k (.k (.k (.k (.k .z)))))) ?_
      refine St.region ?_
      iterate 3 refine St.p rfl rfl ?_
      refine St.done ?_
      injection h1 with h1
      subst h1
      refine St.thenN ?_
      exact St.again _ () hm1 trivial ⟨rfl, rfl, rfl, trivial⟩ (fun _ w => ((.k (.k (.k (.k (.k (.k .z)))))) : Keep _ _).sat w)
    ·replace h1 := bif_f hb3 h1
     refine St.exit ?_
     repeat (first | refine St.thenX ?_ | refine St.blkMiss rfl ?_)
     refine St.blkHit ?_
     injection h1 with h1
     subst h1
     have ho := hd1 _ rfl
     subst ho
     refine St.thenN ?_
     exact St.hereI () () rfl trivial (fun _ w => ((.d (.d (.d (.d (.d (.d .z)))))) : Keep _ _).sat w)
   ·rintro o3 e3 ho
    subst ho
    have h : _ = some _ := h
    refine St.seq ?_
    refine St.region ?_
    refine St.p rfl rfl ?_
    refine St.done ?_
    refine St.thenN ?_
    refine St.ret ?_
    repeat (first | refine St.thenR ?_ | refine St.blkR ?_)
    injection h with h
    subst h
    exact St.finR Try.results24 (.tmp rfl .nil) rfl [] ⟨rfl, rfl⟩ (fun _ w => (.z : Keep _ _).sat w)

end Go.Proofs.Ytgnmhmnglbbamaa
