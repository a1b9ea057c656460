/-
  Models of functions of the program, and that the functions compute them.
  Conditions: none.
-/
import Derived.Test.YtcekbbbjagfacaaDoorGen3
namespace Go.Proofs.YtcekbbbjagfacaaDoor
open Go
set_option linter.unusedVariables false
set_option maxRecDepth 4000

theorem c_ref17_sameArea {a_p0 : T_Area} {b_p1 : T_Area} {A1 : Option Addr} {c1 : Nat} {A2 : Option Addr} {c2 : Nat} {r : Bool} (h : m_ref17_sameArea a_p0 b_p1 = some r) :
    Fun Tryd.prog 44 [.agg (bx_T_Area a_p0 A1 c1).toArray, .agg (bx_T_Area b_p1 A2 c2).toArray] [.ro (SlL e_Field A1 c1 a_p0.Fields), .ro (SlL e_Field A2 c2 b_p1.Fields)] (Val (.bool r)) := by
  unfold m_ref17_sameArea at h
  refine Fun.intro Tryd.func44 rfl rfl rfl fun w R => ?_
  refine St.seq ?_
  refine St.region ?_
  refine St.box rfl rfl fun g1 => ?_
  refine St.box rfl rfl fun g2 => ?_
  refine St.p rfl rfl ?_
  refine St.done ?_
  refine St.thenN ?_
  refine St.prune (Γ' := [(2, _), (3, _)]) ⟨rfl, rfl, trivial⟩ (.k (.k (.k (.k .z)))) ?_
  refine St.seq ?_
  obtain ⟨o1, hj1, h⟩ := bnd_e h
  refine St.cutE (fun (e1 : Unit) => [(4, .bool o1)]) (fun e1 => R) ?_ ?_
  · refine St.region ?_
    refine St.p rfl rfl ?_
    refine St.loadB 0 rfl rfl (.tail _ (.head _)) rfl rfl ?_
    refine St.p rfl rfl ?_
    refine St.loadB 0 rfl rfl (.head _) rfl rfl ?_
    refine St.p rfl rfl ?_
    refine St.p rfl rfl ?_
    refine St.gSplit (dj := 10) _ rfl (fun hb1 => ?_) (fun hb1 => ?_)
    · replace hj1 := bif_t hb1 hj1
      refine St.gOn (dj := 10) rfl rfl ?_
      refine St.p rfl rfl ?_
      refine St.gOn (dj := 10) rfl rfl ?_
      refine St.loadB 1 rfl rfl (.tail _ (.head _)) rfl rfl ?_
      refine St.gOn (dj := 10) rfl rfl ?_
      refine St.p rfl rfl ?_
      refine St.gOn (dj := 10) rfl rfl ?_
      refine St.loadB 1 rfl rfl (.head _) rfl rfl ?_
      refine St.gOn (dj := 10) rfl rfl ?_
      iterate 3 refine St.p rfl rfl ?_
      refine St.gSplit (dj := 17) _ rfl (fun hb2 => ?_) (fun hb2 => ?_)
      · replace hj1 := bif_t hb2 hj1
        refine St.gOn (dj := 17) rfl rfl ?_
        refine St.p rfl rfl ?_
        refine St.gOn (dj := 17) rfl rfl ?_
        refine St.loadB 2 rfl rfl (.tail _ (.head _)) rfl rfl ?_
        refine St.gOn (dj := 17) rfl rfl ?_
        refine St.p rfl rfl ?_
        refine St.gOn (dj := 17) rfl rfl ?_
        refine St.loadB 2 rfl rfl (.head _) rfl rfl ?_
        refine St.gOn (dj := 17) rfl rfl ?_
        iterate 3 refine St.p rfl rfl ?_
        refine St.gSplit (dj := 24) _ rfl (fun hb3 => ?_) (fun hb3 => ?_)
        · replace hj1 := bif_t hb3 hj1
          refine St.gOn (dj := 24) rfl rfl ?_
          refine St.p rfl rfl ?_
          refine St.gOn (dj := 24) rfl rfl ?_
          refine St.loadB 3 rfl rfl (.tail _ (.head _)) rfl rfl ?_
          refine St.gOn (dj := 24) rfl rfl ?_
          refine St.p rfl rfl ?_
          refine St.gOn (dj := 24) rfl rfl ?_
          refine St.loadB 3 rfl rfl (.head _) rfl rfl ?_
          refine St.gOn (dj := 24) rfl rfl ?_
          obtain ⟨r1, hr1, hj1⟩ := bnd_e hj1
          refine St.callV (c_ref02_SameList hr1) ent65 rfl rfl rfl rfl ⟨(.tail _ (.tail _ (.head _))), (.tail _ (.tail _ (.tail _ (.head _)))), trivial⟩ ?_
          refine St.p rfl rfl ?_
          refine St.p rfl rfl ?_
          refine St.done ?_
          injection hj1 with hj1
          subst hj1
          refine St.thenN ?_
          exact St.hereE () ⟨rfl, trivial⟩ (fun _ w => ((.d (.d (.d (.d .z)))) : Keep _ _).sat w)
        · replace hj1 := bif_f hb3 hj1
          refine St.gOff (dj := 24) rfl rfl rfl rfl ?_
          refine St.gOff (dj := 24) rfl rfl rfl rfl ?_
          refine St.gOff (dj := 24) rfl rfl rfl rfl ?_
          refine St.gOff (dj := 24) rfl rfl rfl rfl ?_
          refine St.gOff (dj := 24) rfl rfl rfl rfl ?_
          refine St.p rfl rfl ?_
          refine St.p rfl rfl ?_
          refine St.done ?_
          injection hj1 with hj1
          subst hj1
          refine St.thenN ?_
          exact St.hereE () ⟨rfl, trivial⟩ (fun _ w => ((.d (.d (.d (.d .z)))) : Keep _ _).sat w)
      · replace hj1 := bif_f hb2 hj1
        refine St.gOff (dj := 17) rfl rfl rfl rfl ?_
        refine St.gOff (dj := 17) rfl rfl rfl rfl ?_
        refine St.gOff (dj := 17) rfl rfl rfl rfl ?_
        refine St.gOff (dj := 17) rfl rfl rfl rfl ?_
        refine St.gOff (dj := 17) rfl rfl rfl rfl ?_
        refine St.p rfl rfl ?_
        refine St.p rfl rfl ?_
        refine St.gOff (dj := 24) rfl rfl rfl rfl ?_
        refine St.gOff (dj := 24) rfl rfl rfl rfl ?_
        refine St.gOff (dj := 24) rfl rfl rfl rfl ?_
        refine St.gOff (dj := 24) rfl rfl rfl rfl ?_
        refine St.gOff (dj := 24) rfl rfl rfl rfl ?_
        refine St.p rfl rfl ?_
        refine St.p rfl rfl ?_
        refine St.done ?_
        injection hj1 with hj1
        subst hj1
        refine St.thenN ?_
        exact St.hereE () ⟨rfl, trivial⟩ (fun _ w => ((.d (.d (.d (.d .z)))) : Keep _ _).sat w)
    · replace hj1 := bif_f hb1 hj1
      refine St.gOff (dj := 10) rfl rfl rfl rfl ?_
      refine St.gOff (dj := 10) rfl rfl rfl rfl ?_
      refine St.gOff (dj := 10) rfl rfl rfl rfl ?_
      refine St.gOff (dj := 10) rfl rfl rfl rfl ?_
      refine St.gOff (dj := 10) rfl rfl rfl rfl ?_
      refine St.p rfl rfl ?_
      refine St.p rfl rfl ?_
      refine St.gOff (dj := 17) rfl rfl rfl rfl ?_
      refine St.gOff (dj := 17) rfl rfl rfl rfl ?_
      refine St.gOff (dj := 17) rfl rfl rfl rfl ?_
      refine St.gOff (dj := 17) rfl rfl rfl rfl ?_
      refine St.gOff (dj := 17) rfl rfl rfl rfl ?_
      refine St.p rfl rfl ?_
      refine St.p rfl rfl ?_
      refine St.gOff (dj := 24) rfl rfl rfl rfl ?_
      refine St.gOff (dj := 24) rfl rfl rfl rfl ?_
      refine St.gOff (dj := 24) rfl rfl rfl rfl ?_
      refine St.gOff (dj := 24) rfl rfl rfl rfl ?_
      refine St.gOff (dj := 24) rfl rfl rfl rfl ?_
      refine St.p rfl rfl ?_
      refine St.p rfl rfl ?_
      refine St.done ?_
      injection hj1 with hj1
      subst hj1
      refine St.thenN ?_
      exact St.hereE () ⟨rfl, trivial⟩ (fun _ w => ((.d (.d (.d (.d .z)))) : Keep _ _).sat w)
  · rintro e1
    refine St.ret ?_
    repeat (first | refine St.thenR ?_ | refine St.blkR ?_)
    injection h with h
    subst h
    exact St.finR Tryd.results44 (.tmp rfl .nil) rfl [] ⟨rfl, rfl⟩ (fun _ w => (.z : Keep _ _).sat w)

theorem ent29 : Ent Tryd.prog 29 := ⟨_, Tryd.func29, by kernel_rfl, by kernel_rfl⟩

noncomputable def m_ref17_Same (a_p0 : T_Info) (b_p1 : T_Info) : Option Bool :=
  bnd ((bnd (m_ref17_sameArea a_p0.Chassis b_p1.Chassis) fun r1 => bif r1 then (bnd (m_ref17_sameArea a_p0.Board b_p1.Board) fun r2 => bif r2 then (bnd (m_ref17_sameArea a_p0.Product b_p1.Product) fun r3 => bif r3 then (bnd (m_ref01_Same a_p0.Multi b_p1.Multi) fun r4 => some r4) else (some false)) else (some false)) else (some false) : Option Bool)) fun o1 => some o1

theorem c_ref17_Same {a_p0 : T_Info} {b_p1 : T_Info} {A1 : Option Addr} {c1 : Nat} {A2 : Option Addr} {c2 : Nat} {A3 : Option Addr} {c3 : Nat} {A4 : Option Addr} {c4 : Nat} {A5 : Option Addr} {c5 : Nat} {A6 : Option Addr} {c6 : Nat} {A7 : Option Addr} {c7 : Nat} {A8 : Option Addr} {c8 : Nat} {r : Bool} (h : m_ref17_Same a_p0 b_p1 = some r) :
    Fun Tryd.prog 29 [.agg (bx_T_Info a_p0 A1 c1 A2 c2 A3 c3 A4 c4).toArray, .agg (bx_T_Info b_p1 A5 c5 A6 c6 A7 c7 A8 c8).toArray] [.ro (SlL e_Field A1 c1 a_p0.Chassis.Fields), .ro (SlL e_Field A2 c2 a_p0.Board.Fields), .ro (SlL e_Field A3 c3 a_p0.Product.Fields), .ro (SlL eu8 A4 c4 a_p0.Multi), .ro (SlL e_Field A5 c5 b_p1.Chassis.Fields), .ro (SlL e_Field A6 c6 b_p1.Board.Fields), .ro (SlL e_Field A7 c7 b_p1.Product.Fields), .ro (SlL eu8 A8 c8 b_p1.Multi)] (Val (.bool r)) := by
  unfold m_ref17_Same at h
  refine Fun.intro Tryd.func29 rfl rfl rfl fun w R => ?_
  refine St.seq ?_
  refine St.region ?_
  refine St.box rfl rfl fun g1 => ?_
  refine St.box rfl rfl fun g2 => ?_
  refine St.p rfl rfl ?_
  refine St.done ?_
  refine St.thenN ?_
  refine St.prune (Γ' := [(2, _), (3, _)]) ⟨rfl, rfl, trivial⟩ (.k (.k (.k (.k (.k (.k (.k (.k (.k (.k .z)))))))))) ?_
  refine St.seq ?_
  obtain ⟨o1, hj1, h⟩ := bnd_e h
  refine St.cutE (fun (e1 : Unit) => [(4, .bool o1)]) (fun e1 => R) ?_ ?_
  · refine St.region ?_
    refine St.p rfl rfl ?_
    refine St.loadB 0 rfl rfl (.tail _ (.head _)) rfl rfl ?_
    refine St.p rfl rfl ?_
    refine St.loadB 0 rfl rfl (.head _) rfl rfl ?_
    obtain ⟨r1, hr1, hj1⟩ := bnd_e hj1
    refine St.callV (c_ref17_sameArea hr1) ent44 rfl rfl rfl rfl ⟨(.tail _ (.tail _ (.head _))), (.tail _ (.tail _ (.tail _ (.tail _ (.tail _ (.tail _ (.head _))))))), trivial⟩ ?_
    refine St.p rfl rfl ?_
    refine St.gSplit (dj := 10) _ rfl (fun hb1 => ?_) (fun hb1 => ?_)
    · replace hj1 := bif_t hb1 hj1
      refine St.gOn (dj := 10) rfl rfl ?_
      refine St.p rfl rfl ?_
      refine St.gOn (dj := 10) rfl rfl ?_
      refine St.loadB 4 rfl rfl (.tail _ (.head _)) rfl rfl ?_
      refine St.gOn (dj := 10) rfl rfl ?_
      refine St.p rfl rfl ?_
      refine St.gOn (dj := 10) rfl rfl ?_
      refine St.loadB 4 rfl rfl (.head _) rfl rfl ?_
      refine St.gOn (dj := 10) rfl rfl ?_
      obtain ⟨r2, hr2, hj1⟩ := bnd_e hj1
      refine St.callV (c_ref17_sameArea hr2) ent44 rfl rfl rfl rfl ⟨(.tail _ (.tail _ (.tail _ (.head _)))), (.tail _ (.tail _ (.tail _ (.tail _ (.tail _ (.tail _ (.tail _ (.head _)))))))), trivial⟩ ?_
      refine St.p rfl rfl ?_
      refine St.p rfl rfl ?_
      refine St.gSplit (dj := 17) _ rfl (fun hb2 => ?_) (fun hb2 => ?_)
      · replace hj1 := bif_t hb2 hj1
        refine St.gOn (dj := 17) rfl rfl ?_
        refine St.p rfl rfl ?_
        refine St.gOn (dj := 17) rfl rfl ?_
        refine St.loadB 8 rfl rfl (.tail _ (.head _)) rfl rfl ?_
        refine St.gOn (dj := 17) rfl rfl ?_
        refine St.p rfl rfl ?_
        refine St.gOn (dj := 17) rfl rfl ?_
        refine St.loadB 8 rfl rfl (.head _) rfl rfl ?_
        refine St.gOn (dj := 17) rfl rfl ?_
        obtain ⟨r3, hr3, hj1⟩ := bnd_e hj1
        refine St.callV (c_ref17_sameArea hr3) ent44 rfl rfl rfl rfl ⟨(.tail _ (.tail _ (.tail _ (.tail _ (.head _))))), (.tail _ (.tail _ (.tail _ (.tail _ (.tail _ (.tail _ (.tail _ (.tail _ (.head _))))))))), trivial⟩ ?_
        refine St.p rfl rfl ?_
        refine St.p rfl rfl ?_
        refine St.gSplit (dj := 24) _ rfl (fun hb3 => ?_) (fun hb3 => ?_)
        · replace hj1 := bif_t hb3 hj1
          refine St.gOn (dj := 24) rfl rfl ?_
          refine St.p rfl rfl ?_
          refine St.gOn (dj := 24) rfl rfl ?_
          refine St.loadB 12 rfl rfl (.tail _ (.head _)) rfl rfl ?_
          refine St.gOn (dj := 24) rfl rfl ?_
          refine St.p rfl rfl ?_
          refine St.gOn (dj := 24) rfl rfl ?_
          refine St.loadB 12 rfl rfl (.head _) rfl rfl ?_
          refine St.gOn (dj := 24) rfl rfl ?_
          obtain ⟨r4, hr4, hj1⟩ := bnd_e hj1
          refine St.callV (c_ref01_Same hr4) ent18 rfl rfl rfl rfl ⟨(.tail _ (.tail _ (.tail _ (.tail _ (.tail _ (.head _)))))), (.tail _ (.tail _ (.tail _ (.tail _ (.tail _ (.tail _ (.tail _ (.tail _ (.tail _ (.head _)))))))))), trivial⟩ ?_
          refine St.p rfl rfl ?_
          refine St.p rfl rfl ?_
          refine St.done ?_
          injection hj1 with hj1
          subst hj1
          refine St.thenN ?_
          exact St.hereE () ⟨rfl, trivial⟩ (fun _ w => ((.d (.d (.d (.d (.d (.d (.d (.d (.d (.d .z)))))))))) : Keep _ _).sat w)
        · replace hj1 := bif_f hb3 hj1
          refine St.gOff (dj := 24) rfl rfl rfl rfl ?_
          refine St.gOff (dj := 24) rfl rfl rfl rfl ?_
          refine St.gOff (dj := 24) rfl rfl rfl rfl ?_
          refine St.gOff (dj := 24) rfl rfl rfl rfl ?_
          refine St.gOff (dj := 24) rfl rfl rfl rfl ?_
          refine St.p rfl rfl ?_
          refine St.p rfl rfl ?_
          refine St.done ?_
          injection hj1 with hj1
          subst hj1
          refine St.thenN ?_
          exact St.hereE () ⟨rfl, trivial⟩ (fun _ w => ((.d (.d (.d (.d (.d (.d (.d (.d (.d (.d .z)))))))))) : Keep _ _).sat w)
      · replace hj1 := bif_f hb2 hj1
        refine St.gOff (dj := 17) rfl rfl rfl rfl ?_
        refine St.gOff (dj := 17) rfl rfl rfl rfl ?_
        refine St.gOff (dj := 17) rfl rfl rfl rfl ?_
        refine St.gOff (dj := 17) rfl rfl rfl rfl ?_
        refine St.gOff (dj := 17) rfl rfl rfl rfl ?_
        refine St.p rfl rfl ?_
        refine St.p rfl rfl ?_
        refine St.gOff (dj := 24) rfl rfl rfl rfl ?_
        refine St.gOff (dj := 24) rfl rfl rfl rfl ?_
        refine St.gOff (dj := 24) rfl rfl rfl rfl ?_
        refine St.gOff (dj := 24) rfl rfl rfl rfl ?_
        refine St.gOff (dj := 24) rfl rfl rfl rfl ?_
        refine St.p rfl rfl ?_
        refine St.p rfl rfl ?_
        refine St.done ?_
        injection hj1 with hj1
        subst hj1
        refine St.thenN ?_
        exact St.hereE () ⟨rfl, trivial⟩ (fun _ w => ((.d (.d (.d (.d (.d (.d (.d (.d (.d (.d .z)))))))))) : Keep _ _).sat w)
    · replace hj1 := bif_f hb1 hj1
      refine St.gOff (dj := 10) rfl rfl rfl rfl ?_
      refine St.gOff (dj := 10) rfl rfl rfl rfl ?_
      refine St.gOff (dj := 10) rfl rfl rfl rfl ?_
      refine St.gOff (dj := 10) rfl rfl rfl rfl ?_
      refine St.gOff (dj := 10) rfl rfl rfl rfl ?_
      refine St.p rfl rfl ?_
      refine St.p rfl rfl ?_
      refine St.gOff (dj := 17) rfl rfl rfl rfl ?_
      refine St.gOff (dj := 17) rfl rfl rfl rfl ?_
      refine St.gOff (dj := 17) rfl rfl rfl rfl ?_
      refine St.gOff (dj := 17) rfl rfl rfl rfl ?_
      refine St.gOff (dj := 17) rfl rfl rfl rfl ?_
      refine St.p rfl rfl ?_
      refine St.p rfl rfl ?_
      refine St.gOff (dj := 24) rfl rfl rfl rfl ?_
      refine St.gOff (dj := 24) rfl rfl rfl rfl ?_
      refine St.gOff (dj := 24) rfl rfl rfl rfl ?_
      refine St.gOff (dj := 24) rfl rfl rfl rfl ?_
      refine St.gOff (dj := 24) rfl rfl rfl rfl ?_
      refine St.p rfl rfl ?_
      refine St.p rfl rfl ?_
      refine St.done ?_
      injection hj1 with hj1
      subst hj1
      refine St.thenN ?_
      exact St.hereE () ⟨rfl, trivial⟩ (fun _ w => ((.d (.d (.d (.d (.d (.d (.d (.d (.d (.d .z)))))))))) : Keep _ _).sat w)
  · rintro e1
    refine St.ret ?_
    repeat (first | refine St.thenR ?_ | refine St.blkR ?_)
    injection h with h
    subst h
    exact St.finR Tryd.results29 (.tmp rfl .nil) rfl [] ⟨rfl, rfl⟩ (fun _ w => (.z : Keep _ _).sat w)

end Go.Proofs.YtcekbbbjagfacaaDoor
