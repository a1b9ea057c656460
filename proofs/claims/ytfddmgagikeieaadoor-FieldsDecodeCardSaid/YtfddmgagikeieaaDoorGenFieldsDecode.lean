/-
  Models of functions of the program, and that the functions compute them.
  Conditions: none.
-/
import Derived.Test.YtfddmgagikeieaaDoorGen
namespace Go.Proofs.YtfddmgagikeieaaDoor
open Go
set_option linter.unusedVariables false
set_option maxRecDepth 4000

theorem ent7 : Ent Tryd.prog 7 := ⟨_, Tryd.func7, by kernel_rfl, by kernel_rfl⟩

noncomputable def m_law02_FieldsDecode (b_p0 : (List Int)) : Option Bool :=
  bif decide ((b_p0.length : Int) > 300) then (bnd (m_law02_awake) fun r1 => some r1) else (bnd (m_fields_Decode b_p0) fun r2 => bnd (m_ref02_Decode b_p0) fun r3 => bnd ((bnd (m_ref02_Same r2.1 r3.1) fun r4 => bif r4 then (bif (r2.2.1 == r3.2.1) then (bif (r2.2.2.1 == r3.2.2.1) then (bif (r2.2.2.2 == r3.2.2.2) then (bnd (m_law02_awake) fun r5 => some r5) else (some false)) else (some false)) else (some false)) else (some false) : Option Bool)) fun o1 => some o1)

theorem c_law02_FieldsDecode {b_p0 : (List Int)} {A1 : Option Addr} {c1 : Nat} {r : Bool} (h : m_law02_FieldsDecode b_p0 = some r) :
    Fun Tryd.prog 7 [.slice A1 b_p0.length c1] [.ro (SlL eu8 A1 c1 b_p0)] (Val (.bool r)) := by
  unfold m_law02_FieldsDecode at h
  refine Fun.intro Tryd.func7 rfl rfl rfl fun w R => ?_
  refine St.seq ?_
  refine St.region ?_
  refine St.p rfl rfl ?_
  refine St.done ?_
  refine St.thenN ?_
  refine St.prune (Γ' := [(0, _)]) ⟨rfl, trivial⟩ (.k .z) ?_
  refine St.seq ?_
  refine St.seq ?_
  refine St.region ?_
  iterate 3 refine St.p rfl rfl ?_
  refine St.done ?_
  refine St.thenN ?_
  refine St.prune (Γ' := [(0, _), (13, _)]) ⟨rfl, rfl, trivial⟩ (.k .z) ?_
  refine St.cond _ rfl (fun hb1 => ?_) (fun hb1 => ?_)
  · replace h := bif_t hb1 h
    refine St.seq ?_
    refine St.region ?_
    obtain ⟨r1, hr1, h⟩ := bnd_e h
    refine St.callV (c_law02_awake hr1) ent14 rfl rfl rfl rfl trivial ?_
    refine St.p rfl rfl ?_
    refine St.done ?_
    refine St.thenN ?_
    refine St.prune (Γ' := [(2, _)]) ⟨rfl, trivial⟩ (.d .z) ?_
    refine St.ret ?_
    repeat (first | refine St.thenR ?_ | refine St.blkR ?_)
    injection h with h
    subst h
    exact St.finR Tryd.results7 (.tmp rfl .nil) rfl [] ⟨rfl, rfl⟩ (fun _ w => (.z : Keep _ _).sat w)
  · replace h := bif_f hb1 h
    refine St.skip ?_
    refine St.thenN ?_
    refine St.prune (Γ' := [(0, _)]) ⟨rfl, trivial⟩ (.k .z) ?_
    refine St.seq ?_
    refine St.region ?_
    refine St.p rfl rfl ?_
    obtain ⟨r2, hr2, h⟩ := bnd_e h
    refine St.callV (c_fields_Decode hr2) ent27 rfl rfl rfl rfl ⟨(.head _), trivial⟩ ?_
    iterate 5 refine St.p rfl rfl ?_
    refine St.alloc rfl rfl fun g1 => ?_
    refine St.store 0 rfl rfl rfl rfl rfl rfl .z rfl ?_
    iterate 3 refine St.p rfl rfl ?_
    refine St.done ?_
    refine St.thenN ?_
    refine St.prune (Γ' := [(0, _), (3, _), (4, _), (5, _), (6, _)]) ⟨rfl, rfl, rfl, rfl, rfl, trivial⟩ (.k (.k .z)) ?_
    refine St.seq ?_
    refine St.region ?_
    refine St.p rfl rfl ?_
    obtain ⟨r3, hr3, h⟩ := bnd_e h
    refine St.callV (c_ref02_Decode hr3) ent28 rfl rfl rfl rfl ⟨(.tail _ (.head _)), trivial⟩ ?_
    iterate 5 refine St.p rfl rfl ?_
    refine St.alloc rfl rfl fun g2 => ?_
    refine St.store 0 rfl rfl rfl rfl rfl rfl .z rfl ?_
    iterate 3 refine St.p rfl rfl ?_
    refine St.done ?_
    refine St.thenN ?_
    refine St.prune (Γ' := [(3, _), (4, _), (5, _), (6, _), (7, _), (8, _), (9, _), (10, _)]) ⟨rfl, rfl, rfl, rfl, rfl, rfl, rfl, rfl, trivial⟩ (.k (.k (.d .z))) ?_
    refine St.seq ?_
    obtain ⟨o1, hj1, h⟩ := bnd_e h
    refine St.cutE (fun (e1 : Unit) => [(2, .bool o1)]) (fun e1 => R) ?_ ?_
    · refine St.region ?_
      refine St.loadB 0 rfl rfl (.tail _ (.head _)) rfl rfl ?_
      refine St.loadB 0 rfl rfl (.head _) rfl rfl ?_
      obtain ⟨r4, hr4, hj1⟩ := bnd_e hj1
      refine St.callV (c_ref02_Same hr4) ent24 rfl rfl rfl rfl trivial ?_
      refine St.p rfl rfl ?_
      refine St.gSplit (dj := 32) _ rfl (fun hb2 => ?_) (fun hb2 => ?_)
      · replace hj1 := bif_t hb2 hj1
        refine St.gOn (dj := 32) rfl rfl ?_
        refine St.p rfl rfl ?_
        refine St.gOn (dj := 32) rfl rfl ?_
        refine St.p rfl rfl ?_
        refine St.gOn (dj := 32) rfl rfl ?_
        iterate 3 refine St.p rfl rfl ?_
        refine St.gSplit (dj := 37) _ rfl (fun hb3 => ?_) (fun hb3 => ?_)
        · replace hj1 := bif_t hb3 hj1
          refine St.gOn (dj := 37) rfl rfl ?_
          refine St.p rfl rfl ?_
          refine St.gOn (dj := 37) rfl rfl ?_
          refine St.p rfl rfl ?_
          refine St.gOn (dj := 37) rfl rfl ?_
          iterate 3 refine St.p rfl rfl ?_
          refine St.gSplit (dj := 42) _ rfl (fun hb4 => ?_) (fun hb4 => ?_)
          · replace hj1 := bif_t hb4 hj1
            refine St.gOn (dj := 42) rfl rfl ?_
            refine St.p rfl rfl ?_
            refine St.gOn (dj := 42) rfl rfl ?_
            refine St.p rfl rfl ?_
            refine St.gOn (dj := 42) rfl rfl ?_
            iterate 3 refine St.p rfl rfl ?_
            refine St.gSplit (dj := 47) _ rfl (fun hb5 => ?_) (fun hb5 => ?_)
            · replace hj1 := bif_t hb5 hj1
              refine St.gOn (dj := 47) rfl rfl ?_
              obtain ⟨r5, hr5, hj1⟩ := bnd_e hj1
              refine St.callV (c_law02_awake hr5) ent14 rfl rfl rfl rfl trivial ?_
              refine St.p rfl rfl ?_
              refine St.p rfl rfl ?_
              refine St.done ?_
              injection hj1 with hj1
              subst hj1
              refine St.thenN ?_
              exact St.hereE () ⟨rfl, trivial⟩ (fun _ w => ((.d (.d .z)) : Keep _ _).sat w)
            · replace hj1 := bif_f hb5 hj1
              refine St.gOff (dj := 47) rfl rfl rfl rfl ?_
              refine St.p rfl rfl ?_
              refine St.p rfl rfl ?_
              refine St.done ?_
              injection hj1 with hj1
              subst hj1
              refine St.thenN ?_
              exact St.hereE () ⟨rfl, trivial⟩ (fun _ w => ((.d (.d .z)) : Keep _ _).sat w)
          · replace hj1 := bif_f hb4 hj1
            refine St.gOff (dj := 42) rfl rfl rfl rfl ?_
            refine St.gOff (dj := 42) rfl rfl rfl rfl ?_
            refine St.gOff (dj := 42) rfl rfl rfl rfl ?_
            refine St.p rfl rfl ?_
            refine St.p rfl rfl ?_
            refine St.gOff (dj := 47) rfl rfl rfl rfl ?_
            refine St.p rfl rfl ?_
            refine St.p rfl rfl ?_
            refine St.done ?_
            injection hj1 with hj1
            subst hj1
            refine St.thenN ?_
            exact St.hereE () ⟨rfl, trivial⟩ (fun _ w => ((.d (.d .z)) : Keep _ _).sat w)
        · replace hj1 := bif_f hb3 hj1
          refine St.gOff (dj := 37) rfl rfl rfl rfl ?_
          refine St.gOff (dj := 37) rfl rfl rfl rfl ?_
          refine St.gOff (dj := 37) rfl rfl rfl rfl ?_
          refine St.p rfl rfl ?_
          refine St.p rfl rfl ?_
          refine St.gOff (dj := 42) rfl rfl rfl rfl ?_
          refine St.gOff (dj := 42) rfl rfl rfl rfl ?_
          refine St.gOff (dj := 42) rfl rfl rfl rfl ?_
          refine St.p rfl rfl ?_
          refine St.p rfl rfl ?_
          refine St.gOff (dj := 47) rfl rfl rfl rfl ?_
          refine St.p rfl rfl ?_
          refine St.p rfl rfl ?_
          refine St.done ?_
          injection hj1 with hj1
          subst hj1
          refine St.thenN ?_
          exact St.hereE () ⟨rfl, trivial⟩ (fun _ w => ((.d (.d .z)) : Keep _ _).sat w)
      · replace hj1 := bif_f hb2 hj1
        refine St.gOff (dj := 32) rfl rfl rfl rfl ?_
        refine St.gOff (dj := 32) rfl rfl rfl rfl ?_
        refine St.gOff (dj := 32) rfl rfl rfl rfl ?_
        refine St.p rfl rfl ?_
        refine St.p rfl rfl ?_
        refine St.gOff (dj := 37) rfl rfl rfl rfl ?_
        refine St.gOff (dj := 37) rfl rfl rfl rfl ?_
        refine St.gOff (dj := 37) rfl rfl rfl rfl ?_
        refine St.p rfl rfl ?_
        refine St.p rfl rfl ?_
        refine St.gOff (dj := 42) rfl rfl rfl rfl ?_
        refine St.gOff (dj := 42) rfl rfl rfl rfl ?_
        refine St.gOff (dj := 42) rfl rfl rfl rfl ?_
        refine St.p rfl rfl ?_
        refine St.p rfl rfl ?_
        refine St.gOff (dj := 47) rfl rfl rfl rfl ?_
        refine St.p rfl rfl ?_
        refine St.p rfl rfl ?_
        refine St.done ?_
        injection hj1 with hj1
        subst hj1
        refine St.thenN ?_
        exact St.hereE () ⟨rfl, trivial⟩ (fun _ w => ((.d (.d .z)) : Keep _ _).sat w)
    · rintro e1
      refine St.ret ?_
      repeat (first | refine St.thenR ?_ | refine St.blkR ?_)
      injection h with h
      subst h
      exact St.finR Tryd.results7 (.tmp rfl .nil) rfl [] ⟨rfl, rfl⟩ (fun _ w => (.z : Keep _ _).sat w)

end Go.Proofs.YtfddmgagikeieaaDoor
