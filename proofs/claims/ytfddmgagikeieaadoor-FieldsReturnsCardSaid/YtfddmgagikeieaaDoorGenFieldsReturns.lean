/-
  Models of functions of the program, and that the functions compute them.
  Conditions: none.
-/
import Derived.Test.YtfddmgagikeieaaDoorGen
namespace Go.Proofs.YtfddmgagikeieaaDoor
open Go
set_option linter.unusedVariables false
set_option maxRecDepth 4000

theorem ent8 : Ent Tryd.prog 8 := ⟨_, Tryd.func8, by kernel_rfl, by kernel_rfl⟩

noncomputable def m_law02_FieldsReturns (l_p0 : (List Int)) (rest : (List Int)) : Option Bool :=
  bnd ((bnd (m_made_Light l_p0) fun r1 => bif !r1 then (some true) else (some (decide ((rest.length : Int) > 100))) : Option Bool)) fun o1 => bif o1 then (bnd (m_law02_awake) fun r2 => some r2) else (bnd (m_made_Roll l_p0) fun r3 => bnd (m_made_Dice_Field r3) fun r4 => bnd (m_fields_Encode r4.2) fun r5 => bnd (app 1 ([]) r5.1) fun l1 => bnd (app 1 l1 rest) fun l2 => bnd (m_fields_Decode l2) fun r6 => bnd ((bnd (m_fields_Valid r4.2) fun r7 => bif r7 then (bif (r5.2 == 0) then (bif (r6.2.2.2 == 0) then (bnd (m_ref02_Same r4.2 r6.1) fun r8 => bif r8 then (bif (r6.2.1 == (r5.1.length : Int)) then (bif !r6.2.2.1 then (bnd (m_law02_awake) fun r9 => some r9) else (some false)) else (some false)) else (some false)) else (some false)) else (some false)) else (some false) : Option Bool)) fun o2 => some o2)

set_option maxHeartbeats 4000000 in
theorem c_law02_FieldsReturns {l_p0 : (List Int)} {rest : (List Int)} {A1 : Option Addr} {c1 : Nat} {A2 : Option Addr} {c2 : Nat} {r : Bool} (h : m_law02_FieldsReturns l_p0 rest = some r) :
    Fun Tryd.prog 8 [.slice A1 l_p0.length c1, .slice A2 rest.length c2] [.ro (SlL ei64 A1 c1 l_p0), .ro (SlL eu8 A2 c2 rest)] (Val (.bool r)) := by
  unfold m_law02_FieldsReturns at h
  refine Fun.intro Tryd.func8 rfl rfl rfl fun w R => ?_
  refine St.seq ?_
  refine St.region ?_
  refine St.p rfl rfl ?_
  refine St.done ?_
  refine St.thenN ?_
  refine St.prune (Γ' := [(0, _), (1, _)]) ⟨rfl, rfl, trivial⟩ (.k (.k .z)) ?_
  refine St.seq ?_
  refine St.seq ?_
  obtain ⟨o1, hj1, h⟩ := bnd_e h
  refine St.cutE (fun (e1 : Unit) => [(0, .slice A1 l_p0.length c1), (1, .slice A2 rest.length c2), (19, .bool o1)]) (fun e1 => .ro (SlL ei64 A1 c1 l_p0) :: .ro (SlL eu8 A2 c2 rest) :: R) ?_ ?_
  · refine St.region ?_
    refine St.p rfl rfl ?_
    obtain ⟨r1, hr1, hj1⟩ := bnd_e hj1
    refine St.callV (c_made_Light hr1) ent13 rfl rfl rfl rfl ⟨(.head _), trivial⟩ ?_
    refine St.p rfl rfl ?_
    refine St.p rfl rfl ?_
    refine St.gSplit (dj := 15) _ rfl (fun hb1 => ?_) (fun hb1 => ?_)
    · replace hj1 := bif_t hb1 hj1
      refine St.gOff (dj := 15) rfl rfl rfl rfl ?_
      refine St.gOff (dj := 15) rfl rfl rfl rfl ?_
      refine St.gOff (dj := 15) rfl rfl rfl rfl ?_
      refine St.p rfl rfl ?_
      refine St.done ?_
      injection hj1 with hj1
      subst hj1
      refine St.thenN ?_
      exact St.hereE () ⟨rfl, rfl, rfl, trivial⟩ (fun _ w => ((.k (.k .z)) : Keep _ _).sat w)
    · replace hj1 := bif_f hb1 hj1
      refine St.gOn (dj := 15) rfl rfl ?_
      refine St.p rfl rfl ?_
      refine St.gOn (dj := 15) rfl rfl ?_
      refine St.p rfl rfl ?_
      refine St.gOn (dj := 15) rfl rfl ?_
      refine St.p rfl rfl ?_
      refine St.p rfl rfl ?_
      refine St.done ?_
      injection hj1 with hj1
      subst hj1
      refine St.thenN ?_
      exact St.hereE () ⟨rfl, rfl, rfl, trivial⟩ (fun _ w => ((.k (.k .z)) : Keep _ _).sat w)
  · rintro e1
    refine St.cond _ rfl (fun hb2 => ?_) (fun hb2 => ?_)
    · replace h := bif_t hb2 h
      refine St.seq ?_
      refine St.region ?_
      obtain ⟨r2, hr2, h⟩ := bnd_e h
      refine St.callV (c_law02_awake hr2) ent14 rfl rfl rfl rfl trivial ?_
      refine St.p rfl rfl ?_
      refine St.done ?_
      refine St.thenN ?_
      refine St.prune (Γ' := [(4, _)]) ⟨rfl, trivial⟩ (.d (.d .z)) ?_
      refine St.ret ?_
      repeat (first | refine St.thenR ?_ | refine St.blkR ?_)
      injection h with h
      subst h
      exact St.finR Tryd.results8 (.tmp rfl .nil) rfl [] ⟨rfl, rfl⟩ (fun _ w => (.z : Keep _ _).sat w)
    · replace h := bif_f hb2 h
      refine St.skip ?_
      refine St.thenN ?_
      refine St.prune (Γ' := [(0, _), (1, _)]) ⟨rfl, rfl, trivial⟩ (.k (.k .z)) ?_
      refine St.seq ?_
      refine St.region ?_
      refine St.p rfl rfl ?_
      obtain ⟨r3, hr3, h⟩ := bnd_e h
      refine St.call (c_made_Roll hr3) ent15 rfl rfl rfl (fun _ w => Sat.dup (G := [.ro (SlL ei64 A1 c1 l_p0)]) rfl ⟨(.head _), trivial⟩ w) ?_
      rintro _ _ ⟨g1, A3, c3, rfl, rfl⟩
      refine St.asrt (F' := .ro (SlL ei64 A3 c3 r3.L) :: .res (Box g1 58 [.slice A3 r3.L.length c3, .int .i64 r3.At]) :: .ro (SlL ei64 A1 c1 l_p0) :: .ro (SlL eu8 A2 c2 rest) :: R) (fun _ w => w) ?_
      obtain ⟨r4, hr4, h⟩ := bnd_e h
      refine St.call (c_made_Dice_Field hr4) ent29 rfl rfl rfl (fun _ w => Sat.dup (G := [.ro (SlL ei64 A3 c3 r3.L)]) rfl ⟨(.tail _ (.head _)), trivial⟩ (w.front (.s .z))) ?_
      rintro _ _ ⟨A4, c4, rfl, rfl⟩
      refine St.asrt (F' := .ro (SlL ei64 A4 c4 r4.1.L) :: .res (Box g1 58 [.slice A4 r4.1.L.length c4, .int .i64 r4.1.At]) :: .ro (SlL ei64 A3 c3 r3.L) :: .ro (SlL ei64 A1 c1 l_p0) :: .ro (SlL eu8 A2 c2 rest) :: R) (fun _ w => w) ?_
      refine St.alloc rfl rfl fun g2 => ?_
      refine St.store 0 rfl rfl rfl rfl rfl rfl .z rfl ?_
      refine St.done ?_
      refine St.thenN ?_
      refine St.prune (Γ' := [(1, _), (5, _)]) ⟨rfl, rfl, trivial⟩ (.k (.d (.d (.d (.d (.k .z)))))) ?_
      refine St.seq ?_
      refine St.region ?_
      refine St.loadB 0 rfl rfl (.head _) rfl rfl ?_
      obtain ⟨r5, hr5, h⟩ := bnd_e h
      refine St.call (c_fields_Encode hr5) ent17 rfl rfl rfl (fun _ w => w) ?_
      rintro _ _ ⟨A5, c5, rfl, rfl⟩
      refine St.asrt (F' := .res (OwnL eu8 5 A5 c5 r5.1) :: .res (Box g2 23 [.int .i64 r4.2.Kind, .string r4.2.Value]) :: .ro (SlL eu8 A2 c2 rest) :: R) (fun _ w => w) ?_
      iterate 5 refine St.p rfl rfl ?_
      refine St.done ?_
      refine St.thenN ?_
      refine St.prune (Γ' := [(1, _), (5, _), (6, _), (7, _)]) ⟨rfl, rfl, rfl, rfl, trivial⟩ (.k (.k (.k .z))) ?_
      refine St.seq ?_
      refine St.region ?_
      refine St.p rfl rfl ?_
      refine St.asrt (fun _ w => (w.front .z).meltL) ?_
      refine St.asrt (fun _ w => w.nilL eu8 5) ?_
      obtain ⟨l1, hl1, h⟩ := bnd_e h
      refine St.app (E := eu8) hl1 rfl rfl rfl .z rfl rfl rfl rfl rfl rfl rfl rfl (srcL (.tail _ (.head _))) rfl rfl fun A6 c6 => ?_
      refine St.p rfl rfl ?_
      obtain ⟨l2, hl2, h⟩ := bnd_e h
      refine St.app (E := eu8) hl2 rfl rfl rfl .z rfl rfl rfl rfl rfl rfl rfl rfl (srcL (.tail _ (.tail _ (.tail _ (.head _))))) rfl rfl fun A7 c7 => ?_
      refine St.asrt (fun _ w => (w.front .z).meltL) ?_
      obtain ⟨r6, hr6, h⟩ := bnd_e h
      refine St.callV (c_fields_Decode hr6) ent27 rfl rfl rfl rfl ⟨(.head _), trivial⟩ ?_
      iterate 5 refine St.p rfl rfl ?_
      refine St.alloc rfl rfl fun g3 => ?_
      refine St.store 0 rfl rfl rfl rfl rfl rfl .z rfl ?_
      iterate 3 refine St.p rfl rfl ?_
      refine St.done ?_
      refine St.thenN ?_
      refine St.prune (Γ' := [(5, _), (6, _), (7, _), (8, _), (9, _), (10, _), (11, _)]) ⟨rfl, rfl, rfl, rfl, rfl, rfl, rfl, trivial⟩ (.k (.d (.k (.k (.d .z))))) ?_
      refine St.seq ?_
      obtain ⟨o2, hj2, h⟩ := bnd_e h
      refine St.cutE (fun (e2 : Unit) => [(4, .bool o2)]) (fun e2 => R) ?_ ?_
      · refine St.region ?_
        refine St.loadB 0 rfl rfl (.tail _ (.tail _ (.head _))) rfl rfl ?_
        obtain ⟨r7, hr7, hj2⟩ := bnd_e hj2
        refine St.callV (c_fields_Valid hr7) ent19 rfl rfl rfl rfl trivial ?_
        refine St.p rfl rfl ?_
        refine St.gSplit (dj := 41) _ rfl (fun hb3 => ?_) (fun hb3 => ?_)
        · replace hj2 := bif_t hb3 hj2
          refine St.gOn (dj := 41) rfl rfl ?_
          refine St.p rfl rfl ?_
          refine St.gOn (dj := 41) rfl rfl ?_
          iterate 3 refine St.p rfl rfl ?_
          refine St.gSplit (dj := 45) _ rfl (fun hb4 => ?_) (fun hb4 => ?_)
          · replace hj2 := bif_t hb4 hj2
            refine St.gOn (dj := 45) rfl rfl ?_
            refine St.p rfl rfl ?_
            refine St.gOn (dj := 45) rfl rfl ?_
            iterate 3 refine St.p rfl rfl ?_
            refine St.gSplit (dj := 49) _ rfl (fun hb5 => ?_) (fun hb5 => ?_)
            · replace hj2 := bif_t hb5 hj2
              refine St.gOn (dj := 49) rfl rfl ?_
              refine St.loadB 0 rfl rfl (.tail _ (.tail _ (.head _))) rfl rfl ?_
              refine St.gOn (dj := 49) rfl rfl ?_
              refine St.loadB 0 rfl rfl (.head _) rfl rfl ?_
              refine St.gOn (dj := 49) rfl rfl ?_
              obtain ⟨r8, hr8, hj2⟩ := bnd_e hj2
              refine St.callV (c_ref02_Same hr8) ent24 rfl rfl rfl rfl trivial ?_
              refine St.p rfl rfl ?_
              refine St.p rfl rfl ?_
              refine St.gSplit (dj := 54) _ rfl (fun hb6 => ?_) (fun hb6 => ?_)
              · replace hj2 := bif_t hb6 hj2
                refine St.gOn (dj := 54) rfl rfl ?_
                refine St.p rfl rfl ?_
                refine St.gOn (dj := 54) rfl rfl ?_
                refine St.p rfl rfl ?_
                refine St.gOn (dj := 54) rfl rfl ?_
                refine St.p rfl rfl ?_
                refine St.gOn (dj := 54) rfl rfl ?_
                iterate 3 refine St.p rfl rfl ?_
                refine St.gSplit (dj := 60) _ rfl (fun hb7 => ?_) (fun hb7 => ?_)
                · replace hj2 := bif_t hb7 hj2
                  refine St.gOn (dj := 60) rfl rfl ?_
                  refine St.p rfl rfl ?_
                  refine St.gOn (dj := 60) rfl rfl ?_
                  iterate 3 refine St.p rfl rfl ?_
                  refine St.gSplit (dj := 64) _ rfl (fun hb8 => ?_) (fun hb8 => ?_)
                  · replace hj2 := bif_t hb8 hj2
                    refine St.gOn (dj := 64) rfl rfl ?_
                    obtain ⟨r9, hr9, hj2⟩ := bnd_e hj2
                    refine St.callV (c_law02_awake hr9) ent14 rfl rfl rfl rfl trivial ?_
                    refine St.p rfl rfl ?_
                    refine St.p rfl rfl ?_
                    refine St.done ?_
                    injection hj2 with hj2
                    subst hj2
                    refine St.thenN ?_
                    exact St.hereE () ⟨rfl, trivial⟩ (fun _ w => ((.d (.d (.d .z))) : Keep _ _).sat w)
                  · replace hj2 := bif_f hb8 hj2
                    refine St.gOff (dj := 64) rfl rfl rfl rfl ?_
                    refine St.p rfl rfl ?_
                    refine St.p rfl rfl ?_
                    refine St.done ?_
                    injection hj2 with hj2
                    subst hj2
                    refine St.thenN ?_
                    exact St.hereE () ⟨rfl, trivial⟩ (fun _ w => ((.d (.d (.d .z))) : Keep _ _).sat w)
                · replace hj2 := bif_f hb7 hj2
                  refine St.gOff (dj := 60) rfl rfl rfl rfl ?_
                  refine St.gOff (dj := 60) rfl rfl rfl rfl ?_
                  refine St.p rfl rfl ?_
                  refine St.p rfl rfl ?_
                  refine St.gOff (dj := 64) rfl rfl rfl rfl ?_
                  refine St.p rfl rfl ?_
                  refine St.p rfl rfl ?_
                  refine St.done ?_
                  injection hj2 with hj2
                  subst hj2
                  refine St.thenN ?_
                  exact St.hereE () ⟨rfl, trivial⟩ (fun _ w => ((.d (.d (.d .z))) : Keep _ _).sat w)
              · replace hj2 := bif_f hb6 hj2
                refine St.gOff (dj := 54) rfl rfl rfl rfl ?_
                refine St.gOff (dj := 54) rfl rfl rfl rfl ?_
                refine St.gOff (dj := 54) rfl rfl rfl rfl ?_
                refine St.gOff (dj := 54) rfl rfl rfl rfl ?_
                refine St.p rfl rfl ?_
                refine St.p rfl rfl ?_
                refine St.gOff (dj := 60) rfl rfl rfl rfl ?_
                refine St.gOff (dj := 60) rfl rfl rfl rfl ?_
                refine St.p rfl rfl ?_
                refine St.p rfl rfl ?_
                refine St.gOff (dj := 64) rfl rfl rfl rfl ?_
                refine St.p rfl rfl ?_
                refine St.p rfl rfl ?_
                refine St.done ?_
                injection hj2 with hj2
                subst hj2
                refine St.thenN ?_
                exact St.hereE () ⟨rfl, trivial⟩ (fun _ w => ((.d (.d (.d .z))) : Keep _ _).sat w)
            · replace hj2 := bif_f hb5 hj2
              refine St.gOff (dj := 49) rfl rfl rfl rfl ?_
              refine St.gOff (dj := 49) rfl rfl rfl rfl ?_
              refine St.gOff (dj := 49) rfl rfl rfl rfl ?_
              refine St.p rfl rfl ?_
              refine St.p rfl rfl ?_
              refine St.gOff (dj := 54) rfl rfl rfl rfl ?_
              refine St.gOff (dj := 54) rfl rfl rfl rfl ?_
              refine St.gOff (dj := 54) rfl rfl rfl rfl ?_
              refine St.gOff (dj := 54) rfl rfl rfl rfl ?_
              refine St.p rfl rfl ?_
              refine St.p rfl rfl ?_
              refine St.gOff (dj := 60) rfl rfl rfl rfl ?_
              refine St.gOff (dj := 60) rfl rfl rfl rfl ?_
              refine St.p rfl rfl ?_
              refine St.p rfl rfl ?_
              refine St.gOff (dj := 64) rfl rfl rfl rfl ?_
              refine St.p rfl rfl ?_
              refine St.p rfl rfl ?_
              refine St.done ?_
              injection hj2 with hj2
              subst hj2
              refine St.thenN ?_
              exact St.hereE () ⟨rfl, trivial⟩ (fun _ w => ((.d (.d (.d .z))) : Keep _ _).sat w)
          · replace hj2 := bif_f hb4 hj2
            refine St.gOff (dj := 45) rfl rfl rfl rfl ?_
            refine St.gOff (dj := 45) rfl rfl rfl rfl ?_
            refine St.p rfl rfl ?_
            refine St.p rfl rfl ?_
            refine St.gOff (dj := 49) rfl rfl rfl rfl ?_
            refine St.gOff (dj := 49) rfl rfl rfl rfl ?_
            refine St.gOff (dj := 49) rfl rfl rfl rfl ?_
            refine St.p rfl rfl ?_
            refine St.p rfl rfl ?_
            refine St.gOff (dj := 54) rfl rfl rfl rfl ?_
            refine St.gOff (dj := 54) rfl rfl rfl rfl ?_
            refine St.gOff (dj := 54) rfl rfl rfl rfl ?_
            refine St.gOff (dj := 54) rfl rfl rfl rfl ?_
            refine St.p rfl rfl ?_
            refine St.p rfl rfl ?_
            refine St.gOff (dj := 60) rfl rfl rfl rfl ?_
            refine St.gOff (dj := 60) rfl rfl rfl rfl ?_
            refine St.p rfl rfl ?_
            refine St.p rfl rfl ?_
            refine St.gOff (dj := 64) rfl rfl rfl rfl ?_
            refine St.p rfl rfl ?_
            refine St.p rfl rfl ?_
            refine St.done ?_
            injection hj2 with hj2
            subst hj2
            refine St.thenN ?_
            exact St.hereE () ⟨rfl, trivial⟩ (fun _ w => ((.d (.d (.d .z))) : Keep _ _).sat w)
        · replace hj2 := bif_f hb3 hj2
          refine St.gOff (dj := 41) rfl rfl rfl rfl ?_
          refine St.gOff (dj := 41) rfl rfl rfl rfl ?_
          refine St.p rfl rfl ?_
          refine St.p rfl rfl ?_
          refine St.gOff (dj := 45) rfl rfl rfl rfl ?_
          refine St.gOff (dj := 45) rfl rfl rfl rfl ?_
          refine St.p rfl rfl ?_
          refine St.p rfl rfl ?_
          refine St.gOff (dj := 49) rfl rfl rfl rfl ?_
          refine St.gOff (dj := 49) rfl rfl rfl rfl ?_
          refine St.gOff (dj := 49) rfl rfl rfl rfl ?_
          refine St.p rfl rfl ?_
          refine St.p rfl rfl ?_
          refine St.gOff (dj := 54) rfl rfl rfl rfl ?_
          refine St.gOff (dj := 54) rfl rfl rfl rfl ?_
          refine St.gOff (dj := 54) rfl rfl rfl rfl ?_
          refine St.gOff (dj := 54) rfl rfl rfl rfl ?_
          refine St.p rfl rfl ?_
          refine St.p rfl rfl ?_
          refine St.gOff (dj := 60) rfl rfl rfl rfl ?_
          refine St.gOff (dj := 60) rfl rfl rfl rfl ?_
          refine St.p rfl rfl ?_
          refine St.p rfl rfl ?_
          refine St.gOff (dj := 64) rfl rfl rfl rfl ?_
          refine St.p rfl rfl ?_
          refine St.p rfl rfl ?_
          refine St.done ?_
          injection hj2 with hj2
          subst hj2
          refine St.thenN ?_
          exact St.hereE () ⟨rfl, trivial⟩ (fun _ w => ((.d (.d (.d .z))) : Keep _ _).sat w)
      · rintro e2
        refine St.ret ?_
        repeat (first | refine St.thenR ?_ | refine St.blkR ?_)
        injection h with h
        subst h
        exact St.finR Tryd.results8 (.tmp rfl .nil) rfl [] ⟨rfl, rfl⟩ (fun _ w => (.z : Keep _ _).sat w)

end Go.Proofs.YtfddmgagikeieaaDoor
