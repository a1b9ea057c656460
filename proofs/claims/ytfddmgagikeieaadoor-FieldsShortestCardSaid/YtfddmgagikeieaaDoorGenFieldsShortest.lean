/-
  Models of functions of the program, and that the functions compute them.
  Conditions: none.
-/
import Derived.Test.YtfddmgagikeieaaDoorGen
namespace Go.Proofs.YtfddmgagikeieaaDoor
open Go
set_option linter.unusedVariables false
set_option maxRecDepth 4000

theorem ent5 : Ent Tryd.prog 5 := ⟨_, Tryd.func5, by kernel_rfl, by kernel_rfl⟩

noncomputable def m_law02_FieldsShortest (l_p0 : (List Int)) (kind : Int) : Option Bool :=
  bnd (m_made_Light l_p0) fun r1 => bif !r1 then (bnd (m_law02_awake) fun r2 => some r2) else (bnd (m_made_Roll l_p0) fun r3 => bnd (m_made_Dice_OddField r3) fun r4 => bnd (m_fields_Best r4.2.Value) fun r5 => bnd (m_made_Mod kind 3) fun r6 => bnd (m_fields_Encode (⟨IntKind.wrap .i64 (1 + r6), r4.2.Value⟩ : T_Field)) fun r7 => bif (r5.2 != 0) then (bnd ((bif (r5.2 == 6) then (bif (r7.2 == 1) then (bnd (m_law02_awake) fun r8 => some r8) else (some false)) else (some false) : Option Bool)) fun o1 => some o1) else (bnd (m_fields_Encode r5.1) fun r9 => bnd ((bif (r9.2 == 0) then (bif (r5.1.Value.toList == r4.2.Value.toList) then (bif (r5.1.Kind != 0) then (bif (r7.2 != 0) then (bnd (m_law02_awake) fun r10 => some r10) else (bif decide ((r9.1.length : Int) ≤ (r7.1.length : Int)) then (bnd (m_law02_awake) fun r11 => some r11) else (some false))) else (some false)) else (some false)) else (some false) : Option Bool)) fun o2 => some o2))

set_option maxHeartbeats 4000000 in
theorem c_law02_FieldsShortest {l_p0 : (List Int)} {kind : Int} {A1 : Option Addr} {c1 : Nat} {r : Bool} (h : m_law02_FieldsShortest l_p0 kind = some r) :
    Fun Tryd.prog 5 [.slice A1 l_p0.length c1, .int .i64 kind] [.ro (SlL ei64 A1 c1 l_p0)] (Val (.bool r)) := by
  unfold m_law02_FieldsShortest at h
  refine Fun.intro Tryd.func5 rfl rfl rfl fun w R => ?_
  refine St.seq ?_
  refine St.region ?_
  refine St.p rfl rfl ?_
  refine St.done ?_
  refine St.thenN ?_
  refine St.prune (Γ' := [(0, _), (1, _)]) ⟨rfl, rfl, trivial⟩ (.k .z) ?_
  refine St.seq ?_
  refine St.seq ?_
  refine St.region ?_
  refine St.p rfl rfl ?_
  obtain ⟨r1, hr1, h⟩ := bnd_e h
  refine St.callV (c_made_Light hr1) ent13 rfl rfl rfl rfl ⟨(.head _), trivial⟩ ?_
  refine St.p rfl rfl ?_
  refine St.done ?_
  refine St.thenN ?_
  refine St.prune (Γ' := [(0, _), (1, _), (15, _)]) ⟨rfl, rfl, rfl, trivial⟩ (.k .z) ?_
  refine St.cond _ rfl (fun hb1 => ?_) (fun hb1 => ?_)
  · replace h := bif_t hb1 h
    refine St.seq ?_
    refine St.region ?_
    obtain ⟨r2, hr2, h⟩ := bnd_e h
    refine St.callV (c_law02_awake hr2) ent14 rfl rfl rfl rfl trivial ?_
    refine St.p rfl rfl ?_
    refine St.done ?_
    refine St.thenN ?_
    refine St.prune (Γ' := [(4, _)]) ⟨rfl, trivial⟩ (.d .z) ?_
    refine St.ret ?_
    repeat (first | refine St.thenR ?_ | refine St.blkR ?_)
    injection h with h
    subst h
    exact St.finR Tryd.results5 (.tmp rfl .nil) rfl [] ⟨rfl, rfl⟩ (fun _ w => (.z : Keep _ _).sat w)
  · replace h := bif_f hb1 h
    refine St.skip ?_
    refine St.thenN ?_
    refine St.prune (Γ' := [(0, _), (1, _)]) ⟨rfl, rfl, trivial⟩ (.k .z) ?_
    refine St.seq ?_
    refine St.region ?_
    refine St.p rfl rfl ?_
    obtain ⟨r3, hr3, h⟩ := bnd_e h
    refine St.call (c_made_Roll hr3) ent15 rfl rfl rfl (fun _ w => Sat.dup (G := [.ro (SlL ei64 A1 c1 l_p0)]) rfl ⟨(.head _), trivial⟩ w) ?_
    rintro _ _ ⟨g1, A2, c2, rfl, rfl⟩
    refine St.asrt (F' := .ro (SlL ei64 A2 c2 r3.L) :: .res (Box g1 58 [.slice A2 r3.L.length c2, .int .i64 r3.At]) :: .ro (SlL ei64 A1 c1 l_p0) :: R) (fun _ w => w) ?_
    obtain ⟨r4, hr4, h⟩ := bnd_e h
    refine St.call (c_made_Dice_OddField hr4) ent16 rfl rfl rfl (fun _ w => Sat.dup (G := [.ro (SlL ei64 A2 c2 r3.L)]) rfl ⟨(.tail _ (.head _)), trivial⟩ (w.front (.s .z))) ?_
    rintro _ _ ⟨A3, c3, rfl, rfl⟩
    refine St.asrt (F' := .ro (SlL ei64 A3 c3 r4.1.L) :: .res (Box g1 58 [.slice A3 r4.1.L.length c3, .int .i64 r4.1.At]) :: .ro (SlL ei64 A2 c2 r3.L) :: .ro (SlL ei64 A1 c1 l_p0) :: R) (fun _ w => w) ?_
    refine St.p rfl rfl ?_
    refine St.p rfl rfl ?_
    refine St.done ?_
    refine St.thenN ?_
    refine St.prune (Γ' := [(1, _), (5, _)]) ⟨rfl, rfl, trivial⟩ (.d (.d (.d (.d .z)))) ?_
    refine St.seq ?_
    refine St.region ?_
    refine St.p rfl rfl ?_
    obtain ⟨r5, hr5, h⟩ := bnd_e h
    refine St.callV (c_fields_Best hr5) ent22 rfl rfl rfl rfl trivial ?_
    iterate 3 refine St.p rfl rfl ?_
    refine St.alloc rfl rfl fun g2 => ?_
    refine St.store 0 rfl rfl rfl rfl rfl rfl .z rfl ?_
    refine St.p rfl rfl ?_
    refine St.done ?_
    refine St.thenN ?_
    refine St.prune (Γ' := [(1, _), (5, _), (6, _), (7, _)]) ⟨rfl, rfl, rfl, rfl, trivial⟩ (.k .z) ?_
    refine St.seq ?_
    refine St.region ?_
    refine St.p rfl rfl ?_
    obtain ⟨r6, hr6, h⟩ := bnd_e h
    refine St.callV (c_made_Mod hr6) ent25 rfl rfl rfl rfl trivial ?_
    iterate 3 refine St.p rfl rfl ?_
    refine St.alloc rfl rfl fun g3 => ?_
    refine St.store 0 rfl rfl rfl rfl rfl rfl .z rfl ?_
    refine St.done ?_
    refine St.thenN ?_
    refine St.prune (Γ' := [(5, _), (6, _), (7, _), (8, _)]) ⟨rfl, rfl, rfl, rfl, trivial⟩ (.k (.k .z)) ?_
    refine St.seq ?_
    refine St.region ?_
    refine St.loadB 0 rfl rfl (.head _) rfl rfl ?_
    obtain ⟨r7, hr7, h⟩ := bnd_e h
    refine St.call (c_fields_Encode hr7) ent17 rfl rfl rfl (fun _ w => w) ?_
    rintro _ _ ⟨A4, c4, rfl, rfl⟩
    refine St.asrt (F' := .res (OwnL eu8 5 A4 c4 r7.1) :: .res (Box g3 23 [.int .i64 (IntKind.wrap .i64 (1 + r6)), .string r4.2.Value]) :: .res (Box g2 23 [.int .i64 r5.1.Kind, .string r5.1.Value]) :: R) (fun _ w => w) ?_
    iterate 5 refine St.p rfl rfl ?_
    refine St.done ?_
    refine St.thenN ?_
    refine St.prune (Γ' := [(5, _), (6, _), (7, _), (9, _), (10, _)]) ⟨rfl, rfl, rfl, rfl, rfl, trivial⟩ (.k (.d (.k .z))) ?_
    refine St.seq ?_
    refine St.seq ?_
    refine St.region ?_
    refine St.p rfl rfl ?_
    refine St.p rfl rfl ?_
    refine St.done ?_
    refine St.thenN ?_
    refine St.prune (Γ' := [(5, _), (6, _), (7, _), (9, _), (10, _), (37, _)]) ⟨rfl, rfl, rfl, rfl, rfl, rfl, trivial⟩ (.k (.k .z)) ?_
    refine St.cond _ rfl (fun hb2 => ?_) (fun hb2 => ?_)
    · replace h := bif_t hb2 h
      refine St.seq ?_
      obtain ⟨o1, hj1, h⟩ := bnd_e h
      refine St.cutE (fun (e1 : Unit) => [(4, .bool o1)]) (fun e1 => R) ?_ ?_
      · refine St.region ?_
        iterate 3 refine St.p rfl rfl ?_
        refine St.gSplit (dj := 40) _ rfl (fun hb3 => ?_) (fun hb3 => ?_)
        · replace hj1 := bif_t hb3 hj1
          refine St.gOn (dj := 40) rfl rfl ?_
          refine St.p rfl rfl ?_
          refine St.gOn (dj := 40) rfl rfl ?_
          iterate 3 refine St.p rfl rfl ?_
          refine St.gSplit (dj := 44) _ rfl (fun hb4 => ?_) (fun hb4 => ?_)
          · replace hj1 := bif_t hb4 hj1
            refine St.gOn (dj := 44) rfl rfl ?_
            obtain ⟨r8, hr8, hj1⟩ := bnd_e hj1
            refine St.callV (c_law02_awake hr8) ent14 rfl rfl rfl rfl trivial ?_
            refine St.p rfl rfl ?_
            refine St.p rfl rfl ?_
            refine St.done ?_
            injection hj1 with hj1
            subst hj1
            refine St.thenN ?_
            exact St.hereE () ⟨rfl, trivial⟩ (fun _ w => ((.d (.d .z)) : Keep _ _).sat w)
          · replace hj1 := bif_f hb4 hj1
            refine St.gOff (dj := 44) rfl rfl rfl rfl ?_
            refine St.p rfl rfl ?_
            refine St.p rfl rfl ?_
            refine St.done ?_
            injection hj1 with hj1
            subst hj1
            refine St.thenN ?_
            exact St.hereE () ⟨rfl, trivial⟩ (fun _ w => ((.d (.d .z)) : Keep _ _).sat w)
        · replace hj1 := bif_f hb3 hj1
          refine St.gOff (dj := 40) rfl rfl rfl rfl ?_
          refine St.gOff (dj := 40) rfl rfl rfl rfl ?_
          refine St.p rfl rfl ?_
          refine St.p rfl rfl ?_
          refine St.gOff (dj := 44) rfl rfl rfl rfl ?_
          refine St.p rfl rfl ?_
          refine St.p rfl rfl ?_
          refine St.done ?_
          injection hj1 with hj1
          subst hj1
          refine St.thenN ?_
          exact St.hereE () ⟨rfl, trivial⟩ (fun _ w => ((.d (.d .z)) : Keep _ _).sat w)
      · rintro e1
        refine St.ret ?_
        repeat (first | refine St.thenR ?_ | refine St.blkR ?_)
        injection h with h
        subst h
        exact St.finR Tryd.results5 (.tmp rfl .nil) rfl [] ⟨rfl, rfl⟩ (fun _ w => (.z : Keep _ _).sat w)
    · replace h := bif_f hb2 h
      refine St.skip ?_
      refine St.thenN ?_
      refine St.prune (Γ' := [(5, _), (6, _), (9, _), (10, _)]) ⟨rfl, rfl, rfl, rfl, trivial⟩ (.k (.k .z)) ?_
      refine St.seq ?_
      refine St.region ?_
      refine St.loadB 0 rfl rfl (.tail _ (.head _)) rfl rfl ?_
      obtain ⟨r9, hr9, h⟩ := bnd_e h
      refine St.call (c_fields_Encode hr9) ent17 rfl rfl rfl (fun _ w => w) ?_
      rintro _ _ ⟨A5, c5, rfl, rfl⟩
      refine St.asrt (F' := .res (OwnL eu8 5 A5 c5 r9.1) :: .res (OwnL eu8 5 A4 c4 r7.1) :: .res (Box g2 23 [.int .i64 r5.1.Kind, .string r5.1.Value]) :: R) (fun _ w => w) ?_
      iterate 5 refine St.p rfl rfl ?_
      refine St.done ?_
      refine St.thenN ?_
      refine St.prune (Γ' := [(5, _), (6, _), (9, _), (10, _), (11, _), (12, _)]) ⟨rfl, rfl, rfl, rfl, rfl, rfl, trivial⟩ (.k (.k (.k .z))) ?_
      refine St.seq ?_
      obtain ⟨o2, hj2, h⟩ := bnd_e h
      refine St.cutE (fun (e2 : Unit) => [(4, .bool o2)]) (fun e2 => R) ?_ ?_
      · refine St.region ?_
        iterate 3 refine St.p rfl rfl ?_
        refine St.gSplit (dj := 54) _ rfl (fun hb5 => ?_) (fun hb5 => ?_)
        · replace hj2 := bif_t hb5 hj2
          refine St.gOn (dj := 54) rfl rfl ?_
          refine St.p rfl rfl ?_
          refine St.gOn (dj := 54) rfl rfl ?_
          refine St.loadB 1 rfl rfl (.tail _ (.tail _ (.head _))) rfl rfl ?_
          refine St.gOn (dj := 54) rfl rfl ?_
          refine St.p rfl rfl ?_
          refine St.gOn (dj := 54) rfl rfl ?_
          iterate 3 refine St.p rfl rfl ?_
          refine St.gSplit (dj := 60) _ rfl (fun hb6 => ?_) (fun hb6 => ?_)
          · replace hj2 := bif_t hb6 hj2
            refine St.gOn (dj := 60) rfl rfl ?_
            refine St.p rfl rfl ?_
            refine St.gOn (dj := 60) rfl rfl ?_
            refine St.loadB 0 rfl rfl (.tail _ (.tail _ (.head _))) rfl rfl ?_
            refine St.gOn (dj := 60) rfl rfl ?_
            iterate 3 refine St.p rfl rfl ?_
            refine St.gSplit (dj := 65) _ rfl (fun hb7 => ?_) (fun hb7 => ?_)
            · replace hj2 := bif_t hb7 hj2
              refine St.gOn (dj := 65) rfl rfl ?_
              refine St.p rfl rfl ?_
              refine St.gOn (dj := 65) rfl rfl ?_
              refine St.p rfl rfl ?_
              refine St.gOn (dj := 65) rfl rfl ?_
              refine St.p rfl rfl ?_
              refine St.gSplit (dj := 68) _ rfl (fun hb8 => ?_) (fun hb8 => ?_)
              · replace hj2 := bif_t hb8 hj2
                refine St.gOff (dj := 68) rfl rfl rfl rfl ?_
                refine St.gOff (dj := 68) rfl rfl rfl rfl ?_
                refine St.gOff (dj := 68) rfl rfl rfl rfl ?_
                refine St.gOff (dj := 68) rfl rfl rfl rfl ?_
                refine St.gOff (dj := 68) rfl rfl rfl rfl ?_
                refine St.gOn (dj := 65) rfl rfl ?_
                iterate 3 refine St.p rfl rfl ?_
                refine St.gOn (dj := 76) rfl rfl ?_
                obtain ⟨r10, hr10, hj2⟩ := bnd_e hj2
                refine St.callV (c_law02_awake hr10) ent14 rfl rfl rfl rfl trivial ?_
                refine St.p rfl rfl ?_
                refine St.p rfl rfl ?_
                refine St.done ?_
                injection hj2 with hj2
                subst hj2
                refine St.thenN ?_
                exact St.hereE () ⟨rfl, trivial⟩ (fun _ w => ((.d (.d (.d .z))) : Keep _ _).sat w)
              · replace hj2 := bif_f hb8 hj2
                refine St.gOn (dj := 68) rfl rfl ?_
                refine St.p rfl rfl ?_
                refine St.gOn (dj := 68) rfl rfl ?_
                refine St.p rfl rfl ?_
                refine St.gOn (dj := 68) rfl rfl ?_
                refine St.p rfl rfl ?_
                refine St.gOn (dj := 68) rfl rfl ?_
                refine St.p rfl rfl ?_
                refine St.gOn (dj := 68) rfl rfl ?_
                refine St.p rfl rfl ?_
                refine St.gOn (dj := 65) rfl rfl ?_
                iterate 3 refine St.p rfl rfl ?_
                refine St.gSplit (dj := 76) _ rfl (fun hb9 => ?_) (fun hb9 => ?_)
                · replace hj2 := bif_t hb9 hj2
                  refine St.gOn (dj := 76) rfl rfl ?_
                  obtain ⟨r11, hr11, hj2⟩ := bnd_e hj2
                  refine St.callV (c_law02_awake hr11) ent14 rfl rfl rfl rfl trivial ?_
                  refine St.p rfl rfl ?_
                  refine St.p rfl rfl ?_
                  refine St.done ?_
                  injection hj2 with hj2
                  subst hj2
                  refine St.thenN ?_
                  exact St.hereE () ⟨rfl, trivial⟩ (fun _ w => ((.d (.d (.d .z))) : Keep _ _).sat w)
                · replace hj2 := bif_f hb9 hj2
                  refine St.gOff (dj := 76) rfl rfl rfl rfl ?_
                  refine St.p rfl rfl ?_
                  refine St.p rfl rfl ?_
                  refine St.done ?_
                  injection hj2 with hj2
                  subst hj2
                  refine St.thenN ?_
                  exact St.hereE () ⟨rfl, trivial⟩ (fun _ w => ((.d (.d (.d .z))) : Keep _ _).sat w)
            · replace hj2 := bif_f hb7 hj2
              refine St.gOff (dj := 65) rfl rfl rfl rfl ?_
              refine St.gOff (dj := 65) rfl rfl rfl rfl ?_
              refine St.gOff (dj := 65) rfl rfl rfl rfl ?_
              refine St.gOff (dj := 68) rfl rfl rfl rfl ?_
              refine St.gOff (dj := 68) rfl rfl rfl rfl ?_
              refine St.gOff (dj := 68) rfl rfl rfl rfl ?_
              refine St.gOff (dj := 68) rfl rfl rfl rfl ?_
              refine St.gOff (dj := 68) rfl rfl rfl rfl ?_
              refine St.gOff (dj := 65) rfl rfl rfl rfl ?_
              refine St.p rfl rfl ?_
              refine St.p rfl rfl ?_
              refine St.gOff (dj := 76) rfl rfl rfl rfl ?_
              refine St.p rfl rfl ?_
              refine St.p rfl rfl ?_
              refine St.done ?_
              injection hj2 with hj2
              subst hj2
              refine St.thenN ?_
              exact St.hereE () ⟨rfl, trivial⟩ (fun _ w => ((.d (.d (.d .z))) : Keep _ _).sat w)
          · replace hj2 := bif_f hb6 hj2
            refine St.gOff (dj := 60) rfl rfl rfl rfl ?_
            refine St.gOff (dj := 60) rfl rfl rfl rfl ?_
            refine St.gOff (dj := 60) rfl rfl rfl rfl ?_
            refine St.p rfl rfl ?_
            refine St.p rfl rfl ?_
            refine St.gOff (dj := 65) rfl rfl rfl rfl ?_
            refine St.gOff (dj := 65) rfl rfl rfl rfl ?_
            refine St.gOff (dj := 65) rfl rfl rfl rfl ?_
            refine St.gOff (dj := 68) rfl rfl rfl rfl ?_
            refine St.gOff (dj := 68) rfl rfl rfl rfl ?_
            refine St.gOff (dj := 68) rfl rfl rfl rfl ?_
            refine St.gOff (dj := 68) rfl rfl rfl rfl ?_
            refine St.gOff (dj := 68) rfl rfl rfl rfl ?_
            refine St.gOff (dj := 65) rfl rfl rfl rfl ?_
            refine St.p rfl rfl ?_
            refine St.p rfl rfl ?_
            refine St.gOff (dj := 76) rfl rfl rfl rfl ?_
            refine St.p rfl rfl ?_
            refine St.p rfl rfl ?_
            refine St.done ?_
            injection hj2 with hj2
            subst hj2
            refine St.thenN ?_
            exact St.hereE () ⟨rfl, trivial⟩ (fun _ w => ((.d (.d (.d .z))) : Keep _ _).sat w)
        · replace hj2 := bif_f hb5 hj2
          refine St.gOff (dj := 54) rfl rfl rfl rfl ?_
          refine St.gOff (dj := 54) rfl rfl rfl rfl ?_
          refine St.gOff (dj := 54) rfl rfl rfl rfl ?_
          refine St.gOff (dj := 54) rfl rfl rfl rfl ?_
          refine St.p rfl rfl ?_
          refine St.p rfl rfl ?_
          refine St.gOff (dj := 60) rfl rfl rfl rfl ?_
          refine St.gOff (dj := 60) rfl rfl rfl rfl ?_
          refine St.gOff (dj := 60) rfl rfl rfl rfl ?_
          refine St.p rfl rfl ?_
          refine St.p rfl rfl ?_
          refine St.gOff (dj := 65) rfl rfl rfl rfl ?_
          refine St.gOff (dj := 65) rfl rfl rfl rfl ?_
          refine St.gOff (dj := 65) rfl rfl rfl rfl ?_
          refine St.gOff (dj := 68) rfl rfl rfl rfl ?_
          refine St.gOff (dj := 68) rfl rfl rfl rfl ?_
          refine St.gOff (dj := 68) rfl rfl rfl rfl ?_
          refine St.gOff (dj := 68) rfl rfl rfl rfl ?_
          refine St.gOff (dj := 68) rfl rfl rfl rfl ?_
          refine St.gOff (dj := 65) rfl rfl rfl rfl ?_
          refine St.p rfl rfl ?_
          refine St.p rfl rfl ?_
          refine St.gOff (dj := 76) rfl rfl rfl rfl ?_
          refine St.p rfl rfl ?_
          refine St.p rfl rfl ?_
          refine St.done ?_
          injection hj2 with hj2
          subst hj2
          refine St.thenN ?_
          exact St.hereE () ⟨rfl, trivial⟩ (fun _ w => ((.d (.d (.d .z))) : Keep _ _).sat w)
      · rintro e2
        refine St.ret ?_
        repeat (first | refine St.thenR ?_ | refine St.blkR ?_)
        injection h with h
        subst h
        exact St.finR Tryd.results5 (.tmp rfl .nil) rfl [] ⟨rfl, rfl⟩ (fun _ w => (.z : Keep _ _).sat w)

end Go.Proofs.YtfddmgagikeieaaDoor
