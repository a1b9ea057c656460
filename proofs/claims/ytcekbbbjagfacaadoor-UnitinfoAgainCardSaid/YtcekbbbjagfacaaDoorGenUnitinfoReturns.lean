/-
  Models of functions of the program, and that the functions compute them.
  Conditions: none.
-/
import Derived.Test.YtcekbbbjagfacaaDoorGen
namespace Go.Proofs.YtcekbbbjagfacaaDoor
open Go
set_option linter.unusedVariables false
set_option maxRecDepth 4000

theorem ent6 : Ent Tryd.prog 6 := ⟨_, Tryd.func6, by kernel_rfl, by kernel_rfl⟩

noncomputable def m_law17_UnitinfoReturns (l_p0 : (List Int)) (at_p1 : Int) (mask : Int) : Option Bool :=
  bnd (m_made_Light l_p0) fun r1 => bif !r1 then (bnd (m_law17_awake) fun r2 => some r2) else (bnd (m_made_Roll l_p0) fun r3 => bnd (m_made_Dice_Info r3) fun r4 => bnd (m_unitinfo_Encode r4.2) fun r5 => bnd (m_unitinfo_Decode r5.1) fun r6 => bnd ((bnd (m_unitinfo_Valid r4.2) fun r7 => bif !r7 then (some true) else (bif (r5.2 != 0) then (some true) else (bif (r6.2 != 0) then (some true) else (bnd (m_ref17_Same r4.2 r6.1) fun r8 => bif !r8 then (some true) else (bif decide ((IntKind.wrap .i64 ((r5.1.length : Int) - (r4.2.Multi.length : Int))) < 8) then (some true) else (some (((IntKind.wrap .i64 ((r5.1.length : Int) - (r4.2.Multi.length : Int))).tmod 8) != 0)))))) : Option Bool)) fun o1 => bif o1 then (some false) else (bif (mask == 0) then (bnd (m_law17_awake) fun r9 => some r9) else (bnd (m_unitinfo_Encode (⟨r4.2.Chassis, r4.2.Board, r4.2.Product, []⟩ : T_Info)) fun r10 => bnd ((bif (r10.2 != 0) then (some true) else (some ((r10.1.length : Int) != (IntKind.wrap .i64 ((r5.1.length : Int) - (r4.2.Multi.length : Int))))) : Option Bool)) fun o2 => bif o2 then (some false) else (bnd (m_made_Mod at_p1 (IntKind.wrap .i64 ((r5.1.length : Int) - (r4.2.Multi.length : Int)))) fun r11 => bnd (elt r10.1 r11) fun x1 => bnd (setE r10.1 r11 (iXor .u8 x1 mask)) fun l1 => bnd (m_unitinfo_Decode l1) fun r12 => bnd ((bif (r12.2 != 0) then (bif decide (r11 ≥ 8) then (bnd (m_law17_awake) fun r13 => some r13) else (bif (r12.2 == 5) then (bnd (m_law17_awake) fun r14 => some r14) else (some false))) else (some false) : Option Bool)) fun o3 => some o3))))

set_option maxHeartbeats 4000000 in
theorem c_law17_UnitinfoReturns {l_p0 : (List Int)} {at_p1 : Int} {mask : Int} {A1 : Option Addr} {c1 : Nat} {r : Bool} (h : m_law17_UnitinfoReturns l_p0 at_p1 mask = some r) :
    Fun Tryd.prog 6 [.slice A1 l_p0.length c1, .int .i64 at_p1, .int .u8 mask] [.ro (SlL ei64 A1 c1 l_p0), .ro (SlL ei64 (some ⟨0, 0, none⟩) 3 ([2, 5, 7] : List Int))] (Val (.bool r)) := by
  unfold m_law17_UnitinfoReturns at h
  refine Fun.intro Tryd.func6 rfl rfl rfl fun w R => ?_
  refine St.seq ?_
  refine St.region ?_
  refine St.p rfl rfl ?_
  refine St.done ?_
  refine St.thenN ?_
  refine St.prune (Γ' := [(0, _), (1, _), (2, _)]) ⟨rfl, rfl, rfl, trivial⟩ (.k (.k .z)) ?_
  refine St.seq ?_
  refine St.seq ?_
  refine St.region ?_
  refine St.p rfl rfl ?_
  obtain ⟨r1, hr1, h⟩ := bnd_e h
  refine St.callV (c_made_Light hr1) ent9 rfl rfl rfl rfl ⟨(.head _), trivial⟩ ?_
  refine St.p rfl rfl ?_
  refine St.done ?_
  refine St.thenN ?_
  refine St.prune (Γ' := [(0, _), (1, _), (2, _), (18, _)]) ⟨rfl, rfl, rfl, rfl, trivial⟩ (.k (.k .z)) ?_
  refine St.cond _ rfl (fun hb1 => ?_) (fun hb1 => ?_)
  · replace h := bif_t hb1 h
    refine St.seq ?_
    refine St.region ?_
    obtain ⟨r2, hr2, h⟩ := bnd_e h
    refine St.callV (c_law17_awake hr2) ent10 rfl rfl rfl rfl ⟨(.tail _ (.head _)), trivial⟩ ?_
    refine St.p rfl rfl ?_
    refine St.done ?_
    refine St.thenN ?_
    refine St.prune (Γ' := [(6, _)]) ⟨rfl, trivial⟩ (.d (.k .z)) ?_
    refine St.ret ?_
    repeat (first | refine St.thenR ?_ | refine St.blkR ?_)
    injection h with h
    subst h
    exact St.finR Tryd.results6 (.tmp rfl .nil) rfl [] ⟨rfl, rfl⟩ (fun _ w => ((.d .z) : Keep _ _).sat w)
  · replace h := bif_f hb1 h
    refine St.skip ?_
    refine St.thenN ?_
    refine St.prune (Γ' := [(0, _), (1, _), (2, _)]) ⟨rfl, rfl, rfl, trivial⟩ (.k (.k .z)) ?_
    refine St.seq ?_
    refine St.region ?_
    refine St.p rfl rfl ?_
    obtain ⟨r3, hr3, h⟩ := bnd_e h
    refine St.call (c_made_Roll hr3) ent11 rfl rfl rfl (fun _ w => Sat.dup (G := [.ro (SlL ei64 A1 c1 l_p0)]) rfl ⟨(.head _), trivial⟩ w) ?_
    rintro _ _ ⟨g1, A2, c2, rfl, rfl⟩
    refine St.asrt (F' := .ro (SlL ei64 A2 c2 r3.L) :: .res (Box g1 62 [.slice A2 r3.L.length c2, .int .i64 r3.At]) :: .ro (SlL ei64 A1 c1 l_p0) :: .ro (SlL ei64 (some ⟨0, 0, none⟩) 3 ([2, 5, 7] : List Int)) :: R) (fun _ w => w) ?_
    obtain ⟨r4, hr4, h⟩ := bnd_e h
    refine St.call (c_made_Dice_Info hr4) ent12 rfl rfl rfl (fun _ w => Sat.dup (G := [.ro (SlL ei64 A2 c2 r3.L)]) rfl ⟨(.tail _ (.head _)), trivial⟩ (w.front (.s .z))) ?_
    rintro _ _ ⟨A3, c3, A4, c4, A5, c5, A6, c6, A7, c7, rfl, rfl⟩
    refine St.asrt (F' := .ro (SlL ei64 A3 c3 r4.1.L) :: .ro (SlL e_Field A4 c4 r4.2.Chassis.Fields) :: .ro (SlL e_Field A5 c5 r4.2.Board.Fields) :: .ro (SlL e_Field A6 c6 r4.2.Product.Fields) :: .ro (SlL eu8 A7 c7 r4.2.Multi) :: .res (Box g1 62 [.slice A3 r4.1.L.length c3, .int .i64 r4.1.At]) :: .ro (SlL ei64 A2 c2 r3.L) :: .ro (SlL ei64 A1 c1 l_p0) :: .ro (SlL ei64 (some ⟨0, 0, none⟩) 3 ([2, 5, 7] : List Int)) :: R) (fun _ w => w) ?_
    refine St.alloc rfl rfl fun g2 => ?_
    refine St.store 0 rfl rfl rfl rfl rfl rfl .z rfl ?_
    refine St.done ?_
    refine St.thenN ?_
    refine St.prune (Γ' := [(1, _), (2, _), (7, _)]) ⟨rfl, rfl, rfl, trivial⟩ (.k (.d (.k (.k (.k (.k (.d (.d (.d (.k .z)))))))))) ?_
    refine St.seq ?_
    refine St.region ?_
    refine St.loadB 0 rfl rfl (.head _) rfl rfl ?_
    obtain ⟨r5, hr5, h⟩ := bnd_e h
    refine St.call (c_unitinfo_Encode hr5) ent14 rfl rfl rfl (fun _ w => Sat.dup (G := [.ro (SlL e_Field A4 c4 r4.2.Chassis.Fields), .ro (SlL e_Field A5 c5 r4.2.Board.Fields), .ro (SlL e_Field A6 c6 r4.2.Product.Fields), .ro (SlL eu8 A7 c7 r4.2.Multi), .ro (SlL ei64 (some ⟨0, 0, none⟩) 3 ([2, 5, 7] : List Int))]) rfl ⟨(.tail _ (.head _)), (.tail _ (.tail _ (.head _))), (.tail _ (.tail _ (.tail _ (.head _)))), (.tail _ (.tail _ (.tail _ (.tail _ (.head _))))), (.tail _ (.tail _ (.tail _ (.tail _ (.tail _ (.head _)))))), trivial⟩ w) ?_
    rintro _ _ ⟨A8, c8, rfl, rfl⟩
    refine St.asrt (F' := .res (OwnL eu8 5 A8 c8 r5.1) :: .res (Box g2 28 (bx_T_Info r4.2 A4 c4 A5 c5 A6 c6 A7 c7)) :: .ro (SlL e_Field A4 c4 r4.2.Chassis.Fields) :: .ro (SlL e_Field A5 c5 r4.2.Board.Fields) :: .ro (SlL e_Field A6 c6 r4.2.Product.Fields) :: .ro (SlL eu8 A7 c7 r4.2.Multi) :: .ro (SlL ei64 (some ⟨0, 0, none⟩) 3 ([2, 5, 7] : List Int)) :: R) (fun _ w => w) ?_
    iterate 5 refine St.p rfl rfl ?_
    refine St.done ?_
    refine St.thenN ?_
    refine St.prune (Γ' := [(1, _), (2, _), (7, _), (8, _), (9, _)]) ⟨rfl, rfl, rfl, rfl, rfl, trivial⟩ (.k (.k (.k (.k (.k (.k (.k .z))))))) ?_
    refine St.seq ?_
    refine St.region ?_
    refine St.p rfl rfl ?_
    refine St.asrt (fun _ w => (w.front .z).meltL) ?_
    obtain ⟨r6, hr6, h⟩ := bnd_e h
    refine St.call (c_unitinfo_Decode hr6) ent27 rfl rfl rfl (fun _ w => Sat.dup (G := [.ro (SlL eu8 A8 c8 r5.1), .ro (SlL ei64 (some ⟨0, 0, none⟩) 3 ([2, 5, 7] : List Int))]) rfl ⟨(.head _), (.tail _ (.tail _ (.tail _ (.tail _ (.tail _ (.tail _ (.head _))))))), trivial⟩ w) ?_
    rintro _ _ ⟨A9, c9, A10, c10, A11, c11, A12, c12, rfl, rfl⟩
    refine St.asrt (F' := .ro (SlL e_Field A9 c9 r6.1.Chassis.Fields) :: .ro (SlL e_Field A10 c10 r6.1.Board.Fields) :: .ro (SlL e_Field A11 c11 r6.1.Product.Fields) :: .ro (SlL eu8 A12 c12 r6.1.Multi) :: .ro (SlL eu8 A8 c8 r5.1) :: .res (Box g2 28 (bx_T_Info r4.2 A4 c4 A5 c5 A6 c6 A7 c7)) :: .ro (SlL e_Field A4 c4 r4.2.Chassis.Fields) :: .ro (SlL e_Field A5 c5 r4.2.Board.Fields) :: .ro (SlL e_Field A6 c6 r4.2.Product.Fields) :: .ro (SlL eu8 A7 c7 r4.2.Multi) :: .ro (SlL ei64 (some ⟨0, 0, none⟩) 3 ([2, 5, 7] : List Int)) :: R) (fun _ w => w) ?_
    iterate 3 refine St.p rfl rfl ?_
    refine St.alloc rfl rfl fun g3 => ?_
    refine St.store 0 rfl rfl rfl rfl rfl rfl .z rfl ?_
    refine St.p rfl rfl ?_
    refine St.done ?_
    refine St.thenN ?_
    refine St.prune (Γ' := [(1, _), (2, _), (7, _), (8, _), (9, _), (10, _), (11, _)]) ⟨rfl, rfl, rfl, rfl, rfl, rfl, rfl, trivial⟩ (.k (.k (.k (.k (.k (.k (.k (.k (.k (.k (.k (.k .z)))))))))))) ?_
    refine St.seq ?_
    refine St.region ?_
    iterate 3 refine St.p rfl rfl ?_
    refine St.loadB 12 rfl rfl (.tail _ (.tail _ (.tail _ (.tail _ (.tail _ (.tail _ (.head _))))))) rfl rfl ?_
    iterate 3 refine St.p rfl rfl ?_
    refine St.done ?_
    refine St.thenN ?_
    refine St.prune (Γ' := [(1, _), (2, _), (7, _), (9, _), (10, _), (11, _), (12, _)]) ⟨rfl, rfl, rfl, rfl, rfl, rfl, rfl, trivial⟩ (.k (.k (.k (.k (.k (.d (.k (.k (.k (.k (.k (.k .z)))))))))))) ?_
    refine St.seq ?_
    refine St.seq ?_
    obtain ⟨o1, hj1, h⟩ := bnd_e h
    refine St.cutE (fun (e1 : Unit) => [(1, .int .i64 at_p1), (2, .int .u8 mask), (7, .pointer (some ⟨g2, 0, none⟩)), (12, .int .i64 (IntKind.wrap .i64 ((r5.1.length : Int) - (r4.2.Multi.length : Int)))), (64, .bool o1)]) (fun e1 => .res (Box g2 28 (bx_T_Info r4.2 A4 c4 A5 c5 A6 c6 A7 c7)) :: .ro (SlL e_Field A4 c4 r4.2.Chassis.Fields) :: .ro (SlL e_Field A5 c5 r4.2.Board.Fields) :: .ro (SlL e_Field A6 c6 r4.2.Product.Fields) :: .ro (SlL eu8 A7 c7 r4.2.Multi) :: .ro (SlL ei64 (some ⟨0, 0, none⟩) 3 ([2, 5, 7] : List Int)) :: R) ?_ ?_
    · refine St.region ?_
      refine St.loadB 0 rfl rfl (.tail _ (.tail _ (.tail _ (.tail _ (.tail _ (.head _)))))) rfl rfl ?_
      obtain ⟨r7, hr7, hj1⟩ := bnd_e hj1
      refine St.callV (c_unitinfo_Valid hr7) ent16 rfl rfl rfl rfl ⟨(.tail _ (.tail _ (.tail _ (.tail _ (.tail _ (.tail _ (.head _))))))), (.tail _ (.tail _ (.tail _ (.tail _ (.tail _ (.tail _ (.tail _ (.head _)))))))), (.tail _ (.tail _ (.tail _ (.tail _ (.tail _ (.tail _ (.tail _ (.tail _ (.head _))))))))), (.tail _ (.tail _ (.tail _ (.tail _ (.tail _ (.tail _ (.tail _ (.tail _ (.tail _ (.head _)))))))))), (.tail _ (.tail _ (.tail _ (.tail _ (.tail _ (.tail _ (.tail _ (.tail _ (.tail _ (.tail _ (.head _))))))))))), trivial⟩ ?_
      refine St.p rfl rfl ?_
      refine St.p rfl rfl ?_
      refine St.gSplit (dj := 42) _ rfl (fun hb2 => ?_) (fun hb2 => ?_)
      · replace hj1 := bif_t hb2 hj1
        refine St.gOff (dj := 42) rfl rfl rfl rfl ?_
        refine St.gOff (dj := 42) rfl rfl rfl rfl ?_
        refine St.p rfl rfl ?_
        refine St.p rfl rfl ?_
        refine St.gOff (dj := 46) rfl rfl rfl rfl ?_
        refine St.gOff (dj := 46) rfl rfl rfl rfl ?_
        refine St.p rfl rfl ?_
        refine St.p rfl rfl ?_
        refine St.gOff (dj := 50) rfl rfl rfl rfl ?_
        refine St.gOff (dj := 50) rfl rfl rfl rfl ?_
        refine St.gOff (dj := 50) rfl rfl rfl rfl ?_
        refine St.gOff (dj := 50) rfl rfl rfl rfl ?_
        refine St.p rfl rfl ?_
        refine St.p rfl rfl ?_
        refine St.gOff (dj := 56) rfl rfl rfl rfl ?_
        refine St.gOff (dj := 56) rfl rfl rfl rfl ?_
        refine St.p rfl rfl ?_
        refine St.p rfl rfl ?_
        refine St.gOff (dj := 60) rfl rfl rfl rfl ?_
        refine St.gOff (dj := 60) rfl rfl rfl rfl ?_
        refine St.gOff (dj := 60) rfl rfl rfl rfl ?_
        refine St.p rfl rfl ?_
        refine St.done ?_
        injection hj1 with hj1
        subst hj1
        refine St.thenN ?_
        exact St.hereE () ⟨rfl, rfl, rfl, rfl, rfl, trivial⟩ (fun _ w => ((.d (.d (.d (.d (.d (.k (.k (.k (.k (.k (.k .z))))))))))) : Keep _ _).sat w)
      · replace hj1 := bif_f hb2 hj1
        refine St.gOn (dj := 42) rfl rfl ?_
        refine St.p rfl rfl ?_
        refine St.gOn (dj := 42) rfl rfl ?_
        iterate 3 refine St.p rfl rfl ?_
        refine St.gSplit (dj := 46) _ rfl (fun hb3 => ?_) (fun hb3 => ?_)
        · replace hj1 := bif_t hb3 hj1
          refine St.gOff (dj := 46) rfl rfl rfl rfl ?_
          refine St.gOff (dj := 46) rfl rfl rfl rfl ?_
          refine St.p rfl rfl ?_
          refine St.p rfl rfl ?_
          refine St.gOff (dj := 50) rfl rfl rfl rfl ?_
          refine St.gOff (dj := 50) rfl rfl rfl rfl ?_
          refine St.gOff (dj := 50) rfl rfl rfl rfl ?_
          refine St.gOff (dj := 50) rfl rfl rfl rfl ?_
          refine St.p rfl rfl ?_
          refine St.p rfl rfl ?_
          refine St.gOff (dj := 56) rfl rfl rfl rfl ?_
          refine St.gOff (dj := 56) rfl rfl rfl rfl ?_
          refine St.p rfl rfl ?_
          refine St.p rfl rfl ?_
          refine St.gOff (dj := 60) rfl rfl rfl rfl ?_
          refine St.gOff (dj := 60) rfl rfl rfl rfl ?_
          refine St.gOff (dj := 60) rfl rfl rfl rfl ?_
          refine St.p rfl rfl ?_
          refine St.done ?_
          injection hj1 with hj1
          subst hj1
          refine St.thenN ?_
          exact St.hereE () ⟨rfl, rfl, rfl, rfl, rfl, trivial⟩ (fun _ w => ((.d (.d (.d (.d (.d (.k (.k (.k (.k (.k (.k .z))))))))))) : Keep _ _).sat w)
        · replace hj1 := bif_f hb3 hj1
          refine St.gOn (dj := 46) rfl rfl ?_
          refine St.p rfl rfl ?_
          refine St.gOn (dj := 46) rfl rfl ?_
          iterate 3 refine St.p rfl rfl ?_
          refine St.gSplit (dj := 50) _ rfl (fun hb4 => ?_) (fun hb4 => ?_)
          · replace hj1 := bif_t hb4 hj1
            refine St.gOff (dj := 50) rfl rfl rfl rfl ?_
            refine St.gOff (dj := 50) rfl rfl rfl rfl ?_
            refine St.gOff (dj := 50) rfl rfl rfl rfl ?_
            refine St.gOff (dj := 50) rfl rfl rfl rfl ?_
            refine St.p rfl rfl ?_
            refine St.p rfl rfl ?_
            refine St.gOff (dj := 56) rfl rfl rfl rfl ?_
            refine St.gOff (dj := 56) rfl rfl rfl rfl ?_
            refine St.p rfl rfl ?_
            refine St.p rfl rfl ?_
            refine St.gOff (dj := 60) rfl rfl rfl rfl ?_
            refine St.gOff (dj := 60) rfl rfl rfl rfl ?_
            refine St.gOff (dj := 60) rfl rfl rfl rfl ?_
            refine St.p rfl rfl ?_
            refine St.done ?_
            injection hj1 with hj1
            subst hj1
            refine St.thenN ?_
            exact St.hereE () ⟨rfl, rfl, rfl, rfl, rfl, trivial⟩ (fun _ w => ((.d (.d (.d (.d (.d (.k (.k (.k (.k (.k (.k .z))))))))))) : Keep _ _).sat w)
          · replace hj1 := bif_f hb4 hj1
            refine St.gOn (dj := 50) rfl rfl ?_
            refine St.loadB 0 rfl rfl (.tail _ (.tail _ (.tail _ (.tail _ (.tail _ (.head _)))))) rfl rfl ?_
            refine St.gOn (dj := 50) rfl rfl ?_
            refine St.loadB 0 rfl rfl (.head _) rfl rfl ?_
            refine St.gOn (dj := 50) rfl rfl ?_
            obtain ⟨r8, hr8, hj1⟩ := bnd_e hj1
            refine St.callV (c_ref17_Same hr8) ent29 rfl rfl rfl rfl ⟨(.tail _ (.tail _ (.tail _ (.tail _ (.tail _ (.tail _ (.head _))))))), (.tail _ (.tail _ (.tail _ (.tail _ (.tail _ (.tail _ (.tail _ (.head _)))))))), (.tail _ (.tail _ (.tail _ (.tail _ (.tail _ (.tail _ (.tail _ (.tail _ (.head _))))))))), (.tail _ (.tail _ (.tail _ (.tail _ (.tail _ (.tail _ (.tail _ (.tail _ (.tail _ (.head _)))))))))), (.tail _ (.head _)), (.tail _ (.tail _ (.head _))), (.tail _ (.tail _ (.tail _ (.head _)))), (.tail _ (.tail _ (.tail _ (.tail _ (.head _))))), trivial⟩ ?_
            refine St.gOn (dj := 50) rfl rfl ?_
            iterate 3 refine St.p rfl rfl ?_
            refine St.gSplit (dj := 56) _ rfl (fun hb5 => ?_) (fun hb5 => ?_)
            · replace hj1 := bif_t hb5 hj1
              refine St.gOff (dj := 56) rfl rfl rfl rfl ?_
              refine St.gOff (dj := 56) rfl rfl rfl rfl ?_
              refine St.p rfl rfl ?_
              refine St.p rfl rfl ?_
              refine St.gOff (dj := 60) rfl rfl rfl rfl ?_
              refine St.gOff (dj := 60) rfl rfl rfl rfl ?_
              refine St.gOff (dj := 60) rfl rfl rfl rfl ?_
              refine St.p rfl rfl ?_
              refine St.done ?_
              injection hj1 with hj1
              subst hj1
              refine St.thenN ?_
              exact St.hereE () ⟨rfl, rfl, rfl, rfl, rfl, trivial⟩ (fun _ w => ((.d (.d (.d (.d (.d (.k (.k (.k (.k (.k (.k .z))))))))))) : Keep _ _).sat w)
            · replace hj1 := bif_f hb5 hj1
              refine St.gOn (dj := 56) rfl rfl ?_
              refine St.p rfl rfl ?_
              refine St.gOn (dj := 56) rfl rfl ?_
              iterate 3 refine St.p rfl rfl ?_
              refine St.gSplit (dj := 60) _ rfl (fun hb6 => ?_) (fun hb6 => ?_)
              · replace hj1 := bif_t hb6 hj1
                refine St.gOff (dj := 60) rfl rfl rfl rfl ?_
                refine St.gOff (dj := 60) rfl rfl rfl rfl ?_
                refine St.gOff (dj := 60) rfl rfl rfl rfl ?_
                refine St.p rfl rfl ?_
                refine St.done ?_
                injection hj1 with hj1
                subst hj1
                refine St.thenN ?_
                exact St.hereE () ⟨rfl, rfl, rfl, rfl, rfl, trivial⟩ (fun _ w => ((.d (.d (.d (.d (.d (.k (.k (.k (.k (.k (.k .z))))))))))) : Keep _ _).sat w)
              · replace hj1 := bif_f hb6 hj1
                refine St.gOn (dj := 60) rfl rfl ?_
                refine St.p rfl rfl ?_
                refine St.gOn (dj := 60) rfl rfl ?_
                refine St.p rfl rfl ?_
                refine St.gOn (dj := 60) rfl rfl ?_
                refine St.p rfl rfl ?_
                refine St.p rfl rfl ?_
                refine St.done ?_
                injection hj1 with hj1
                subst hj1
                refine St.thenN ?_
                exact St.hereE () ⟨rfl, rfl, rfl, rfl, rfl, trivial⟩ (fun _ w => ((.d (.d (.d (.d (.d (.k (.k (.k (.k (.k (.k .z))))))))))) : Keep _ _).sat w)
    · rintro e1
      refine St.cond _ rfl (fun hb7 => ?_) (fun hb7 => ?_)
      · replace h := bif_t hb7 h
        refine St.seq ?_
        refine St.region ?_
        refine St.p rfl rfl ?_
        refine St.done ?_
        refine St.thenN ?_
        refine St.prune (Γ' := [(6, _)]) ⟨rfl, trivial⟩ (.d (.d (.d (.d (.d (.k .z)))))) ?_
        refine St.ret ?_
        repeat (first | refine St.thenR ?_ | refine St.blkR ?_)
        injection h with h
        subst h
        exact St.finR Tryd.results6 (.tmp rfl .nil) rfl [] ⟨rfl, rfl⟩ (fun _ w => ((.d .z) : Keep _ _).sat w)
      · replace h := bif_f hb7 h
        refine St.skip ?_
        refine St.thenN ?_
        refine St.prune (Γ' := [(1, _), (2, _), (7, _), (12, _)]) ⟨rfl, rfl, rfl, rfl, trivial⟩ (.k (.k (.k (.k (.k (.k .z)))))) ?_
        refine St.seq ?_
        refine St.seq ?_
        refine St.region ?_
        refine St.p rfl rfl ?_
        refine St.p rfl rfl ?_
        refine St.done ?_
        refine St.thenN ?_
        refine St.prune (Γ' := [(1, _), (2, _), (7, _), (12, _), (66, _)]) ⟨rfl, rfl, rfl, rfl, rfl, trivial⟩ (.k (.k (.k (.k (.k (.k .z)))))) ?_
        refine St.cond _ rfl (fun hb8 => ?_) (fun hb8 => ?_)
        · replace h := bif_t hb8 h
          refine St.seq ?_
          refine St.region ?_
          obtain ⟨r9, hr9, h⟩ := bnd_e h
          refine St.callV (c_law17_awake hr9) ent10 rfl rfl rfl rfl ⟨(.tail _ (.tail _ (.tail _ (.tail _ (.tail _ (.head _)))))), trivial⟩ ?_
          refine St.p rfl rfl ?_
          refine St.done ?_
          refine St.thenN ?_
          refine St.prune (Γ' := [(6, _)]) ⟨rfl, trivial⟩ (.d (.d (.d (.d (.d (.k .z)))))) ?_
          refine St.ret ?_
          repeat (first | refine St.thenR ?_ | refine St.blkR ?_)
          injection h with h
          subst h
          exact St.finR Tryd.results6 (.tmp rfl .nil) rfl [] ⟨rfl, rfl⟩ (fun _ w => ((.d .z) : Keep _ _).sat w)
        · replace h := bif_f hb8 h
          refine St.skip ?_
          refine St.thenN ?_
          refine St.prune (Γ' := [(1, _), (2, _), (7, _), (12, _)]) ⟨rfl, rfl, rfl, rfl, trivial⟩ (.k (.k (.k (.k (.k (.k .z)))))) ?_
          refine St.seq ?_
          refine St.region ?_
          refine St.p rfl rfl ?_
          refine St.store 12 rfl rfl rfl rfl rfl rfl .z rfl ?_
          refine St.done ?_
          refine St.thenN ?_
          refine St.prune (Γ' := [(1, _), (2, _), (7, _), (12, _)]) ⟨rfl, rfl, rfl, rfl, trivial⟩ (.k (.k (.k (.k (.d (.k .z)))))) ?_
          refine St.seq ?_
          refine St.region ?_
          refine St.loadB 0 rfl rfl (.head _) rfl rfl ?_
          refine St.asrt (fun _ w => w.nilSl (cod eu8)) ?_
          obtain ⟨r10, hr10, h⟩ := bnd_e h
          refine St.call (c_unitinfo_Encode hr10) ent14 rfl rfl rfl (fun _ w => Sat.dup (G := [.ro (SlL e_Field A4 c4 r4.2.Chassis.Fields), .ro (SlL e_Field A5 c5 r4.2.Board.Fields), .ro (SlL e_Field A6 c6 r4.2.Product.Fields), .ro (SlL eu8 none 0 ([] : List Int)), .ro (SlL ei64 (some ⟨0, 0, none⟩) 3 ([2, 5, 7] : List Int))]) rfl ⟨(.tail _ (.tail _ (.head _))), (.tail _ (.tail _ (.tail _ (.head _)))), (.tail _ (.tail _ (.tail _ (.tail _ (.head _))))), (.head _), (.tail _ (.tail _ (.tail _ (.tail _ (.tail _ (.head _)))))), trivial⟩ w) ?_
          rintro _ _ ⟨A13, c13, rfl, rfl⟩
          refine St.asrt (F' := .res (OwnL eu8 5 A13 c13 r10.1) :: .ro (SlL eu8 none 0 ([] : List Int)) :: .res (Box g2 28 [.bool r4.2.Chassis.Present, .int .u8 r4.2.Chassis.Code, .int .u32 r4.2.Chassis.Minutes, .slice A4 r4.2.Chassis.Fields.length c4, .bool r4.2.Board.Present, .int .u8 r4.2.Board.Code, .int .u32 r4.2.Board.Minutes, .slice A5 r4.2.Board.Fields.length c5, .bool r4.2.Product.Present, .int .u8 r4.2.Product.Code, .int .u32 r4.2.Product.Minutes, .slice A6 r4.2.Product.Fields.length c6, .slice none 0 0]) :: .ro (SlL e_Field A4 c4 r4.2.Chassis.Fields) :: .ro (SlL e_Field A5 c5 r4.2.Board.Fields) :: .ro (SlL e_Field A6 c6 r4.2.Product.Fields) :: .ro (SlL ei64 (some ⟨0, 0, none⟩) 3 ([2, 5, 7] : List Int)) :: R) (fun _ w => w) ?_
          iterate 5 refine St.p rfl rfl ?_
          refine St.done ?_
          refine St.thenN ?_
          refine St.prune (Γ' := [(1, _), (2, _), (8, _), (9, _), (12, _)]) ⟨rfl, rfl, rfl, rfl, rfl, trivial⟩ (.k (.d (.d (.d (.d (.d (.k .z))))))) ?_
          refine St.seq ?_
          refine St.seq ?_
          obtain ⟨o2, hj2, h⟩ := bnd_e h
          refine St.cutE (fun (e2 : Unit) => [(1, .int .i64 at_p1), (2, .int .u8 mask), (8, .slice A13 r10.1.length c13), (12, .int .i64 (IntKind.wrap .i64 ((r5.1.length : Int) - (r4.2.Multi.length : Int)))), (81, .bool o2)]) (fun e2 => .res (OwnL eu8 5 A13 c13 r10.1) :: .ro (SlL ei64 (some ⟨0, 0, none⟩) 3 ([2, 5, 7] : List Int)) :: R) ?_ ?_
          · refine St.region ?_
            iterate 3 refine St.p rfl rfl ?_
            refine St.gSplit (dj := 76) _ rfl (fun hb9 => ?_) (fun hb9 => ?_)
            · replace hj2 := bif_t hb9 hj2
              refine St.gOff (dj := 76) rfl rfl rfl rfl ?_
              refine St.gOff (dj := 76) rfl rfl rfl rfl ?_
              refine St.gOff (dj := 76) rfl rfl rfl rfl ?_
              refine St.gOff (dj := 76) rfl rfl rfl rfl ?_
              refine St.p rfl rfl ?_
              refine St.done ?_
              injection hj2 with hj2
              subst hj2
              refine St.thenN ?_
              exact St.hereE () ⟨rfl, rfl, rfl, rfl, rfl, trivial⟩ (fun _ w => ((.k (.k .z)) : Keep _ _).sat w)
            · replace hj2 := bif_f hb9 hj2
              refine St.gOn (dj := 76) rfl rfl ?_
              refine St.p rfl rfl ?_
              refine St.gOn (dj := 76) rfl rfl ?_
              refine St.p rfl rfl ?_
              refine St.gOn (dj := 76) rfl rfl ?_
              refine St.p rfl rfl ?_
              refine St.gOn (dj := 76) rfl rfl ?_
              refine St.p rfl rfl ?_
              refine St.p rfl rfl ?_
              refine St.done ?_
              injection hj2 with hj2
              subst hj2
              refine St.thenN ?_
              exact St.hereE () ⟨rfl, rfl, rfl, rfl, rfl, trivial⟩ (fun _ w => ((.k (.k .z)) : Keep _ _).sat w)
          · rintro e2
            refine St.cond _ rfl (fun hb10 => ?_) (fun hb10 => ?_)
            · replace h := bif_t hb10 h
              refine St.seq ?_
              refine St.region ?_
              refine St.p rfl rfl ?_
              refine St.done ?_
              refine St.thenN ?_
              refine St.prune (Γ' := [(6, _)]) ⟨rfl, trivial⟩ (.d (.k .z)) ?_
              refine St.ret ?_
              repeat (first | refine St.thenR ?_ | refine St.blkR ?_)
              injection h with h
              subst h
              exact St.finR Tryd.results6 (.tmp rfl .nil) rfl [] ⟨rfl, rfl⟩ (fun _ w => ((.d .z) : Keep _ _).sat w)
            · replace h := bif_f hb10 h
              refine St.skip ?_
              refine St.thenN ?_
              refine St.prune (Γ' := [(1, _), (2, _), (8, _), (12, _)]) ⟨rfl, rfl, rfl, rfl, trivial⟩ (.k (.k .z)) ?_
              refine St.seq ?_
              refine St.region ?_
              refine St.p rfl rfl ?_
              refine St.p rfl rfl ?_
              obtain ⟨r11, hr11, h⟩ := bnd_e h
              refine St.callV (c_made_Mod hr11) ent21 rfl rfl rfl rfl trivial ?_
              refine St.p rfl rfl ?_
              refine St.done ?_
              refine St.thenN ?_
              refine St.prune (Γ' := [(2, _), (8, _), (13, _)]) ⟨rfl, rfl, rfl, trivial⟩ (.k (.k .z)) ?_
              refine St.seq ?_
              refine St.region ?_
              refine St.p rfl rfl ?_
              refine St.p rfl rfl ?_
              obtain ⟨x1, hx1, h⟩ := bnd_e h
              refine St.ixO hx1 rfl rfl rfl (.head _) rfl rfl rfl rfl rfl fun g4 hA => ?_
              subst hA
              refine St.ldO 0 hx1 rfl rfl (.head _) rfl rfl ?_
              refine St.p rfl rfl ?_
              refine St.p rfl rfl ?_
              refine St.ixO hx1 rfl rfl rfl (.head _) rfl rfl rfl rfl rfl fun g5 hA => ?_
              cases hA
              obtain ⟨l1, hl1, h⟩ := bnd_e h
              refine St.stO 0 hx1 hl1 rfl rfl .z rfl rfl rfl rfl rfl ?_
              refine St.slots (Γ' := [(2, _), (8, .slice (some ⟨g4, 0, none⟩) l1.length c13), (13, _), (85, .slice (some ⟨g4, 0, none⟩) l1.length c13), (86, _), (87, _), (88, _), (89, _), (90, _), (91, _)]) ⟨rfl, sl_len hl1, rfl, sl_len hl1, rfl, rfl, rfl, rfl, rfl, rfl, trivial⟩ ?_
              refine St.done ?_
              refine St.thenN ?_
              refine St.prune (Γ' := [(8, _), (13, _)]) ⟨rfl, rfl, trivial⟩ (.k (.k .z)) ?_
              refine St.seq ?_
              refine St.region ?_
              refine St.p rfl rfl ?_
              refine St.asrt (fun _ w => (w.front .z).meltL) ?_
              obtain ⟨r12, hr12, h⟩ := bnd_e h
              refine St.call (c_unitinfo_Decode hr12) ent27 rfl rfl rfl (fun _ w => Sat.dup (G := [.ro (SlL eu8 (some ⟨g4, 0, none⟩) c13 l1), .ro (SlL ei64 (some ⟨0, 0, none⟩) 3 ([2, 5, 7] : List Int))]) rfl ⟨(.head _), (.tail _ (.head _)), trivial⟩ w) ?_
              rintro _ _ ⟨A14, c14, A15, c15, A16, c16, A17, c17, rfl, rfl⟩
              refine St.asrt (F' := .ro (SlL e_Field A14 c14 r12.1.Chassis.Fields) :: .ro (SlL e_Field A15 c15 r12.1.Board.Fields) :: .ro (SlL e_Field A16 c16 r12.1.Product.Fields) :: .ro (SlL eu8 A17 c17 r12.1.Multi) :: .ro (SlL eu8 (some ⟨g4, 0, none⟩) c13 l1) :: .ro (SlL ei64 (some ⟨0, 0, none⟩) 3 ([2, 5, 7] : List Int)) :: R) (fun _ w => w) ?_
              iterate 3 refine St.p rfl rfl ?_
              refine St.alloc rfl rfl fun g6 => ?_
              refine St.store 0 rfl rfl rfl rfl rfl rfl .z rfl ?_
              refine St.p rfl rfl ?_
              refine St.done ?_
              refine St.thenN ?_
              refine St.prune (Γ' := [(13, _), (15, _)]) ⟨rfl, rfl, trivial⟩ (.d (.d (.d (.d (.d (.d (.k .z))))))) ?_
              refine St.seq ?_
              obtain ⟨o3, hj3, h⟩ := bnd_e h
              refine St.cutE (fun (e3 : Unit) => [(6, .bool o3)]) (fun e3 => .ro (SlL ei64 (some ⟨0, 0, none⟩) 3 ([2, 5, 7] : List Int)) :: R) ?_ ?_
              · refine St.region ?_
                iterate 3 refine St.p rfl rfl ?_
                refine St.gSplit (dj := 99) _ rfl (fun hb11 => ?_) (fun hb11 => ?_)
                · replace hj3 := bif_t hb11 hj3
                  refine St.gOn (dj := 99) rfl rfl ?_
                  refine St.p rfl rfl ?_
                  refine St.gOn (dj := 99) rfl rfl ?_
                  refine St.p rfl rfl ?_
                  refine St.gOn (dj := 99) rfl rfl ?_
                  refine St.p rfl rfl ?_
                  refine St.gSplit (dj := 102) _ rfl (fun hb12 => ?_) (fun hb12 => ?_)
                  · replace hj3 := bif_t hb12 hj3
                    refine St.gOff (dj := 102) rfl rfl rfl rfl ?_
                    refine St.gOff (dj := 102) rfl rfl rfl rfl ?_
                    refine St.gOn (dj := 99) rfl rfl ?_
                    iterate 3 refine St.p rfl rfl ?_
                    refine St.gOn (dj := 107) rfl rfl ?_
                    obtain ⟨r13, hr13, hj3⟩ := bnd_e hj3
                    refine St.callV (c_law17_awake hr13) ent10 rfl rfl rfl rfl ⟨(.head _), trivial⟩ ?_
                    refine St.p rfl rfl ?_
                    refine St.p rfl rfl ?_
                    refine St.done ?_
                    injection hj3 with hj3
                    subst hj3
                    refine St.thenN ?_
                    exact St.hereE () ⟨rfl, trivial⟩ (fun _ w => ((.k .z) : Keep _ _).sat w)
                  · replace hj3 := bif_f hb12 hj3
                    refine St.gOn (dj := 102) rfl rfl ?_
                    refine St.p rfl rfl ?_
                    refine St.gOn (dj := 102) rfl rfl ?_
                    refine St.p rfl rfl ?_
                    refine St.gOn (dj := 99) rfl rfl ?_
                    iterate 3 refine St.p rfl rfl ?_
                    refine St.gSplit (dj := 107) _ rfl (fun hb13 => ?_) (fun hb13 => ?_)
                    · replace hj3 := bif_t hb13 hj3
                      refine St.gOn (dj := 107) rfl rfl ?_
                      obtain ⟨r14, hr14, hj3⟩ := bnd_e hj3
                      refine St.callV (c_law17_awake hr14) ent10 rfl rfl rfl rfl ⟨(.head _), trivial⟩ ?_
                      refine St.p rfl rfl ?_
                      refine St.p rfl rfl ?_
                      refine St.done ?_
                      injection hj3 with hj3
                      subst hj3
                      refine St.thenN ?_
                      exact St.hereE () ⟨rfl, trivial⟩ (fun _ w => ((.k .z) : Keep _ _).sat w)
                    · replace hj3 := bif_f hb13 hj3
                      refine St.gOff (dj := 107) rfl rfl rfl rfl ?_
                      refine St.p rfl rfl ?_
                      refine St.p rfl rfl ?_
                      refine St.done ?_
                      injection hj3 with hj3
                      subst hj3
                      refine St.thenN ?_
                      exact St.hereE () ⟨rfl, trivial⟩ (fun _ w => ((.k .z) : Keep _ _).sat w)
                · replace hj3 := bif_f hb11 hj3
                  refine St.gOff (dj := 99) rfl rfl rfl rfl ?_
                  refine St.gOff (dj := 99) rfl rfl rfl rfl ?_
                  refine St.gOff (dj := 99) rfl rfl rfl rfl ?_
                  refine St.gOff (dj := 102) rfl rfl rfl rfl ?_
                  refine St.gOff (dj := 102) rfl rfl rfl rfl ?_
                  refine St.gOff (dj := 99) rfl rfl rfl rfl ?_
                  refine St.p rfl rfl ?_
                  refine St.p rfl rfl ?_
                  refine St.gOff (dj := 107) rfl rfl rfl rfl ?_
                  refine St.p rfl rfl ?_
                  refine St.p rfl rfl ?_
                  refine St.done ?_
                  injection hj3 with hj3
                  subst hj3
                  refine St.thenN ?_
                  exact St.hereE () ⟨rfl, trivial⟩ (fun _ w => ((.k .z) : Keep _ _).sat w)
              · rintro e3
                refine St.ret ?_
                repeat (first | refine St.thenR ?_ | refine St.blkR ?_)
                injection h with h
                subst h
                exact St.finR Tryd.results6 (.tmp rfl .nil) rfl [] ⟨rfl, rfl⟩ (fun _ w => ((.d .z) : Keep _ _).sat w)

end Go.Proofs.YtcekbbbjagfacaaDoor
