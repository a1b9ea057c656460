/-
  Models of functions of the program, and that the functions compute them.
  Conditions: none.
-/
import Derived.Test.YtfddmgagikeieaaDoorGen
namespace Go.Proofs.YtfddmgagikeieaaDoor
open Go
set_option linter.unusedVariables false
set_option maxRecDepth 4000

theorem ent6 : Ent Tryd.prog 6 := ⟨_, Tryd.func6, by kernel_rfl, by kernel_rfl⟩

noncomputable def m_law02_FieldsKinds (l_p0 : (List Int)) (n_p1 : Int) : Option Bool :=
  bnd (m_made_Light l_p0) fun r1 => bif !r1 then (bnd (m_law02_awake) fun r2 => some r2) else (bnd (m_made_Mod n_p1 140) fun r3 => bnd (m_made_Roll l_p0) fun r4 => bnd (m_made_Dice_Text r4 (⟨#[48, 49, 50, 51, 52, 53, 54, 55, 56, 57, 32, 45, 46]⟩) r3) fun r5 => bnd (m_fields_Encode (⟨1, r5.2⟩ : T_Field)) fun r6 => bnd (m_fields_Encode (⟨2, r5.2⟩ : T_Field)) fun r7 => bnd (m_fields_Encode (⟨3, r5.2⟩ : T_Field)) fun r8 => bnd ((bif ((r3.tmod 2) == 0) then (bif !((r6.2 == 0) == (decide (r3 ≤ 126))) then (some true) else (bif ((r3.tmod 4) != 3) then (bif !((r7.2 == 0) == (decide (r3 ≤ 84))) then (some true) else (bif (r3 != 1) then (some (!((r8.2 == 0) == (decide (r3 ≤ 63))))) else (some (!((r8.2 == 0) == false))))) else (bif !((r7.2 == 0) == false) then (some true) else (bif (r3 != 1) then (some (!((r8.2 == 0) == (decide (r3 ≤ 63))))) else (some (!((r8.2 == 0) == false))))))) else (bif !((r6.2 == 0) == false) then (some true) else (bif ((r3.tmod 4) != 3) then (bif !((r7.2 == 0) == (decide (r3 ≤ 84))) then (some true) else (bif (r3 != 1) then (some (!((r8.2 == 0) == (decide (r3 ≤ 63))))) else (some (!((r8.2 == 0) == false))))) else (bif !((r7.2 == 0) == false) then (some true) else (bif (r3 != 1) then (some (!((r8.2 == 0) == (decide (r3 ≤ 63))))) else (some (!((r8.2 == 0) == false))))))) : Option Bool)) fun o1 => bif o1 then (some false) else (bnd ((bif (r6.2 != 0) then (bif (r7.2 != 0) then (bif (r8.2 != 0) then (bnd (m_law02_awake) fun r9 => some r9) else (bif ((r8.1.length : Int) == (IntKind.wrap .i64 (1 + r3))) then (bnd (m_law02_awake) fun r10 => some r10) else (some false))) else (bif ((r7.1.length : Int) == (IntKind.wrap .i64 (1 + (IntKind.wrap .i64 ((IntKind.wrap .i64 ((IntKind.wrap .i64 (6 * r3)) + 7)).tdiv 8))))) then (bif (r8.2 != 0) then (bnd (m_law02_awake) fun r11 => some r11) else (bif ((r8.1.length : Int) == (IntKind.wrap .i64 (1 + r3))) then (bnd (m_law02_awake) fun r12 => some r12) else (some false))) else (some false))) else (bif ((r6.1.length : Int) == (IntKind.wrap .i64 (1 + (IntKind.wrap .i64 (r3.tdiv 2))))) then (bif (r7.2 != 0) then (bif (r8.2 != 0) then (bnd (m_law02_awake) fun r13 => some r13) else (bif ((r8.1.length : Int) == (IntKind.wrap .i64 (1 + r3))) then (bnd (m_law02_awake) fun r14 => some r14) else (some false))) else (bif ((r7.1.length : Int) == (IntKind.wrap .i64 (1 + (IntKind.wrap .i64 ((IntKind.wrap .i64 ((IntKind.wrap .i64 (6 * r3)) + 7)).tdiv 8))))) then (bif (r8.2 != 0) then (bnd (m_law02_awake) fun r15 => some r15) else (bif ((r8.1.length : Int) == (IntKind.wrap .i64 (1 + r3))) then (bnd (m_law02_awake) fun r16 => some r16) else (some false))) else (some false))) else (some false)) : Option Bool)) fun o2 => some o2))

set_option maxHeartbeats 4000000 in
theorem c_law02_FieldsKinds {l_p0 : (List Int)} {n_p1 : Int} {A1 : Option Addr} {c1 : Nat} {r : Bool} (h : m_law02_FieldsKinds l_p0 n_p1 = some r) :
    Fun Tryd.prog 6 [.slice A1 l_p0.length c1, .int .i64 n_p1] [.ro (SlL ei64 A1 c1 l_p0)] (Val (.bool r)) := by
  unfold m_law02_FieldsKinds at h
  refine Fun.intro Tryd.func6 rfl rfl rfl fun w R => ?_
  refine St.seq ?_
  refine St.region ?_
  refine St.p rfl rfl ?_
  refine St.done ?_
  refine St.thenN ?_
  refine St.prune (Γ' := [(0, _), (1, _)]) ⟨rfl, rfl, trivial⟩ (.k .z) ?_
  refine St.seq ?_
  refine St.seq ?_
  refine St.region ?_
  refine St.p rfl rfl ?_
  obtain ⟨r1, hr1, h⟩ := bnd_e h
  refine St.callV (c_made_Light hr1) ent13 rfl rfl rfl rfl ⟨(.head _), trivial⟩ ?_
  refine St.p rfl rfl ?_
  refine St.done ?_
  refine St.thenN ?_
  refine St.prune (Γ' := [(0, _), (1, _), (15, _)]) ⟨rfl, rfl, rfl, trivial⟩ (.k .z) ?_
  refine St.cond _ rfl (fun hb1 => ?_) (fun hb1 => ?_)
  · replace h := bif_t hb1 h
    refine St.seq ?_
    refine St.region ?_
    obtain ⟨r2, hr2, h⟩ := bnd_e h
    refine St.callV (c_law02_awake hr2) ent14 rfl rfl rfl rfl trivial ?_
    refine St.p rfl rfl ?_
    refine St.done ?_
    refine St.thenN ?_
    refine St.prune (Γ' := [(4, _)]) ⟨rfl, trivial⟩ (.d .z) ?_
    refine St.ret ?_
    repeat (first | refine St.thenR ?_ | refine St.blkR ?_)
    injection h with h
    subst h
    exact St.finR Tryd.results6 (.tmp rfl .nil) rfl [] ⟨rfl, rfl⟩ (fun _ w => (.z : Keep _ _).sat w)
  · replace h := bif_f hb1 h
    refine St.skip ?_
    refine St.thenN ?_
    refine St.prune (Γ' := [(0, _), (1, _)]) ⟨rfl, rfl, trivial⟩ (.k .z) ?_
    refine St.seq ?_
    refine St.region ?_
    refine St.p rfl rfl ?_
    obtain ⟨r3, hr3, h⟩ := bnd_e h
    refine St.callV (c_made_Mod hr3) ent25 rfl rfl rfl rfl trivial ?_
    refine St.p rfl rfl ?_
    refine St.done ?_
    refine St.thenN ?_
    refine St.prune (Γ' := [(0, _), (5, _)]) ⟨rfl, rfl, trivial⟩ (.k .z) ?_
    refine St.seq ?_
    refine St.region ?_
    refine St.p rfl rfl ?_
    obtain ⟨r4, hr4, h⟩ := bnd_e h
    refine St.call (c_made_Roll hr4) ent15 rfl rfl rfl (fun _ w => Sat.dup (G := [.ro (SlL ei64 A1 c1 l_p0)]) rfl ⟨(.head _), trivial⟩ w) ?_
    rintro _ _ ⟨g1, A2, c2, rfl, rfl⟩
    refine St.asrt (F' := .ro (SlL ei64 A2 c2 r4.L) :: .res (Box g1 58 [.slice A2 r4.L.length c2, .int .i64 r4.At]) :: .ro (SlL ei64 A1 c1 l_p0) :: R) (fun _ w => w) ?_
    refine St.p rfl rfl ?_
    obtain ⟨r5, hr5, h⟩ := bnd_e h
    refine St.call (c_made_Dice_Text hr5) ent26 rfl rfl rfl (fun _ w => Sat.dup (G := [.ro (SlL ei64 A2 c2 r4.L)]) rfl ⟨(.tail _ (.head _)), trivial⟩ (w.front (.s .z))) ?_
    rintro _ _ ⟨A3, c3, rfl, rfl⟩
    refine St.asrt (F' := .ro (SlL ei64 A3 c3 r5.1.L) :: .res (Box g1 58 [.slice A3 r5.1.L.length c3, .int .i64 r5.1.At]) :: .ro (SlL ei64 A2 c2 r4.L) :: .ro (SlL ei64 A1 c1 l_p0) :: R) (fun _ w => w) ?_
    refine St.p rfl rfl ?_
    refine St.done ?_
    refine St.thenN ?_
    refine St.prune (Γ' := [(5, _), (6, _)]) ⟨rfl, rfl, trivial⟩ (.d (.d (.d (.d .z)))) ?_
    refine St.seq ?_
    refine St.region ?_
    refine St.p rfl rfl ?_
    refine St.p rfl rfl ?_
    obtain ⟨r6, hr6, h⟩ := bnd_e h
    refine St.call (c_fields_Encode hr6) ent17 rfl rfl rfl (fun _ w => w) ?_
    rintro _ _ ⟨A4, c4, rfl, rfl⟩
    refine St.asrt (F' := .res (OwnL eu8 5 A4 c4 r6.1) :: R) (fun _ w => w) ?_
    iterate 5 refine St.p rfl rfl ?_
    refine St.done ?_
    refine St.thenN ?_
    refine St.prune (Γ' := [(5, _), (6, _), (7, _), (8, _)]) ⟨rfl, rfl, rfl, rfl, trivial⟩ (.k .z) ?_
    refine St.seq ?_
    refine St.region ?_
    refine St.p rfl rfl ?_
    refine St.p rfl rfl ?_
    obtain ⟨r7, hr7, h⟩ := bnd_e h
    refine St.call (c_fields_Encode hr7) ent17 rfl rfl rfl (fun _ w => w) ?_
    rintro _ _ ⟨A5, c5, rfl, rfl⟩
    refine St.asrt (F' := .res (OwnL eu8 5 A5 c5 r7.1) :: .res (OwnL eu8 5 A4 c4 r6.1) :: R) (fun _ w => w) ?_
    iterate 5 refine St.p rfl rfl ?_
    refine St.done ?_
    refine St.thenN ?_
    refine St.prune (Γ' := [(5, _), (6, _), (7, _), (8, _), (9, _), (10, _)]) ⟨rfl, rfl, rfl, rfl, rfl, rfl, trivial⟩ (.k (.k .z)) ?_
    refine St.seq ?_
    refine St.region ?_
    refine St.p rfl rfl ?_
    refine St.p rfl rfl ?_
    obtain ⟨r8, hr8, h⟩ := bnd_e h
    refine St.call (c_fields_Encode hr8) ent17 rfl rfl rfl (fun _ w => w) ?_
    rintro _ _ ⟨A6, c6, rfl, rfl⟩
    refine St.asrt (F' := .res (OwnL eu8 5 A6 c6 r8.1) :: .res (OwnL eu8 5 A5 c5 r7.1) :: .res (OwnL eu8 5 A4 c4 r6.1) :: R) (fun _ w => w) ?_
    iterate 5 refine St.p rfl rfl ?_
    refine St.done ?_
    refine St.thenN ?_
    refine St.prune (Γ' := [(5, _), (7, _), (8, _), (9, _), (10, _), (11, _), (12, _)]) ⟨rfl, rfl, rfl, rfl, rfl, rfl, rfl, trivial⟩ (.k (.k (.k .z))) ?_
    refine St.seq ?_
    refine St.seq ?_
    obtain ⟨o1, hj1, h⟩ := bnd_e h
    refine St.cutE (fun (e1 : Unit) => [(5, .int .i64 r3), (7, .slice A4 r6.1.length c4), (8, .int .i64 r6.2), (9, .slice A5 r7.1.length c5), (10, .int .i64 r7.2), (11, .slice A6 r8.1.length c6), (12, .int .i64 r8.2), (73, .bool o1)]) (fun e1 => .res (OwnL eu8 5 A6 c6 r8.1) :: .res (OwnL eu8 5 A5 c5 r7.1) :: .res (OwnL eu8 5 A4 c4 r6.1) :: R) ?_ ?_
    · refine St.region ?_
      iterate 6 refine St.p rfl rfl ?_
      refine St.gSplit (dj := 46) _ rfl (fun hb2 => ?_) (fun hb2 => ?_)
      · replace hj1 := bif_t hb2 hj1
        refine St.gOn (dj := 46) rfl rfl ?_
        refine St.p rfl rfl ?_
        refine St.gOn (dj := 46) rfl rfl ?_
        iterate 4 refine St.p rfl rfl ?_
        refine St.gSplit (dj := 51) _ rfl (fun hb3 => ?_) (fun hb3 => ?_)
        · replace hj1 := bif_t hb3 hj1
          refine St.gOff (dj := 51) rfl rfl rfl rfl ?_
          refine St.gOff (dj := 51) rfl rfl rfl rfl ?_
          refine St.gOff (dj := 51) rfl rfl rfl rfl ?_
          refine St.gOff (dj := 51) rfl rfl rfl rfl ?_
          refine St.gOff (dj := 51) rfl rfl rfl rfl ?_
          refine St.gOff (dj := 51) rfl rfl rfl rfl ?_
          refine St.gOff (dj := 57) rfl rfl rfl rfl ?_
          refine St.gOff (dj := 57) rfl rfl rfl rfl ?_
          refine St.gOff (dj := 51) rfl rfl rfl rfl ?_
          refine St.gOff (dj := 51) rfl rfl rfl rfl ?_
          refine St.p rfl rfl ?_
          refine St.p rfl rfl ?_
          refine St.gOff (dj := 63) rfl rfl rfl rfl ?_
          refine St.gOff (dj := 63) rfl rfl rfl rfl ?_
          refine St.gOff (dj := 63) rfl rfl rfl rfl ?_
          refine St.gOff (dj := 63) rfl rfl rfl rfl ?_
          refine St.gOff (dj := 63) rfl rfl rfl rfl ?_
          refine St.gOff (dj := 68) rfl rfl rfl rfl ?_
          refine St.gOff (dj := 68) rfl rfl rfl rfl ?_
          refine St.gOff (dj := 63) rfl rfl rfl rfl ?_
          refine St.gOff (dj := 63) rfl rfl rfl rfl ?_
          refine St.p rfl rfl ?_
          refine St.done ?_
          injection hj1 with hj1
          subst hj1
          refine St.thenN ?_
          exact St.hereE () ⟨rfl, rfl, rfl, rfl, rfl, rfl, rfl, rfl, trivial⟩ (fun _ w => ((.k (.k (.k .z))) : Keep _ _).sat w)
        · replace hj1 := bif_f hb3 hj1
          refine St.gOn (dj := 51) rfl rfl ?_
          refine St.p rfl rfl ?_
          refine St.gOn (dj := 51) rfl rfl ?_
          refine St.p rfl rfl ?_
          refine St.gOn (dj := 51) rfl rfl ?_
          refine St.p rfl rfl ?_
          refine St.gOn (dj := 51) rfl rfl ?_
          refine St.p rfl rfl ?_
          refine St.gOn (dj := 51) rfl rfl ?_
          refine St.p rfl rfl ?_
          refine St.gOn (dj := 51) rfl rfl ?_
          refine St.p rfl rfl ?_
          refine St.gSplit (dj := 57) _ rfl (fun hb4 => ?_) (fun hb4 => ?_)
          · replace hj1 := bif_t hb4 hj1
            refine St.gOn (dj := 57) rfl rfl ?_
            refine St.p rfl rfl ?_
            refine St.gOn (dj := 57) rfl rfl ?_
            refine St.p rfl rfl ?_
            refine St.gOn (dj := 51) rfl rfl ?_
            refine St.p rfl rfl ?_
            refine St.gOn (dj := 51) rfl rfl ?_
            iterate 3 refine St.p rfl rfl ?_
            refine St.gSplit (dj := 63) _ rfl (fun hb5 => ?_) (fun hb5 => ?_)
            · replace hj1 := bif_t hb5 hj1
              refine St.gOff (dj := 63) rfl rfl rfl rfl ?_
              refine St.gOff (dj := 63) rfl rfl rfl rfl ?_
              refine St.gOff (dj := 63) rfl rfl rfl rfl ?_
              refine St.gOff (dj := 63) rfl rfl rfl rfl ?_
              refine St.gOff (dj := 63) rfl rfl rfl rfl ?_
              refine St.gOff (dj := 68) rfl rfl rfl rfl ?_
              refine St.gOff (dj := 68) rfl rfl rfl rfl ?_
              refine St.gOff (dj := 63) rfl rfl rfl rfl ?_
              refine St.gOff (dj := 63) rfl rfl rfl rfl ?_
              refine St.p rfl rfl ?_
              refine St.done ?_
              injection hj1 with hj1
              subst hj1
              refine St.thenN ?_
              exact St.hereE () ⟨rfl, rfl, rfl, rfl, rfl, rfl, rfl, rfl, trivial⟩ (fun _ w => ((.k (.k (.k .z))) : Keep _ _).sat w)
            · replace hj1 := bif_f hb5 hj1
              refine St.gOn (dj := 63) rfl rfl ?_
              refine St.p rfl rfl ?_
              refine St.gOn (dj := 63) rfl rfl ?_
              refine St.p rfl rfl ?_
              refine St.gOn (dj := 63) rfl rfl ?_
              refine St.p rfl rfl ?_
              refine St.gOn (dj := 63) rfl rfl ?_
              refine St.p rfl rfl ?_
              refine St.gOn (dj := 63) rfl rfl ?_
              refine St.p rfl rfl ?_
              refine St.gSplit (dj := 68) _ rfl (fun hb6 => ?_) (fun hb6 => ?_)
              · replace hj1 := bif_t hb6 hj1
                refine St.gOn (dj := 68) rfl rfl ?_
                refine St.p rfl rfl ?_
                refine St.gOn (dj := 68) rfl rfl ?_
                refine St.p rfl rfl ?_
                refine St.gOn (dj := 63) rfl rfl ?_
                refine St.p rfl rfl ?_
                refine St.gOn (dj := 63) rfl rfl ?_
                refine St.p rfl rfl ?_
                refine St.p rfl rfl ?_
                refine St.done ?_
                injection hj1 with hj1
                subst hj1
                refine St.thenN ?_
                exact St.hereE () ⟨rfl, rfl, rfl, rfl, rfl, rfl, rfl, rfl, trivial⟩ (fun _ w => ((.k (.k (.k .z))) : Keep _ _).sat w)
              · replace hj1 := bif_f hb6 hj1
                refine St.gOff (dj := 68) rfl rfl rfl rfl ?_
                refine St.gOff (dj := 68) rfl rfl rfl rfl ?_
                refine St.gOn (dj := 63) rfl rfl ?_
                refine St.p rfl rfl ?_
                refine St.gOn (dj := 63) rfl rfl ?_
                refine St.p rfl rfl ?_
                refine St.p rfl rfl ?_
                refine St.done ?_
                injection hj1 with hj1
                subst hj1
                refine St.thenN ?_
                exact St.hereE () ⟨rfl, rfl, rfl, rfl, rfl, rfl, rfl, rfl, trivial⟩ (fun _ w => ((.k (.k (.k .z))) : Keep _ _).sat w)
          · replace hj1 := bif_f hb4 hj1
            refine St.gOff (dj := 57) rfl rfl rfl rfl ?_
            refine St.gOff (dj := 57) rfl rfl rfl rfl ?_
            refine St.gOn (dj := 51) rfl rfl ?_
            refine St.p rfl rfl ?_
            refine St.gOn (dj := 51) rfl rfl ?_
            iterate 3 refine St.p rfl rfl ?_
            refine St.gSplit (dj := 63) _ rfl (fun hb7 => ?_) (fun hb7 => ?_)
            · replace hj1 := bif_t hb7 hj1
              refine St.gOff (dj := 63) rfl rfl rfl rfl ?_
              refine St.gOff (dj := 63) rfl rfl rfl rfl ?_
              refine St.gOff (dj := 63) rfl rfl rfl rfl ?_
              refine St.gOff (dj := 63) rfl rfl rfl rfl ?_
              refine St.gOff (dj := 63) rfl rfl rfl rfl ?_
              refine St.gOff (dj := 68) rfl rfl rfl rfl ?_
              refine St.gOff (dj := 68) rfl rfl rfl rfl ?_
              refine St.gOff (dj := 63) rfl rfl rfl rfl ?_
              refine St.gOff (dj := 63) rfl rfl rfl rfl ?_
              refine St.p rfl rfl ?_
              refine St.done ?_
              injection hj1 with hj1
              subst hj1
              refine St.thenN ?_
              exact St.hereE () ⟨rfl, rfl, rfl, rfl, rfl, rfl, rfl, rfl, trivial⟩ (fun _ w => ((.k (.k (.k .z))) : Keep _ _).sat w)
            · replace hj1 := bif_f hb7 hj1
              refine St.gOn (dj := 63) rfl rfl ?_
              refine St.p rfl rfl ?_
              refine St.gOn (dj := 63) rfl rfl ?_
              refine St.p rfl rfl ?_
              refine St.gOn (dj := 63) rfl rfl ?_
              refine St.p rfl rfl ?_
              refine St.gOn (dj := 63) rfl rfl ?_
              refine St.p rfl rfl ?_
              refine St.gOn (dj := 63) rfl rfl ?_
              refine St.p rfl rfl ?_
              refine St.gSplit (dj := 68) _ rfl (fun hb8 => ?_) (fun hb8 => ?_)
              · replace hj1 := bif_t hb8 hj1
                refine St.gOn (dj := 68) rfl rfl ?_
                refine St.p rfl rfl ?_
                refine St.gOn (dj := 68) rfl rfl ?_
                refine St.p rfl rfl ?_
                refine St.gOn (dj := 63) rfl rfl ?_
                refine St.p rfl rfl ?_
                refine St.gOn (dj := 63) rfl rfl ?_
                refine St.p rfl rfl ?_
                refine St.p rfl rfl ?_
                refine St.done ?_
                injection hj1 with hj1
                subst hj1
                refine St.thenN ?_
                exact St.hereE () ⟨rfl, rfl, rfl, rfl, rfl, rfl, rfl, rfl, trivial⟩ (fun _ w => ((.k (.k (.k .z))) : Keep _ _).sat w)
              · replace hj1 := bif_f hb8 hj1
                refine St.gOff (dj := 68) rfl rfl rfl rfl ?_
                refine St.gOff (dj := 68) rfl rfl rfl rfl ?_
                refine St.gOn (dj := 63) rfl rfl ?_
                refine St.p rfl rfl ?_
                refine St.gOn (dj := 63) rfl rfl ?_
                refine St.p rfl rfl ?_
                refine St.p rfl rfl ?_
                refine St.done ?_
                injection hj1 with hj1
                subst hj1
                refine St.thenN ?_
                exact St.hereE () ⟨rfl, rfl, rfl, rfl, rfl, rfl, rfl, rfl, trivial⟩ (fun _ w => ((.k (.k (.k .z))) : Keep _ _).sat w)
      · replace hj1 := bif_f hb2 hj1
        refine St.gOff (dj := 46) rfl rfl rfl rfl ?_
        refine St.gOff (dj := 46) rfl rfl rfl rfl ?_
        iterate 3 refine St.p rfl rfl ?_
        refine St.gSplit (dj := 51) _ rfl (fun hb9 => ?_) (fun hb9 => ?_)
        · replace hj1 := bif_t hb9 hj1
          refine St.gOff (dj := 51) rfl rfl rfl rfl ?_
          refine St.gOff (dj := 51) rfl rfl rfl rfl ?_
          refine St.gOff (dj := 51) rfl rfl rfl rfl ?_
          refine St.gOff (dj := 51) rfl rfl rfl rfl ?_
          refine St.gOff (dj := 51) rfl rfl rfl rfl ?_
          refine St.gOff (dj := 51) rfl rfl rfl rfl ?_
          refine St.gOff (dj := 57) rfl rfl rfl rfl ?_
          refine St.gOff (dj := 57) rfl rfl rfl rfl ?_
          refine St.gOff (dj := 51) rfl rfl rfl rfl ?_
          refine St.gOff (dj := 51) rfl rfl rfl rfl ?_
          refine St.p rfl rfl ?_
          refine St.p rfl rfl ?_
          refine St.gOff (dj := 63) rfl rfl rfl rfl ?_
          refine St.gOff (dj := 63) rfl rfl rfl rfl ?_
          refine St.gOff (dj := 63) rfl rfl rfl rfl ?_
          refine St.gOff (dj := 63) rfl rfl rfl rfl ?_
          refine St.gOff (dj := 63) rfl rfl rfl rfl ?_
          refine St.gOff (dj := 68) rfl rfl rfl rfl ?_
          refine St.gOff (dj := 68) rfl rfl rfl rfl ?_
          refine St.gOff (dj := 63) rfl rfl rfl rfl ?_
          refine St.gOff (dj := 63) rfl rfl rfl rfl ?_
          refine St.p rfl rfl ?_
          refine St.done ?_
          injection hj1 with hj1
          subst hj1
          refine St.thenN ?_
          exact St.hereE () ⟨rfl, rfl, rfl, rfl, rfl, rfl, rfl, rfl, trivial⟩ (fun _ w => ((.k (.k (.k .z))) : Keep _ _).sat w)
        · replace hj1 := bif_f hb9 hj1
          refine St.gOn (dj := 51) rfl rfl ?_
          refine St.p rfl rfl ?_
          refine St.gOn (dj := 51) rfl rfl ?_
          refine St.p rfl rfl ?_
          refine St.gOn (dj := 51) rfl rfl ?_
          refine St.p rfl rfl ?_
          refine St.gOn (dj := 51) rfl rfl ?_
          refine St.p rfl rfl ?_
          refine St.gOn (dj := 51) rfl rfl ?_
          refine St.p rfl rfl ?_
          refine St.gOn (dj := 51) rfl rfl ?_
          refine St.p rfl rfl ?_
          refine St.gSplit (dj := 57) _ rfl (fun hb10 => ?_) (fun hb10 => ?_)
          · replace hj1 := bif_t hb10 hj1
            refine St.gOn (dj := 57) rfl rfl ?_
            refine St.p rfl rfl ?_
            refine St.gOn (dj := 57) rfl rfl ?_
            refine St.p rfl rfl ?_
            refine St.gOn (dj := 51) rfl rfl ?_
            refine St.p rfl rfl ?_
            refine St.gOn (dj := 51) rfl rfl ?_
            iterate 3 refine St.p rfl rfl ?_
            refine St.gSplit (dj := 63) _ rfl (fun hb11 => ?_) (fun hb11 => ?_)
            · replace hj1 := bif_t hb11 hj1
              refine St.gOff (dj := 63) rfl rfl rfl rfl ?_
              refine St.gOff (dj := 63) rfl rfl rfl rfl ?_
              refine St.gOff (dj := 63) rfl rfl rfl rfl ?_
              refine St.gOff (dj := 63) rfl rfl rfl rfl ?_
              refine St.gOff (dj := 63) rfl rfl rfl rfl ?_
              refine St.gOff (dj := 68) rfl rfl rfl rfl ?_
              refine St.gOff (dj := 68) rfl rfl rfl rfl ?_
              refine St.gOff (dj := 63) rfl rfl rfl rfl ?_
              refine St.gOff (dj := 63) rfl rfl rfl rfl ?_
              refine St.p rfl rfl ?_
              refine St.done ?_
              injection hj1 with hj1
              subst hj1
              refine St.thenN ?_
              exact St.hereE () ⟨rfl, rfl, rfl, rfl, rfl, rfl, rfl, rfl, trivial⟩ (fun _ w => ((.k (.k (.k .z))) : Keep _ _).sat w)
            · replace hj1 := bif_f hb11 hj1
              refine St.gOn (dj := 63) rfl rfl ?_
              refine St.p rfl rfl ?_
              refine St.gOn (dj := 63) rfl rfl ?_
              refine St.p rfl rfl ?_
              refine St.gOn (dj := 63) rfl rfl ?_
              refine St.p rfl rfl ?_
              refine St.gOn (dj := 63) rfl rfl ?_
              refine St.p rfl rfl ?_
              refine St.gOn (dj := 63) rfl rfl ?_
              refine St.p rfl rfl ?_
              refine St.gSplit (dj := 68) _ rfl (fun hb12 => ?_) (fun hb12 => ?_)
              · replace hj1 := bif_t hb12 hj1
                refine St.gOn (dj := 68) rfl rfl ?_
                refine St.p rfl rfl ?_
                refine St.gOn (dj := 68) rfl rfl ?_
                refine St.p rfl rfl ?_
                refine St.gOn (dj := 63) rfl rfl ?_
                refine St.p rfl rfl ?_
                refine St.gOn (dj := 63) rfl rfl ?_
                refine St.p rfl rfl ?_
                refine St.p rfl rfl ?_
                refine St.done ?_
                injection hj1 with hj1
                subst hj1
                refine St.thenN ?_
                exact St.hereE () ⟨rfl, rfl, rfl, rfl, rfl, rfl, rfl, rfl, trivial⟩ (fun _ w => ((.k (.k (.k .z))) : Keep _ _).sat w)
              · replace hj1 := bif_f hb12 hj1
                refine St.gOff (dj := 68) rfl rfl rfl rfl ?_
                refine St.gOff (dj := 68) rfl rfl rfl rfl ?_
                refine St.gOn (dj := 63) rfl rfl ?_
                refine St.p rfl rfl ?_
                refine St.gOn (dj := 63) rfl rfl ?_
                refine St.p rfl rfl ?_
                refine St.p rfl rfl ?_
                refine St.done ?_
                injection hj1 with hj1
                subst hj1
                refine St.thenN ?_
                exact St.hereE () ⟨rfl, rfl, rfl, rfl, rfl, rfl, rfl, rfl, trivial⟩ (fun _ w => ((.k (.k (.k .z))) : Keep _ _).sat w)
          · replace hj1 := bif_f hb10 hj1
            refine St.gOff (dj := 57) rfl rfl rfl rfl ?_
            refine St.gOff (dj := 57) rfl rfl rfl rfl ?_
            refine St.gOn (dj := 51) rfl rfl ?_
            refine St.p rfl rfl ?_
            refine St.gOn (dj := 51) rfl rfl ?_
            iterate 3 refine St.p rfl rfl ?_
            refine St.gSplit (dj := 63) _ rfl (fun hb13 => ?_) (fun hb13 => ?_)
            · replace hj1 := bif_t hb13 hj1
              refine St.gOff (dj := 63) rfl rfl rfl rfl ?_
              refine St.gOff (dj := 63) rfl rfl rfl rfl ?_
              refine St.gOff (dj := 63) rfl rfl rfl rfl ?_
              refine St.gOff (dj := 63) rfl rfl rfl rfl ?_
              refine St.gOff (dj := 63) rfl rfl rfl rfl ?_
              refine St.gOff (dj := 68) rfl rfl rfl rfl ?_
              refine St.gOff (dj := 68) rfl rfl rfl rfl ?_
              refine St.gOff (dj := 63) rfl rfl rfl rfl ?_
              refine St.gOff (dj := 63) rfl rfl rfl rfl ?_
              refine St.p rfl rfl ?_
              refine St.done ?_
              injection hj1 with hj1
              subst hj1
              refine St.thenN ?_
              exact St.hereE () ⟨rfl, rfl, rfl, rfl, rfl, rfl, rfl, rfl, trivial⟩ (fun _ w => ((.k (.k (.k .z))) : Keep _ _).sat w)
            · replace hj1 := bif_f hb13 hj1
              refine St.gOn (dj := 63) rfl rfl ?_
              refine St.p rfl rfl ?_
              refine St.gOn (dj := 63) rfl rfl ?_
              refine St.p rfl rfl ?_
              refine St.gOn (dj := 63) rfl rfl ?_
              refine St.p rfl rfl ?_
              refine St.gOn (dj := 63) rfl rfl ?_
              refine St.p rfl rfl ?_
              refine St.gOn (dj := 63) rfl rfl ?_
              refine St.p rfl rfl ?_
              refine St.gSplit (dj := 68) _ rfl (fun hb14 => ?_) (fun hb14 => ?_)
              · replace hj1 := bif_t hb14 hj1
                refine St.gOn (dj := 68) rfl rfl ?_
                refine St.p rfl rfl ?_
                refine St.gOn (dj := 68) rfl rfl ?_
                refine St.p rfl rfl ?_
                refine St.gOn (dj := 63) rfl rfl ?_
                refine St.p rfl rfl ?_
                refine St.gOn (dj := 63) rfl rfl ?_
                refine St.p rfl rfl ?_
                refine St.p rfl rfl ?_
                refine St.done ?_
                injection hj1 with hj1
                subst hj1
                refine St.thenN ?_
                exact St.hereE () ⟨rfl, rfl, rfl, rfl, rfl, rfl, rfl, rfl, trivial⟩ (fun _ w => ((.k (.k (.k .z))) : Keep _ _).sat w)
              · replace hj1 := bif_f hb14 hj1
                refine St.gOff (dj := 68) rfl rfl rfl rfl ?_
                refine St.gOff (dj := 68) rfl rfl rfl rfl ?_
                refine St.gOn (dj := 63) rfl rfl ?_
                refine St.p rfl rfl ?_
                refine St.gOn (dj := 63) rfl rfl ?_
                refine St.p rfl rfl ?_
                refine St.p rfl rfl ?_
                refine St.done ?_
                injection hj1 with hj1
                subst hj1
                refine St.thenN ?_
                exact St.hereE () ⟨rfl, rfl, rfl, rfl, rfl, rfl, rfl, rfl, trivial⟩ (fun _ w => ((.k (.k (.k .z))) : Keep _ _).sat w)
    · rintro e1
      refine St.cond _ rfl (fun hb15 => ?_) (fun hb15 => ?_)
      · replace h := bif_t hb15 h
        refine St.seq ?_
        refine St.region ?_
        refine St.p rfl rfl ?_
        refine St.done ?_
        refine St.thenN ?_
        refine St.prune (Γ' := [(4, _)]) ⟨rfl, trivial⟩ (.d (.d (.d .z))) ?_
        refine St.ret ?_
        repeat (first | refine St.thenR ?_ | refine St.blkR ?_)
        injection h with h
        subst h
        exact St.finR Tryd.results6 (.tmp rfl .nil) rfl [] ⟨rfl, rfl⟩ (fun _ w => (.z : Keep _ _).sat w)
      · replace h := bif_f hb15 h
        refine St.skip ?_
        refine St.thenN ?_
        refine St.prune (Γ' := [(5, _), (7, _), (8, _), (9, _), (10, _), (11, _), (12, _)]) ⟨rfl, rfl, rfl, rfl, rfl, rfl, rfl, trivial⟩ (.k (.k (.k .z))) ?_
        refine St.seq ?_
        obtain ⟨o2, hj2, h⟩ := bnd_e h
        refine St.cutE (fun (e2 : Unit) => [(4, .bool o2)]) (fun e2 => R) ?_ ?_
        · refine St.region ?_
          iterate 3 refine St.p rfl rfl ?_
          refine St.gSplit (dj := 76) _ rfl (fun hb16 => ?_) (fun hb16 => ?_)
          · replace hj2 := bif_t hb16 hj2
            refine St.gOff (dj := 76) rfl rfl rfl rfl ?_
            refine St.gOff (dj := 76) rfl rfl rfl rfl ?_
            refine St.gOff (dj := 76) rfl rfl rfl rfl ?_
            refine St.gOff (dj := 76) rfl rfl rfl rfl ?_
            refine St.gOff (dj := 76) rfl rfl rfl rfl ?_
            refine St.gOff (dj := 76) rfl rfl rfl rfl ?_
            refine St.p rfl rfl ?_
            refine St.p rfl rfl ?_
            refine St.gOn (dj := 84) rfl rfl ?_
            refine St.p rfl rfl ?_
            refine St.gOn (dj := 84) rfl rfl ?_
            refine St.p rfl rfl ?_
            refine St.gOn (dj := 84) rfl rfl ?_
            refine St.p rfl rfl ?_
            refine St.gSplit (dj := 87) _ rfl (fun hb17 => ?_) (fun hb17 => ?_)
            · replace hj2 := bif_t hb17 hj2
              refine St.gOff (dj := 87) rfl rfl rfl rfl ?_
              refine St.gOff (dj := 87) rfl rfl rfl rfl ?_
              refine St.gOff (dj := 87) rfl rfl rfl rfl ?_
              refine St.gOff (dj := 87) rfl rfl rfl rfl ?_
              refine St.gOff (dj := 87) rfl rfl rfl rfl ?_
              refine St.gOff (dj := 87) rfl rfl rfl rfl ?_
              refine St.gOff (dj := 87) rfl rfl rfl rfl ?_
              refine St.gOff (dj := 87) rfl rfl rfl rfl ?_
              refine St.gOn (dj := 84) rfl rfl ?_
              iterate 3 refine St.p rfl rfl ?_
              refine St.gOn (dj := 98) rfl rfl ?_
              refine St.p rfl rfl ?_
              refine St.gOn (dj := 98) rfl rfl ?_
              refine St.p rfl rfl ?_
              refine St.gOn (dj := 98) rfl rfl ?_
              refine St.p rfl rfl ?_
              refine St.gSplit (dj := 101) _ rfl (fun hb18 => ?_) (fun hb18 => ?_)
              · replace hj2 := bif_t hb18 hj2
                refine St.gOff (dj := 101) rfl rfl rfl rfl ?_
                refine St.gOff (dj := 101) rfl rfl rfl rfl ?_
                refine St.gOff (dj := 101) rfl rfl rfl rfl ?_
                refine St.gOff (dj := 101) rfl rfl rfl rfl ?_
                refine St.gOff (dj := 101) rfl rfl rfl rfl ?_
                refine St.gOn (dj := 98) rfl rfl ?_
                iterate 3 refine St.p rfl rfl ?_
                refine St.gOn (dj := 109) rfl rfl ?_
                obtain ⟨r9, hr9, hj2⟩ := bnd_e hj2
                refine St.callV (c_law02_awake hr9) ent14 rfl rfl rfl rfl trivial ?_
                refine St.p rfl rfl ?_
                refine St.p rfl rfl ?_
                refine St.done ?_
                injection hj2 with hj2
                subst hj2
                refine St.thenN ?_
                exact St.hereE () ⟨rfl, trivial⟩ (fun _ w => ((.d (.d (.d .z))) : Keep _ _).sat w)
              · replace hj2 := bif_f hb18 hj2
                refine St.gOn (dj := 101) rfl rfl ?_
                refine St.p rfl rfl ?_
                refine St.gOn (dj := 101) rfl rfl ?_
                refine St.p rfl rfl ?_
                refine St.gOn (dj := 101) rfl rfl ?_
                refine St.p rfl rfl ?_
                refine St.gOn (dj := 101) rfl rfl ?_
                refine St.p rfl rfl ?_
                refine St.gOn (dj := 101) rfl rfl ?_
                refine St.p rfl rfl ?_
                refine St.gOn (dj := 98) rfl rfl ?_
                iterate 3 refine St.p rfl rfl ?_
                refine St.gSplit (dj := 109) _ rfl (fun hb19 => ?_) (fun hb19 => ?_)
                · replace hj2 := bif_t hb19 hj2
                  refine St.gOn (dj := 109) rfl rfl ?_
                  obtain ⟨r10, hr10, hj2⟩ := bnd_e hj2
                  refine St.callV (c_law02_awake hr10) ent14 rfl rfl rfl rfl trivial ?_
                  refine St.p rfl rfl ?_
                  refine St.p rfl rfl ?_
                  refine St.done ?_
                  injection hj2 with hj2
                  subst hj2
                  refine St.thenN ?_
                  exact St.hereE () ⟨rfl, trivial⟩ (fun _ w => ((.d (.d (.d .z))) : Keep _ _).sat w)
                · replace hj2 := bif_f hb19 hj2
                  refine St.gOff (dj := 109) rfl rfl rfl rfl ?_
                  refine St.p rfl rfl ?_
                  refine St.p rfl rfl ?_
                  refine St.done ?_
                  injection hj2 with hj2
                  subst hj2
                  refine St.thenN ?_
                  exact St.hereE () ⟨rfl, trivial⟩ (fun _ w => ((.d (.d (.d .z))) : Keep _ _).sat w)
            · replace hj2 := bif_f hb17 hj2
              refine St.gOn (dj := 87) rfl rfl ?_
              refine St.p rfl rfl ?_
              refine St.gOn (dj := 87) rfl rfl ?_
              refine St.p rfl rfl ?_
              refine St.gOn (dj := 87) rfl rfl ?_
              refine St.p rfl rfl ?_
              refine St.gOn (dj := 87) rfl rfl ?_
              refine St.p rfl rfl ?_
              refine St.gOn (dj := 87) rfl rfl ?_
              refine St.p rfl rfl ?_
              refine St.gOn (dj := 87) rfl rfl ?_
              refine St.p rfl rfl ?_
              refine St.gOn (dj := 87) rfl rfl ?_
              refine St.p rfl rfl ?_
              refine St.gOn (dj := 87) rfl rfl ?_
              refine St.p rfl rfl ?_
              refine St.gOn (dj := 84) rfl rfl ?_
              iterate 3 refine St.p rfl rfl ?_
              refine St.gSplit (dj := 98) _ rfl (fun hb20 => ?_) (fun hb20 => ?_)
              · replace hj2 := bif_t hb20 hj2
                refine St.gOn (dj := 98) rfl rfl ?_
                refine St.p rfl rfl ?_
                refine St.gOn (dj := 98) rfl rfl ?_
                refine St.p rfl rfl ?_
                refine St.gOn (dj := 98) rfl rfl ?_
                refine St.p rfl rfl ?_
                refine St.gSplit (dj := 101) _ rfl (fun hb21 => ?_) (fun hb21 => ?_)
                · replace hj2 := bif_t hb21 hj2
                  refine St.gOff (dj := 101) rfl rfl rfl rfl ?_
                  refine St.gOff (dj := 101) rfl rfl rfl rfl ?_
                  refine St.gOff (dj := 101) rfl rfl rfl rfl ?_
                  refine St.gOff (dj := 101) rfl rfl rfl rfl ?_
                  refine St.gOff (dj := 101) rfl rfl rfl rfl ?_
                  refine St.gOn (dj := 98) rfl rfl ?_
                  iterate 3 refine St.p rfl rfl ?_
                  refine St.gOn (dj := 109) rfl rfl ?_
                  obtain ⟨r11, hr11, hj2⟩ := bnd_e hj2
                  refine St.callV (c_law02_awake hr11) ent14 rfl rfl rfl rfl trivial ?_
                  refine St.p rfl rfl ?_
                  refine St.p rfl rfl ?_
                  refine St.done ?_
                  injection hj2 with hj2
                  subst hj2
                  refine St.thenN ?_
                  exact St.hereE () ⟨rfl, trivial⟩ (fun _ w => ((.d (.d (.d .z))) : Keep _ _).sat w)
                · replace hj2 := bif_f hb21 hj2
                  refine St.gOn (dj := 101) rfl rfl ?_
                  refine St.p rfl rfl ?_
                  refine St.gOn (dj := 101) rfl rfl ?_
                  refine St.p rfl rfl ?_
                  refine St.gOn (dj := 101) rfl rfl ?_
                  refine St.p rfl rfl ?_
                  refine St.gOn (dj := 101) rfl rfl ?_
                  refine St.p rfl rfl ?_
                  refine St.gOn (dj := 101) rfl rfl ?_
                  refine St.p rfl rfl ?_
                  refine St.gOn (dj := 98) rfl rfl ?_
                  iterate 3 refine St.p rfl rfl ?_
                  refine St.gSplit (dj := 109) _ rfl (fun hb22 => ?_) (fun hb22 => ?_)
                  · replace hj2 := bif_t hb22 hj2
                    refine St.gOn (dj := 109) rfl rfl ?_
                    obtain ⟨r12, hr12, hj2⟩ := bnd_e hj2
                    refine St.callV (c_law02_awake hr12) ent14 rfl rfl rfl rfl trivial ?_
                    refine St.p rfl rfl ?_
                    refine St.p rfl rfl ?_
                    refine St.done ?_
                    injection hj2 with hj2
                    subst hj2
                    refine St.thenN ?_
                    exact St.hereE () ⟨rfl, trivial⟩ (fun _ w => ((.d (.d (.d .z))) : Keep _ _).sat w)
                  · replace hj2 := bif_f hb22 hj2
                    refine St.gOff (dj := 109) rfl rfl rfl rfl ?_
                    refine St.p rfl rfl ?_
                    refine St.p rfl rfl ?_
                    refine St.done ?_
                    injection hj2 with hj2
                    subst hj2
                    refine St.thenN ?_
                    exact St.hereE () ⟨rfl, trivial⟩ (fun _ w => ((.d (.d (.d .z))) : Keep _ _).sat w)
              · replace hj2 := bif_f hb20 hj2
                refine St.gOff (dj := 98) rfl rfl rfl rfl ?_
                refine St.gOff (dj := 98) rfl rfl rfl rfl ?_
                refine St.gOff (dj := 98) rfl rfl rfl rfl ?_
                refine St.gOff (dj := 101) rfl rfl rfl rfl ?_
                refine St.gOff (dj := 101) rfl rfl rfl rfl ?_
                refine St.gOff (dj := 101) rfl rfl rfl rfl ?_
                refine St.gOff (dj := 101) rfl rfl rfl rfl ?_
                refine St.gOff (dj := 101) rfl rfl rfl rfl ?_
                refine St.gOff (dj := 98) rfl rfl rfl rfl ?_
                refine St.p rfl rfl ?_
                refine St.p rfl rfl ?_
                refine St.gOff (dj := 109) rfl rfl rfl rfl ?_
                refine St.p rfl rfl ?_
                refine St.p rfl rfl ?_
                refine St.done ?_
                injection hj2 with hj2
                subst hj2
                refine St.thenN ?_
                exact St.hereE () ⟨rfl, trivial⟩ (fun _ w => ((.d (.d (.d .z))) : Keep _ _).sat w)
          · replace hj2 := bif_f hb16 hj2
            refine St.gOn (dj := 76) rfl rfl ?_
            refine St.p rfl rfl ?_
            refine St.gOn (dj := 76) rfl rfl ?_
            refine St.p rfl rfl ?_
            refine St.gOn (dj := 76) rfl rfl ?_
            refine St.p rfl rfl ?_
            refine St.gOn (dj := 76) rfl rfl ?_
            refine St.p rfl rfl ?_
            refine St.gOn (dj := 76) rfl rfl ?_
            refine St.p rfl rfl ?_
            refine St.gOn (dj := 76) rfl rfl ?_
            iterate 3 refine St.p rfl rfl ?_
            refine St.gSplit (dj := 84) _ rfl (fun hb23 => ?_) (fun hb23 => ?_)
            · replace hj2 := bif_t hb23 hj2
              refine St.gOn (dj := 84) rfl rfl ?_
              refine St.p rfl rfl ?_
              refine St.gOn (dj := 84) rfl rfl ?_
              refine St.p rfl rfl ?_
              refine St.gOn (dj := 84) rfl rfl ?_
              refine St.p rfl rfl ?_
              refine St.gSplit (dj := 87) _ rfl (fun hb24 => ?_) (fun hb24 => ?_)
              · replace hj2 := bif_t hb24 hj2
                refine St.gOff (dj := 87) rfl rfl rfl rfl ?_
                refine St.gOff (dj := 87) rfl rfl rfl rfl ?_
                refine St.gOff (dj := 87) rfl rfl rfl rfl ?_
                refine St.gOff (dj := 87) rfl rfl rfl rfl ?_
                refine St.gOff (dj := 87) rfl rfl rfl rfl ?_
                refine St.gOff (dj := 87) rfl rfl rfl rfl ?_
                refine St.gOff (dj := 87) rfl rfl rfl rfl ?_
                refine St.gOff (dj := 87) rfl rfl rfl rfl ?_
                refine St.gOn (dj := 84) rfl rfl ?_
                iterate 3 refine St.p rfl rfl ?_
                refine St.gOn (dj := 98) rfl rfl ?_
                refine St.p rfl rfl ?_
                refine St.gOn (dj := 98) rfl rfl ?_
                refine St.p rfl rfl ?_
                refine St.gOn (dj := 98) rfl rfl ?_
                refine St.p rfl rfl ?_
                refine St.gSplit (dj := 101) _ rfl (fun hb25 => ?_) (fun hb25 => ?_)
                · replace hj2 := bif_t hb25 hj2
                  refine St.gOff (dj := 101) rfl rfl rfl rfl ?_
                  refine St.gOff (dj := 101) rfl rfl rfl rfl ?_
                  refine St.gOff (dj := 101) rfl rfl rfl rfl ?_
                  refine St.gOff (dj := 101) rfl rfl rfl rfl ?_
                  refine St.gOff (dj := 101) rfl rfl rfl rfl ?_
                  refine St.gOn (dj := 98) rfl rfl ?_
                  iterate 3 refine St.p rfl rfl ?_
                  refine St.gOn (dj := 109) rfl rfl ?_
                  obtain ⟨r13, hr13, hj2⟩ := bnd_e hj2
                  refine St.callV (c_law02_awake hr13) ent14 rfl rfl rfl rfl trivial ?_
                  refine St.p rfl rfl ?_
                  refine St.p rfl rfl ?_
                  refine St.done ?_
                  injection hj2 with hj2
                  subst hj2
                  refine St.thenN ?_
                  exact St.hereE () ⟨rfl, trivial⟩ (fun _ w => ((.d (.d (.d .z))) : Keep _ _).sat w)
                · replace hj2 := bif_f hb25 hj2
                  refine St.gOn (dj := 101) rfl rfl ?_
                  refine St.p rfl rfl ?_
                  refine St.gOn (dj := 101) rfl rfl ?_
                  refine St.p rfl rfl ?_
                  refine St.gOn (dj := 101) rfl rfl ?_
                  refine St.p rfl rfl ?_
                  refine St.gOn (dj := 101) rfl rfl ?_
                  refine St.p rfl rfl ?_
                  refine St.gOn (dj := 101) rfl rfl ?_
                  refine St.p rfl rfl ?_
                  refine St.gOn (dj := 98) rfl rfl ?_
                  iterate 3 refine St.p rfl rfl ?_
                  refine St.gSplit (dj := 109) _ rfl (fun hb26 => ?_) (fun hb26 => ?_)
                  · replace hj2 := bif_t hb26 hj2
                    refine St.gOn (dj := 109) rfl rfl ?_
                    obtain ⟨r14, hr14, hj2⟩ := bnd_e hj2
                    refine St.callV (c_law02_awake hr14) ent14 rfl rfl rfl rfl trivial ?_
                    refine St.p rfl rfl ?_
                    refine St.p rfl rfl ?_
                    refine St.done ?_
                    injection hj2 with hj2
                    subst hj2
                    refine St.thenN ?_
                    exact St.hereE () ⟨rfl, trivial⟩ (fun _ w => ((.d (.d (.d .z))) : Keep _ _).sat w)
                  · replace hj2 := bif_f hb26 hj2
                    refine St.gOff (dj := 109) rfl rfl rfl rfl ?_
                    refine St.p rfl rfl ?_
                    refine St.p rfl rfl ?_
                    refine St.done ?_
                    injection hj2 with hj2
                    subst hj2
                    refine St.thenN ?_
                    exact St.hereE () ⟨rfl, trivial⟩ (fun _ w => ((.d (.d (.d .z))) : Keep _ _).sat w)
              · replace hj2 := bif_f hb24 hj2
                refine St.gOn (dj := 87) rfl rfl ?_
                refine St.p rfl rfl ?_
                refine St.gOn (dj := 87) rfl rfl ?_
                refine St.p rfl rfl ?_
                refine St.gOn (dj := 87) rfl rfl ?_
                refine St.p rfl rfl ?_
                refine St.gOn (dj := 87) rfl rfl ?_
                refine St.p rfl rfl ?_
                refine St.gOn (dj := 87) rfl rfl ?_
                refine St.p rfl rfl ?_
                refine St.gOn (dj := 87) rfl rfl ?_
                refine St.p rfl rfl ?_
                refine St.gOn (dj := 87) rfl rfl ?_
                refine St.p rfl rfl ?_
                refine St.gOn (dj := 87) rfl rfl ?_
                refine St.p rfl rfl ?_
                refine St.gOn (dj := 84) rfl rfl ?_
                iterate 3 refine St.p rfl rfl ?_
                refine St.gSplit (dj := 98) _ rfl (fun hb27 => ?_) (fun hb27 => ?_)
                · replace hj2 := bif_t hb27 hj2
                  refine St.gOn (dj := 98) rfl rfl ?_
                  refine St.p rfl rfl ?_
                  refine St.gOn (dj := 98) rfl rfl ?_
                  refine St.p rfl rfl ?_
                  refine St.gOn (dj := 98) rfl rfl ?_
                  refine St.p rfl rfl ?_
                  refine St.gSplit (dj := 101) _ rfl (fun hb28 => ?_) (fun hb28 => ?_)
                  · replace hj2 := bif_t hb28 hj2
                    refine St.gOff (dj := 101) rfl rfl rfl rfl ?_
                    refine St.gOff (dj := 101) rfl rfl rfl rfl ?_
                    refine St.gOff (dj := 101) rfl rfl rfl rfl ?_
                    refine St.gOff (dj := 101) rfl rfl rfl rfl ?_
                    refine St.gOff (dj := 101) rfl rfl rfl rfl ?_
                    refine St.gOn (dj := 98) rfl rfl ?_
                    iterate 3 refine St.p rfl rfl ?_
                    refine St.gOn (dj := 109) rfl rfl ?_
                    obtain ⟨r15, hr15, hj2⟩ := bnd_e hj2
                    refine St.callV (c_law02_awake hr15) ent14 rfl rfl rfl rfl trivial ?_
                    refine St.p rfl rfl ?_
                    refine St.p rfl rfl ?_
                    refine St.done ?_
                    injection hj2 with hj2
                    subst hj2
                    refine St.thenN ?_
                    exact St.hereE () ⟨rfl, trivial⟩ (fun _ w => ((.d (.d (.d .z))) : Keep _ _).sat w)
                  · replace hj2 := bif_f hb28 hj2
                    refine St.gOn (dj := 101) rfl rfl ?_
                    refine St.p rfl rfl ?_
                    refine St.gOn (dj := 101) rfl rfl ?_
                    refine St.p rfl rfl ?_
                    refine St.gOn (dj := 101) rfl rfl ?_
                    refine St.p rfl rfl ?_
                    refine St.gOn (dj := 101) rfl rfl ?_
                    refine St.p rfl rfl ?_
                    refine St.gOn (dj := 101) rfl rfl ?_
                    refine St.p rfl rfl ?_
                    refine St.gOn (dj := 98) rfl rfl ?_
                    iterate 3 refine St.p rfl rfl ?_
                    refine St.gSplit (dj := 109) _ rfl (fun hb29 => ?_) (fun hb29 => ?_)
                    · replace hj2 := bif_t hb29 hj2
                      refine St.gOn (dj := 109) rfl rfl ?_
                      obtain ⟨r16, hr16, hj2⟩ := bnd_e hj2
                      refine St.callV (c_law02_awake hr16) ent14 rfl rfl rfl rfl trivial ?_
                      refine St.p rfl rfl ?_
                      refine St.p rfl rfl ?_
                      refine St.done ?_
                      injection hj2 with hj2
                      subst hj2
                      refine St.thenN ?_
                      exact St.hereE () ⟨rfl, trivial⟩ (fun _ w => ((.d (.d (.d .z))) : Keep _ _).sat w)
                    · replace hj2 := bif_f hb29 hj2
                      refine St.gOff (dj := 109) rfl rfl rfl rfl ?_
                      refine St.p rfl rfl ?_
                      refine St.p rfl rfl ?_
                      refine St.done ?_
                      injection hj2 with hj2
                      subst hj2
                      refine St.thenN ?_
                      exact St.hereE () ⟨rfl, trivial⟩ (fun _ w => ((.d (.d (.d .z))) : Keep _ _).sat w)
                · replace hj2 := bif_f hb27 hj2
                  refine St.gOff (dj := 98) rfl rfl rfl rfl ?_
                  refine St.gOff (dj := 98) rfl rfl rfl rfl ?_
                  refine St.gOff (dj := 98) rfl rfl rfl rfl ?_
                  refine St.gOff (dj := 101) rfl rfl rfl rfl ?_
                  refine St.gOff (dj := 101) rfl rfl rfl rfl ?_
                  refine St.gOff (dj := 101) rfl rfl rfl rfl ?_
                  refine St.gOff (dj := 101) rfl rfl rfl rfl ?_
                  refine St.gOff (dj := 101) rfl rfl rfl rfl ?_
                  refine St.gOff (dj := 98) rfl rfl rfl rfl ?_
                  refine St.p rfl rfl ?_
                  refine St.p rfl rfl ?_
                  refine St.gOff (dj := 109) rfl rfl rfl rfl ?_
                  refine St.p rfl rfl ?_
                  refine St.p rfl rfl ?_
                  refine St.done ?_
                  injection hj2 with hj2
                  subst hj2
                  refine St.thenN ?_
                  exact St.hereE () ⟨rfl, trivial⟩ (fun _ w => ((.d (.d (.d .z))) : Keep _ _).sat w)
            · replace hj2 := bif_f hb23 hj2
              refine St.gOff (dj := 84) rfl rfl rfl rfl ?_
              refine St.gOff (dj := 84) rfl rfl rfl rfl ?_
              refine St.gOff (dj := 84) rfl rfl rfl rfl ?_
              refine St.gOff (dj := 87) rfl rfl rfl rfl ?_
              refine St.gOff (dj := 87) rfl rfl rfl rfl ?_
              refine St.gOff (dj := 87) rfl rfl rfl rfl ?_
              refine St.gOff (dj := 87) rfl rfl rfl rfl ?_
              refine St.gOff (dj := 87) rfl rfl rfl rfl ?_
              refine St.gOff (dj := 87) rfl rfl rfl rfl ?_
              refine St.gOff (dj := 87) rfl rfl rfl rfl ?_
              refine St.gOff (dj := 87) rfl rfl rfl rfl ?_
              refine St.gOff (dj := 84) rfl rfl rfl rfl ?_
              refine St.p rfl rfl ?_
              refine St.p rfl rfl ?_
              refine St.gOff (dj := 98) rfl rfl rfl rfl ?_
              refine St.gOff (dj := 98) rfl rfl rfl rfl ?_
              refine St.gOff (dj := 98) rfl rfl rfl rfl ?_
              refine St.gOff (dj := 101) rfl rfl rfl rfl ?_
              refine St.gOff (dj := 101) rfl rfl rfl rfl ?_
              refine St.gOff (dj := 101) rfl rfl rfl rfl ?_
              refine St.gOff (dj := 101) rfl rfl rfl rfl ?_
              refine St.gOff (dj := 101) rfl rfl rfl rfl ?_
              refine St.gOff (dj := 98) rfl rfl rfl rfl ?_
              refine St.p rfl rfl ?_
              refine St.p rfl rfl ?_
              refine St.gOff (dj := 109) rfl rfl rfl rfl ?_
              refine St.p rfl rfl ?_
              refine St.p rfl rfl ?_
              refine St.done ?_
              injection hj2 with hj2
              subst hj2
              refine St.thenN ?_
              exact St.hereE () ⟨rfl, trivial⟩ (fun _ w => ((.d (.d (.d .z))) : Keep _ _).sat w)
        · rintro e2
          refine St.ret ?_
          repeat (first | refine St.thenR ?_ | refine St.blkR ?_)
          injection h with h
          subst h
          exact St.finR Tryd.results6 (.tmp rfl .nil) rfl [] ⟨rfl, rfl⟩ (fun _ w => (.z : Keep _ _).sat w)

end Go.Proofs.YtfddmgagikeieaaDoor
