/-
  Models of functions of the program, and that the functions compute them.
  Conditions: none.
-/
import Derived.Test.YtfddmgagikeieaaDoorGen
namespace Go.Proofs.YtfddmgagikeieaaDoor
open Go
set_option linter.unusedVariables false
set_option maxRecDepth 4000

theorem ent3 : Ent Tryd.prog 3 := ⟨_, Tryd.func3, by kernel_rfl, by kernel_rfl⟩

noncomputable def m_law02_FieldsEncode (f_p0 : T_Field) (l_p1 : (List Int)) : Option Bool :=
  bnd ((bif decide ((f_p0.Value.size : Int) > 400) then (some true) else (bnd (m_made_Light l_p1) fun r1 => some (!r1)) : Option Bool)) fun o1 => bif o1 then (bnd (m_law02_awake) fun r2 => some r2) else (bnd (m_made_Roll l_p1) fun r3 => bnd (m_made_Dice_OddField r3) fun r4 => bnd (m_fields_Encode f_p0) fun r5 => bnd (m_ref02_Encode f_p0) fun r6 => bnd ((bnd (m_fields_Valid f_p0) fun r7 => bnd (m_ref02_Valid f_p0) fun r8 => bif !(r7 == r8) then (some true) else (bif (r5.2 != r6.2) then (some true) else (bnd (m_ref01_Same r5.1 r6.1) fun r9 => some (!r9))) : Option Bool)) fun o2 => bif o2 then (some false) else (bnd (m_fields_Encode r4.2) fun r10 => bnd (m_ref02_Encode r4.2) fun r11 => bnd ((bnd (m_fields_Valid r4.2) fun r12 => bnd (m_ref02_Valid r4.2) fun r13 => bif !(r12 == r13) then (some true) else (bif (r10.2 != r11.2) then (some true) else (bnd (m_ref01_Same r10.1 r11.1) fun r14 => some (!r14))) : Option Bool)) fun o3 => bif o3 then (some false) else (bnd (m_law02_awake) fun r15 => some r15)))

set_option maxHeartbeats 4000000 in
theorem c_law02_FieldsEncode {f_p0 : T_Field} {l_p1 : (List Int)} {A1 : Option Addr} {c1 : Nat} {r : Bool} (h : m_law02_FieldsEncode f_p0 l_p1 = some r) :
    Fun Tryd.prog 3 [.agg #[.int .i64 f_p0.Kind, .string f_p0.Value], .slice A1 l_p1.length c1] [.ro (SlL ei64 A1 c1 l_p1)] (Val (.bool r)) := by
  unfold m_law02_FieldsEncode at h
  refine Fun.intro Tryd.func3 rfl rfl rfl fun w R => ?_
  refine St.seq ?_
  refine St.region ?_
  refine St.box rfl rfl fun g1 => ?_
  refine St.p rfl rfl ?_
  refine St.done ?_
  refine St.thenN ?_
  refine St.prune (Γ' := [(1, _), (2, _)]) ⟨rfl, rfl, trivial⟩ (.k (.k .z)) ?_
  refine St.seq ?_
  refine St.seq ?_
  obtain ⟨o1, hj1, h⟩ := bnd_e h
  refine St.cutE (fun (e1 : Unit) => [(1, .slice A1 l_p1.length c1), (2, .pointer (some ⟨g1, 0, none⟩)), (20, .bool o1)]) (fun e1 => .res (Box g1 23 [.int .i64 f_p0.Kind, .string f_p0.Value]) :: .ro (SlL ei64 A1 c1 l_p1) :: R) ?_ ?_
  · refine St.region ?_
    refine St.p rfl rfl ?_
    refine St.loadB 1 rfl rfl (.head _) rfl rfl ?_
    iterate 3 refine St.p rfl rfl ?_
    refine St.gSplit (dj := 16) _ rfl (fun hb1 => ?_) (fun hb1 => ?_)
    · replace hj1 := bif_t hb1 hj1
      refine St.gOff (dj := 16) rfl rfl rfl rfl ?_
      refine St.gOff (dj := 16) rfl rfl rfl rfl ?_
      refine St.gOff (dj := 16) rfl rfl rfl rfl ?_
      refine St.p rfl rfl ?_
      refine St.done ?_
      injection hj1 with hj1
      subst hj1
      refine St.thenN ?_
      exact St.hereE () ⟨rfl, rfl, rfl, trivial⟩ (fun _ w => ((.k (.k .z)) : Keep _ _).sat w)
    · replace hj1 := bif_f hb1 hj1
      refine St.gOn (dj := 16) rfl rfl ?_
      refine St.p rfl rfl ?_
      refine St.gOn (dj := 16) rfl rfl ?_
      obtain ⟨r1, hr1, hj1⟩ := bnd_e hj1
      refine St.callV (c_made_Light hr1) ent13 rfl rfl rfl rfl ⟨(.tail _ (.head _)), trivial⟩ ?_
      refine St.gOn (dj := 16) rfl rfl ?_
      refine St.p rfl rfl ?_
      refine St.p rfl rfl ?_
      refine St.done ?_
      injection hj1 with hj1
      subst hj1
      refine St.thenN ?_
      exact St.hereE () ⟨rfl, rfl, rfl, trivial⟩ (fun _ w => ((.k (.k .z)) : Keep _ _).sat w)
  · rintro e1
    refine St.cond _ rfl (fun hb2 => ?_) (fun hb2 => ?_)
    · replace h := bif_t hb2 h
      refine St.seq ?_
      refine St.region ?_
      obtain ⟨r2, hr2, h⟩ := bnd_e h
      refine St.callV (c_law02_awake hr2) ent14 rfl rfl rfl rfl trivial ?_
      refine St.p rfl rfl ?_
      refine St.done ?_
      refine St.thenN ?_
      refine St.prune (Γ' := [(4, _)]) ⟨rfl, trivial⟩ (.d (.d .z)) ?_
      refine St.ret ?_
      repeat (first | refine St.thenR ?_ | refine St.blkR ?_)
      injection h with h
      subst h
      exact St.finR Tryd.results3 (.tmp rfl .nil) rfl [] ⟨rfl, rfl⟩ (fun _ w => (.z : Keep _ _).sat w)
    · replace h := bif_f hb2 h
      refine St.skip ?_
      refine St.thenN ?_
      refine St.prune (Γ' := [(1, _), (2, _)]) ⟨rfl, rfl, trivial⟩ (.k (.k .z)) ?_
      refine St.seq ?_
      refine St.region ?_
      refine St.p rfl rfl ?_
      obtain ⟨r3, hr3, h⟩ := bnd_e h
      refine St.call (c_made_Roll hr3) ent15 rfl rfl rfl (fun _ w => Sat.dup (G := [.ro (SlL ei64 A1 c1 l_p1)]) rfl ⟨(.tail _ (.head _)), trivial⟩ w) ?_
      rintro _ _ ⟨g2, A2, c2, rfl, rfl⟩
      refine St.asrt (F' := .ro (SlL ei64 A2 c2 r3.L) :: .res (Box g2 58 [.slice A2 r3.L.length c2, .int .i64 r3.At]) :: .res (Box g1 23 [.int .i64 f_p0.Kind, .string f_p0.Value]) :: .ro (SlL ei64 A1 c1 l_p1) :: R) (fun _ w => w) ?_
      obtain ⟨r4, hr4, h⟩ := bnd_e h
      refine St.call (c_made_Dice_OddField hr4) ent16 rfl rfl rfl (fun _ w => Sat.dup (G := [.ro (SlL ei64 A2 c2 r3.L)]) rfl ⟨(.tail _ (.head _)), trivial⟩ (w.front (.s .z))) ?_
      rintro _ _ ⟨A3, c3, rfl, rfl⟩
      refine St.asrt (F' := .ro (SlL ei64 A3 c3 r4.1.L) :: .res (Box g2 58 [.slice A3 r4.1.L.length c3, .int .i64 r4.1.At]) :: .ro (SlL ei64 A2 c2 r3.L) :: .res (Box g1 23 [.int .i64 f_p0.Kind, .string f_p0.Value]) :: .ro (SlL ei64 A1 c1 l_p1) :: R) (fun _ w => w) ?_
      refine St.alloc rfl rfl fun g3 => ?_
      refine St.store 0 rfl rfl rfl rfl rfl rfl .z rfl ?_
      refine St.done ?_
      refine St.thenN ?_
      refine St.prune (Γ' := [(2, _), (5, _)]) ⟨rfl, rfl, trivial⟩ (.k (.d (.d (.d (.k (.d .z)))))) ?_
      refine St.seq ?_
      refine St.seq ?_
      refine St.region ?_
      refine St.loadB 0 rfl rfl (.tail _ (.head _)) rfl rfl ?_
      refine St.loadB 0 rfl rfl (.head _) rfl rfl ?_
      refine St.buildSlice rfl rfl rfl rfl rfl rfl rfl rfl fun g4 => ?_
      refine St.p rfl rfl ?_
      refine St.p rfl rfl ?_
      refine St.done ?_
      refine St.thenN ?_
      refine St.prune (Γ' := [(27, _), (28, _), (29, _)]) ⟨rfl, rfl, rfl, trivial⟩ (.k (.d (.d .z))) ?_
      refine St.block ?_
      refine St.rounds 9 ?_
      refine St.round ?_
      refine St.seq ?_
      refine St.region ?_
      refine St.p rfl rfl ?_
      refine St.done ?_
      refine St.thenN ?_
      refine St.seq ?_
      refine St.condT rfl ?_
      refine St.skip ?_
      refine St.thenN ?_
      refine St.prune (Γ' := [(27, _), (28, _), (29, _)]) ⟨rfl, rfl, rfl, trivial⟩ (.k .z) ?_
      refine St.seq ?_
      refine St.block ?_
      refine St.seq ?_
      refine St.region ?_
      refine St.ixB 0 rfl rfl rfl rfl rfl rfl rfl rfl rfl rfl ?_
      refine St.loadB 0 rfl rfl (.head _) rfl rfl ?_
      refine St.alloc rfl rfl fun g5 => ?_
      refine St.store 0 rfl rfl rfl rfl rfl rfl .z rfl ?_
      refine St.done ?_
      refine St.thenN ?_
      refine St.prune (Γ' := [(7, _), (27, _), (28, _), (29, _)]) ⟨rfl, rfl, rfl, rfl, trivial⟩ (.k (.k .z)) ?_
      refine St.seq ?_
      refine St.region ?_
      refine St.loadB 0 rfl rfl (.head _) rfl rfl ?_
      obtain ⟨r5, hr5, h⟩ := bnd_e h
      refine St.call (c_fields_Encode hr5) ent17 rfl rfl rfl (fun _ w => w) ?_
      rintro _ _ ⟨A4, c4, rfl, rfl⟩
      refine St.asrt (F' := .res (OwnL eu8 5 A4 c4 r5.1) :: .res (Box g5 23 [.int .i64 f_p0.Kind, .string f_p0.Value]) :: .res (Box g4 23 [.int .i64 f_p0.Kind, .string f_p0.Value, .int .i64 r4.2.Kind, .string r4.2.Value]) :: R) (fun _ w => w) ?_
      iterate 5 refine St.p rfl rfl ?_
      refine St.done ?_
      refine St.thenN ?_
      refine St.prune (Γ' := [(7, _), (8, _), (9, _), (27, _), (28, _), (29, _)]) ⟨rfl, rfl, rfl, rfl, rfl, rfl, trivial⟩ (.k (.k (.k .z))) ?_
      refine St.seq ?_
      refine St.region ?_
      refine St.loadB 0 rfl rfl (.tail _ (.head _)) rfl rfl ?_
      obtain ⟨r6, hr6, h⟩ := bnd_e h
      refine St.call (c_ref02_Encode hr6) ent18 rfl rfl rfl (fun _ w => w) ?_
      rintro _ _ ⟨A5, c5, rfl, rfl⟩
      refine St.asrt (F' := .res (OwnL eu8 5 A5 c5 r6.1) :: .res (OwnL eu8 5 A4 c4 r5.1) :: .res (Box g5 23 [.int .i64 f_p0.Kind, .string f_p0.Value]) :: .res (Box g4 23 [.int .i64 f_p0.Kind, .string f_p0.Value, .int .i64 r4.2.Kind, .string r4.2.Value]) :: R) (fun _ w => w) ?_
      iterate 5 refine St.p rfl rfl ?_
      refine St.done ?_
      refine St.thenN ?_
      refine St.prune (Γ' := [(7, _), (8, _), (9, _), (10, _), (11, _), (27, _), (28, _), (29, _)]) ⟨rfl, rfl, rfl, rfl, rfl, rfl, rfl, rfl, trivial⟩ (.k (.k (.k (.k .z)))) ?_
      refine St.seq ?_
      obtain ⟨o2, hj2, h⟩ := bnd_e h
      refine St.cutE (fun (e2 : Unit) => [(27, .slice (some ⟨g4, 0, none⟩) 2 2), (28, .int .i64 ((2 : Nat) : Int)), (29, .int .i64 0), (58, .bool o2)]) (fun e2 => .res (Box g4 23 [.int .i64 f_p0.Kind, .string f_p0.Value, .int .i64 r4.2.Kind, .string r4.2.Value]) :: R) ?_ ?_
      · refine St.regionF mixed (by kernel_rfl) ?_
        refine St.loadB 0 rfl rfl (.tail _ (.tail _ (.head _))) rfl rfl ?_
        obtain ⟨r7, hr7, hj2⟩ := bnd_e hj2
        refine St.callV (c_fields_Valid hr7) ent19 rfl rfl rfl rfl trivial ?_
        refine St.loadB 0 rfl rfl (.tail _ (.tail _ (.head _))) rfl rfl ?_
        obtain ⟨r8, hr8, hj2⟩ := bnd_e hj2
        refine St.callV (c_ref02_Valid hr8) ent20 rfl rfl rfl rfl trivial ?_
        refine St.p rfl rfl ?_
        refine St.p rfl rfl ?_
        refine St.gSplit (dj := 48) _ rfl (fun hb3 => ?_) (fun hb3 => ?_)
        · replace hj2 := bif_t hb3 hj2
          refine St.gOff (dj := 48) rfl rfl rfl rfl ?_
          refine St.gOff (dj := 48) rfl rfl rfl rfl ?_
          refine St.gOff (dj := 48) rfl rfl rfl rfl ?_
          refine St.p rfl rfl ?_
          refine St.p rfl rfl ?_
          refine St.gOff (dj := 53) rfl rfl rfl rfl ?_
          refine St.gOff (dj := 53) rfl rfl rfl rfl ?_
          refine St.gOff (dj := 53) rfl rfl rfl rfl ?_
          refine St.gOff (dj := 53) rfl rfl rfl rfl ?_
          refine St.p rfl rfl ?_
          refine St.doneQ ?_
          injection hj2 with hj2
          subst hj2
          refine St.thenN ?_
          exact St.hereE () ⟨rfl, rfl, rfl, rfl, trivial⟩ (fun _ w => ((.d (.d (.d (.k .z)))) : Keep _ _).sat w)
        · replace hj2 := bif_f hb3 hj2
          refine St.gOn (dj := 48) rfl rfl ?_
          refine St.p rfl rfl ?_
          refine St.gOn (dj := 48) rfl rfl ?_
          refine St.p rfl rfl ?_
          refine St.gOn (dj := 48) rfl rfl ?_
          iterate 3 refine St.p rfl rfl ?_
          refine St.gSplit (dj := 53) _ rfl (fun hb4 => ?_) (fun hb4 => ?_)
          · replace hj2 := bif_t hb4 hj2
            refine St.gOff (dj := 53) rfl rfl rfl rfl ?_
            refine St.gOff (dj := 53) rfl rfl rfl rfl ?_
            refine St.gOff (dj := 53) rfl rfl rfl rfl ?_
            refine St.gOff (dj := 53) rfl rfl rfl rfl ?_
            refine St.p rfl rfl ?_
            refine St.doneQ ?_
            injection hj2 with hj2
            subst hj2
            refine St.thenN ?_
            exact St.hereE () ⟨rfl, rfl, rfl, rfl, trivial⟩ (fun _ w => ((.d (.d (.d (.k .z)))) : Keep _ _).sat w)
          · replace hj2 := bif_f hb4 hj2
            refine St.gOn (dj := 53) rfl rfl ?_
            refine St.p rfl rfl ?_
            refine St.gOn (dj := 53) rfl rfl ?_
            refine St.p rfl rfl ?_
            refine St.gOn (dj := 53) rfl rfl ?_
            refine St.asrt (fun _ w => (w.front (.s .z)).meltL) ?_
            refine St.asrt (fun _ w => (w.front (.s .z)).meltL) ?_
            obtain ⟨r9, hr9, hj2⟩ := bnd_e hj2
            refine St.callV (c_ref01_Same hr9) ent21 rfl rfl rfl rfl ⟨(.tail _ (.head _)), (.head _), trivial⟩ ?_
            refine St.gOn (dj := 53) rfl rfl ?_
            refine St.p rfl rfl ?_
            refine St.p rfl rfl ?_
            refine St.doneQ ?_
            injection hj2 with hj2
            subst hj2
            refine St.thenN ?_
            exact St.hereE () ⟨rfl, rfl, rfl, rfl, trivial⟩ (fun _ w => ((.d (.d (.d (.k .z)))) : Keep _ _).sat w)
      · rintro e2
        refine St.cond _ rfl (fun hb5 => ?_) (fun hb5 => ?_)
        · replace h := bif_t hb5 h
          refine St.seq ?_
          refine St.region ?_
          refine St.p rfl rfl ?_
          refine St.done ?_
          refine St.thenN ?_
          refine St.prune (Γ' := [(4, _)]) ⟨rfl, trivial⟩ (.d .z) ?_
          refine St.ret ?_
          repeat (first | refine St.thenR ?_ | refine St.blkR ?_)
          injection h with h
          subst h
          exact St.finR Tryd.results3 (.tmp rfl .nil) rfl [] ⟨rfl, rfl⟩ (fun _ w => (.z : Keep _ _).sat w)
        · replace h := bif_f hb5 h
          refine St.skip ?_
          refine St.blkN ?_
          refine St.thenN ?_
          refine St.prune (Γ' := [(27, _), (28, _), (29, _)]) ⟨rfl, rfl, rfl, trivial⟩ (.k .z) ?_
          refine St.region ?_
          refine St.p rfl rfl ?_
          refine St.p rfl rfl ?_
          refine St.done ?_
          refine St.thenN ?_
          refine St.round ?_
          refine St.prune (Γ' := [(27, _), (28, _), (29, _)]) ⟨rfl, rfl, rfl, trivial⟩ (.k .z) ?_
          refine St.seq ?_
          refine St.region ?_
          refine St.p rfl rfl ?_
          refine St.done ?_
          refine St.thenN ?_
          refine St.seq ?_
          refine St.condT rfl ?_
          refine St.skip ?_
          refine St.thenN ?_
          refine St.prune (Γ' := [(27, _), (28, _), (29, _)]) ⟨rfl, rfl, rfl, trivial⟩ (.k .z) ?_
          refine St.seq ?_
          refine St.block ?_
          refine St.seq ?_
          refine St.region ?_
          refine St.ixB 2 rfl rfl rfl rfl rfl rfl rfl rfl rfl rfl ?_
          refine St.loadB 2 rfl rfl (.head _) rfl rfl ?_
          refine St.alloc rfl rfl fun g6 => ?_
          refine St.store 0 rfl rfl rfl rfl rfl rfl .z rfl ?_
          refine St.done ?_
          refine St.thenN ?_
          refine St.prune (Γ' := [(7, _), (27, _), (28, _), (29, _)]) ⟨rfl, rfl, rfl, rfl, trivial⟩ (.k (.k .z)) ?_
          refine St.seq ?_
          refine St.region ?_
          refine St.loadB 0 rfl rfl (.head _) rfl rfl ?_
          obtain ⟨r10, hr10, h⟩ := bnd_e h
          refine St.call (c_fields_Encode hr10) ent17 rfl rfl rfl (fun _ w => w) ?_
          rintro _ _ ⟨A6, c6, rfl, rfl⟩
          refine St.asrt (F' := .res (OwnL eu8 5 A6 c6 r10.1) :: .res (Box g6 23 [.int .i64 r4.2.Kind, .string r4.2.Value]) :: .res (Box g4 23 [.int .i64 f_p0.Kind, .string f_p0.Value, .int .i64 r4.2.Kind, .string r4.2.Value]) :: R) (fun _ w => w) ?_
          iterate 5 refine St.p rfl rfl ?_
          refine St.done ?_
          refine St.thenN ?_
          refine St.prune (Γ' := [(7, _), (8, _), (9, _), (27, _), (28, _), (29, _)]) ⟨rfl, rfl, rfl, rfl, rfl, rfl, trivial⟩ (.k (.k (.k .z))) ?_
          refine St.seq ?_
          refine St.region ?_
          refine St.loadB 0 rfl rfl (.tail _ (.head _)) rfl rfl ?_
          obtain ⟨r11, hr11, h⟩ := bnd_e h
          refine St.call (c_ref02_Encode hr11) ent18 rfl rfl rfl (fun _ w => w) ?_
          rintro _ _ ⟨A7, c7, rfl, rfl⟩
          refine St.asrt (F' := .res (OwnL eu8 5 A7 c7 r11.1) :: .res (OwnL eu8 5 A6 c6 r10.1) :: .res (Box g6 23 [.int .i64 r4.2.Kind, .string r4.2.Value]) :: .res (Box g4 23 [.int .i64 f_p0.Kind, .string f_p0.Value, .int .i64 r4.2.Kind, .string r4.2.Value]) :: R) (fun _ w => w) ?_
          iterate 5 refine St.p rfl rfl ?_
          refine St.done ?_
          refine St.thenN ?_
          refine St.prune (Γ' := [(7, _), (8, _), (9, _), (10, _), (11, _), (27, _), (28, _), (29, _)]) ⟨rfl, rfl, rfl, rfl, rfl, rfl, rfl, rfl, trivial⟩ (.k (.k (.k (.k .z)))) ?_
          refine St.seq ?_
          obtain ⟨o3, hj3, h⟩ := bnd_e h
          refine St.cutE (fun (e3 : Unit) => [(27, .slice (some ⟨g4, 0, none⟩) 2 2), (28, .int .i64 ((2 : Nat) : Int)), (29, .int .i64 1), (58, .bool o3)]) (fun e3 => .res (Box g4 23 [.int .i64 f_p0.Kind, .string f_p0.Value, .int .i64 r4.2.Kind, .string r4.2.Value]) :: R) ?_ ?_
          · refine St.regionF mixed (by kernel_rfl) ?_
            refine St.loadB 0 rfl rfl (.tail _ (.tail _ (.head _))) rfl rfl ?_
            obtain ⟨r12, hr12, hj3⟩ := bnd_e hj3
            refine St.callV (c_fields_Valid hr12) ent19 rfl rfl rfl rfl trivial ?_
            refine St.loadB 0 rfl rfl (.tail _ (.tail _ (.head _))) rfl rfl ?_
            obtain ⟨r13, hr13, hj3⟩ := bnd_e hj3
            refine St.callV (c_ref02_Valid hr13) ent20 rfl rfl rfl rfl trivial ?_
            refine St.p rfl rfl ?_
            refine St.p rfl rfl ?_
            refine St.gSplit (dj := 48) _ rfl (fun hb6 => ?_) (fun hb6 => ?_)
            · replace hj3 := bif_t hb6 hj3
              refine St.gOff (dj := 48) rfl rfl rfl rfl ?_
              refine St.gOff (dj := 48) rfl rfl rfl rfl ?_
              refine St.gOff (dj := 48) rfl rfl rfl rfl ?_
              refine St.p rfl rfl ?_
              refine St.p rfl rfl ?_
              refine St.gOff (dj := 53) rfl rfl rfl rfl ?_
              refine St.gOff (dj := 53) rfl rfl rfl rfl ?_
              refine St.gOff (dj := 53) rfl rfl rfl rfl ?_
              refine St.gOff (dj := 53) rfl rfl rfl rfl ?_
              refine St.p rfl rfl ?_
              refine St.doneQ ?_
              injection hj3 with hj3
              subst hj3
              refine St.thenN ?_
              exact St.hereE () ⟨rfl, rfl, rfl, rfl, trivial⟩ (fun _ w => ((.d (.d (.d (.k .z)))) : Keep _ _).sat w)
            · replace hj3 := bif_f hb6 hj3
              refine St.gOn (dj := 48) rfl rfl ?_
              refine St.p rfl rfl ?_
              refine St.gOn (dj := 48) rfl rfl ?_
              refine St.p rfl rfl ?_
              refine St.gOn (dj := 48) rfl rfl ?_
              iterate 3 refine St.p rfl rfl ?_
              refine St.gSplit (dj := 53) _ rfl (fun hb7 => ?_) (fun hb7 => ?_)
              · replace hj3 := bif_t hb7 hj3
                refine St.gOff (dj := 53) rfl rfl rfl rfl ?_
                refine St.gOff (dj := 53) rfl rfl rfl rfl ?_
                refine St.gOff (dj := 53) rfl rfl rfl rfl ?_
                refine St.gOff (dj := 53) rfl rfl rfl rfl ?_
                refine St.p rfl rfl ?_
                refine St.doneQ ?_
                injection hj3 with hj3
                subst hj3
                refine St.thenN ?_
                exact St.hereE () ⟨rfl, rfl, rfl, rfl, trivial⟩ (fun _ w => ((.d (.d (.d (.k .z)))) : Keep _ _).sat w)
              · replace hj3 := bif_f hb7 hj3
                refine St.gOn (dj := 53) rfl rfl ?_
                refine St.p rfl rfl ?_
                refine St.gOn (dj := 53) rfl rfl ?_
                refine St.p rfl rfl ?_
                refine St.gOn (dj := 53) rfl rfl ?_
                refine St.asrt (fun _ w => (w.front (.s .z)).meltL) ?_
                refine St.asrt (fun _ w => (w.front (.s .z)).meltL) ?_
                obtain ⟨r14, hr14, hj3⟩ := bnd_e hj3
                refine St.callV (c_ref01_Same hr14) ent21 rfl rfl rfl rfl ⟨(.tail _ (.head _)), (.head _), trivial⟩ ?_
                refine St.gOn (dj := 53) rfl rfl ?_
                refine St.p rfl rfl ?_
                refine St.p rfl rfl ?_
                refine St.doneQ ?_
                injection hj3 with hj3
                subst hj3
                refine St.thenN ?_
                exact St.hereE () ⟨rfl, rfl, rfl, rfl, trivial⟩ (fun _ w => ((.d (.d (.d (.k .z)))) : Keep _ _).sat w)
          · rintro e3
            refine St.cond _ rfl (fun hb8 => ?_) (fun hb8 => ?_)
            · replace h := bif_t hb8 h
              refine St.seq ?_
              refine St.region ?_
              refine St.p rfl rfl ?_
              refine St.done ?_
              refine St.thenN ?_
              refine St.prune (Γ' := [(4, _)]) ⟨rfl, trivial⟩ (.d .z) ?_
              refine St.ret ?_
              repeat (first | refine St.thenR ?_ | refine St.blkR ?_)
              injection h with h
              subst h
              exact St.finR Tryd.results3 (.tmp rfl .nil) rfl [] ⟨rfl, rfl⟩ (fun _ w => (.z : Keep _ _).sat w)
            · replace h := bif_f hb8 h
              refine St.skip ?_
              refine St.blkN ?_
              refine St.thenN ?_
              refine St.prune (Γ' := [(27, _), (28, _), (29, _)]) ⟨rfl, rfl, rfl, trivial⟩ (.k .z) ?_
              refine St.region ?_
              refine St.p rfl rfl ?_
              refine St.p rfl rfl ?_
              refine St.done ?_
              refine St.thenN ?_
              refine St.round ?_
              refine St.prune (Γ' := [(27, _), (28, _), (29, _)]) ⟨rfl, rfl, rfl, trivial⟩ (.k .z) ?_
              refine St.seq ?_
              refine St.region ?_
              refine St.p rfl rfl ?_
              refine St.done ?_
              refine St.thenN ?_
              refine St.seq ?_
              refine St.condF rfl ?_
              refine St.exit ?_
              repeat (first | refine St.thenX ?_ | refine St.blkMiss rfl ?_)
              refine St.blkHit ?_
              refine St.thenN ?_
              refine St.prune (Γ' := []) trivial (.d .z) ?_
              refine St.seq ?_
              refine St.region ?_
              obtain ⟨r15, hr15, h⟩ := bnd_e h
              refine St.callV (c_law02_awake hr15) ent14 rfl rfl rfl rfl trivial ?_
              refine St.p rfl rfl ?_
              refine St.done ?_
              refine St.thenN ?_
              refine St.prune (Γ' := [(4, _)]) ⟨rfl, trivial⟩ .z ?_
              refine St.ret ?_
              repeat (first | refine St.thenR ?_ | refine St.blkR ?_)
              injection h with h
              subst h
              exact St.finR Tryd.results3 (.tmp rfl .nil) rfl [] ⟨rfl, rfl⟩ (fun _ w => (.z : Keep _ _).sat w)

end Go.Proofs.YtfddmgagikeieaaDoor
