/-
  Models of functions of the program, and that the functions compute them.
  Conditions: none.
-/
import Derived.Test.YtfddmgagikeieaaDoorGen
namespace Go.Proofs.YtfddmgagikeieaaDoor
open Go
set_option linter.unusedVariables false
set_option maxRecDepth 4000

theorem ent9 : Ent Tryd.prog 9 := ⟨_, Tryd.func9, by kernel_rfl, by kernel_rfl⟩

noncomputable def m_law02_FieldsBytes (b_p0 : (List Int)) : Option Bool :=
  bif decide ((b_p0.length : Int) > 300) then (bnd (m_law02_awake) fun r1 => some r1) else (bnd (m_fields_Decode b_p0) fun r2 => bif (r2.2.2.2 != 0) then (bnd ((bif (r2.2.1 == 0) then (bif !r2.2.2.1 then (bnd (m_law02_awake) fun r3 => some r3) else (some false)) else (some false) : Option Bool)) fun o1 => some o1) else (bnd ((bif decide (r2.2.1 < 1) then (some true) else (some (decide (r2.2.1 > (b_p0.length : Int)))) : Option Bool)) fun o2 => bif o2 then (some false) else (bif r2.2.2.1 then (bnd ((bif (r2.2.1 == 1) then (bnd (elt b_p0 0) fun x1 => bif (x1 == 193) then (bnd (m_law02_awake) fun r4 => some r4) else (some false)) else (some false) : Option Bool)) fun o3 => some o3) else (bnd (m_fields_Encode r2.1) fun r5 => bnd ((bnd (m_fields_Valid r2.1) fun r6 => bif r6 then (bif (r5.2 == 0) then (bnd (sub b_p0 0 r2.2.1) fun l1 => bnd (m_ref01_Same r5.1 l1) fun r7 => bif r7 then (bnd (m_law02_awake) fun r8 => some r8) else (some false)) else (some false)) else (some false) : Option Bool)) fun o4 => some o4))))

set_option maxHeartbeats 4000000 in
theorem c_law02_FieldsBytes {b_p0 : (List Int)} {A1 : Option Addr} {c1 : Nat} {r : Bool} (h : m_law02_FieldsBytes b_p0 = some r) :
    Fun Tryd.prog 9 [.slice A1 b_p0.length c1] [.ro (SlL eu8 A1 c1 b_p0)] (Val (.bool r)) := by
  unfold m_law02_FieldsBytes at h
  refine Fun.intro Tryd.func9 rfl rfl rfl fun w R => ?_
  refine St.seq ?_
  refine St.region ?_
  refine St.p rfl rfl ?_
  refine St.done ?_
  refine St.thenN ?_
  refine St.prune (Γ' := [(0, _)]) ⟨rfl, trivial⟩ (.k .z) ?_
  refine St.seq ?_
  refine St.seq ?_
  refine St.region ?_
  iterate 3 refine St.p rfl rfl ?_
  refine St.done ?_
  refine St.thenN ?_
  refine St.prune (Γ' := [(0, _), (11, _)]) ⟨rfl, rfl, trivial⟩ (.k .z) ?_
  refine St.cond _ rfl (fun hb1 => ?_) (fun hb1 => ?_)
  · replace h := bif_t hb1 h
    refine St.seq ?_
    refine St.region ?_
    obtain ⟨r1, hr1, h⟩ := bnd_e h
    refine St.callV (c_law02_awake hr1) ent14 rfl rfl rfl rfl trivial ?_
    refine St.p rfl rfl ?_
    refine St.done ?_
    refine St.thenN ?_
    refine St.prune (Γ' := [(2, _)]) ⟨rfl, trivial⟩ (.d .z) ?_
    refine St.ret ?_
    repeat (first | refine St.thenR ?_ | refine St.blkR ?_)
    injection h with h
    subst h
    exact St.finR Tryd.results9 (.tmp rfl .nil) rfl [] ⟨rfl, rfl⟩ (fun _ w => (.z : Keep _ _).sat w)
  · replace h := bif_f hb1 h
    refine St.skip ?_
    refine St.thenN ?_
    refine St.prune (Γ' := [(0, _)]) ⟨rfl, trivial⟩ (.k .z) ?_
    refine St.seq ?_
    refine St.region ?_
    refine St.p rfl rfl ?_
    obtain ⟨r2, hr2, h⟩ := bnd_e h
    refine St.callV (c_fields_Decode hr2) ent27 rfl rfl rfl rfl ⟨(.head _), trivial⟩ ?_
    iterate 5 refine St.p rfl rfl ?_
    refine St.alloc rfl rfl fun g1 => ?_
    refine St.store 0 rfl rfl rfl rfl rfl rfl .z rfl ?_
    iterate 3 refine St.p rfl rfl ?_
    refine St.done ?_
    refine St.thenN ?_
    refine St.prune (Γ' := [(0, _), (3, _), (4, _), (5, _), (6, _)]) ⟨rfl, rfl, rfl, rfl, rfl, trivial⟩ (.k (.k .z)) ?_
    refine St.seq ?_
    refine St.seq ?_
    refine St.region ?_
    refine St.p rfl rfl ?_
    refine St.p rfl rfl ?_
    refine St.done ?_
    refine St.thenN ?_
    refine St.prune (Γ' := [(0, _), (3, _), (4, _), (5, _), (21, _)]) ⟨rfl, rfl, rfl, rfl, rfl, trivial⟩ (.k (.k .z)) ?_
    refine St.cond _ rfl (fun hb2 => ?_) (fun hb2 => ?_)
    · replace h := bif_t hb2 h
      refine St.seq ?_
      obtain ⟨o1, hj1, h⟩ := bnd_e h
      refine St.cutE (fun (e1 : Unit) => [(2, .bool o1)]) (fun e1 => R) ?_ ?_
      · refine St.region ?_
        iterate 3 refine St.p rfl rfl ?_
        refine St.gSplit (dj := 24) _ rfl (fun hb3 => ?_) (fun hb3 => ?_)
        · replace hj1 := bif_t hb3 hj1
          refine St.gOn (dj := 24) rfl rfl ?_
          refine St.p rfl rfl ?_
          refine St.gOn (dj := 24) rfl rfl ?_
          iterate 3 refine St.p rfl rfl ?_
          refine St.gSplit (dj := 28) _ rfl (fun hb4 => ?_) (fun hb4 => ?_)
          · replace hj1 := bif_t hb4 hj1
            refine St.gOn (dj := 28) rfl rfl ?_
            obtain ⟨r3, hr3, hj1⟩ := bnd_e hj1
            refine St.callV (c_law02_awake hr3) ent14 rfl rfl rfl rfl trivial ?_
            refine St.p rfl rfl ?_
            refine St.p rfl rfl ?_
            refine St.done ?_
            injection hj1 with hj1
            subst hj1
            refine St.thenN ?_
            exact St.hereE () ⟨rfl, trivial⟩ (fun _ w => ((.d (.d .z)) : Keep _ _).sat w)
          · replace hj1 := bif_f hb4 hj1
            refine St.gOff (dj := 28) rfl rfl rfl rfl ?_
            refine St.p rfl rfl ?_
            refine St.p rfl rfl ?_
            refine St.done ?_
            injection hj1 with hj1
            subst hj1
            refine St.thenN ?_
            exact St.hereE () ⟨rfl, trivial⟩ (fun _ w => ((.d (.d .z)) : Keep _ _).sat w)
        · replace hj1 := bif_f hb3 hj1
          refine St.gOff (dj := 24) rfl rfl rfl rfl ?_
          refine St.gOff (dj := 24) rfl rfl rfl rfl ?_
          refine St.p rfl rfl ?_
          refine St.p rfl rfl ?_
          refine St.gOff (dj := 28) rfl rfl rfl rfl ?_
          refine St.p rfl rfl ?_
          refine St.p rfl rfl ?_
          refine St.done ?_
          injection hj1 with hj1
          subst hj1
          refine St.thenN ?_
          exact St.hereE () ⟨rfl, trivial⟩ (fun _ w => ((.d (.d .z)) : Keep _ _).sat w)
      · rintro e1
        refine St.ret ?_
        repeat (first | refine St.thenR ?_ | refine St.blkR ?_)
        injection h with h
        subst h
        exact St.finR Tryd.results9 (.tmp rfl .nil) rfl [] ⟨rfl, rfl⟩ (fun _ w => (.z : Keep _ _).sat w)
    · replace h := bif_f hb2 h
      refine St.skip ?_
      refine St.thenN ?_
      refine St.prune (Γ' := [(0, _), (3, _), (4, _), (5, _)]) ⟨rfl, rfl, rfl, rfl, trivial⟩ (.k (.k .z)) ?_
      refine St.seq ?_
      refine St.seq ?_
      obtain ⟨o2, hj2, h⟩ := bnd_e h
      refine St.cutE (fun (e2 : Unit) => [(0, .slice A1 b_p0.length c1), (3, .pointer (some ⟨g1, 0, none⟩)), (4, .int .i64 r2.2.1), (5, .bool r2.2.2.1), (38, .bool o2)]) (fun e2 => .res (Box g1 23 [.int .i64 r2.1.Kind, .string r2.1.Value]) :: .ro (SlL eu8 A1 c1 b_p0) :: R) ?_ ?_
      · refine St.region ?_
        iterate 3 refine St.p rfl rfl ?_
        refine St.gSplit (dj := 33) _ rfl (fun hb5 => ?_) (fun hb5 => ?_)
        · replace hj2 := bif_t hb5 hj2
          refine St.gOff (dj := 33) rfl rfl rfl rfl ?_
          refine St.gOff (dj := 33) rfl rfl rfl rfl ?_
          refine St.gOff (dj := 33) rfl rfl rfl rfl ?_
          refine St.gOff (dj := 33) rfl rfl rfl rfl ?_
          refine St.p rfl rfl ?_
          refine St.done ?_
          injection hj2 with hj2
          subst hj2
          refine St.thenN ?_
          exact St.hereE () ⟨rfl, rfl, rfl, rfl, rfl, trivial⟩ (fun _ w => ((.k (.k .z)) : Keep _ _).sat w)
        · replace hj2 := bif_f hb5 hj2
          refine St.gOn (dj := 33) rfl rfl ?_
          refine St.p rfl rfl ?_
          refine St.gOn (dj := 33) rfl rfl ?_
          refine St.p rfl rfl ?_
          refine St.gOn (dj := 33) rfl rfl ?_
          refine St.p rfl rfl ?_
          refine St.gOn (dj := 33) rfl rfl ?_
          refine St.p rfl rfl ?_
          refine St.p rfl rfl ?_
          refine St.done ?_
          injection hj2 with hj2
          subst hj2
          refine St.thenN ?_
          exact St.hereE () ⟨rfl, rfl, rfl, rfl, rfl, trivial⟩ (fun _ w => ((.k (.k .z)) : Keep _ _).sat w)
      · rintro e2
        refine St.cond _ rfl (fun hb6 => ?_) (fun hb6 => ?_)
        · replace h := bif_t hb6 h
          refine St.seq ?_
          refine St.region ?_
          refine St.p rfl rfl ?_
          refine St.done ?_
          refine St.thenN ?_
          refine St.prune (Γ' := [(2, _)]) ⟨rfl, trivial⟩ (.d (.d .z)) ?_
          refine St.ret ?_
          repeat (first | refine St.thenR ?_ | refine St.blkR ?_)
          injection h with h
          subst h
          exact St.finR Tryd.results9 (.tmp rfl .nil) rfl [] ⟨rfl, rfl⟩ (fun _ w => (.z : Keep _ _).sat w)
        · replace h := bif_f hb6 h
          refine St.skip ?_
          refine St.thenN ?_
          refine St.prune (Γ' := [(0, _), (3, _), (4, _), (5, _)]) ⟨rfl, rfl, rfl, rfl, trivial⟩ (.k (.k .z)) ?_
          refine St.seq ?_
          refine St.seq ?_
          refine St.region ?_
          refine St.p rfl rfl ?_
          refine St.done ?_
          refine St.thenN ?_
          refine St.prune (Γ' := [(0, _), (3, _), (4, _), (39, _)]) ⟨rfl, rfl, rfl, rfl, trivial⟩ (.k (.k .z)) ?_
          refine St.cond _ rfl (fun hb7 => ?_) (fun hb7 => ?_)
          · replace h := bif_t hb7 h
            refine St.seq ?_
            obtain ⟨o3, hj3, h⟩ := bnd_e h
            refine St.cutE (fun (e3 : Unit) => [(2, .bool o3)]) (fun e3 => R) ?_ ?_
            · refine St.region ?_
              iterate 3 refine St.p rfl rfl ?_
              refine St.gSplit (dj := 42) _ rfl (fun hb8 => ?_) (fun hb8 => ?_)
              · replace hj3 := bif_t hb8 hj3
                refine St.gOn (dj := 42) rfl rfl ?_
                refine St.p rfl rfl ?_
                refine St.gOn (dj := 42) rfl rfl ?_
                obtain ⟨x1, hx1, hj3⟩ := bnd_e hj3
                refine St.ixL hx1 rfl rfl rfl (.tail _ (.head _)) rfl rfl rfl rfl rfl fun b1 ob1 => ?_
                refine St.gOn (dj := 42) rfl rfl ?_
                refine St.load ob1 0 rfl rfl (.head _) rfl rfl ?_
                refine St.gOn (dj := 42) rfl rfl ?_
                iterate 3 refine St.p rfl rfl ?_
                refine St.gSplit (dj := 48) _ rfl (fun hb9 => ?_) (fun hb9 => ?_)
                · replace hj3 := bif_t hb9 hj3
                  refine St.gOn (dj := 48) rfl rfl ?_
                  obtain ⟨r4, hr4, hj3⟩ := bnd_e hj3
                  refine St.callV (c_law02_awake hr4) ent14 rfl rfl rfl rfl trivial ?_
                  refine St.p rfl rfl ?_
                  refine St.p rfl rfl ?_
                  refine St.done ?_
                  injection hj3 with hj3
                  subst hj3
                  refine St.thenN ?_
                  exact St.hereE () ⟨rfl, trivial⟩ (fun _ w => ((.d (.d (.d .z))) : Keep _ _).sat w)
                · replace hj3 := bif_f hb9 hj3
                  refine St.gOff (dj := 48) rfl rfl rfl rfl ?_
                  refine St.p rfl rfl ?_
                  refine St.p rfl rfl ?_
                  refine St.done ?_
                  injection hj3 with hj3
                  subst hj3
                  refine St.thenN ?_
                  exact St.hereE () ⟨rfl, trivial⟩ (fun _ w => ((.d (.d (.d .z))) : Keep _ _).sat w)
              · replace hj3 := bif_f hb8 hj3
                refine St.gOff (dj := 42) rfl rfl rfl rfl ?_
                refine St.gOff (dj := 42) rfl rfl rfl rfl ?_
                refine St.gOff (dj := 42) rfl rfl rfl rfl ?_
                refine St.gOff (dj := 42) rfl rfl rfl rfl ?_
                refine St.p rfl rfl ?_
                refine St.p rfl rfl ?_
                refine St.gOff (dj := 48) rfl rfl rfl rfl ?_
                refine St.p rfl rfl ?_
                refine St.p rfl rfl ?_
                refine St.done ?_
                injection hj3 with hj3
                subst hj3
                refine St.thenN ?_
                exact St.hereE () ⟨rfl, trivial⟩ (fun _ w => ((.d (.d .z)) : Keep _ _).sat w)
            · rintro e3
              refine St.ret ?_
              repeat (first | refine St.thenR ?_ | refine St.blkR ?_)
              injection h with h
              subst h
              exact St.finR Tryd.results9 (.tmp rfl .nil) rfl [] ⟨rfl, rfl⟩ (fun _ w => (.z : Keep _ _).sat w)
          · replace h := bif_f hb7 h
            refine St.skip ?_
            refine St.thenN ?_
            refine St.prune (Γ' := [(0, _), (3, _), (4, _)]) ⟨rfl, rfl, rfl, trivial⟩ (.k (.k .z)) ?_
            refine St.seq ?_
            refine St.region ?_
            refine St.loadB 0 rfl rfl (.head _) rfl rfl ?_
            obtain ⟨r5, hr5, h⟩ := bnd_e h
            refine St.call (c_fields_Encode hr5) ent17 rfl rfl rfl (fun _ w => w) ?_
            rintro _ _ ⟨A2, c2, rfl, rfl⟩
            refine St.asrt (F' := .res (OwnL eu8 5 A2 c2 r5.1) :: .res (Box g1 23 [.int .i64 r2.1.Kind, .string r2.1.Value]) :: .ro (SlL eu8 A1 c1 b_p0) :: R) (fun _ w => w) ?_
            iterate 5 refine St.p rfl rfl ?_
            refine St.done ?_
            refine St.thenN ?_
            refine St.prune (Γ' := [(0, _), (3, _), (4, _), (7, _), (8, _)]) ⟨rfl, rfl, rfl, rfl, rfl, trivial⟩ (.k (.k (.k .z))) ?_
            refine St.seq ?_
            obtain ⟨o4, hj4, h⟩ := bnd_e h
            refine St.cutE (fun (e4 : Unit) => [(2, .bool o4)]) (fun e4 => R) ?_ ?_
            · refine St.region ?_
              refine St.loadB 0 rfl rfl (.tail _ (.head _)) rfl rfl ?_
              obtain ⟨r6, hr6, hj4⟩ := bnd_e hj4
              refine St.callV (c_fields_Valid hr6) ent19 rfl rfl rfl rfl trivial ?_
              refine St.p rfl rfl ?_
              refine St.gSplit (dj := 58) _ rfl (fun hb10 => ?_) (fun hb10 => ?_)
              · replace hj4 := bif_t hb10 hj4
                refine St.gOn (dj := 58) rfl rfl ?_
                refine St.p rfl rfl ?_
                refine St.gOn (dj := 58) rfl rfl ?_
                iterate 3 refine St.p rfl rfl ?_
                refine St.gSplit (dj := 62) _ rfl (fun hb11 => ?_) (fun hb11 => ?_)
                · replace hj4 := bif_t hb11 hj4
                  refine St.gOn (dj := 62) rfl rfl ?_
                  refine St.p rfl rfl ?_
                  refine St.gOn (dj := 62) rfl rfl ?_
                  refine St.p rfl rfl ?_
                  refine St.gOn (dj := 62) rfl rfl ?_
                  refine St.p rfl rfl ?_
                  refine St.gOn (dj := 62) rfl rfl ?_
                  obtain ⟨l1, hl1, hj4⟩ := bnd_e hj4
                  refine St.sub (E := (cod eu8)) rfl rfl (.tail _ (.tail _ (.head _))) rfl rfl rfl rfl rfl rfl rfl hl1 fun A3 c3 => ?_
                  refine St.gOn (dj := 62) rfl rfl ?_
                  refine St.asrt (fun _ w => (w.front (.s .z)).meltL) ?_
                  obtain ⟨r7, hr7, hj4⟩ := bnd_e hj4
                  refine St.callV (c_ref01_Same hr7) ent21 rfl rfl rfl rfl ⟨(.head _), (.tail _ (.head _)), trivial⟩ ?_
                  refine St.p rfl rfl ?_
                  refine St.p rfl rfl ?_
                  refine St.gSplit (dj := 69) _ rfl (fun hb12 => ?_) (fun hb12 => ?_)
                  · replace hj4 := bif_t hb12 hj4
                    refine St.gOn (dj := 69) rfl rfl ?_
                    obtain ⟨r8, hr8, hj4⟩ := bnd_e hj4
                    refine St.callV (c_law02_awake hr8) ent14 rfl rfl rfl rfl trivial ?_
                    refine St.p rfl rfl ?_
                    refine St.p rfl rfl ?_
                    refine St.done ?_
                    injection hj4 with hj4
                    subst hj4
                    refine St.thenN ?_
                    exact St.hereE () ⟨rfl, trivial⟩ (fun _ w => ((.d (.d (.d (.d .z)))) : Keep _ _).sat w)
                  · replace hj4 := bif_f hb12 hj4
                    refine St.gOff (dj := 69) rfl rfl rfl rfl ?_
                    refine St.p rfl rfl ?_
                    refine St.p rfl rfl ?_
                    refine St.done ?_
                    injection hj4 with hj4
                    subst hj4
                    refine St.thenN ?_
                    exact St.hereE () ⟨rfl, trivial⟩ (fun _ w => ((.d (.d (.d (.d .z)))) : Keep _ _).sat w)
                · replace hj4 := bif_f hb11 hj4
                  refine St.gOff (dj := 62) rfl rfl rfl rfl ?_
                  refine St.gOff (dj := 62) rfl rfl rfl rfl ?_
                  refine St.gOff (dj := 62) rfl rfl rfl rfl ?_
                  refine St.gOff (dj := 62) rfl rfl rfl rfl ?_
                  refine St.gOff (dj := 62) rfl rfl rfl rfl ?_
                  refine St.p rfl rfl ?_
                  refine St.p rfl rfl ?_
                  refine St.gOff (dj := 69) rfl rfl rfl rfl ?_
                  refine St.p rfl rfl ?_
                  refine St.p rfl rfl ?_
                  refine St.done ?_
                  injection hj4 with hj4
                  subst hj4
                  refine St.thenN ?_
                  exact St.hereE () ⟨rfl, trivial⟩ (fun _ w => ((.d (.d (.d .z))) : Keep _ _).sat w)
              · replace hj4 := bif_f hb10 hj4
                refine St.gOff (dj := 58) rfl rfl rfl rfl ?_
                refine St.gOff (dj := 58) rfl rfl rfl rfl ?_
                refine St.p rfl rfl ?_
                refine St.p rfl rfl ?_
                refine St.gOff (dj := 62) rfl rfl rfl rfl ?_
                refine St.gOff (dj := 62) rfl rfl rfl rfl ?_
                refine St.gOff (dj := 62) rfl rfl rfl rfl ?_
                refine St.gOff (dj := 62) rfl rfl rfl rfl ?_
                refine St.gOff (dj := 62) rfl rfl rfl rfl ?_
                refine St.p rfl rfl ?_
                refine St.p rfl rfl ?_
                refine St.gOff (dj := 69) rfl rfl rfl rfl ?_
                refine St.p rfl rfl ?_
                refine St.p rfl rfl ?_
                refine St.done ?_
                injection hj4 with hj4
                subst hj4
                refine St.thenN ?_
                exact St.hereE () ⟨rfl, trivial⟩ (fun _ w => ((.d (.d (.d .z))) : Keep _ _).sat w)
            · rintro e4
              refine St.ret ?_
              repeat (first | refine St.thenR ?_ | refine St.blkR ?_)
              injection h with h
              subst h
              exact St.finR Tryd.results9 (.tmp rfl .nil) rfl [] ⟨rfl, rfl⟩ (fun _ w => (.z : Keep _ _).sat w)

end Go.Proofs.YtfddmgagikeieaaDoor
