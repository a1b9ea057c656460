/-
  Models of functions of the program, and that the functions compute them.
  Conditions: none.
-/
import Derived.Test.YtfddmgagikeieaaDoorGen
namespace Go.Proofs.YtfddmgagikeieaaDoor
open Go
set_option linter.unusedVariables false
set_option maxRecDepth 4000

theorem ent12 : Ent Tryd.prog 12 := ⟨_, Tryd.func12, by kernel_rfl, by kernel_rfl⟩

noncomputable def m_law02_FieldsMany (l_p0 : (List Int)) (more : Int) : Option Bool :=
  bnd (m_made_Light l_p0) fun r1 => bif !r1 then (bnd (m_law02_awake) fun r2 => some r2) else (bnd (m_made_Roll l_p0) fun r3 => bnd (m_made_Dice_Field r3) fun r4 => bnd (m_made_Mod more 4) fun r5 => bnd (m_fields_Encode r4.2) fun r6 => bnd (loopM (τ := List T_Field × List Int) (fun (s1 : List T_Field × List Int × Int) => bif decide (s1.2.2 < (IntKind.wrap .i64 (15 + r5))) then (bnd (app 24 s1.1 [r4.2]) fun l1 => bnd (app 1 s1.2.1 r6.1) fun l2 => some (.next (l1, l2, IntKind.wrap .i64 (s1.2.2 + 1)))) else (some (.done (s1.1, s1.2.1)))) ([], [], 0)) fun o1 => bnd (m_fields_EncodeList o1.1) fun r7 => bnd (app 1 o1.2 [193]) fun l3 => bnd (m_fields_DecodeList l3) fun r8 => bif decide ((IntKind.wrap .i64 (15 + r5)) > 16) then (bnd ((bif (r6.2 == 0) then (bif (r7.2 == 3) then (bif (r8.2.2 == 3) then (bif ((r7.1.length : Int) == 0) then (bif ((r8.1.length : Int) == 0) then (bif (r8.2.1 == 0) then (bnd (m_law02_awake) fun r9 => some r9) else (some false)) else (some false)) else (some false)) else (some false)) else (some false)) else (some false) : Option Bool)) fun o2 => some o2) else (bnd ((bif (r6.2 == 0) then (bif (r7.2 == 0) then (bif (r8.2.2 == 0) then (bif ((r7.1.length : Int) == (IntKind.wrap .i64 ((IntKind.wrap .i64 ((IntKind.wrap .i64 (15 + r5)) * (r6.1.length : Int))) + 1))) then (bif (r8.2.1 == (r7.1.length : Int)) then (bif ((r8.1.length : Int) == (IntKind.wrap .i64 (15 + r5))) then (bnd (m_law02_awake) fun r10 => some r10) else (some false)) else (some false)) else (some false)) else (some false)) else (some false)) else (some false) : Option Bool)) fun o3 => some o3))

set_option maxHeartbeats 4000000 in
theorem c_law02_FieldsMany {l_p0 : (List Int)} {more : Int} {A1 : Option Addr} {c1 : Nat} {r : Bool} (h : m_law02_FieldsMany l_p0 more = some r) :
    Fun Tryd.prog 12 [.slice A1 l_p0.length c1, .int .i64 more] [.ro (SlL ei64 A1 c1 l_p0)] (Val (.bool r)) := by
  unfold m_law02_FieldsMany at h
  refine Fun.intro Tryd.func12 rfl rfl rfl fun w R => ?_
  refine St.seq ?_
  refine St.region ?_
  refine St.p rfl rfl ?_
  refine St.done ?_
  refine St.thenN ?_
  refine St.prune (Γ' := [(0, _), (1, _)]) ⟨rfl, rfl, trivial⟩ (.k .z) ?_
  refine St.seq ?_
  refine St.seq ?_
  refine St.region ?_
  refine St.p rfl rfl ?_
  obtain ⟨r1, hr1, h⟩ := bnd_e h
  refine St.callV (c_made_Light hr1) ent13 rfl rfl rfl rfl ⟨(.head _), trivial⟩ ?_
  refine St.p rfl rfl ?_
  refine St.done ?_
  refine St.thenN ?_
  refine St.prune (Γ' := [(0, _), (1, _), (19, _)]) ⟨rfl, rfl, rfl, trivial⟩ (.k .z) ?_
  refine St.cond _ rfl (fun hb1 => ?_) (fun hb1 => ?_)
  · replace h := bif_t hb1 h
    refine St.seq ?_
    refine St.region ?_
    obtain ⟨r2, hr2, h⟩ := bnd_e h
    refine St.callV (c_law02_awake hr2) ent14 rfl rfl rfl rfl trivial ?_
    refine St.p rfl rfl ?_
    refine St.done ?_
    refine St.thenN ?_
    refine St.prune (Γ' := [(4, _)]) ⟨rfl, trivial⟩ (.d .z) ?_
    refine St.ret ?_
    repeat (first | refine St.thenR ?_ | refine St.blkR ?_)
    injection h with h
    subst h
    exact St.finR Tryd.results12 (.tmp rfl .nil) rfl [] ⟨rfl, rfl⟩ (fun _ w => (.z : Keep _ _).sat w)
  · replace h := bif_f hb1 h
    refine St.skip ?_
    refine St.thenN ?_
    refine St.prune (Γ' := [(0, _), (1, _)]) ⟨rfl, rfl, trivial⟩ (.k .z) ?_
    refine St.seq ?_
    refine St.region ?_
    refine St.p rfl rfl ?_
    obtain ⟨r3, hr3, h⟩ := bnd_e h
    refine St.call (c_made_Roll hr3) ent15 rfl rfl rfl (fun _ w => Sat.dup (G := [.ro (SlL ei64 A1 c1 l_p0)]) rfl ⟨(.head _), trivial⟩ w) ?_
    rintro _ _ ⟨g1, A2, c2, rfl, rfl⟩
    refine St.asrt (F' := .ro (SlL ei64 A2 c2 r3.L) :: .res (Box g1 58 [.slice A2 r3.L.length c2, .int .i64 r3.At]) :: .ro (SlL ei64 A1 c1 l_p0) :: R) (fun _ w => w) ?_
    obtain ⟨r4, hr4, h⟩ := bnd_e h
    refine St.call (c_made_Dice_Field hr4) ent29 rfl rfl rfl (fun _ w => Sat.dup (G := [.ro (SlL ei64 A2 c2 r3.L)]) rfl ⟨(.tail _ (.head _)), trivial⟩ (w.front (.s .z))) ?_
    rintro _ _ ⟨A3, c3, rfl, rfl⟩
    refine St.asrt (F' := .ro (SlL ei64 A3 c3 r4.1.L) :: .res (Box g1 58 [.slice A3 r4.1.L.length c3, .int .i64 r4.1.At]) :: .ro (SlL ei64 A2 c2 r3.L) :: .ro (SlL ei64 A1 c1 l_p0) :: R) (fun _ w => w) ?_
    refine St.alloc rfl rfl fun g2 => ?_
    refine St.store 0 rfl rfl rfl rfl rfl rfl .z rfl ?_
    refine St.done ?_
    refine St.thenN ?_
    refine St.prune (Γ' := [(1, _), (5, _)]) ⟨rfl, rfl, trivial⟩ (.k (.d (.d (.d (.d .z))))) ?_
    refine St.seq ?_
    refine St.region ?_
    refine St.p rfl rfl ?_
    obtain ⟨r5, hr5, h⟩ := bnd_e h
    refine St.callV (c_made_Mod hr5) ent25 rfl rfl rfl rfl trivial ?_
    refine St.p rfl rfl ?_
    refine St.p rfl rfl ?_
    refine St.done ?_
    refine St.thenN ?_
    refine St.prune (Γ' := [(5, _), (6, _)]) ⟨rfl, rfl, trivial⟩ (.k .z) ?_
    refine St.seq ?_
    refine St.region ?_
    refine St.p rfl rfl ?_
    refine St.done ?_
    refine St.thenN ?_
    refine St.seq ?_
    refine St.region ?_
    refine St.p rfl rfl ?_
    refine St.done ?_
    refine St.thenN ?_
    refine St.seq ?_
    refine St.region ?_
    refine St.loadB 0 rfl rfl (.head _) rfl rfl ?_
    obtain ⟨r6, hr6, h⟩ := bnd_e h
    refine St.call (c_fields_Encode hr6) ent17 rfl rfl rfl (fun _ w => w) ?_
    rintro _ _ ⟨A4, c4, rfl, rfl⟩
    refine St.asrt (F' := .res (OwnL eu8 5 A4 c4 r6.1) :: .res (Box g2 23 [.int .i64 r4.2.Kind, .string r4.2.Value]) :: R) (fun _ w => w) ?_
    iterate 5 refine St.p rfl rfl ?_
    refine St.done ?_
    refine St.thenN ?_
    refine St.prune (Γ' := [(5, _), (6, _), (7, _), (8, _), (9, _), (10, _)]) ⟨rfl, rfl, rfl, rfl, rfl, rfl, trivial⟩ (.k (.k .z)) ?_
    refine St.seq ?_
    refine St.seq ?_
    refine St.region ?_
    refine St.p rfl rfl ?_
    refine St.done ?_
    refine St.thenN ?_
    refine St.asrt (fun _ w => (w.front .z).meltL) ?_
    refine St.asrt (fun _ w => w.nilL e_Field 23) ?_
    refine St.asrt (fun _ w => w.nilL eu8 5) ?_
    obtain ⟨o1, hl1, h⟩ := bnd_e h
    refine St.cutE (fun (e2 : Option Addr × Nat × Option Addr × Nat) => [(6, .int .i64 (IntKind.wrap .i64 (15 + r5))), (7, .slice e2.1 o1.1.length e2.2.1), (8, .slice e2.2.2.1 o1.2.length e2.2.2.2), (9, .slice A4 r6.1.length c4), (10, .int .i64 r6.2)]) (fun e2 => .res (OwnL eu8 5 e2.2.2.1 e2.2.2.2 o1.2) :: .res (OwnL e_Field 23 e2.1 e2.2.1 o1.1) :: .ro (SlL eu8 A4 c4 r6.1) :: R) ?_ ?_
    · refine St.block ?_
      refine St.loop hl1 (fun (s1 : List T_Field × List Int × Int) (e1 : Option Addr × Nat × Option Addr × Nat) => [(5, .pointer (some ⟨g2, 0, none⟩)), (6, .int .i64 (IntKind.wrap .i64 (15 + r5))), (7, .slice e1.1 s1.1.length e1.2.1), (8, .slice e1.2.2.1 s1.2.1.length e1.2.2.2), (9, .slice A4 r6.1.length c4), (10, .int .i64 r6.2), (11, .int .i64 s1.2.2)]) (fun s1 e1 => .res (OwnL eu8 5 e1.2.2.1 e1.2.2.2 s1.2.1) :: .res (OwnL e_Field 23 e1.1 e1.2.1 s1.1) :: .ro (SlL eu8 A4 c4 r6.1) :: .res (Box g2 23 [.int .i64 r4.2.Kind, .string r4.2.Value]) :: R) (fun _ _ => True) (none, 0, none, 0) trivial ⟨rfl, rfl, rfl, rfl, rfl, rfl, rfl, trivial⟩ (fun _ w => ((.k (.k (.k (.k .z)))) : Keep _ _).sat w) ?_
      rintro s1 ⟨A5, c5, A6, c6⟩ - hit1
      obtain ⟨st1, hm1, hd1⟩ := iter_e hit1
      have h1 := hm1
      refine St.seq ?_
      refine St.seq ?_
      refine St.region ?_
      iterate 3 refine St.p rfl rfl ?_
      refine St.done ?_
      refine St.thenN ?_
      refine St.prune (Γ' := [(5, _), (6, _), (7, _), (8, _), (9, _), (10, _), (11, _), (34, _)]) ⟨rfl, rfl, rfl, rfl, rfl, rfl, rfl, rfl, trivial⟩ (.k (.k (.k (.k .z)))) ?_
      refine St.cond _ rfl (fun hb2 => ?_) (fun hb2 => ?_)
      · replace h1 := bif_t hb2 h1
        refine St.skip ?_
        refine St.thenN ?_
        refine St.prune (Γ' := [(5, _), (6, _), (7, _), (8, _), (9, _), (10, _), (11, _)]) ⟨rfl, rfl, rfl, rfl, rfl, rfl, rfl, trivial⟩ (.k (.k (.k (.k .z)))) ?_
        refine St.seq ?_
        refine St.block ?_
        refine St.seq ?_
        refine St.region ?_
        refine St.p rfl rfl ?_
        refine St.loadB 0 rfl rfl (.tail _ (.tail _ (.tail _ (.head _)))) rfl rfl ?_
        refine St.buildSlice rfl rfl rfl rfl rfl rfl rfl rfl fun g3 => ?_
        obtain ⟨l1, hl1, h1⟩ := bnd_e h1
        refine St.app (E := e_Field) hl1 rfl rfl rfl (.s (.s .z)) rfl rfl rfl rfl rfl rfl rfl rfl (srcB (.head _) rfl rfl) rfl rfl fun A9 c9 => ?_
        refine St.p rfl rfl ?_
        refine St.done ?_
        refine St.thenN ?_
        refine St.prune (Γ' := [(5, _), (6, _), (7, _), (8, _), (9, _), (10, _), (11, _)]) ⟨rfl, rfl, rfl, rfl, rfl, rfl, rfl, trivial⟩ (.k (.d (.k (.k (.k .z))))) ?_
        refine St.region ?_
        refine St.p rfl rfl ?_
        refine St.p rfl rfl ?_
        obtain ⟨l2, hl2, h1⟩ := bnd_e h1
        refine St.app (E := eu8) hl2 rfl rfl rfl (.s .z) rfl rfl rfl rfl rfl rfl rfl rfl (srcL (.tail _ (.tail _ (.head _)))) rfl rfl fun A10 c10 => ?_
        refine St.p rfl rfl ?_
        refine St.done ?_
        refine St.blkN ?_
        refine St.thenN ?_
        refine St.prune (Γ' := [(5, _), (6, _), (7, _), (8, _), (9, _), (10, _), (11, _)]) ⟨rfl, rfl, rfl, rfl, rfl, rfl, rfl, trivial⟩ (.k (.k (.k (.k .z)))) ?_
        refine St.region ?_
        iterate 3 refine St.p rfl rfl ?_
        refine St.done ?_
        injection h1 with h1
        subst h1
        refine St.thenN ?_
        exact St.again _ (A9, c9, A10, c10) hm1 trivial ⟨rfl, rfl, rfl, rfl, rfl, rfl, rfl, trivial⟩ (fun _ w => ((.k (.k (.k (.k .z)))) : Keep _ _).sat w)
      · replace h1 := bif_f hb2 h1
        refine St.exit ?_
        repeat (first | refine St.thenX ?_ | refine St.blkMiss rfl ?_)
        refine St.blkHit ?_
        injection h1 with h1
        subst h1
        have ho := hd1 _ rfl
        subst ho
        refine St.thenN ?_
        exact St.hereE (A5, c5, A6, c6) ⟨rfl, rfl, rfl, rfl, rfl, trivial⟩ (fun _ w => ((.k (.k (.k (.d .z)))) : Keep _ _).sat w)
    · rintro ⟨A7, c7, A8, c8⟩
      refine St.seq ?_
      refine St.region ?_
      refine St.p rfl rfl ?_
      refine St.asrt (fun _ w => (w.front (.s .z)).meltL) ?_
      obtain ⟨r7, hr7, h⟩ := bnd_e h
      refine St.call (c_fields_EncodeList hr7) ent30 rfl rfl rfl (fun _ w => Sat.dup (G := [.ro (SlL e_Field A7 c7 o1.1)]) rfl ⟨(.head _), trivial⟩ w) ?_
      rintro _ _ ⟨A11, c11, rfl, rfl⟩
      refine St.asrt (F' := .res (OwnL eu8 5 A11 c11 r7.1) :: .ro (SlL e_Field A7 c7 o1.1) :: .res (OwnL eu8 5 A8 c8 o1.2) :: .ro (SlL eu8 A4 c4 r6.1) :: R) (fun _ w => w) ?_
      iterate 5 refine St.p rfl rfl ?_
      refine St.done ?_
      refine St.thenN ?_
      refine St.prune (Γ' := [(6, _), (8, _), (9, _), (10, _), (12, _), (13, _)]) ⟨rfl, rfl, rfl, rfl, rfl, rfl, trivial⟩ (.k (.d (.k (.k .z)))) ?_
      refine St.seq ?_
      refine St.region ?_
      refine St.p rfl rfl ?_
      refine St.buildSlice rfl rfl rfl rfl rfl rfl rfl rfl fun g4 => ?_
      obtain ⟨l3, hl3, h⟩ := bnd_e h
      refine St.app (E := eu8) hl3 rfl rfl rfl (.s (.s .z)) rfl rfl rfl rfl rfl rfl rfl rfl (srcB (.head _) rfl rfl) rfl rfl fun A12 c12 => ?_
      refine St.asrt (fun _ w => (w.front .z).meltL) ?_
      obtain ⟨r8, hr8, h⟩ := bnd_e h
      refine St.call (c_fields_DecodeList hr8) ent32 rfl rfl rfl (fun _ w => Sat.dup (G := [.ro (SlL eu8 A12 c12 l3)]) rfl ⟨(.head _), trivial⟩ w) ?_
      rintro _ _ ⟨A13, c13, rfl, rfl⟩
      refine St.asrt (F' := .res (OwnL e_Field 23 A13 c13 r8.1) :: .ro (SlL eu8 A12 c12 l3) :: .res (Box g4 5 [.int .u8 193]) :: .res (OwnL eu8 5 A11 c11 r7.1) :: .ro (SlL eu8 A4 c4 r6.1) :: R) (fun _ w => w) ?_
      iterate 7 refine St.p rfl rfl ?_
      refine St.done ?_
      refine St.thenN ?_
      refine St.prune (Γ' := [(6, _), (9, _), (10, _), (12, _), (13, _), (14, _), (15, _), (16, _)]) ⟨rfl, rfl, rfl, rfl, rfl, rfl, rfl, rfl, trivial⟩ (.k (.d (.d (.k (.k .z))))) ?_
      refine St.seq ?_
      refine St.seq ?_
      refine St.region ?_
      refine St.p rfl rfl ?_
      refine St.p rfl rfl ?_
      refine St.done ?_
      refine St.thenN ?_
      refine St.prune (Γ' := [(6, _), (9, _), (10, _), (12, _), (13, _), (14, _), (15, _), (16, _), (58, _)]) ⟨rfl, rfl, rfl, rfl, rfl, rfl, rfl, rfl, rfl, trivial⟩ (.k (.k (.k .z))) ?_
      refine St.cond _ rfl (fun hb3 => ?_) (fun hb3 => ?_)
      · replace h := bif_t hb3 h
        refine St.seq ?_
        obtain ⟨o2, hj1, h⟩ := bnd_e h
        refine St.cutE (fun (e3 : Unit) => [(4, .bool o2)]) (fun e3 => R) ?_ ?_
        · refine St.region ?_
          iterate 3 refine St.p rfl rfl ?_
          refine St.gSplit (dj := 61) _ rfl (fun hb4 => ?_) (fun hb4 => ?_)
          · replace hj1 := bif_t hb4 hj1
            refine St.gOn (dj := 61) rfl rfl ?_
            refine St.p rfl rfl ?_
            refine St.gOn (dj := 61) rfl rfl ?_
            iterate 3 refine St.p rfl rfl ?_
            refine St.gSplit (dj := 65) _ rfl (fun hb5 => ?_) (fun hb5 => ?_)
            · replace hj1 := bif_t hb5 hj1
              refine St.gOn (dj := 65) rfl rfl ?_
              refine St.p rfl rfl ?_
              refine St.gOn (dj := 65) rfl rfl ?_
              iterate 3 refine St.p rfl rfl ?_
              refine St.gSplit (dj := 69) _ rfl (fun hb6 => ?_) (fun hb6 => ?_)
              · replace hj1 := bif_t hb6 hj1
                refine St.gOn (dj := 69) rfl rfl ?_
                refine St.p rfl rfl ?_
                refine St.gOn (dj := 69) rfl rfl ?_
                refine St.p rfl rfl ?_
                refine St.gOn (dj := 69) rfl rfl ?_
                iterate 3 refine St.p rfl rfl ?_
                refine St.gSplit (dj := 74) _ rfl (fun hb7 => ?_) (fun hb7 => ?_)
                · replace hj1 := bif_t hb7 hj1
                  refine St.gOn (dj := 74) rfl rfl ?_
                  refine St.p rfl rfl ?_
                  refine St.gOn (dj := 74) rfl rfl ?_
                  refine St.p rfl rfl ?_
                  refine St.gOn (dj := 74) rfl rfl ?_
                  iterate 3 refine St.p rfl rfl ?_
                  refine St.gSplit (dj := 79) _ rfl (fun hb8 => ?_) (fun hb8 => ?_)
                  · replace hj1 := bif_t hb8 hj1
                    refine St.gOn (dj := 79) rfl rfl ?_
                    refine St.p rfl rfl ?_
                    refine St.gOn (dj := 79) rfl rfl ?_
                    iterate 3 refine St.p rfl rfl ?_
                    refine St.gSplit (dj := 83) _ rfl (fun hb9 => ?_) (fun hb9 => ?_)
                    · replace hj1 := bif_t hb9 hj1
                      refine St.gOn (dj := 83) rfl rfl ?_
                      obtain ⟨r9, hr9, hj1⟩ := bnd_e hj1
                      refine St.callV (c_law02_awake hr9) ent14 rfl rfl rfl rfl trivial ?_
                      refine St.p rfl rfl ?_
                      refine St.p rfl rfl ?_
                      refine St.done ?_
                      injection hj1 with hj1
                      subst hj1
                      refine St.thenN ?_
                      exact St.hereE () ⟨rfl, trivial⟩ (fun _ w => ((.d (.d (.d .z))) : Keep _ _).sat w)
                    · replace hj1 := bif_f hb9 hj1
                      refine St.gOff (dj := 83) rfl rfl rfl rfl ?_
                      refine St.p rfl rfl ?_
                      refine St.p rfl rfl ?_
                      refine St.done ?_
                      injection hj1 with hj1
                      subst hj1
                      refine St.thenN ?_
                      exact St.hereE () ⟨rfl, trivial⟩ (fun _ w => ((.d (.d (.d .z))) : Keep _ _).sat w)
                  · replace hj1 := bif_f hb8 hj1
                    refine St.gOff (dj := 79) rfl rfl rfl rfl ?_
                    refine St.gOff (dj := 79) rfl rfl rfl rfl ?_
                    refine St.p rfl rfl ?_
                    refine St.p rfl rfl ?_
                    refine St.gOff (dj := 83) rfl rfl rfl rfl ?_
                    refine St.p rfl rfl ?_
                    refine St.p rfl rfl ?_
                    refine St.done ?_
                    injection hj1 with hj1
                    subst hj1
                    refine St.thenN ?_
                    exact St.hereE () ⟨rfl, trivial⟩ (fun _ w => ((.d (.d (.d .z))) : Keep _ _).sat w)
                · replace hj1 := bif_f hb7 hj1
                  refine St.gOff (dj := 74) rfl rfl rfl rfl ?_
                  refine St.gOff (dj := 74) rfl rfl rfl rfl ?_
                  refine St.gOff (dj := 74) rfl rfl rfl rfl ?_
                  refine St.p rfl rfl ?_
                  refine St.p rfl rfl ?_
                  refine St.gOff (dj := 79) rfl rfl rfl rfl ?_
                  refine St.gOff (dj := 79) rfl rfl rfl rfl ?_
                  refine St.p rfl rfl ?_
                  refine St.p rfl rfl ?_
                  refine St.gOff (dj := 83) rfl rfl rfl rfl ?_
                  refine St.p rfl rfl ?_
                  refine St.p rfl rfl ?_
                  refine St.done ?_
                  injection hj1 with hj1
                  subst hj1
                  refine St.thenN ?_
                  exact St.hereE () ⟨rfl, trivial⟩ (fun _ w => ((.d (.d (.d .z))) : Keep _ _).sat w)
              · replace hj1 := bif_f hb6 hj1
                refine St.gOff (dj := 69) rfl rfl rfl rfl ?_
                refine St.gOff (dj := 69) rfl rfl rfl rfl ?_
                refine St.gOff (dj := 69) rfl rfl rfl rfl ?_
                refine St.p rfl rfl ?_
                refine St.p rfl rfl ?_
                refine St.gOff (dj := 74) rfl rfl rfl rfl ?_
                refine St.gOff (dj := 74) rfl rfl rfl rfl ?_
                refine St.gOff (dj := 74) rfl rfl rfl rfl ?_
                refine St.p rfl rfl ?_
                refine St.p rfl rfl ?_
                refine St.gOff (dj := 79) rfl rfl rfl rfl ?_
                refine St.gOff (dj := 79) rfl rfl rfl rfl ?_
                refine St.p rfl rfl ?_
                refine St.p rfl rfl ?_
                refine St.gOff (dj := 83) rfl rfl rfl rfl ?_
                refine St.p rfl rfl ?_
                refine St.p rfl rfl ?_
                refine St.done ?_
                injection hj1 with hj1
                subst hj1
                refine St.thenN ?_
                exact St.hereE () ⟨rfl, trivial⟩ (fun _ w => ((.d (.d (.d .z))) : Keep _ _).sat w)
            · replace hj1 := bif_f hb5 hj1
              refine St.gOff (dj := 65) rfl rfl rfl rfl ?_
              refine St.gOff (dj := 65) rfl rfl rfl rfl ?_
              refine St.p rfl rfl ?_
              refine St.p rfl rfl ?_
              refine St.gOff (dj := 69) rfl rfl rfl rfl ?_
              refine St.gOff (dj := 69) rfl rfl rfl rfl ?_
              refine St.gOff (dj := 69) rfl rfl rfl rfl ?_
              refine St.p rfl rfl ?_
              refine St.p rfl rfl ?_
              refine St.gOff (dj := 74) rfl rfl rfl rfl ?_
              refine St.gOff (dj := 74) rfl rfl rfl rfl ?_
              refine St.gOff (dj := 74) rfl rfl rfl rfl ?_
              refine St.p rfl rfl ?_
              refine St.p rfl rfl ?_
              refine St.gOff (dj := 79) rfl rfl rfl rfl ?_
              refine St.gOff (dj := 79) rfl rfl rfl rfl ?_
              refine St.p rfl rfl ?_
              refine St.p rfl rfl ?_
              refine St.gOff (dj := 83) rfl rfl rfl rfl ?_
              refine St.p rfl rfl ?_
              refine St.p rfl rfl ?_
              refine St.done ?_
              injection hj1 with hj1
              subst hj1
              refine St.thenN ?_
              exact St.hereE () ⟨rfl, trivial⟩ (fun _ w => ((.d (.d (.d .z))) : Keep _ _).sat w)
          · replace hj1 := bif_f hb4 hj1
            refine St.gOff (dj := 61) rfl rfl rfl rfl ?_
            refine St.gOff (dj := 61) rfl rfl rfl rfl ?_
            refine St.p rfl rfl ?_
            refine St.p rfl rfl ?_
            refine St.gOff (dj := 65) rfl rfl rfl rfl ?_
            refine St.gOff (dj := 65) rfl rfl rfl rfl ?_
            refine St.p rfl rfl ?_
            refine St.p rfl rfl ?_
            refine St.gOff (dj := 69) rfl rfl rfl rfl ?_
            refine St.gOff (dj := 69) rfl rfl rfl rfl ?_
            refine St.gOff (dj := 69) rfl rfl rfl rfl ?_
            refine St.p rfl rfl ?_
            refine St.p rfl rfl ?_
            refine St.gOff (dj := 74) rfl rfl rfl rfl ?_
            refine St.gOff (dj := 74) rfl rfl rfl rfl ?_
            refine St.gOff (dj := 74) rfl rfl rfl rfl ?_
            refine St.p rfl rfl ?_
            refine St.p rfl rfl ?_
            refine St.gOff (dj := 79) rfl rfl rfl rfl ?_
            refine St.gOff (dj := 79) rfl rfl rfl rfl ?_
            refine St.p rfl rfl ?_
            refine St.p rfl rfl ?_
            refine St.gOff (dj := 83) rfl rfl rfl rfl ?_
            refine St.p rfl rfl ?_
            refine St.p rfl rfl ?_
            refine St.done ?_
            injection hj1 with hj1
            subst hj1
            refine St.thenN ?_
            exact St.hereE () ⟨rfl, trivial⟩ (fun _ w => ((.d (.d (.d .z))) : Keep _ _).sat w)
        · rintro e3
          refine St.ret ?_
          repeat (first | refine St.thenR ?_ | refine St.blkR ?_)
          injection h with h
          subst h
          exact St.finR Tryd.results12 (.tmp rfl .nil) rfl [] ⟨rfl, rfl⟩ (fun _ w => (.z : Keep _ _).sat w)
      · replace h := bif_f hb3 h
        refine St.skip ?_
        refine St.thenN ?_
        refine St.prune (Γ' := [(6, _), (9, _), (10, _), (12, _), (13, _), (14, _), (15, _), (16, _)]) ⟨rfl, rfl, rfl, rfl, rfl, rfl, rfl, rfl, trivial⟩ (.k (.k (.k .z))) ?_
        refine St.seq ?_
        obtain ⟨o3, hj2, h⟩ := bnd_e h
        refine St.cutE (fun (e4 : Unit) => [(4, .bool o3)]) (fun e4 => R) ?_ ?_
        · refine St.region ?_
          iterate 3 refine St.p rfl rfl ?_
          refine St.gSplit (dj := 88) _ rfl (fun hb10 => ?_) (fun hb10 => ?_)
          · replace hj2 := bif_t hb10 hj2
            refine St.gOn (dj := 88) rfl rfl ?_
            refine St.p rfl rfl ?_
            refine St.gOn (dj := 88) rfl rfl ?_
            iterate 3 refine St.p rfl rfl ?_
            refine St.gSplit (dj := 92) _ rfl (fun hb11 => ?_) (fun hb11 => ?_)
            · replace hj2 := bif_t hb11 hj2
              refine St.gOn (dj := 92) rfl rfl ?_
              refine St.p rfl rfl ?_
              refine St.gOn (dj := 92) rfl rfl ?_
              iterate 3 refine St.p rfl rfl ?_
              refine St.gSplit (dj := 96) _ rfl (fun hb12 => ?_) (fun hb12 => ?_)
              · replace hj2 := bif_t hb12 hj2
                refine St.gOn (dj := 96) rfl rfl ?_
                refine St.p rfl rfl ?_
                refine St.gOn (dj := 96) rfl rfl ?_
                refine St.p rfl rfl ?_
                refine St.gOn (dj := 96) rfl rfl ?_
                refine St.p rfl rfl ?_
                refine St.gOn (dj := 96) rfl rfl ?_
                refine St.p rfl rfl ?_
                refine St.gOn (dj := 96) rfl rfl ?_
                refine St.p rfl rfl ?_
                refine St.gOn (dj := 96) rfl rfl ?_
                refine St.p rfl rfl ?_
                refine St.gOn (dj := 96) rfl rfl ?_
                refine St.p rfl rfl ?_
                refine St.gOn (dj := 96) rfl rfl ?_
                iterate 3 refine St.p rfl rfl ?_
                refine St.gSplit (dj := 106) _ rfl (fun hb13 => ?_) (fun hb13 => ?_)
                · replace hj2 := bif_t hb13 hj2
                  refine St.gOn (dj := 106) rfl rfl ?_
                  refine St.p rfl rfl ?_
                  refine St.gOn (dj := 106) rfl rfl ?_
                  refine St.p rfl rfl ?_
                  refine St.gOn (dj := 106) rfl rfl ?_
                  refine St.p rfl rfl ?_
                  refine St.gOn (dj := 106) rfl rfl ?_
                  iterate 3 refine St.p rfl rfl ?_
                  refine St.gSplit (dj := 112) _ rfl (fun hb14 => ?_) (fun hb14 => ?_)
                  · replace hj2 := bif_t hb14 hj2
                    refine St.gOn (dj := 112) rfl rfl ?_
                    refine St.p rfl rfl ?_
                    refine St.gOn (dj := 112) rfl rfl ?_
                    refine St.p rfl rfl ?_
                    refine St.gOn (dj := 112) rfl rfl ?_
                    refine St.p rfl rfl ?_
                    refine St.gOn (dj := 112) rfl rfl ?_
                    iterate 3 refine St.p rfl rfl ?_
                    refine St.gSplit (dj := 118) _ rfl (fun hb15 => ?_) (fun hb15 => ?_)
                    · replace hj2 := bif_t hb15 hj2
                      refine St.gOn (dj := 118) rfl rfl ?_
                      obtain ⟨r10, hr10, hj2⟩ := bnd_e hj2
                      refine St.callV (c_law02_awake hr10) ent14 rfl rfl rfl rfl trivial ?_
                      refine St.p rfl rfl ?_
                      refine St.p rfl rfl ?_
                      refine St.done ?_
                      injection hj2 with hj2
                      subst hj2
                      refine St.thenN ?_
                      exact St.hereE () ⟨rfl, trivial⟩ (fun _ w => ((.d (.d (.d .z))) : Keep _ _).sat w)
                    · replace hj2 := bif_f hb15 hj2
                      refine St.gOff (dj := 118) rfl rfl rfl rfl ?_
                      refine St.p rfl rfl ?_
                      refine St.p rfl rfl ?_
                      refine St.done ?_
                      injection hj2 with hj2
                      subst hj2
                      refine St.thenN ?_
                      exact St.hereE () ⟨rfl, trivial⟩ (fun _ w => ((.d (.d (.d .z))) : Keep _ _).sat w)
                  · replace hj2 := bif_f hb14 hj2
                    refine St.gOff (dj := 112) rfl rfl rfl rfl ?_
                    refine St.gOff (dj := 112) rfl rfl rfl rfl ?_
                    refine St.gOff (dj := 112) rfl rfl rfl rfl ?_
                    refine St.gOff (dj := 112) rfl rfl rfl rfl ?_
                    refine St.p rfl rfl ?_
                    refine St.p rfl rfl ?_
                    refine St.gOff (dj := 118) rfl rfl rfl rfl ?_
                    refine St.p rfl rfl ?_
                    refine St.p rfl rfl ?_
                    refine St.done ?_
                    injection hj2 with hj2
                    subst hj2
                    refine St.thenN ?_
                    exact St.hereE () ⟨rfl, trivial⟩ (fun _ w => ((.d (.d (.d .z))) : Keep _ _).sat w)
                · replace hj2 := bif_f hb13 hj2
                  refine St.gOff (dj := 106) rfl rfl rfl rfl ?_
                  refine St.gOff (dj := 106) rfl rfl rfl rfl ?_
                  refine St.gOff (dj := 106) rfl rfl rfl rfl ?_
                  refine St.gOff (dj := 106) rfl rfl rfl rfl ?_
                  refine St.p rfl rfl ?_
                  refine St.p rfl rfl ?_
                  refine St.gOff (dj := 112) rfl rfl rfl rfl ?_
                  refine St.gOff (dj := 112) rfl rfl rfl rfl ?_
                  refine St.gOff (dj := 112) rfl rfl rfl rfl ?_
                  refine St.gOff (dj := 112) rfl rfl rfl rfl ?_
                  refine St.p rfl rfl ?_
                  refine St.p rfl rfl ?_
                  refine St.gOff (dj := 118) rfl rfl rfl rfl ?_
                  refine St.p rfl rfl ?_
                  refine St.p rfl rfl ?_
                  refine St.done ?_
                  injection hj2 with hj2
                  subst hj2
                  refine St.thenN ?_
                  exact St.hereE () ⟨rfl, trivial⟩ (fun _ w => ((.d (.d (.d .z))) : Keep _ _).sat w)
              · replace hj2 := bif_f hb12 hj2
                refine St.gOff (dj := 96) rfl rfl rfl rfl ?_
                refine St.gOff (dj := 96) rfl rfl rfl rfl ?_
                refine St.gOff (dj := 96) rfl rfl rfl rfl ?_
                refine St.gOff (dj := 96) rfl rfl rfl rfl ?_
                refine St.gOff (dj := 96) rfl rfl rfl rfl ?_
                refine St.gOff (dj := 96) rfl rfl rfl rfl ?_
                refine St.gOff (dj := 96) rfl rfl rfl rfl ?_
                refine St.gOff (dj := 96) rfl rfl rfl rfl ?_
                refine St.p rfl rfl ?_
                refine St.p rfl rfl ?_
                refine St.gOff (dj := 106) rfl rfl rfl rfl ?_
                refine St.gOff (dj := 106) rfl rfl rfl rfl ?_
                refine St.gOff (dj := 106) rfl rfl rfl rfl ?_
                refine St.gOff (dj := 106) rfl rfl rfl rfl ?_
                refine St.p rfl rfl ?_
                refine St.p rfl rfl ?_
                refine St.gOff (dj := 112) rfl rfl rfl rfl ?_
                refine St.gOff (dj := 112) rfl rfl rfl rfl ?_
                refine St.gOff (dj := 112) rfl rfl rfl rfl ?_
                refine St.gOff (dj := 112) rfl rfl rfl rfl ?_
                refine St.p rfl rfl ?_
                refine St.p rfl rfl ?_
                refine St.gOff (dj := 118) rfl rfl rfl rfl ?_
                refine St.p rfl rfl ?_
                refine St.p rfl rfl ?_
                refine St.done ?_
                injection hj2 with hj2
                subst hj2
                refine St.thenN ?_
                exact St.hereE () ⟨rfl, trivial⟩ (fun _ w => ((.d (.d (.d .z))) : Keep _ _).sat w)
            · replace hj2 := bif_f hb11 hj2
              refine St.gOff (dj := 92) rfl rfl rfl rfl ?_
              refine St.gOff (dj := 92) rfl rfl rfl rfl ?_
              refine St.p rfl rfl ?_
              refine St.p rfl rfl ?_
              refine St.gOff (dj := 96) rfl rfl rfl rfl ?_
              refine St.gOff (dj := 96) rfl rfl rfl rfl ?_
              refine St.gOff (dj := 96) rfl rfl rfl rfl ?_
              refine St.gOff (dj := 96) rfl rfl rfl rfl ?_
              refine St.gOff (dj := 96) rfl rfl rfl rfl ?_
              refine St.gOff (dj := 96) rfl rfl rfl rfl ?_
              refine St.gOff (dj := 96) rfl rfl rfl rfl ?_
              refine St.gOff (dj := 96) rfl rfl rfl rfl ?_
              refine St.p rfl rfl ?_
              refine St.p rfl rfl ?_
              refine St.gOff (dj := 106) rfl rfl rfl rfl ?_
              refine St.gOff (dj := 106) rfl rfl rfl rfl ?_
              refine St.gOff (dj := 106) rfl rfl rfl rfl ?_
              refine St.gOff (dj := 106) rfl rfl rfl rfl ?_
              refine St.p rfl rfl ?_
              refine St.p rfl rfl ?_
              refine St.gOff (dj := 112) rfl rfl rfl rfl ?_
              refine St.gOff (dj := 112) rfl rfl rfl rfl ?_
              refine St.gOff (dj := 112) rfl rfl rfl rfl ?_
              refine St.gOff (dj := 112) rfl rfl rfl rfl ?_
              refine St.p rfl rfl ?_
              refine St.p rfl rfl ?_
              refine St.gOff (dj := 118) rfl rfl rfl rfl ?_
              refine St.p rfl rfl ?_
              refine St.p rfl rfl ?_
              refine St.done ?_
              injection hj2 with hj2
              subst hj2
              refine St.thenN ?_
              exact St.hereE () ⟨rfl, trivial⟩ (fun _ w => ((.d (.d (.d .z))) : Keep _ _).sat w)
          · replace hj2 := bif_f hb10 hj2
            refine St.gOff (dj := 88) rfl rfl rfl rfl ?_
            refine St.gOff (dj := 88) rfl rfl rfl rfl ?_
            refine St.p rfl rfl ?_
            refine St.p rfl rfl ?_
            refine St.gOff (dj := 92) rfl rfl rfl rfl ?_
            refine St.gOff (dj := 92) rfl rfl rfl rfl ?_
            refine St.p rfl rfl ?_
            refine St.p rfl rfl ?_
            refine St.gOff (dj := 96) rfl rfl rfl rfl ?_
            refine St.gOff (dj := 96) rfl rfl rfl rfl ?_
            refine St.gOff (dj := 96) rfl rfl rfl rfl ?_
            refine St.gOff (dj := 96) rfl rfl rfl rfl ?_
            refine St.gOff (dj := 96) rfl rfl rfl rfl ?_
            refine St.gOff (dj := 96) rfl rfl rfl rfl ?_
            refine St.gOff (dj := 96) rfl rfl rfl rfl ?_
            refine St.gOff (dj := 96) rfl rfl rfl rfl ?_
            refine St.p rfl rfl ?_
            refine St.p rfl rfl ?_
            refine St.gOff (dj := 106) rfl rfl rfl rfl ?_
            refine St.gOff (dj := 106) rfl rfl rfl rfl ?_
            refine St.gOff (dj := 106) rfl rfl rfl rfl ?_
            refine St.gOff (dj := 106) rfl rfl rfl rfl ?_
            refine St.p rfl rfl ?_
            refine St.p rfl rfl ?_
            refine St.gOff (dj := 112) rfl rfl rfl rfl ?_
            refine St.gOff (dj := 112) rfl rfl rfl rfl ?_
            refine St.gOff (dj := 112) rfl rfl rfl rfl ?_
            refine St.gOff (dj := 112) rfl rfl rfl rfl ?_
            refine St.p rfl rfl ?_
            refine St.p rfl rfl ?_
            refine St.gOff (dj := 118) rfl rfl rfl rfl ?_
            refine St.p rfl rfl ?_
            refine St.p rfl rfl ?_
            refine St.done ?_
            injection hj2 with hj2
            subst hj2
            refine St.thenN ?_
            exact St.hereE () ⟨rfl, trivial⟩ (fun _ w => ((.d (.d (.d .z))) : Keep _ _).sat w)
        · rintro e4
          refine St.ret ?_
          repeat (first | refine St.thenR ?_ | refine St.blkR ?_)
          injection h with h
          subst h
          exact St.finR Tryd.results12 (.tmp rfl .nil) rfl [] ⟨rfl, rfl⟩ (fun _ w => (.z : Keep _ _).sat w)

end Go.Proofs.YtfddmgagikeieaaDoor
