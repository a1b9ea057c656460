/-
  Models of functions of the program, and that the functions compute them.
  Conditions: none.
-/
import Derived.Test.YtfddmgagikeieaaDoorGen
namespace Go.Proofs.YtfddmgagikeieaaDoor
open Go
set_option linter.unusedVariables false
set_option maxRecDepth 4000

theorem ent35 : Ent Tryd.prog 35 := ⟨_, Tryd.func35, by kernel_rfl, by kernel_rfl⟩

noncomputable def m_made_Dice_Fields (d_p0 : T_Dice) (least : Int) : Option (T_Dice × (List T_Field)) :=
  bnd (m_made_Dice_Next d_p0 3) fun r1 => bnd ((bnd (m_made_Dice_Bool r1.1 10) fun r2 => bif r2.2 then (some (16, r2.1.L, r2.1.At)) else (some (IntKind.wrap .i64 (least + r1.2), r2.1.L, r2.1.At)) : Option (Int × List Int × Int))) fun o1 => bnd (loopM (τ := List T_Field × List Int × Int) (fun (s1 : List T_Field × Int × List Int × Int) => bif decide (s1.2.1 < (min o1.1 16)) then (bnd (m_made_Dice_Field (⟨s1.2.2.1, s1.2.2.2⟩ : T_Dice)) fun r3 => bnd (app 24 s1.1 [r3.2]) fun l1 => some (.next (l1, IntKind.wrap .i64 (s1.2.1 + 1), r3.1.L, r3.1.At))) else (some (.done (s1.1, s1.2.2.1, s1.2.2.2)))) ([], 0, o1.2.1, o1.2.2)) fun o2 => some ((⟨o2.2.1, o2.2.2⟩ : T_Dice), o2.1)

theorem c_made_Dice_Fields {d_p0 : T_Dice} {least : Int} {A1 : Option Addr} {c1 : Nat} {gb1 : Nat} {r : (T_Dice × (List T_Field))} (h : m_made_Dice_Fields d_p0 least = some r) :
    Fun Tryd.prog 35 [.pointer (some ⟨gb1, 0, none⟩), .int .i64 least] [.ro (SlL ei64 A1 c1 d_p0.L), .res (Box gb1 58 [.slice A1 d_p0.L.length c1, .int .i64 d_p0.At])] (fun v_ F_ => ∃ (A1 : Option Addr) (c1 : Nat) (A2 : Option Addr) (c2 : Nat), v_ = .slice A2 r.2.length c2 ∧ F_ = [.ro (SlL ei64 A1 c1 r.1.L), .res (Box gb1 58 [.slice A1 r.1.L.length c1, .int .i64 r.1.At]), .res (OwnL e_Field 23 A2 c2 r.2)]) := by
  unfold m_made_Dice_Fields at h
  refine Fun.intro Tryd.func35 rfl rfl rfl fun w R => ?_
  refine St.seq ?_
  refine St.region ?_
  refine St.p rfl rfl ?_
  refine St.done ?_
  refine St.thenN ?_
  refine St.prune (Γ' := [(0, _), (1, _)]) ⟨rfl, rfl, trivial⟩ (.k (.k .z)) ?_
  refine St.seq ?_
  refine St.region ?_
  refine St.p rfl rfl ?_
  refine St.p rfl rfl ?_
  obtain ⟨r1, hr1, h⟩ := bnd_e h
  refine St.call (c_made_Dice_Next hr1) ent36 rfl rfl rfl (fun _ w => Sat.dup (G := [.ro (SlL ei64 A1 c1 d_p0.L)]) rfl ⟨(.tail _ (.head _)), trivial⟩ (w.front (.s .z))) ?_
  rintro _ _ ⟨A2, c2, rfl, rfl⟩
  refine St.asrt (F' := .ro (SlL ei64 A2 c2 r1.1.L) :: .res (Box gb1 58 [.slice A2 r1.1.L.length c2, .int .i64 r1.1.At]) :: .ro (SlL ei64 A1 c1 d_p0.L) :: R) (fun _ w => w) ?_
  refine St.p rfl rfl ?_
  refine St.p rfl rfl ?_
  refine St.done ?_
  refine St.thenN ?_
  refine St.prune (Γ' := [(0, _), (5, _)]) ⟨rfl, rfl, trivial⟩ (.k (.k (.d .z))) ?_
  refine St.seq ?_
  obtain ⟨o1, hj1, h⟩ := bnd_e h
  refine St.cutE (fun (e1 : Option Addr × Nat) => [(0, .pointer (some ⟨gb1, 0, none⟩)), (5, .int .i64 o1.1)]) (fun e1 => .ro (SlL ei64 e1.1 e1.2 o1.2.1) :: .res (Box gb1 58 [.slice e1.1 o1.2.1.length e1.2, .int .i64 o1.2.2]) :: R) ?_ ?_
  · refine St.seq ?_
    refine St.region ?_
    refine St.p rfl rfl ?_
    obtain ⟨r2, hr2, hj1⟩ := bnd_e hj1
    refine St.call (c_made_Dice_Bool hr2) ent47 rfl rfl rfl (fun _ w => Sat.dup (G := [.ro (SlL ei64 A2 c2 r1.1.L)]) rfl ⟨(.tail _ (.head _)), trivial⟩ (w.front (.s .z))) ?_
    rintro _ _ ⟨A4, c4, rfl, rfl⟩
    refine St.asrt (F' := .ro (SlL ei64 A4 c4 r2.1.L) :: .res (Box gb1 58 [.slice A4 r2.1.L.length c4, .int .i64 r2.1.At]) :: .ro (SlL ei64 A2 c2 r1.1.L) :: R) (fun _ w => w) ?_
    refine St.done ?_
    refine St.thenN ?_
    refine St.prune (Γ' := [(0, _), (5, _), (13, _)]) ⟨rfl, rfl, rfl, trivial⟩ (.k (.k (.d .z))) ?_
    refine St.cond _ rfl (fun hb1 => ?_) (fun hb1 => ?_)
    · replace hj1 := bif_t hb1 hj1
      refine St.region ?_
      refine St.p rfl rfl ?_
      refine St.done ?_
      injection hj1 with hj1
      subst hj1
      refine St.thenN ?_
      exact St.hereE (A4, c4) ⟨rfl, rfl, trivial⟩ (fun _ w => ((.k (.k .z)) : Keep _ _).sat w)
    · replace hj1 := bif_f hb1 hj1
      refine St.skip ?_
      injection hj1 with hj1
      subst hj1
      refine St.thenN ?_
      exact St.hereE (A4, c4) ⟨rfl, rfl, trivial⟩ (fun _ w => ((.k (.k .z)) : Keep _ _).sat w)
  · rintro ⟨A3, c3⟩
    refine St.seq ?_
    refine St.region ?_
    refine St.p rfl rfl ?_
    refine St.done ?_
    refine St.thenN ?_
    refine St.seq ?_
    refine St.seq ?_
    refine St.region ?_
    refine St.p rfl rfl ?_
    refine St.done ?_
    refine St.thenN ?_
    refine St.asrt (fun _ w => w.nilL e_Field 23) ?_
    obtain ⟨o2, hl1, h⟩ := bnd_e h
    refine St.cutE (fun (e3 : Option Addr × Nat × Option Addr × Nat) => [(6, .slice e3.1 o2.1.length e3.2.1)]) (fun e3 => .ro (SlL ei64 e3.2.2.1 e3.2.2.2 o2.2.1) :: .res (OwnL e_Field 23 e3.1 e3.2.1 o2.1) :: .res (Box gb1 58 [.slice e3.2.2.1 o2.2.1.length e3.2.2.2, .int .i64 o2.2.2]) :: R) ?_ ?_
    · refine St.block ?_
      refine St.loop hl1 (fun (s1 : List T_Field × Int × List Int × Int) (e2 : Option Addr × Nat × Option Addr × Nat) => [(0, .pointer (some ⟨gb1, 0, none⟩)), (5, .int .i64 o1.1), (6, .slice e2.1 s1.1.length e2.2.1), (7, .int .i64 s1.2.1)]) (fun s1 e2 => .ro (SlL ei64 e2.2.2.1 e2.2.2.2 s1.2.2.1) :: .res (OwnL e_Field 23 e2.1 e2.2.1 s1.1) :: .res (Box gb1 58 [.slice e2.2.2.1 s1.2.2.1.length e2.2.2.2, .int .i64 s1.2.2.2]) :: R) (fun _ _ => True) (none, 0, A3, c3) trivial ⟨rfl, rfl, rfl, rfl, trivial⟩ (fun _ w => ((.k (.k (.k .z))) : Keep _ _).sat (((w.front (.s (.s .z))).front (.s .z)).front (.s (.s .z)))) ?_
      rintro s1 ⟨A5, c5, A6, c6⟩ - hit1
      obtain ⟨st1, hm1, hd1⟩ := iter_e hit1
      have h1 := hm1
      refine St.seq ?_
      refine St.seq ?_
      refine St.region ?_
      iterate 4 refine St.p rfl rfl ?_
      refine St.done ?_
      refine St.thenN ?_
      refine St.prune (Γ' := [(0, _), (5, _), (6, _), (7, _), (17, _)]) ⟨rfl, rfl, rfl, rfl, rfl, trivial⟩ (.k (.k (.k .z))) ?_
      refine St.cond _ rfl (fun hb2 => ?_) (fun hb2 => ?_)
      · replace h1 := bif_t hb2 h1
        refine St.skip ?_
        refine St.thenN ?_
        refine St.prune (Γ' := [(0, _), (5, _), (6, _), (7, _)]) ⟨rfl, rfl, rfl, rfl, trivial⟩ (.k (.k (.k .z))) ?_
        refine St.seq ?_
        refine St.block ?_
        refine St.region ?_
        refine St.p rfl rfl ?_
        refine St.p rfl rfl ?_
        obtain ⟨r3, hr3, h1⟩ := bnd_e h1
        refine St.call (c_made_Dice_Field hr3) ent29 rfl rfl rfl (fun _ w => Sat.dup (G := [.ro (SlL ei64 A6 c6 s1.2.2.1)]) rfl ⟨(.tail _ (.head _)), trivial⟩ (w.front (.s (.s .z)))) ?_
        rintro _ _ ⟨A9, c9, rfl, rfl⟩
        refine St.asrt (F' := .ro (SlL ei64 A9 c9 r3.1.L) :: .res (Box gb1 58 [.slice A9 r3.1.L.length c9, .int .i64 r3.1.At]) :: .ro (SlL ei64 A6 c6 s1.2.2.1) :: .res (OwnL e_Field 23 A5 c5 s1.1) :: R) (fun _ w => w) ?_
        refine St.buildSlice rfl rfl rfl rfl rfl rfl rfl rfl fun g1 => ?_
        obtain ⟨l1, hl1, h1⟩ := bnd_e h1
        refine St.app (E := e_Field) hl1 rfl rfl rfl (.s (.s (.s (.s .z)))) rfl rfl rfl rfl rfl rfl rfl rfl (srcB (.head _) rfl rfl) rfl rfl fun A10 c10 => ?_
        refine St.p rfl rfl ?_
        refine St.done ?_
        refine St.blkN ?_
        refine St.thenN ?_
        refine St.prune (Γ' := [(0, _), (5, _), (6, _), (7, _)]) ⟨rfl, rfl, rfl, rfl, trivial⟩ (.k (.d (.k (.k (.d .z))))) ?_
        refine St.region ?_
        iterate 3 refine St.p rfl rfl ?_
        refine St.done ?_
        injection h1 with h1
        subst h1
        refine St.thenN ?_
        exact St.again _ (A10, c10, A9, c9) hm1 trivial ⟨rfl, rfl, rfl, rfl, trivial⟩ (fun _ w => ((.k (.k (.k .z))) : Keep _ _).sat (((w.front (.s (.s .z))).front (.s .z)).front (.s (.s .z))))
      · replace h1 := bif_f hb2 h1
        refine St.exit ?_
        repeat (first | refine St.thenX ?_ | refine St.blkMiss rfl ?_)
        refine St.blkHit ?_
        injection h1 with h1
        subst h1
        have ho := hd1 _ rfl
        subst ho
        refine St.thenN ?_
        exact St.hereE (A5, c5, A6, c6) ⟨rfl, trivial⟩ (fun _ w => ((.k (.k (.k .z))) : Keep _ _).sat w)
    · rintro ⟨A7, c7, A8, c8⟩
      refine St.seq ?_
      refine St.region ?_
      refine St.p rfl rfl ?_
      refine St.p rfl rfl ?_
      refine St.done ?_
      refine St.thenN ?_
      refine St.prune (Γ' := [(4, _)]) ⟨rfl, trivial⟩ (.k (.k (.k .z))) ?_
      refine St.ret ?_
      repeat (first | refine St.thenR ?_ | refine St.blkR ?_)
      injection h with h
      subst h
      exact St.finR Tryd.results35 (.tmp rfl .nil) rfl [.ro (SlL ei64 A8 c8 o2.2.1), .res (Box gb1 58 [.slice A8 o2.2.1.length c8, .int .i64 o2.2.2]), .res (OwnL e_Field 23 A7 c7 o2.1)] ⟨A8, c8, A7, c7, rfl, rfl⟩ (fun _ w => ((.k (.k (.k (.d .z)))) : Keep _ _).sat (Sat.dup (G := [.ro (SlL ei64 A8 c8 o2.2.1)]) rfl ⟨(.tail _ (.tail _ (.head _))), trivial⟩ ((w.front (.s .z)).front (.s (.s .z)))))

theorem ent11 : Ent Tryd.prog 11 := ⟨_, Tryd.func11, by kernel_rfl, by kernel_rfl⟩

noncomputable def m_law02_FieldsListReturns (l_p0 : (List Int)) (rest : (List Int)) (cut : Int) : Option Bool :=
  bnd ((bnd (m_made_Light l_p0) fun r1 => bif !r1 then (some true) else (some (decide ((rest.length : Int) > 100))) : Option Bool)) fun o1 => bif o1 then (bnd (m_law02_awake) fun r2 => some r2) else (bnd (m_made_Roll l_p0) fun r3 => bnd (m_made_Dice_Fields r3 0) fun r4 => bnd (m_fields_EncodeList r4.2) fun r5 => bnd ((bif (r5.2 != 0) then (some true) else (some ((r5.1.length : Int) == 0)) : Option Bool)) fun o2 => bif o2 then (some false) else (bnd (app 1 ([]) r5.1) fun l1 => bnd (app 1 l1 rest) fun l2 => bnd (m_fields_DecodeList l2) fun r6 => bnd (m_made_Mod cut (r5.1.length : Int)) fun r7 => bnd (sub r5.1 0 r7) fun l3 => bnd (m_fields_DecodeList l3) fun r8 => bnd ((bif (r6.2.2 == 0) then (bif (r6.2.1 == (r5.1.length : Int)) then (bnd (m_ref02_SameList r4.2 r6.1) fun r9 => bif r9 then (bif (r8.2.2 == 4) then (bif ((r8.1.length : Int) == 0) then (bnd (m_law02_awake) fun r10 => some r10) else (some false)) else (some false)) else (some false)) else (some false)) else (some false) : Option Bool)) fun o3 => some o3))

set_option maxHeartbeats 4000000 in
theorem c_law02_FieldsListReturns {l_p0 : (List Int)} {rest : (List Int)} {cut : Int} {A1 : Option Addr} {c1 : Nat} {A2 : Option Addr} {c2 : Nat} {r : Bool} (h : m_law02_FieldsListReturns l_p0 rest cut = some r) :
    Fun Tryd.prog 11 [.slice A1 l_p0.length c1, .slice A2 rest.length c2, .int .i64 cut] [.ro (SlL ei64 A1 c1 l_p0), .ro (SlL eu8 A2 c2 rest)] (Val (.bool r)) := by
  unfold m_law02_FieldsListReturns at h
  refine Fun.intro Tryd.func11 rfl rfl rfl fun w R => ?_
  refine St.seq ?_
  refine St.region ?_
  refine St.p rfl rfl ?_
  refine St.done ?_
  refine St.thenN ?_
  refine St.prune (Γ' := [(0, _), (1, _), (2, _)]) ⟨rfl, rfl, rfl, trivial⟩ (.k (.k .z)) ?_
  refine St.seq ?_
  refine St.seq ?_
  obtain ⟨o1, hj1, h⟩ := bnd_e h
  refine St.cutE (fun (e1 : Unit) => [(0, .slice A1 l_p0.length c1), (1, .slice A2 rest.length c2), (2, .int .i64 cut), (23, .bool o1)]) (fun e1 => .ro (SlL ei64 A1 c1 l_p0) :: .ro (SlL eu8 A2 c2 rest) :: R) ?_ ?_
  · refine St.region ?_
    refine St.p rfl rfl ?_
    obtain ⟨r1, hr1, hj1⟩ := bnd_e hj1
    refine St.callV (c_made_Light hr1) ent13 rfl rfl rfl rfl ⟨(.head _), trivial⟩ ?_
    refine St.p rfl rfl ?_
    refine St.p rfl rfl ?_
    refine St.gSplit (dj := 19) _ rfl (fun hb1 => ?_) (fun hb1 => ?_)
    · replace hj1 := bif_t hb1 hj1
      refine St.gOff (dj := 19) rfl rfl rfl rfl ?_
      refine St.gOff (dj := 19) rfl rfl rfl rfl ?_
      refine St.gOff (dj := 19) rfl rfl rfl rfl ?_
      refine St.p rfl rfl ?_
      refine St.done ?_
      injection hj1 with hj1
      subst hj1
      refine St.thenN ?_
      exact St.hereE () ⟨rfl, rfl, rfl, rfl, trivial⟩ (fun _ w => ((.k (.k .z)) : Keep _ _).sat w)
    · replace hj1 := bif_f hb1 hj1
      refine St.gOn (dj := 19) rfl rfl ?_
      refine St.p rfl rfl ?_
      refine St.gOn (dj := 19) rfl rfl ?_
      refine St.p rfl rfl ?_
      refine St.gOn (dj := 19) rfl rfl ?_
      refine St.p rfl rfl ?_
      refine St.p rfl rfl ?_
      refine St.done ?_
      injection hj1 with hj1
      subst hj1
      refine St.thenN ?_
      exact St.hereE () ⟨rfl, rfl, rfl, rfl, trivial⟩ (fun _ w => ((.k (.k .z)) : Keep _ _).sat w)
  · rintro e1
    refine St.cond _ rfl (fun hb2 => ?_) (fun hb2 => ?_)
    · replace h := bif_t hb2 h
      refine St.seq ?_
      refine St.region ?_
      obtain ⟨r2, hr2, h⟩ := bnd_e h
      refine St.callV (c_law02_awake hr2) ent14 rfl rfl rfl rfl trivial ?_
      refine St.p rfl rfl ?_
      refine St.done ?_
      refine St.thenN ?_
      refine St.prune (Γ' := [(6, _)]) ⟨rfl, trivial⟩ (.d (.d .z)) ?_
      refine St.ret ?_
      repeat (first | refine St.thenR ?_ | refine St.blkR ?_)
      injection h with h
      subst h
      exact St.finR Tryd.results11 (.tmp rfl .nil) rfl [] ⟨rfl, rfl⟩ (fun _ w => (.z : Keep _ _).sat w)
    · replace h := bif_f hb2 h
      refine St.skip ?_
      refine St.thenN ?_
      refine St.prune (Γ' := [(0, _), (1, _), (2, _)]) ⟨rfl, rfl, rfl, trivial⟩ (.k (.k .z)) ?_
      refine St.seq ?_
      refine St.region ?_
      refine St.p rfl rfl ?_
      obtain ⟨r3, hr3, h⟩ := bnd_e h
      refine St.call (c_made_Roll hr3) ent15 rfl rfl rfl (fun _ w => Sat.dup (G := [.ro (SlL ei64 A1 c1 l_p0)]) rfl ⟨(.head _), trivial⟩ w) ?_
      rintro _ _ ⟨g1, A3, c3, rfl, rfl⟩
      refine St.asrt (F' := .ro (SlL ei64 A3 c3 r3.L) :: .res (Box g1 58 [.slice A3 r3.L.length c3, .int .i64 r3.At]) :: .ro (SlL ei64 A1 c1 l_p0) :: .ro (SlL eu8 A2 c2 rest) :: R) (fun _ w => w) ?_
      obtain ⟨r4, hr4, h⟩ := bnd_e h
      refine St.call (c_made_Dice_Fields hr4) ent35 rfl rfl rfl (fun _ w => Sat.dup (G := [.ro (SlL ei64 A3 c3 r3.L)]) rfl ⟨(.tail _ (.head _)), trivial⟩ (w.front (.s .z))) ?_
      rintro _ _ ⟨A4, c4, A5, c5, rfl, rfl⟩
      refine St.asrt (F' := .ro (SlL ei64 A4 c4 r4.1.L) :: .res (Box g1 58 [.slice A4 r4.1.L.length c4, .int .i64 r4.1.At]) :: .res (OwnL e_Field 23 A5 c5 r4.2) :: .ro (SlL ei64 A3 c3 r3.L) :: .ro (SlL ei64 A1 c1 l_p0) :: .ro (SlL eu8 A2 c2 rest) :: R) (fun _ w => w) ?_
      refine St.p rfl rfl ?_
      refine St.done ?_
      refine St.thenN ?_
      refine St.prune (Γ' := [(1, _), (2, _), (7, _)]) ⟨rfl, rfl, rfl, trivial⟩ (.d (.d (.k (.d (.d (.k .z)))))) ?_
      refine St.seq ?_
      refine St.region ?_
      refine St.p rfl rfl ?_
      refine St.asrt (fun _ w => (w.front .z).meltL) ?_
      obtain ⟨r5, hr5, h⟩ := bnd_e h
      refine St.call (c_fields_EncodeList hr5) ent30 rfl rfl rfl (fun _ w => Sat.dup (G := [.ro (SlL e_Field A5 c5 r4.2)]) rfl ⟨(.head _), trivial⟩ w) ?_
      rintro _ _ ⟨A6, c6, rfl, rfl⟩
      refine St.asrt (F' := .res (OwnL eu8 5 A6 c6 r5.1) :: .ro (SlL e_Field A5 c5 r4.2) :: .ro (SlL eu8 A2 c2 rest) :: R) (fun _ w => w) ?_
      iterate 5 refine St.p rfl rfl ?_
      refine St.done ?_
      refine St.thenN ?_
      refine St.prune (Γ' := [(1, _), (2, _), (7, _), (8, _), (9, _)]) ⟨rfl, rfl, rfl, rfl, rfl, trivial⟩ (.k (.k (.k .z))) ?_
      refine St.seq ?_
      refine St.seq ?_
      obtain ⟨o2, hj2, h⟩ := bnd_e h
      refine St.cutE (fun (e2 : Unit) => [(1, .slice A2 rest.length c2), (2, .int .i64 cut), (7, .slice A5 r4.2.length c5), (8, .slice A6 r5.1.length c6), (39, .bool o2)]) (fun e2 => .res (OwnL eu8 5 A6 c6 r5.1) :: .ro (SlL e_Field A5 c5 r4.2) :: .ro (SlL eu8 A2 c2 rest) :: R) ?_ ?_
      · refine St.region ?_
        iterate 3 refine St.p rfl rfl ?_
        refine St.gSplit (dj := 35) _ rfl (fun hb3 => ?_) (fun hb3 => ?_)
        · replace hj2 := bif_t hb3 hj2
          refine St.gOff (dj := 35) rfl rfl rfl rfl ?_
          refine St.gOff (dj := 35) rfl rfl rfl rfl ?_
          refine St.gOff (dj := 35) rfl rfl rfl rfl ?_
          refine St.p rfl rfl ?_
          refine St.done ?_
          injection hj2 with hj2
          subst hj2
          refine St.thenN ?_
          exact St.hereE () ⟨rfl, rfl, rfl, rfl, rfl, trivial⟩ (fun _ w => ((.k (.k (.k .z))) : Keep _ _).sat w)
        · replace hj2 := bif_f hb3 hj2
          refine St.gOn (dj := 35) rfl rfl ?_
          refine St.p rfl rfl ?_
          refine St.gOn (dj := 35) rfl rfl ?_
          refine St.p rfl rfl ?_
          refine St.gOn (dj := 35) rfl rfl ?_
          refine St.p rfl rfl ?_
          refine St.p rfl rfl ?_
          refine St.done ?_
          injection hj2 with hj2
          subst hj2
          refine St.thenN ?_
          exact St.hereE () ⟨rfl, rfl, rfl, rfl, rfl, trivial⟩ (fun _ w => ((.k (.k (.k .z))) : Keep _ _).sat w)
      · rintro e2
        refine St.cond _ rfl (fun hb4 => ?_) (fun hb4 => ?_)
        · replace h := bif_t hb4 h
          refine St.seq ?_
          refine St.region ?_
          refine St.p rfl rfl ?_
          refine St.done ?_
          refine St.thenN ?_
          refine St.prune (Γ' := [(6, _)]) ⟨rfl, trivial⟩ (.d (.d (.d .z))) ?_
          refine St.ret ?_
          repeat (first | refine St.thenR ?_ | refine St.blkR ?_)
          injection h with h
          subst h
          exact St.finR Tryd.results11 (.tmp rfl .nil) rfl [] ⟨rfl, rfl⟩ (fun _ w => (.z : Keep _ _).sat w)
        · replace h := bif_f hb4 h
          refine St.skip ?_
          refine St.thenN ?_
          refine St.prune (Γ' := [(1, _), (2, _), (7, _), (8, _)]) ⟨rfl, rfl, rfl, rfl, trivial⟩ (.k (.k (.k .z))) ?_
          refine St.seq ?_
          refine St.region ?_
          refine St.p rfl rfl ?_
          refine St.asrt (fun _ w => (w.front .z).meltL) ?_
          refine St.asrt (fun _ w => w.nilL eu8 5) ?_
          obtain ⟨l1, hl1, h⟩ := bnd_e h
          refine St.app (E := eu8) hl1 rfl rfl rfl .z rfl rfl rfl rfl rfl rfl rfl rfl (srcL (.tail _ (.head _))) rfl rfl fun A7 c7 => ?_
          refine St.p rfl rfl ?_
          obtain ⟨l2, hl2, h⟩ := bnd_e h
          refine St.app (E := eu8) hl2 rfl rfl rfl .z rfl rfl rfl rfl rfl rfl rfl rfl (srcL (.tail _ (.tail _ (.tail _ (.head _))))) rfl rfl fun A8 c8 => ?_
          refine St.asrt (fun _ w => (w.front .z).meltL) ?_
          obtain ⟨r6, hr6, h⟩ := bnd_e h
          refine St.call (c_fields_DecodeList hr6) ent32 rfl rfl rfl (fun _ w => Sat.dup (G := [.ro (SlL eu8 A8 c8 l2)]) rfl ⟨(.head _), trivial⟩ w) ?_
          rintro _ _ ⟨A9, c9, rfl, rfl⟩
          refine St.asrt (F' := .res (OwnL e_Field 23 A9 c9 r6.1) :: .ro (SlL eu8 A8 c8 l2) :: .ro (SlL eu8 A6 c6 r5.1) :: .ro (SlL e_Field A5 c5 r4.2) :: .ro (SlL eu8 A2 c2 rest) :: R) (fun _ w => w) ?_
          iterate 7 refine St.p rfl rfl ?_
          refine St.done ?_
          refine St.thenN ?_
          refine St.prune (Γ' := [(2, _), (7, _), (8, _), (10, _), (11, _), (12, _)]) ⟨rfl, rfl, rfl, rfl, rfl, rfl, trivial⟩ (.k (.d (.k (.k (.d .z))))) ?_
          refine St.seq ?_
          refine St.region ?_
          iterate 4 refine St.p rfl rfl ?_
          obtain ⟨r7, hr7, h⟩ := bnd_e h
          refine St.callV (c_made_Mod hr7) ent25 rfl rfl rfl rfl trivial ?_
          obtain ⟨l3, hl3, h⟩ := bnd_e h
          refine St.sub (E := (cod eu8)) rfl rfl (.tail _ (.head _)) rfl rfl rfl rfl rfl rfl rfl hl3 fun A10 c10 => ?_
          obtain ⟨r8, hr8, h⟩ := bnd_e h
          refine St.call (c_fields_DecodeList hr8) ent32 rfl rfl rfl (fun _ w => Sat.dup (G := [.ro (SlL eu8 A10 c10 l3)]) rfl ⟨(.head _), trivial⟩ w) ?_
          rintro _ _ ⟨A11, c11, rfl, rfl⟩
          refine St.asrt (F' := .res (OwnL e_Field 23 A11 c11 r8.1) :: .ro (SlL eu8 A10 c10 l3) :: .res (OwnL e_Field 23 A9 c9 r6.1) :: .ro (SlL eu8 A6 c6 r5.1) :: .ro (SlL e_Field A5 c5 r4.2) :: R) (fun _ w => w) ?_
          iterate 7 refine St.p rfl rfl ?_
          refine St.done ?_
          refine St.thenN ?_
          refine St.prune (Γ' := [(7, _), (8, _), (10, _), (11, _), (12, _), (13, _), (15, _)]) ⟨rfl, rfl, rfl, rfl, rfl, rfl, rfl, trivial⟩ (.k (.d (.k (.k (.k .z))))) ?_
          refine St.seq ?_
          obtain ⟨o3, hj3, h⟩ := bnd_e h
          refine St.cutE (fun (e3 : Unit) => [(6, .bool o3)]) (fun e3 => R) ?_ ?_
          · refine St.region ?_
            iterate 3 refine St.p rfl rfl ?_
            refine St.gSplit (dj := 62) _ rfl (fun hb5 => ?_) (fun hb5 => ?_)
            · replace hj3 := bif_t hb5 hj3
              refine St.gOn (dj := 62) rfl rfl ?_
              refine St.p rfl rfl ?_
              refine St.gOn (dj := 62) rfl rfl ?_
              refine St.p rfl rfl ?_
              refine St.gOn (dj := 62) rfl rfl ?_
              refine St.p rfl rfl ?_
              refine St.gOn (dj := 62) rfl rfl ?_
              iterate 3 refine St.p rfl rfl ?_
              refine St.gSplit (dj := 68) _ rfl (fun hb6 => ?_) (fun hb6 => ?_)
              · replace hj3 := bif_t hb6 hj3
                refine St.gOn (dj := 68) rfl rfl ?_
                refine St.p rfl rfl ?_
                refine St.gOn (dj := 68) rfl rfl ?_
                refine St.p rfl rfl ?_
                refine St.gOn (dj := 68) rfl rfl ?_
                refine St.asrt (fun _ w => (w.front (.s .z)).meltL) ?_
                obtain ⟨r9, hr9, hj3⟩ := bnd_e hj3
                refine St.callV (c_ref02_SameList hr9) ent34 rfl rfl rfl rfl ⟨(.tail _ (.tail _ (.tail _ (.head _)))), (.head _), trivial⟩ ?_
                refine St.p rfl rfl ?_
                refine St.p rfl rfl ?_
                refine St.gSplit (dj := 73) _ rfl (fun hb7 => ?_) (fun hb7 => ?_)
                · replace hj3 := bif_t hb7 hj3
                  refine St.gOn (dj := 73) rfl rfl ?_
                  refine St.p rfl rfl ?_
                  refine St.gOn (dj := 73) rfl rfl ?_
                  iterate 3 refine St.p rfl rfl ?_
                  refine St.gSplit (dj := 77) _ rfl (fun hb8 => ?_) (fun hb8 => ?_)
                  · replace hj3 := bif_t hb8 hj3
                    refine St.gOn (dj := 77) rfl rfl ?_
                    refine St.p rfl rfl ?_
                    refine St.gOn (dj := 77) rfl rfl ?_
                    refine St.p rfl rfl ?_
                    refine St.gOn (dj := 77) rfl rfl ?_
                    iterate 3 refine St.p rfl rfl ?_
                    refine St.gSplit (dj := 82) _ rfl (fun hb9 => ?_) (fun hb9 => ?_)
                    · replace hj3 := bif_t hb9 hj3
                      refine St.gOn (dj := 82) rfl rfl ?_
                      obtain ⟨r10, hr10, hj3⟩ := bnd_e hj3
                      refine St.callV (c_law02_awake hr10) ent14 rfl rfl rfl rfl trivial ?_
                      refine St.p rfl rfl ?_
                      refine St.p rfl rfl ?_
                      refine St.done ?_
                      injection hj3 with hj3
                      subst hj3
                      refine St.thenN ?_
                      exact St.hereE () ⟨rfl, trivial⟩ (fun _ w => ((.d (.d (.d (.d .z)))) : Keep _ _).sat w)
                    · replace hj3 := bif_f hb9 hj3
                      refine St.gOff (dj := 82) rfl rfl rfl rfl ?_
                      refine St.p rfl rfl ?_
                      refine St.p rfl rfl ?_
                      refine St.done ?_
                      injection hj3 with hj3
                      subst hj3
                      refine St.thenN ?_
                      exact St.hereE () ⟨rfl, trivial⟩ (fun _ w => ((.d (.d (.d (.d .z)))) : Keep _ _).sat w)
                  · replace hj3 := bif_f hb8 hj3
                    refine St.gOff (dj := 77) rfl rfl rfl rfl ?_
                    refine St.gOff (dj := 77) rfl rfl rfl rfl ?_
                    refine St.gOff (dj := 77) rfl rfl rfl rfl ?_
                    refine St.p rfl rfl ?_
                    refine St.p rfl rfl ?_
                    refine St.gOff (dj := 82) rfl rfl rfl rfl ?_
                    refine St.p rfl rfl ?_
                    refine St.p rfl rfl ?_
                    refine St.done ?_
                    injection hj3 with hj3
                    subst hj3
                    refine St.thenN ?_
                    exact St.hereE () ⟨rfl, trivial⟩ (fun _ w => ((.d (.d (.d (.d .z)))) : Keep _ _).sat w)
                · replace hj3 := bif_f hb7 hj3
                  refine St.gOff (dj := 73) rfl rfl rfl rfl ?_
                  refine St.gOff (dj := 73) rfl rfl rfl rfl ?_
                  refine St.p rfl rfl ?_
                  refine St.p rfl rfl ?_
                  refine St.gOff (dj := 77) rfl rfl rfl rfl ?_
                  refine St.gOff (dj := 77) rfl rfl rfl rfl ?_
                  refine St.gOff (dj := 77) rfl rfl rfl rfl ?_
                  refine St.p rfl rfl ?_
                  refine St.p rfl rfl ?_
                  refine St.gOff (dj := 82) rfl rfl rfl rfl ?_
                  refine St.p rfl rfl ?_
                  refine St.p rfl rfl ?_
                  refine St.done ?_
                  injection hj3 with hj3
                  subst hj3
                  refine St.thenN ?_
                  exact St.hereE () ⟨rfl, trivial⟩ (fun _ w => ((.d (.d (.d (.d .z)))) : Keep _ _).sat w)
              · replace hj3 := bif_f hb6 hj3
                refine St.gOff (dj := 68) rfl rfl rfl rfl ?_
                refine St.gOff (dj := 68) rfl rfl rfl rfl ?_
                refine St.gOff (dj := 68) rfl rfl rfl rfl ?_
                refine St.p rfl rfl ?_
                refine St.p rfl rfl ?_
                refine St.gOff (dj := 73) rfl rfl rfl rfl ?_
                refine St.gOff (dj := 73) rfl rfl rfl rfl ?_
                refine St.p rfl rfl ?_
                refine St.p rfl rfl ?_
                refine St.gOff (dj := 77) rfl rfl rfl rfl ?_
                refine St.gOff (dj := 77) rfl rfl rfl rfl ?_
                refine St.gOff (dj := 77) rfl rfl rfl rfl ?_
                refine St.p rfl rfl ?_
                refine St.p rfl rfl ?_
                refine St.gOff (dj := 82) rfl rfl rfl rfl ?_
                refine St.p rfl rfl ?_
                refine St.p rfl rfl ?_
                refine St.done ?_
                injection hj3 with hj3
                subst hj3
                refine St.thenN ?_
                exact St.hereE () ⟨rfl, trivial⟩ (fun _ w => ((.d (.d (.d (.d .z)))) : Keep _ _).sat w)
            · replace hj3 := bif_f hb5 hj3
              refine St.gOff (dj := 62) rfl rfl rfl rfl ?_
              refine St.gOff (dj := 62) rfl rfl rfl rfl ?_
              refine St.gOff (dj := 62) rfl rfl rfl rfl ?_
              refine St.gOff (dj := 62) rfl rfl rfl rfl ?_
              refine St.p rfl rfl ?_
              refine St.p rfl rfl ?_
              refine St.gOff (dj := 68) rfl rfl rfl rfl ?_
              refine St.gOff (dj := 68) rfl rfl rfl rfl ?_
              refine St.gOff (dj := 68) rfl rfl rfl rfl ?_
              refine St.p rfl rfl ?_
              refine St.p rfl rfl ?_
              refine St.gOff (dj := 73) rfl rfl rfl rfl ?_
              refine St.gOff (dj := 73) rfl rfl rfl rfl ?_
              refine St.p rfl rfl ?_
              refine St.p rfl rfl ?_
              refine St.gOff (dj := 77) rfl rfl rfl rfl ?_
              refine St.gOff (dj := 77) rfl rfl rfl rfl ?_
              refine St.gOff (dj := 77) rfl rfl rfl rfl ?_
              refine St.p rfl rfl ?_
              refine St.p rfl rfl ?_
              refine St.gOff (dj := 82) rfl rfl rfl rfl ?_
              refine St.p rfl rfl ?_
              refine St.p rfl rfl ?_
              refine St.done ?_
              injection hj3 with hj3
              subst hj3
              refine St.thenN ?_
              exact St.hereE () ⟨rfl, trivial⟩ (fun _ w => ((.d (.d (.d (.d .z)))) : Keep _ _).sat w)
          · rintro e3
            refine St.ret ?_
            repeat (first | refine St.thenR ?_ | refine St.blkR ?_)
            injection h with h
            subst h
            exact St.finR Tryd.results11 (.tmp rfl .nil) rfl [] ⟨rfl, rfl⟩ (fun _ w => (.z : Keep _ _).sat w)

end Go.Proofs.YtfddmgagikeieaaDoor
