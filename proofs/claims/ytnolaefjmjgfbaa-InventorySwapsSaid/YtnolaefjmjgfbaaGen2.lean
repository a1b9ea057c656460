/-
  Models of functions of the program, and that the functions compute them.
  Conditions: none.
-/
import Derived.Test.YtnolaefjmjgfbaaGen1
namespace Go.Proofs.Ytnolaefjmjgfbaa
open Go
set_option linter.unusedVariables false

noncomputable def m_law19_InventoryCompares (a_p0 : (List T_Known)) (b_p1 : (List T_Known)) (l_p2 : (List Int)) : Option Bool :=
  bnd ((bnd (m_law19_light a_p0) fun r1 => bif !r1 then (some true) else (bnd (m_law19_light b_p1) fun r2 => bif !r2 then (some true) else (bnd (m_made_Light l_p2) fun r3 => some (!r3))) : Option Bool)) fun o1 => bif o1 then (bnd (m_law19_awake) fun r4 => some r4) else (bnd (m_made_Roll l_p2) fun r5 => bnd (m_made_Dice_Inventory r5) fun r6 => bnd (m_made_Dice_Inventory r6.1) fun r7 => bnd (m_inventory_Compare a_p0 b_p1) fun r8 => bnd (m_ref19_Compare a_p0 b_p1) fun r9 => bnd ((bif (r8.2 != r9.2) then (some true) else (bnd (m_ref19_SameDifferences r8.1 r9.1) fun r10 => bif !r10 then (some true) else (bnd (m_inventory_Valid a_p0) fun r11 => bnd (m_ref19_Valid a_p0) fun r12 => bif !(r11 == r12) then (some true) else (bnd (m_inventory_Valid b_p1) fun r13 => bnd (m_ref19_Valid b_p1) fun r14 => some (!(r13 == r14))))) : Option Bool)) fun o2 => bif o2 then (some false) else (bnd (m_inventory_Compare r6.2 r7.2) fun r15 => bnd (m_ref19_Compare r6.2 r7.2) fun r16 => bnd ((bif (r15.2 != r16.2) then (some true) else (bnd (m_ref19_SameDifferences r15.1 r16.1) fun r17 => bif !r17 then (some true) else (bnd (m_inventory_Valid r6.2) fun r18 => bnd (m_ref19_Valid r6.2) fun r19 => bif !(r18 == r19) then (some true) else (bnd (m_inventory_Valid r7.2) fun r20 => bnd (m_ref19_Valid r7.2) fun r21 => some (!(r20 == r21))))) : Option Bool)) fun o3 => bif o3 then (some false) else (bnd (m_inventory_Compare r6.2 a_p0) fun r22 => bnd (m_ref19_Compare r6.2 a_p0) fun r23 => bnd ((bif (r22.2 != r23.2) then (some true) else (bnd (m_ref19_SameDifferences r22.1 r23.1) fun r24 => bif !r24 then (some true) else (bnd (m_inventory_Valid r6.2) fun r25 => bnd (m_ref19_Valid r6.2) fun r26 => bif !(r25 == r26) then (some true) else (bnd (m_inventory_Valid a_p0) fun r27 => bnd (m_ref19_Valid a_p0) fun r28 => some (!(r27 == r28))))) : Option Bool)) fun o4 => bif o4 then (some false) else (bnd (m_law19_awake) fun r29 => some r29))))

theorem c_law19_InventoryCompares {a_p0 : (List T_Known)} {b_p1 : (List T_Known)} {l_p2 : (List Int)} {A1 : Option Addr} {c1 : Nat} {A2 : Option Addr} {c2 : Nat} {A3 : Option Addr} {c3 : Nat} {r : Bool} (h : m_law19_InventoryCompares a_p0 b_p1 l_p2 = some r) :
    Fun Try.prog 3 [.slice A1 a_p0.length c1, .slice A2 b_p1.length c2, .slice A3 l_p2.length c3] [.ro (SlL e_Known A1 c1 a_p0), .ro (SlL e_Known A2 c2 b_p1), .ro (SlL ei64 A3 c3 l_p2)] (Val (.bool r)) := by
  unfold m_law19_InventoryCompares at h
  refine Fun.intro Try.func3 rfl rfl rfl fun w R => ?_
  refine St.seq ?_
  refine St.region ?_
  refine St.p rfl rfl ?_
  refine St.done ?_
  refine St.thenN ?_
  refine St.prune (Γ' := [(0, _), (1, _), (2, _)]) ⟨rfl, rfl, rfl, trivial⟩ (.k (.k (.k .z))) ?_
  refine St.seq ?_
  refine St.seq ?_
  obtain ⟨o1, hj1, h⟩ := bnd_e h
  refine St.cutE (fun (e1 : Unit) => [(0, .slice A1 a_p0.length c1), (1, .slice A2 b_p1.length c2), (2, .slice A3 l_p2.length c3), (28, .bool o1)]) (fun e1 => .ro (SlL e_Known A1 c1 a_p0) :: .ro (SlL e_Known A2 c2 b_p1) :: .ro (SlL ei64 A3 c3 l_p2) :: R) ?_ ?_
  · refine St.region ?_
    refine St.p rfl rfl ?_
    obtain ⟨r1, hr1, hj1⟩ := bnd_e hj1
    refine St.callV (c_law19_light hr1) ent9 rfl rfl rfl rfl ⟨(.head _), trivial⟩ ?_
    refine St.p rfl rfl ?_
    refine St.p rfl rfl ?_
    refine St.gSplit (dj := 19) _ rfl (fun hb1 => ?_) (fun hb1 => ?_)
    · replace hj1 := bif_t hb1 hj1
      refine St.gOff (dj := 19) rfl rfl rfl rfl ?_
      refine St.gOff (dj := 19) rfl rfl rfl rfl ?_
      refine St.gOff (dj := 19) rfl rfl rfl rfl ?_
      refine St.p rfl rfl ?_
      refine St.p rfl rfl ?_
      refine St.gOff (dj := 24) rfl rfl rfl rfl ?_
      refine St.gOff (dj := 24) rfl rfl rfl rfl ?_
      refine St.gOff (dj := 24) rfl rfl rfl rfl ?_
      refine St.p rfl rfl ?_
      refine St.done ?_
      injection hj1 with hj1
      subst hj1
      refine St.thenN ?_
      exact St.hereE () ⟨rfl, rfl, rfl, rfl, trivial⟩ (fun _ w => ((.k (.k (.k .z))) : Keep _ _).sat w)
    · replace hj1 := bif_f hb1 hj1
      refine St.gOn (dj := 19) rfl rfl ?_
      refine St.p rfl rfl ?_
      refine St.gOn (dj := 19) rfl rfl ?_
      obtain ⟨r2, hr2, hj1⟩ := bnd_e hj1
      refine St.callV (c_law19_light hr2) ent9 rfl rfl rfl rfl ⟨(.tail _ (.head _)), trivial⟩ ?_
      refine St.gOn (dj := 19) rfl rfl ?_
      iterate 3 refine St.p rfl rfl ?_
      refine St.gSplit (dj := 24) _ rfl (fun hb2 => ?_) (fun hb2 => ?_)
      · replace hj1 := bif_t hb2 hj1
        refine St.gOff (dj := 24) rfl rfl rfl rfl ?_
        refine St.gOff (dj := 24) rfl rfl rfl rfl ?_
        refine St.gOff (dj := 24) rfl rfl rfl rfl ?_
        refine St.p rfl rfl ?_
        refine St.done ?_
        injection hj1 with hj1
        subst hj1
        refine St.thenN ?_
        exact St.hereE () ⟨rfl, rfl, rfl, rfl, trivial⟩ (fun _ w => ((.k (.k (.k .z))) : Keep _ _).sat w)
      · replace hj1 := bif_f hb2 hj1
        refine St.gOn (dj := 24) rfl rfl ?_
        refine St.p rfl rfl ?_
        refine St.gOn (dj := 24) rfl rfl ?_
        obtain ⟨r3, hr3, hj1⟩ := bnd_e hj1
        refine St.callV (c_made_Light hr3) ent10 rfl rfl rfl rfl ⟨(.tail _ (.tail _ (.head _))), trivial⟩ ?_
        refine St.gOn (dj := 24) rfl rfl ?_
        refine St.p rfl rfl ?_
        refine St.p rfl rfl ?_
        refine St.done ?_
        injection hj1 with hj1
        subst hj1
        refine St.thenN ?_
        exact St.hereE () ⟨rfl, rfl, rfl, rfl, trivial⟩ (fun _ w => ((.k (.k (.k .z))) : Keep _ _).sat w)
  · rintro e1
    refine St.cond _ rfl (fun hb3 => ?_) (fun hb3 => ?_)
    · replace h := bif_t hb3 h
      refine St.seq ?_
      refine St.region ?_
      obtain ⟨r4, hr4, h⟩ := bnd_e h
      refine St.callV (c_law19_awake hr4) ent11 rfl rfl rfl rfl trivial ?_
      refine St.p rfl rfl ?_
      refine St.done ?_
      refine St.thenN ?_
      refine St.prune (Γ' := [(6, _)]) ⟨rfl, trivial⟩ (.d (.d (.d .z))) ?_
      refine St.ret ?_
      repeat (first | refine St.thenR ?_ | refine St.blkR ?_)
      injection h with h
      subst h
      exact St.finR Try.results3 (.tmp rfl .nil) rfl [] ⟨rfl, rfl⟩ (fun _ w => (.z : Keep _ _).sat w)
    · replace h := bif_f hb3 h
      refine St.skip ?_
      refine St.thenN ?_
      refine St.prune (Γ' := [(0, _), (1, _), (2, _)]) ⟨rfl, rfl, rfl, trivial⟩ (.k (.k (.k .z))) ?_
      refine St.seq ?_
      refine St.region ?_
      refine St.p rfl rfl ?_
      obtain ⟨r5, hr5, h⟩ := bnd_e h
      refine St.call (c_made_Roll hr5) ent12 rfl rfl rfl (fun _ w => Sat.dup (G := [.ro (SlL ei64 A3 c3 l_p2)]) rfl ⟨(.tail _ (.tail _ (.head _))), trivial⟩ w) ?_
      rintro _ _ ⟨g1, A4, c4, rfl, rfl⟩
      refine St.asrt (F' := .ro (SlL ei64 A4 c4 r5.L) :: .res (Box g1 73 [.slice A4 r5.L.length c4, .int .i64 r5.At]) :: .ro (SlL e_Known A1 c1 a_p0) :: .ro (SlL e_Known A2 c2 b_p1) :: .ro (SlL ei64 A3 c3 l_p2) :: R) (fun _ w => w) ?_
      refine St.p rfl rfl ?_
      refine St.done ?_
      refine St.thenN ?_
      refine St.prune (Γ' := [(0, _), (1, _), (7, _)]) ⟨rfl, rfl, rfl, trivial⟩ (.k (.k (.k (.k (.d .z))))) ?_
      refine St.seq ?_
      refine St.region ?_
      refine St.p rfl rfl ?_
      obtain ⟨r6, hr6, h⟩ := bnd_e h
      refine St.call (c_made_Dice_Inventory hr6) ent13 rfl rfl rfl (fun _ w => Sat.dup (G := [.ro (SlL ei64 A4 c4 r5.L)]) rfl ⟨(.tail _ (.head _)), trivial⟩ (w.front (.s .z))) ?_
      rintro _ _ ⟨A5, c5, A6, c6, rfl, rfl⟩
      refine St.asrt (F' := .ro (SlL ei64 A5 c5 r6.1.L) :: .res (Box g1 73 [.slice A5 r6.1.L.length c5, .int .i64 r6.1.At]) :: .res (OwnL e_Known 45 A6 c6 r6.2) :: .ro (SlL ei64 A4 c4 r5.L) :: .ro (SlL e_Known A1 c1 a_p0) :: .ro (SlL e_Known A2 c2 b_p1) :: R) (fun _ w => w) ?_
      refine St.p rfl rfl ?_
      obtain ⟨r7, hr7, h⟩ := bnd_e h
      refine St.call (c_made_Dice_Inventory hr7) ent13 rfl rfl rfl (fun _ w => Sat.dup (G := [.ro (SlL ei64 A5 c5 r6.1.L)]) rfl ⟨(.tail _ (.head _)), trivial⟩ (w.front (.s .z))) ?_
      rintro _ _ ⟨A7, c7, A8, c8, rfl, rfl⟩
      refine St.asrt (F' := .ro (SlL ei64 A7 c7 r7.1.L) :: .res (Box g1 73 [.slice A7 r7.1.L.length c7, .int .i64 r7.1.At]) :: .res (OwnL e_Known 45 A8 c8 r7.2) :: .ro (SlL ei64 A5 c5 r6.1.L) :: .res (OwnL e_Known 45 A6 c6 r6.2) :: .ro (SlL ei64 A4 c4 r5.L) :: .ro (SlL e_Known A1 c1 a_p0) :: .ro (SlL e_Known A2 c2 b_p1) :: R) (fun _ w => w) ?_
      refine St.p rfl rfl ?_
      refine St.p rfl rfl ?_
      refine St.done ?_
      refine St.thenN ?_
      refine St.prune (Γ' := [(0, _), (1, _), (8, _), (9, _)]) ⟨rfl, rfl, rfl, rfl, trivial⟩ (.d (.d (.k (.d (.k (.d (.k (.k .z)))))))) ?_
      refine St.seq ?_
      refine St.seq ?_
      refine St.region ?_
      iterate 9 refine St.p rfl rfl ?_
      refine St.buildSlice rfl rfl rfl rfl rfl rfl rfl rfl fun g2 => ?_
      refine St.p rfl rfl ?_
      refine St.p rfl rfl ?_
      refine St.done ?_
      refine St.thenN ?_
      refine St.prune (Γ' := [(45, _), (46, _), (47, _)]) ⟨rfl, rfl, rfl, trivial⟩ (.k (.k (.k (.k (.k .z))))) ?_
      refine St.block ?_
      refine St.rounds 9 ?_
      refine St.round ?_
      refine St.seq ?_
      refine St.region ?_
      refine St.p rfl rfl ?_
      refine St.done ?_
      refine St.thenN ?_
      refine St.seq ?_
      refine St.condT rfl ?_
      refine St.skip ?_
      refine St.thenN ?_
      refine St.prune (Γ' := [(45, _), (46, _), (47, _)]) ⟨rfl, rfl, rfl, trivial⟩ (.k (.k (.k (.k (.k .z))))) ?_
      refine St.seq ?_
      refine St.block ?_
      refine St.seq ?_
      refine St.region ?_
      refine St.ixB 0 rfl rfl rfl rfl rfl rfl rfl rfl rfl rfl ?_
      refine St.loadB 0 rfl rfl (.head _) rfl rfl ?_
      refine St.alloc rfl rfl fun g3 => ?_
      refine St.store 0 rfl rfl rfl rfl rfl rfl .z rfl ?_
      refine St.done ?_
      refine St.thenN ?_
      refine St.prune (Γ' := [(11, _), (45, _), (46, _), (47, _)]) ⟨rfl, rfl, rfl, rfl, trivial⟩ (.k (.k (.k (.k (.k (.k .z)))))) ?_
      refine St.seq ?_
      refine St.region ?_
      refine St.p rfl rfl ?_
      refine St.loadB 0 rfl rfl (.head _) rfl rfl ?_
      refine St.p rfl rfl ?_
      refine St.loadB 1 rfl rfl (.head _) rfl rfl ?_
      obtain ⟨r8, hr8, h⟩ := bnd_e h
      refine St.call (c_inventory_Compare hr8) ent14 rfl rfl rfl (fun _ w => Sat.dup (G := [.ro (SlL e_Known A1 c1 a_p0), .ro (SlL e_Known A2 c2 b_p1)]) rfl ⟨(.tail _ (.tail _ (.tail _ (.tail _ (.head _))))), (.tail _ (.tail _ (.tail _ (.tail _ (.tail _ (.head _)))))), trivial⟩ w) ?_
      rintro _ _ ⟨A9, c9, rfl, rfl⟩
      refine St.asrt (F' := .res (OwnL e_Difference 40 A9 c9 r8.1) :: .res (Box g3 30 [.slice A1 a_p0.length c1, .slice A2 b_p1.length c2]) :: .res (Box g2 30 [.slice A1 a_p0.length c1, .slice A2 b_p1.length c2, .slice A6 r6.2.length c6, .slice A8 r7.2.length c8, .slice A6 r6.2.length c6, .slice A1 a_p0.length c1]) :: .res (OwnL e_Known 45 A8 c8 r7.2) :: .res (OwnL e_Known 45 A6 c6 r6.2) :: .ro (SlL e_Known A1 c1 a_p0) :: .ro (SlL e_Known A2 c2 b_p1) :: R) (fun _ w => w) ?_
      iterate 5 refine St.p rfl rfl ?_
      refine St.done ?_
      refine St.thenN ?_
      refine St.prune (Γ' := [(11, _), (12, _), (13, _), (45, _), (46, _), (47, _)]) ⟨rfl, rfl, rfl, rfl, rfl, rfl, trivial⟩ (.k (.k (.k (.k (.k (.k (.k .z))))))) ?_
      refine St.seq ?_
      refine St.region ?_
      refine St.p rfl rfl ?_
      refine St.loadB 0 rfl rfl (.tail _ (.head _)) rfl rfl ?_
      refine St.p rfl rfl ?_
      refine St.loadB 1 rfl rfl (.tail _ (.head _)) rfl rfl ?_
      obtain ⟨r9, hr9, h⟩ := bnd_e h
      refine St.call (c_ref19_Compare hr9) ent15 rfl rfl rfl (fun _ w => Sat.dup (G := [.ro (SlL e_Known A1 c1 a_p0), .ro (SlL e_Known A2 c2 b_p1)]) rfl ⟨(.tail _ (.tail _ (.tail _ (.tail _ (.tail _ (.head _)))))), (.tail _ (.tail _ (.tail _ (.tail _ (.tail _ (.tail _ (.head _))))))), trivial⟩ w) ?_
      rintro _ _ ⟨A10, c10, rfl, rfl⟩
      refine St.asrt (F' := .res (OwnL e_Difference 40 A10 c10 r9.1) :: .res (OwnL e_Difference 40 A9 c9 r8.1) :: .res (Box g3 30 [.slice A1 a_p0.length c1, .slice A2 b_p1.length c2]) :: .res (Box g2 30 [.slice A1 a_p0.length c1, .slice A2 b_p1.length c2, .slice A6 r6.2.length c6, .slice A8 r7.2.length c8, .slice A6 r6.2.length c6, .slice A1 a_p0.length c1]) :: .res (OwnL e_Known 45 A8 c8 r7.2) :: .res (OwnL e_Known 45 A6 c6 r6.2) :: .ro (SlL e_Known A1 c1 a_p0) :: .ro (SlL e_Known A2 c2 b_p1) :: R) (fun _ w => w) ?_
      iterate 5 refine St.p rfl rfl ?_
      refine St.done ?_
      refine St.thenN ?_
      refine St.prune (Γ' := [(11, _), (12, _), (13, _), (14, _), (15, _), (45, _), (46, _), (47, _)]) ⟨rfl, rfl, rfl, rfl, rfl, rfl, rfl, rfl, trivial⟩ (.k (.k (.k (.k (.k (.k (.k (.k .z)))))))) ?_
      refine St.seq ?_
      obtain ⟨o2, hj2, h⟩ := bnd_e h
      refine St.cutE (fun (e2 : Unit) => [(45, .slice (some ⟨g2, 0, none⟩) 3 3), (46, .int .i64 ((3 : Nat) : Int)), (47, .int .i64 0), (93, .bool o2)]) (fun e2 => .res (Box g2 30 [.slice A1 a_p0.length c1, .slice A2 b_p1.length c2, .slice A6 r6.2.length c6, .slice A8 r7.2.length c8, .slice A6 r6.2.length c6, .slice A1 a_p0.length c1]) :: .res (OwnL e_Known 45 A8 c8 r7.2) :: .res (OwnL e_Known 45 A6 c6 r6.2) :: .ro (SlL e_Known A1 c1 a_p0) :: .ro (SlL e_Known A2 c2 b_p1) :: R) ?_ ?_
      · refine St.regionF mixed (by kernel_rfl) ?_
        iterate 4 refine St.p rfl rfl ?_
        refine St.gSplit (dj := 70) _ rfl (fun hb4 => ?_) (fun hb4 => ?_)
        · replace hj2 := bif_t hb4 hj2
          refine St.gOff (dj := 70) rfl rfl rfl rfl ?_
          refine St.gOff (dj := 70) rfl rfl rfl rfl ?_
          refine St.gOff (dj := 70) rfl rfl rfl rfl ?_
          refine St.gOff (dj := 70) rfl rfl rfl rfl ?_
          refine St.p rfl rfl ?_
          refine St.p rfl rfl ?_
          refine St.gOff (dj := 76) rfl rfl rfl rfl ?_
          refine St.gOff (dj := 76) rfl rfl rfl rfl ?_
          refine St.gOff (dj := 76) rfl rfl rfl rfl ?_
          refine St.gOff (dj := 76) rfl rfl rfl rfl ?_
          refine St.gOff (dj := 76) rfl rfl rfl rfl ?_
          refine St.gOff (dj := 76) rfl rfl rfl rfl ?_
          refine St.gOff (dj := 76) rfl rfl rfl rfl ?_
          refine St.p rfl rfl ?_
          refine St.p rfl rfl ?_
          refine St.gOff (dj := 85) rfl rfl rfl rfl ?_
          refine St.gOff (dj := 85) rfl rfl rfl rfl ?_
          refine St.gOff (dj := 85) rfl rfl rfl rfl ?_
          refine St.gOff (dj := 85) rfl rfl rfl rfl ?_
          refine St.gOff (dj := 85) rfl rfl rfl rfl ?_
          refine St.gOff (dj := 85) rfl rfl rfl rfl ?_
          refine St.gOff (dj := 85) rfl rfl rfl rfl ?_
          refine St.p rfl rfl ?_
          refine St.doneQ ?_
          injection hj2 with hj2
          subst hj2
          refine St.thenN ?_
          exact St.hereE () ⟨rfl, rfl, rfl, rfl, trivial⟩ (fun _ w => ((.d (.d (.d (.k (.k (.k (.k (.k .z)))))))) : Keep _ _).sat w)
        · replace hj2 := bif_f hb4 hj2
          refine St.gOn (dj := 70) rfl rfl ?_
          refine St.p rfl rfl ?_
          refine St.gOn (dj := 70) rfl rfl ?_
          refine St.p rfl rfl ?_
          refine St.gOn (dj := 70) rfl rfl ?_
          refine St.asrt (fun _ w => (w.front (.s .z)).meltL) ?_
          refine St.asrt (fun _ w => (w.front (.s .z)).meltL) ?_
          obtain ⟨r10, hr10, hj2⟩ := bnd_e hj2
          refine St.callV (c_ref19_SameDifferences hr10) ent16 rfl rfl rfl rfl ⟨(.tail _ (.head _)), (.head _), trivial⟩ ?_
          refine St.gOn (dj := 70) rfl rfl ?_
          iterate 3 refine St.p rfl rfl ?_
          refine St.gSplit (dj := 76) _ rfl (fun hb5 => ?_) (fun hb5 => ?_)
          · replace hj2 := bif_t hb5 hj2
            refine St.gOff (dj := 76) rfl rfl rfl rfl ?_
            refine St.gOff (dj := 76) rfl rfl rfl rfl ?_
            refine St.gOff (dj := 76) rfl rfl rfl rfl ?_
            refine St.gOff (dj := 76) rfl rfl rfl rfl ?_
            refine St.gOff (dj := 76) rfl rfl rfl rfl ?_
            refine St.gOff (dj := 76) rfl rfl rfl rfl ?_
            refine St.gOff (dj := 76) rfl rfl rfl rfl ?_
            refine St.p rfl rfl ?_
            refine St.p rfl rfl ?_
            refine St.gOff (dj := 85) rfl rfl rfl rfl ?_
            refine St.gOff (dj := 85) rfl rfl rfl rfl ?_
            refine St.gOff (dj := 85) rfl rfl rfl rfl ?_
            refine St.gOff (dj := 85) rfl rfl rfl rfl ?_
            refine St.gOff (dj := 85) rfl rfl rfl rfl ?_
            refine St.gOff (dj := 85) rfl rfl rfl rfl ?_
            refine St.gOff (dj := 85) rfl rfl rfl rfl ?_
            refine St.p rfl rfl ?_
            refine St.doneQ ?_
            injection hj2 with hj2
            subst hj2
            refine St.thenN ?_
            exact St.hereE () ⟨rfl, rfl, rfl, rfl, trivial⟩ (fun _ w => ((.d (.d (.d (.k (.k (.k (.k (.k .z)))))))) : Keep _ _).sat w)
          · replace hj2 := bif_f hb5 hj2
            refine St.gOn (dj := 76) rfl rfl ?_
            refine St.p rfl rfl ?_
            refine St.gOn (dj := 76) rfl rfl ?_
            refine St.loadB 0 rfl rfl (.tail _ (.tail _ (.head _))) rfl rfl ?_
            refine St.gOn (dj := 76) rfl rfl ?_
            obtain ⟨r11, hr11, hj2⟩ := bnd_e hj2
            refine St.callV (c_inventory_Valid hr11) ent17 rfl rfl rfl rfl ⟨(.tail _ (.tail _ (.tail _ (.tail _ (.tail _ (.tail _ (.head _))))))), trivial⟩ ?_
            refine St.gOn (dj := 76) rfl rfl ?_
            refine St.p rfl rfl ?_
            refine St.gOn (dj := 76) rfl rfl ?_
            refine St.loadB 0 rfl rfl (.tail _ (.tail _ (.head _))) rfl rfl ?_
            refine St.gOn (dj := 76) rfl rfl ?_
            obtain ⟨r12, hr12, hj2⟩ := bnd_e hj2
            refine St.callV (c_ref19_Valid hr12) ent18 rfl rfl rfl rfl ⟨(.tail _ (.tail _ (.tail _ (.tail _ (.tail _ (.tail _ (.head _))))))), trivial⟩ ?_
            refine St.gOn (dj := 76) rfl rfl ?_
            iterate 3 refine St.p rfl rfl ?_
            refine St.gSplit (dj := 85) _ rfl (fun hb6 => ?_) (fun hb6 => ?_)
            · replace hj2 := bif_t hb6 hj2
              refine St.gOff (dj := 85) rfl rfl rfl rfl ?_
              refine St.gOff (dj := 85) rfl rfl rfl rfl ?_
              refine St.gOff (dj := 85) rfl rfl rfl rfl ?_
              refine St.gOff (dj := 85) rfl rfl rfl rfl ?_
              refine St.gOff (dj := 85) rfl rfl rfl rfl ?_
              refine St.gOff (dj := 85) rfl rfl rfl rfl ?_
              refine St.gOff (dj := 85) rfl rfl rfl rfl ?_
              refine St.p rfl rfl ?_
              refine St.doneQ ?_
              injection hj2 with hj2
              subst hj2
              refine St.thenN ?_
              exact St.hereE () ⟨rfl, rfl, rfl, rfl, trivial⟩ (fun _ w => ((.d (.d (.d (.k (.k (.k (.k (.k .z)))))))) : Keep _ _).sat w)
            · replace hj2 := bif_f hb6 hj2
              refine St.gOn (dj := 85) rfl rfl ?_
              refine St.p rfl rfl ?_
              refine St.gOn (dj := 85) rfl rfl ?_
              refine St.loadB 1 rfl rfl (.tail _ (.tail _ (.head _))) rfl rfl ?_
              refine St.gOn (dj := 85) rfl rfl ?_
              obtain ⟨r13, hr13, hj2⟩ := bnd_e hj2
              refine St.callV (c_inventory_Valid hr13) ent17 rfl rfl rfl rfl ⟨(.tail _ (.tail _ (.tail _ (.tail _ (.tail _ (.tail _ (.tail _ (.head _)))))))), trivial⟩ ?_
              refine St.gOn (dj := 85) rfl rfl ?_
              refine St.p rfl rfl ?_
              refine St.gOn (dj := 85) rfl rfl ?_
              refine St.loadB 1 rfl rfl (.tail _ (.tail _ (.head _))) rfl rfl ?_
              refine St.gOn (dj := 85) rfl rfl ?_
              obtain ⟨r14, hr14, hj2⟩ := bnd_e hj2
              refine St.callV (c_ref19_Valid hr14) ent18 rfl rfl rfl rfl ⟨(.tail _ (.tail _ (.tail _ (.tail _ (.tail _ (.tail _ (.tail _ (.head _)))))))), trivial⟩ ?_
              refine St.gOn (dj := 85) rfl rfl ?_
              refine St.p rfl rfl ?_
              refine St.p rfl rfl ?_
              refine St.doneQ ?_
              injection hj2 with hj2
              subst hj2
              refine St.thenN ?_
              exact St.hereE () ⟨rfl, rfl, rfl, rfl, trivial⟩ (fun _ w => ((.d (.d (.d (.k (.k (.k (.k (.k .z)))))))) : Keep _ _).sat w)
      · rintro e2
        refine St.cond _ rfl (fun hb7 => ?_) (fun hb7 => ?_)
        · replace h := bif_t hb7 h
          refine St.seq ?_
          refine St.region ?_
          refine St.p rfl rfl ?_
          refine St.done ?_
          refine St.thenN ?_
          refine St.prune (Γ' := [(6, _)]) ⟨rfl, trivial⟩ (.d (.d (.d (.d (.d .z))))) ?_
          refine St.ret ?_
          repeat (first | refine St.thenR ?_ | refine St.blkR ?_)
          injection h with h
          subst h
          exact St.finR Try.results3 (.tmp rfl .nil) rfl [] ⟨rfl, rfl⟩ (fun _ w => (.z : Keep _ _).sat w)
        · replace h := bif_f hb7 h
          refine St.skip ?_
          refine St.blkN ?_
          refine St.thenN ?_
          refine St.prune (Γ' := [(45, _), (46, _), (47, _)]) ⟨rfl, rfl, rfl, trivial⟩ (.k (.k (.k (.k (.k .z))))) ?_
          refine St.region ?_
          refine St.p rfl rfl ?_
          refine St.p rfl rfl ?_
          refine St.done ?_
          refine St.thenN ?_
          refine St.round ?_
          refine St.prune (Γ' := [(45, _), (46, _), (47, _)]) ⟨rfl, rfl, rfl, trivial⟩ (.k (.k (.k (.k (.k .z))))) ?_
          refine St.seq ?_
          refine St.region ?_
          refine St.p rfl rfl ?_
          refine St.done ?_
          refine St.thenN ?_
          refine St.seq ?_
          refine St.condT rfl ?_
          refine St.skip ?_
          refine St.thenN ?_
          refine St.prune (Γ' := [(45, _), (46, _), (47, _)]) ⟨rfl, rfl, rfl, trivial⟩ (.k (.k (.k (.k (.k .z))))) ?_
          refine St.seq ?_
          refine St.block ?_
          refine St.seq ?_
          refine St.region ?_
          refine St.ixB 2 rfl rfl rfl rfl rfl rfl rfl rfl rfl rfl ?_
          refine St.loadB 2 rfl rfl (.head _) rfl rfl ?_
          refine St.alloc rfl rfl fun g4 => ?_
          refine St.store 0 rfl rfl rfl rfl rfl rfl .z rfl ?_
          refine St.done ?_
          refine St.thenN ?_
          refine St.prune (Γ' := [(11, _), (45, _), (46, _), (47, _)]) ⟨rfl, rfl, rfl, rfl, trivial⟩ (.k (.k (.k (.k (.k (.k .z)))))) ?_
          refine St.seq ?_
          refine St.region ?_
          refine St.p rfl rfl ?_
          refine St.loadB 0 rfl rfl (.head _) rfl rfl ?_
          refine St.p rfl rfl ?_
          refine St.loadB 1 rfl rfl (.head _) rfl rfl ?_
          refine St.asrt (fun _ w => (w.front (.s (.s (.s .z)))).meltL) ?_
          refine St.asrt (fun _ w => (w.front (.s (.s (.s .z)))).meltL) ?_
          obtain ⟨r15, hr15, h⟩ := bnd_e h
          refine St.call (c_inventory_Compare hr15) ent14 rfl rfl rfl (fun _ w => Sat.dup (G := [.ro (SlL e_Known A6 c6 r6.2), .ro (SlL e_Known A8 c8 r7.2)]) rfl ⟨(.tail _ (.head _)), (.head _), trivial⟩ w) ?_
          rintro _ _ ⟨A11, c11, rfl, rfl⟩
          refine St.asrt (F' := .res (OwnL e_Difference 40 A11 c11 r15.1) :: .ro (SlL e_Known A8 c8 r7.2) :: .ro (SlL e_Known A6 c6 r6.2) :: .res (Box g4 30 [.slice A6 r6.2.length c6, .slice A8 r7.2.length c8]) :: .res (Box g2 30 [.slice A1 a_p0.length c1, .slice A2 b_p1.length c2, .slice A6 r6.2.length c6, .slice A8 r7.2.length c8, .slice A6 r6.2.length c6, .slice A1 a_p0.length c1]) :: .ro (SlL e_Known A1 c1 a_p0) :: .ro (SlL e_Known A2 c2 b_p1) :: R) (fun _ w => w) ?_
          iterate 5 refine St.p rfl rfl ?_
          refine St.done ?_
          refine St.thenN ?_
          refine St.prune (Γ' := [(11, _), (12, _), (13, _), (45, _), (46, _), (47, _)]) ⟨rfl, rfl, rfl, rfl, rfl, rfl, trivial⟩ (.k (.k (.k (.k (.k (.k (.k .z))))))) ?_
          refine St.seq ?_
          refine St.region ?_
          refine St.p rfl rfl ?_
          refine St.loadB 0 rfl rfl (.tail _ (.tail _ (.tail _ (.head _)))) rfl rfl ?_
          refine St.p rfl rfl ?_
          refine St.loadB 1 rfl rfl (.tail _ (.tail _ (.tail _ (.head _)))) rfl rfl ?_
          obtain ⟨r16, hr16, h⟩ := bnd_e h
          refine St.call (c_ref19_Compare hr16) ent15 rfl rfl rfl (fun _ w => Sat.dup (G := [.ro (SlL e_Known A6 c6 r6.2), .ro (SlL e_Known A8 c8 r7.2)]) rfl ⟨(.tail _ (.tail _ (.head _))), (.tail _ (.head _)), trivial⟩ w) ?_
          rintro _ _ ⟨A12, c12, rfl, rfl⟩
          refine St.asrt (F' := .res (OwnL e_Difference 40 A12 c12 r16.1) :: .res (OwnL e_Difference 40 A11 c11 r15.1) :: .ro (SlL e_Known A8 c8 r7.2) :: .ro (SlL e_Known A6 c6 r6.2) :: .res (Box g4 30 [.slice A6 r6.2.length c6, .slice A8 r7.2.length c8]) :: .res (Box g2 30 [.slice A1 a_p0.length c1, .slice A2 b_p1.length c2, .slice A6 r6.2.length c6, .slice A8 r7.2.length c8, .slice A6 r6.2.length c6, .slice A1 a_p0.length c1]) :: .ro (SlL e_Known A1 c1 a_p0) :: .ro (SlL e_Known A2 c2 b_p1) :: R) (fun _ w => w) ?_
          iterate 5 refine St.p rfl rfl ?_
          refine St.done ?_
          refine St.thenN ?_
          refine St.prune (Γ' := [(11, _), (12, _), (13, _), (14, _), (15, _), (45, _), (46, _), (47, _)]) ⟨rfl, rfl, rfl, rfl, rfl, rfl, rfl, rfl, trivial⟩ (.k (.k (.k (.k (.k (.k (.k (.k .z)))))))) ?_
          refine St.seq ?_
          obtain ⟨o3, hj3, h⟩ := bnd_e h
          refine St.cutE (fun (e3 : Unit) => [(45, .slice (some ⟨g2, 0, none⟩) 3 3), (46, .int .i64 ((3 : Nat) : Int)), (47, .int .i64 1), (93, .bool o3)]) (fun e3 => .ro (SlL e_Known A8 c8 r7.2) :: .ro (SlL e_Known A6 c6 r6.2) :: .res (Box g2 30 [.slice A1 a_p0.length c1, .slice A2 b_p1.length c2, .slice A6 r6.2.length c6, .slice A8 r7.2.length c8, .slice A6 r6.2.length c6, .slice A1 a_p0.length c1]) :: .ro (SlL e_Known A1 c1 a_p0) :: .ro (SlL e_Known A2 c2 b_p1) :: R) ?_ ?_
          · refine St.regionF mixed (by kernel_rfl) ?_
            iterate 4 refine St.p rfl rfl ?_
            refine St.gSplit (dj := 70) _ rfl (fun hb8 => ?_) (fun hb8 => ?_)
            · replace hj3 := bif_t hb8 hj3
              refine St.gOff (dj := 70) rfl rfl rfl rfl ?_
              refine St.gOff (dj := 70) rfl rfl rfl rfl ?_
              refine St.gOff (dj := 70) rfl rfl rfl rfl ?_
              refine St.gOff (dj := 70) rfl rfl rfl rfl ?_
              refine St.p rfl rfl ?_
              refine St.p rfl rfl ?_
              refine St.gOff (dj := 76) rfl rfl rfl rfl ?_
              refine St.gOff (dj := 76) rfl rfl rfl rfl ?_
              refine St.gOff (dj := 76) rfl rfl rfl rfl ?_
              refine St.gOff (dj := 76) rfl rfl rfl rfl ?_
              refine St.gOff (dj := 76) rfl rfl rfl rfl ?_
              refine St.gOff (dj := 76) rfl rfl rfl rfl ?_
              refine St.gOff (dj := 76) rfl rfl rfl rfl ?_
              refine St.p rfl rfl ?_
              refine St.p rfl rfl ?_
              refine St.gOff (dj := 85) rfl rfl rfl rfl ?_
              refine St.gOff (dj := 85) rfl rfl rfl rfl ?_
              refine St.gOff (dj := 85) rfl rfl rfl rfl ?_
              refine St.gOff (dj := 85) rfl rfl rfl rfl ?_
              refine St.gOff (dj := 85) rfl rfl rfl rfl ?_
              refine St.gOff (dj := 85) rfl rfl rfl rfl ?_
              refine St.gOff (dj := 85) rfl rfl rfl rfl ?_
              refine St.p rfl rfl ?_
              refine St.doneQ ?_
              injection hj3 with hj3
              subst hj3
              refine St.thenN ?_
              exact St.hereE () ⟨rfl, rfl, rfl, rfl, trivial⟩ (fun _ w => ((.d (.d (.k (.k (.d (.k (.k (.k .z)))))))) : Keep _ _).sat w)
            · replace hj3 := bif_f hb8 hj3
              refine St.gOn (dj := 70) rfl rfl ?_
              refine St.p rfl rfl ?_
              refine St.gOn (dj := 70) rfl rfl ?_
              refine St.p rfl rfl ?_
              refine St.gOn (dj := 70) rfl rfl ?_
              refine St.asrt (fun _ w => (w.front (.s .z)).meltL) ?_
              refine St.asrt (fun _ w => (w.front (.s .z)).meltL) ?_
              obtain ⟨r17, hr17, hj3⟩ := bnd_e hj3
              refine St.callV (c_ref19_SameDifferences hr17) ent16 rfl rfl rfl rfl ⟨(.tail _ (.head _)), (.head _), trivial⟩ ?_
              refine St.gOn (dj := 70) rfl rfl ?_
              iterate 3 refine St.p rfl rfl ?_
              refine St.gSplit (dj := 76) _ rfl (fun hb9 => ?_) (fun hb9 => ?_)
              · replace hj3 := bif_t hb9 hj3
                refine St.gOff (dj := 76) rfl rfl rfl rfl ?_
                refine St.gOff (dj := 76) rfl rfl rfl rfl ?_
                refine St.gOff (dj := 76) rfl rfl rfl rfl ?_
                refine St.gOff (dj := 76) rfl rfl rfl rfl ?_
                refine St.gOff (dj := 76) rfl rfl rfl rfl ?_
                refine St.gOff (dj := 76) rfl rfl rfl rfl ?_
                refine St.gOff (dj := 76) rfl rfl rfl rfl ?_
                refine St.p rfl rfl ?_
                refine St.p rfl rfl ?_
                refine St.gOff (dj := 85) rfl rfl rfl rfl ?_
                refine St.gOff (dj := 85) rfl rfl rfl rfl ?_
                refine St.gOff (dj := 85) rfl rfl rfl rfl ?_
                refine St.gOff (dj := 85) rfl rfl rfl rfl ?_
                refine St.gOff (dj := 85) rfl rfl rfl rfl ?_
                refine St.gOff (dj := 85) rfl rfl rfl rfl ?_
                refine St.gOff (dj := 85) rfl rfl rfl rfl ?_
                refine St.p rfl rfl ?_
                refine St.doneQ ?_
                injection hj3 with hj3
                subst hj3
                refine St.thenN ?_
                exact St.hereE () ⟨rfl, rfl, rfl, rfl, trivial⟩ (fun _ w => ((.d (.d (.k (.k (.d (.k (.k (.k .z)))))))) : Keep _ _).sat w)
              · replace hj3 := bif_f hb9 hj3
                refine St.gOn (dj := 76) rfl rfl ?_
                refine St.p rfl rfl ?_
                refine St.gOn (dj := 76) rfl rfl ?_
                refine St.loadB 0 rfl rfl (.tail _ (.tail _ (.tail _ (.tail _ (.head _))))) rfl rfl ?_
                refine St.gOn (dj := 76) rfl rfl ?_
                obtain ⟨r18, hr18, hj3⟩ := bnd_e hj3
                refine St.callV (c_inventory_Valid hr18) ent17 rfl rfl rfl rfl ⟨(.tail _ (.tail _ (.tail _ (.head _)))), trivial⟩ ?_
                refine St.gOn (dj := 76) rfl rfl ?_
                refine St.p rfl rfl ?_
                refine St.gOn (dj := 76) rfl rfl ?_
                refine St.loadB 0 rfl rfl (.tail _ (.tail _ (.tail _ (.tail _ (.head _))))) rfl rfl ?_
                refine St.gOn (dj := 76) rfl rfl ?_
                obtain ⟨r19, hr19, hj3⟩ := bnd_e hj3
                refine St.callV (c_ref19_Valid hr19) ent18 rfl rfl rfl rfl ⟨(.tail _ (.tail _ (.tail _ (.head _)))), trivial⟩ ?_
                refine St.gOn (dj := 76) rfl rfl ?_
                iterate 3 refine St.p rfl rfl ?_
                refine St.gSplit (dj := 85) _ rfl (fun hb10 => ?_) (fun hb10 => ?_)
                · replace hj3 := bif_t hb10 hj3
                  refine St.gOff (dj := 85) rfl rfl rfl rfl ?_
                  refine St.gOff (dj := 85) rfl rfl rfl rfl ?_
                  refine St.gOff (dj := 85) rfl rfl rfl rfl ?_
                  refine St.gOff (dj := 85) rfl rfl rfl rfl ?_
                  refine St.gOff (dj := 85) rfl rfl rfl rfl ?_
                  refine St.gOff (dj := 85) rfl rfl rfl rfl ?_
                  refine St.gOff (dj := 85) rfl rfl rfl rfl ?_
                  refine St.p rfl rfl ?_
                  refine St.doneQ ?_
                  injection hj3 with hj3
                  subst hj3
                  refine St.thenN ?_
                  exact St.hereE () ⟨rfl, rfl, rfl, rfl, trivial⟩ (fun _ w => ((.d (.d (.k (.k (.d (.k (.k (.k .z)))))))) : Keep _ _).sat w)
                · replace hj3 := bif_f hb10 hj3
                  refine St.gOn (dj := 85) rfl rfl ?_
                  refine St.p rfl rfl ?_
                  refine St.gOn (dj := 85) rfl rfl ?_
                  refine St.loadB 1 rfl rfl (.tail _ (.tail _ (.tail _ (.tail _ (.head _))))) rfl rfl ?_
                  refine St.gOn (dj := 85) rfl rfl ?_
                  obtain ⟨r20, hr20, hj3⟩ := bnd_e hj3
                  refine St.callV (c_inventory_Valid hr20) ent17 rfl rfl rfl rfl ⟨(.tail _ (.tail _ (.head _))), trivial⟩ ?_
                  refine St.gOn (dj := 85) rfl rfl ?_
                  refine St.p rfl rfl ?_
                  refine St.gOn (dj := 85) rfl rfl ?_
                  refine St.loadB 1 rfl rfl (.tail _ (.tail _ (.tail _ (.tail _ (.head _))))) rfl rfl ?_
                  refine St.gOn (dj := 85) rfl rfl ?_
                  obtain ⟨r21, hr21, hj3⟩ := bnd_e hj3
                  refine St.callV (c_ref19_Valid hr21) ent18 rfl rfl rfl rfl ⟨(.tail _ (.tail _ (.head _))), trivial⟩ ?_
                  refine St.gOn (dj := 85) rfl rfl ?_
                  refine St.p rfl rfl ?_
                  refine St.p rfl rfl ?_
                  refine St.doneQ ?_
                  injection hj3 with hj3
                  subst hj3
                  refine St.thenN ?_
                  exact St.hereE () ⟨rfl, rfl, rfl, rfl, trivial⟩ (fun _ w => ((.d (.d (.k (.k (.d (.k (.k (.k .z)))))))) : Keep _ _).sat w)
          · rintro e3
            refine St.cond _ rfl (fun hb11 => ?_) (fun hb11 => ?_)
            · replace h := bif_t hb11 h
              refine St.seq ?_
              refine St.region ?_
              refine St.p rfl rfl ?_
              refine St.done ?_
              refine St.thenN ?_
              refine St.prune (Γ' := [(6, _)]) ⟨rfl, trivial⟩ (.d (.d (.d (.d (.d .z))))) ?_
              refine St.ret ?_
              repeat (first | refine St.thenR ?_ | refine St.blkR ?_)
              injection h with h
              subst h
              exact St.finR Try.results3 (.tmp rfl .nil) rfl [] ⟨rfl, rfl⟩ (fun _ w => (.z : Keep _ _).sat w)
            · replace h := bif_f hb11 h
              refine St.skip ?_
              refine St.blkN ?_
              refine St.thenN ?_
              refine St.prune (Γ' := [(45, _), (46, _), (47, _)]) ⟨rfl, rfl, rfl, trivial⟩ (.k (.k (.k (.k (.k .z))))) ?_
              refine St.region ?_
              refine St.p rfl rfl ?_
              refine St.p rfl rfl ?_
              refine St.done ?_
              refine St.thenN ?_
              refine St.round ?_
              refine St.prune (Γ' := [(45, _), (46, _), (47, _)]) ⟨rfl, rfl, rfl, trivial⟩ (.k (.k (.k (.k (.k .z))))) ?_
              refine St.seq ?_
              refine St.region ?_
              refine St.p rfl rfl ?_
              refine St.done ?_
              refine St.thenN ?_
              refine St.seq ?_
              refine St.condT rfl ?_
              refine St.skip ?_
              refine St.thenN ?_
              refine St.prune (Γ' := [(45, _), (46, _), (47, _)]) ⟨rfl, rfl, rfl, trivial⟩ (.k (.k (.k (.k (.k .z))))) ?_
              refine St.seq ?_
              refine St.block ?_
              refine St.seq ?_
              refine St.region ?_
              refine St.ixB 4 rfl rfl rfl rfl rfl rfl rfl rfl rfl rfl ?_
              refine St.loadB 4 rfl rfl (.tail _ (.tail _ (.head _))) rfl rfl ?_
              refine St.alloc rfl rfl fun g5 => ?_
              refine St.store 0 rfl rfl rfl rfl rfl rfl .z rfl ?_
              refine St.done ?_
              refine St.thenN ?_
              refine St.prune (Γ' := [(11, _), (45, _), (46, _), (47, _)]) ⟨rfl, rfl, rfl, rfl, trivial⟩ (.k (.k (.k (.k (.k (.k .z)))))) ?_
              refine St.seq ?_
              refine St.region ?_
              refine St.p rfl rfl ?_
              refine St.loadB 0 rfl rfl (.head _) rfl rfl ?_
              refine St.p rfl rfl ?_
              refine St.loadB 1 rfl rfl (.head _) rfl rfl ?_
              obtain ⟨r22, hr22, h⟩ := bnd_e h
              refine St.call (c_inventory_Compare hr22) ent14 rfl rfl rfl (fun _ w => Sat.dup (G := [.ro (SlL e_Known A6 c6 r6.2), .ro (SlL e_Known A1 c1 a_p0)]) rfl ⟨(.tail _ (.tail _ (.head _))), (.tail _ (.tail _ (.tail _ (.tail _ (.head _))))), trivial⟩ w) ?_
              rintro _ _ ⟨A13, c13, rfl, rfl⟩
              refine St.asrt (F' := .res (OwnL e_Difference 40 A13 c13 r22.1) :: .res (Box g5 30 [.slice A6 r6.2.length c6, .slice A1 a_p0.length c1]) :: .ro (SlL e_Known A8 c8 r7.2) :: .ro (SlL e_Known A6 c6 r6.2) :: .res (Box g2 30 [.slice A1 a_p0.length c1, .slice A2 b_p1.length c2, .slice A6 r6.2.length c6, .slice A8 r7.2.length c8, .slice A6 r6.2.length c6, .slice A1 a_p0.length c1]) :: .ro (SlL e_Known A1 c1 a_p0) :: .ro (SlL e_Known A2 c2 b_p1) :: R) (fun _ w => w) ?_
              iterate 5 refine St.p rfl rfl ?_
              refine St.done ?_
              refine St.thenN ?_
              refine St.prune (Γ' := [(11, _), (12, _), (13, _), (45, _), (46, _), (47, _)]) ⟨rfl, rfl, rfl, rfl, rfl, rfl, trivial⟩ (.k (.k (.k (.k (.k (.k (.k .z))))))) ?_
              refine St.seq ?_
              refine St.region ?_
              refine St.p rfl rfl ?_
              refine St.loadB 0 rfl rfl (.tail _ (.head _)) rfl rfl ?_
              refine St.p rfl rfl ?_
              refine St.loadB 1 rfl rfl (.tail _ (.head _)) rfl rfl ?_
              obtain ⟨r23, hr23, h⟩ := bnd_e h
              refine St.call (c_ref19_Compare hr23) ent15 rfl rfl rfl (fun _ w => Sat.dup (G := [.ro (SlL e_Known A6 c6 r6.2), .ro (SlL e_Known A1 c1 a_p0)]) rfl ⟨(.tail _ (.tail _ (.tail _ (.head _)))), (.tail _ (.tail _ (.tail _ (.tail _ (.tail _ (.head _)))))), trivial⟩ w) ?_
              rintro _ _ ⟨A14, c14, rfl, rfl⟩
              refine St.asrt (F' := .res (OwnL e_Difference 40 A14 c14 r23.1) :: .res (OwnL e_Difference 40 A13 c13 r22.1) :: .res (Box g5 30 [.slice A6 r6.2.length c6, .slice A1 a_p0.length c1]) :: .ro (SlL e_Known A8 c8 r7.2) :: .ro (SlL e_Known A6 c6 r6.2) :: .res (Box g2 30 [.slice A1 a_p0.length c1, .slice A2 b_p1.length c2, .slice A6 r6.2.length c6, .slice A8 r7.2.length c8, .slice A6 r6.2.length c6, .slice A1 a_p0.length c1]) :: .ro (SlL e_Known A1 c1 a_p0) :: .ro (SlL e_Known A2 c2 b_p1) :: R) (fun _ w => w) ?_
              iterate 5 refine St.p rfl rfl ?_
              refine St.done ?_
              refine St.thenN ?_
              refine St.prune (Γ' := [(11, _), (12, _), (13, _), (14, _), (15, _), (45, _), (46, _), (47, _)]) ⟨rfl, rfl, rfl, rfl, rfl, rfl, rfl, rfl, trivial⟩ (.k (.k (.k (.k (.k (.k (.k (.k .z)))))))) ?_
              refine St.seq ?_
              obtain ⟨o4, hj4, h⟩ := bnd_e h
              refine St.cutE (fun (e4 : Unit) => [(45, .slice (some ⟨g2, 0, none⟩) 3 3), (46, .int .i64 ((3 : Nat) : Int)), (47, .int .i64 2), (93, .bool o4)]) (fun e4 => .ro (SlL e_Known A8 c8 r7.2) :: .ro (SlL e_Known A6 c6 r6.2) :: .res (Box g2 30 [.slice A1 a_p0.length c1, .slice A2 b_p1.length c2, .slice A6 r6.2.length c6, .slice A8 r7.2.length c8, .slice A6 r6.2.length c6, .slice A1 a_p0.length c1]) :: .ro (SlL e_Known A1 c1 a_p0) :: .ro (SlL e_Known A2 c2 b_p1) :: R) ?_ ?_
              · refine St.regionF mixed (by kernel_rfl) ?_
                iterate 4 refine St.p rfl rfl ?_
                refine St.gSplit (dj := 70) _ rfl (fun hb12 => ?_) (fun hb12 => ?_)
                · replace hj4 := bif_t hb12 hj4
                  refine St.gOff (dj := 70) rfl rfl rfl rfl ?_
                  refine St.gOff (dj := 70) rfl rfl rfl rfl ?_
                  refine St.gOff (dj := 70) rfl rfl rfl rfl ?_
                  refine St.gOff (dj := 70) rfl rfl rfl rfl ?_
                  refine St.p rfl rfl ?_
                  refine St.p rfl rfl ?_
                  refine St.gOff (dj := 76) rfl rfl rfl rfl ?_
                  refine St.gOff (dj := 76) rfl rfl rfl rfl ?_
                  refine St.gOff (dj := 76) rfl rfl rfl rfl ?_
                  refine St.gOff (dj := 76) rfl rfl rfl rfl ?_
                  refine St.gOff (dj := 76) rfl rfl rfl rfl ?_
                  refine St.gOff (dj := 76) rfl rfl rfl rfl ?_
                  refine St.gOff (dj := 76) rfl rfl rfl rfl ?_
                  refine St.p rfl rfl ?_
                  refine St.p rfl rfl ?_
                  refine St.gOff (dj := 85) rfl rfl rfl rfl ?_
                  refine St.gOff (dj := 85) rfl rfl rfl rfl ?_
                  refine St.gOff (dj := 85) rfl rfl rfl rfl ?_
                  refine St.gOff (dj := 85) rfl rfl rfl rfl ?_
                  refine St.gOff (dj := 85) rfl rfl rfl rfl ?_
                  refine St.gOff (dj := 85) rfl rfl rfl rfl ?_
                  refine St.gOff (dj := 85) rfl rfl rfl rfl ?_
                  refine St.p rfl rfl ?_
                  refine St.doneQ ?_
                  injection hj4 with hj4
                  subst hj4
                  refine St.thenN ?_
                  exact St.hereE () ⟨rfl, rfl, rfl, rfl, trivial⟩ (fun _ w => ((.d (.d (.d (.k (.k (.k (.k (.k .z)))))))) : Keep _ _).sat w)
                · replace hj4 := bif_f hb12 hj4
                  refine St.gOn (dj := 70) rfl rfl ?_
                  refine St.p rfl rfl ?_
                  refine St.gOn (dj := 70) rfl rfl ?_
                  refine St.p rfl rfl ?_
                  refine St.gOn (dj := 70) rfl rfl ?_
                  refine St.asrt (fun _ w => (w.front (.s .z)).meltL) ?_
                  refine St.asrt (fun _ w => (w.front (.s .z)).meltL) ?_
                  obtain ⟨r24, hr24, hj4⟩ := bnd_e hj4
                  refine St.callV (c_ref19_SameDifferences hr24) ent16 rfl rfl rfl rfl ⟨(.tail _ (.head _)), (.head _), trivial⟩ ?_
                  refine St.gOn (dj := 70) rfl rfl ?_
                  iterate 3 refine St.p rfl rfl ?_
                  refine St.gSplit (dj := 76) _ rfl (fun hb13 => ?_) (fun hb13 => ?_)
                  · replace hj4 := bif_t hb13 hj4
                    refine St.gOff (dj := 76) rfl rfl rfl rfl ?_
                    refine St.gOff (dj := 76) rfl rfl rfl rfl ?_
                    refine St.gOff (dj := 76) rfl rfl rfl rfl ?_
                    refine St.gOff (dj := 76) rfl rfl rfl rfl ?_
                    refine St.gOff (dj := 76) rfl rfl rfl rfl ?_
                    refine St.gOff (dj := 76) rfl rfl rfl rfl ?_
                    refine St.gOff (dj := 76) rfl rfl rfl rfl ?_
                    refine St.p rfl rfl ?_
                    refine St.p rfl rfl ?_
                    refine St.gOff (dj := 85) rfl rfl rfl rfl ?_
                    refine St.gOff (dj := 85) rfl rfl rfl rfl ?_
                    refine St.gOff (dj := 85) rfl rfl rfl rfl ?_
                    refine St.gOff (dj := 85) rfl rfl rfl rfl ?_
                    refine St.gOff (dj := 85) rfl rfl rfl rfl ?_
                    refine St.gOff (dj := 85) rfl rfl rfl rfl ?_
                    refine St.gOff (dj := 85) rfl rfl rfl rfl ?_
                    refine St.p rfl rfl ?_
                    refine St.doneQ ?_
                    injection hj4 with hj4
                    subst hj4
                    refine St.thenN ?_
                    exact St.hereE () ⟨rfl, rfl, rfl, rfl, trivial⟩ (fun _ w => ((.d (.d (.d (.k (.k (.k (.k (.k .z)))))))) : Keep _ _).sat w)
                  · replace hj4 := bif_f hb13 hj4
                    refine St.gOn (dj := 76) rfl rfl ?_
                    refine St.p rfl rfl ?_
                    refine St.gOn (dj := 76) rfl rfl ?_
                    refine St.loadB 0 rfl rfl (.tail _ (.tail _ (.head _))) rfl rfl ?_
                    refine St.gOn (dj := 76) rfl rfl ?_
                    obtain ⟨r25, hr25, hj4⟩ := bnd_e hj4
                    refine St.callV (c_inventory_Valid hr25) ent17 rfl rfl rfl rfl ⟨(.tail _ (.tail _ (.tail _ (.tail _ (.head _))))), trivial⟩ ?_
                    refine St.gOn (dj := 76) rfl rfl ?_
                    refine St.p rfl rfl ?_
                    refine St.gOn (dj := 76) rfl rfl ?_
                    refine St.loadB 0 rfl rfl (.tail _ (.tail _ (.head _))) rfl rfl ?_
                    refine St.gOn (dj := 76) rfl rfl ?_
                    obtain ⟨r26, hr26, hj4⟩ := bnd_e hj4
                    refine St.callV (c_ref19_Valid hr26) ent18 rfl rfl rfl rfl ⟨(.tail _ (.tail _ (.tail _ (.tail _ (.head _))))), trivial⟩ ?_
                    refine St.gOn (dj := 76) rfl rfl ?_
                    iterate 3 refine St.p rfl rfl ?_
                    refine St.gSplit (dj := 85) _ rfl (fun hb14 => ?_) (fun hb14 => ?_)
                    · replace hj4 := bif_t hb14 hj4
                      refine St.gOff (dj := 85) rfl rfl rfl rfl ?_
                      refine St.gOff (dj := 85) rfl rfl rfl rfl ?_
                      refine St.gOff (dj := 85) rfl rfl rfl rfl ?_
                      refine St.gOff (dj := 85) rfl rfl rfl rfl ?_
                      refine St.gOff (dj := 85) rfl rfl rfl rfl ?_
                      refine St.gOff (dj := 85) rfl rfl rfl rfl ?_
                      refine St.gOff (dj := 85) rfl rfl rfl rfl ?_
                      refine St.p rfl rfl ?_
                      refine St.doneQ ?_
                      injection hj4 with hj4
                      subst hj4
                      refine St.thenN ?_
                      exact St.hereE () ⟨rfl, rfl, rfl, rfl, trivial⟩ (fun _ w => ((.d (.d (.d (.k (.k (.k (.k (.k .z)))))))) : Keep _ _).sat w)
                    · replace hj4 := bif_f hb14 hj4
                      refine St.gOn (dj := 85) rfl rfl ?_
                      refine St.p rfl rfl ?_
                      refine St.gOn (dj := 85) rfl rfl ?_
                      refine St.loadB 1 rfl rfl (.tail _ (.tail _ (.head _))) rfl rfl ?_
                      refine St.gOn (dj := 85) rfl rfl ?_
                      obtain ⟨r27, hr27, hj4⟩ := bnd_e hj4
                      refine St.callV (c_inventory_Valid hr27) ent17 rfl rfl rfl rfl ⟨(.tail _ (.tail _ (.tail _ (.tail _ (.tail _ (.tail _ (.head _))))))), trivial⟩ ?_
                      refine St.gOn (dj := 85) rfl rfl ?_
                      refine St.p rfl rfl ?_
                      refine St.gOn (dj := 85) rfl rfl ?_
                      refine St.loadB 1 rfl rfl (.tail _ (.tail _ (.head _))) rfl rfl ?_
                      refine St.gOn (dj := 85) rfl rfl ?_
                      obtain ⟨r28, hr28, hj4⟩ := bnd_e hj4
                      refine St.callV (c_ref19_Valid hr28) ent18 rfl rfl rfl rfl ⟨(.tail _ (.tail _ (.tail _ (.tail _ (.tail _ (.tail _ (.head _))))))), trivial⟩ ?_
                      refine St.gOn (dj := 85) rfl rfl ?_
                      refine St.p rfl rfl ?_
                      refine St.p rfl rfl ?_
                      refine St.doneQ ?_
                      injection hj4 with hj4
                      subst hj4
                      refine St.thenN ?_
                      exact St.hereE () ⟨rfl, rfl, rfl, rfl, trivial⟩ (fun _ w => ((.d (.d (.d (.k (.k (.k (.k (.k .z)))))))) : Keep _ _).sat w)
              · rintro e4
                refine St.cond _ rfl (fun hb15 => ?_) (fun hb15 => ?_)
                · replace h := bif_t hb15 h
                  refine St.seq ?_
                  refine St.region ?_
                  refine St.p rfl rfl ?_
                  refine St.done ?_
                  refine St.thenN ?_
                  refine St.prune (Γ' := [(6, _)]) ⟨rfl, trivial⟩ (.d (.d (.d (.d (.d .z))))) ?_
                  refine St.ret ?_
                  repeat (first | refine St.thenR ?_ | refine St.blkR ?_)
                  injection h with h
                  subst h
                  exact St.finR Try.results3 (.tmp rfl .nil) rfl [] ⟨rfl, rfl⟩ (fun _ w => (.z : Keep _ _).sat w)
                · replace h := bif_f hb15 h
                  refine St.skip ?_
                  refine St.blkN ?_
                  refine St.thenN ?_
                  refine St.prune (Γ' := [(45, _), (46, _), (47, _)]) ⟨rfl, rfl, rfl, trivial⟩ (.k (.k (.k (.k (.k .z))))) ?_
                  refine St.region ?_
                  refine St.p rfl rfl ?_
                  refine St.p rfl rfl ?_
                  refine St.done ?_
                  refine St.thenN ?_
                  refine St.round ?_
                  refine St.prune (Γ' := [(45, _), (46, _), (47, _)]) ⟨rfl, rfl, rfl, trivial⟩ (.k (.k (.k (.k (.k .z))))) ?_
                  refine St.seq ?_
                  refine St.region ?_
                  refine St.p rfl rfl ?_
                  refine St.done ?_
                  refine St.thenN ?_
                  refine St.seq ?_
                  refine St.condF rfl ?_
                  refine St.exit ?_
                  repeat (first | refine St.thenX ?_ | refine St.blkMiss rfl ?_)
                  refine St.blkHit ?_
                  refine St.thenN ?_
                  refine St.prune (Γ' := []) trivial (.d (.d (.d (.d (.d .z))))) ?_
                  refine St.seq ?_
                  refine St.region ?_
                  obtain ⟨r29, hr29, h⟩ := bnd_e h
                  refine St.callV (c_law19_awake hr29) ent11 rfl rfl rfl rfl trivial ?_
                  refine St.p rfl rfl ?_
                  refine St.done ?_
                  refine St.thenN ?_
                  refine St.prune (Γ' := [(6, _)]) ⟨rfl, trivial⟩ .z ?_
                  refine St.ret ?_
                  repeat (first | refine St.thenR ?_ | refine St.blkR ?_)
                  injection h with h
                  subst h
                  exact St.finR Try.results3 (.tmp rfl .nil) rfl [] ⟨rfl, rfl⟩ (fun _ w => (.z : Keep _ _).sat w)

theorem ent4 : Ent Try.prog 4 := ⟨_, Try.func4, by kernel_rfl, by kernel_rfl⟩

noncomputable def m_law19_InventoryTurns (l_p0 : (List Int)) (m_p1 : (List Int)) : Option Bool :=
  bnd ((bnd (m_made_Light l_p0) fun r1 => bif !r1 then (some true) else (bnd (m_made_Light m_p1) fun r2 => some (!r2)) : Option Bool)) fun o1 => bif o1 then (bnd (m_law19_awake) fun r3 => some r3) else (bnd (m_made_Roll l_p0) fun r4 => bnd (m_made_Dice_Inventory r4) fun r5 => bnd (m_made_Roll m_p1) fun r6 => bnd (m_made_Dice_Inventory r6) fun r7 => bnd (m_inventory_Compare r5.2 r5.2) fun r8 => bnd (m_inventory_Compare r5.2 r7.2) fun r9 => bnd (m_inventory_Compare r7.2 r5.2) fun r10 => bnd ((bif (r8.2 != 0) then (some true) else (bif (r9.2 != 0) then (some true) else (bif (r10.2 != 0) then (some true) else (some ((r8.1.length : Int) != 0)))) : Option Bool)) fun o2 => bif o2 then (some false) else (bnd ((bnd (m_law19_count r9.1 1) fun r11 => bnd (m_law19_count r9.1 2) fun r12 => bif ((r7.2.length : Int) != (IntKind.wrap .i64 ((IntKind.wrap .i64 ((r5.2.length : Int) + r11)) - r12))) then (some (r9.1, r10.1, true)) else (bnd (m_law19_count r9.1 1) fun r13 => bnd (m_law19_count r10.1 2) fun r14 => bif (r13 != r14) then (some (r9.1, r10.1, true)) else (bnd (m_law19_count r9.1 2) fun r15 => bnd (m_law19_count r10.1 1) fun r16 => bif (r15 != r16) then (some (r9.1, r10.1, true)) else (bnd (m_law19_count r9.1 3) fun r17 => bnd (m_law19_count r10.1 3) fun r18 => bif (r17 != r18) then (some (r9.1, r10.1, true)) else (bnd (m_law19_count r9.1 4) fun r19 => bnd (m_law19_count r10.1 4) fun r20 => bif (r19 != r20) then (some (r9.1, r10.1, true)) else (bnd (m_law19_count r9.1 5) fun r21 => bnd (m_law19_count r10.1 5) fun r22 => some (r9.1, r10.1, (r21 != r22))))))) : Option (List T_Difference × List T_Difference × Bool))) fun o3 => bif o3.2.2 then (some false) else (bnd (loopM (τ := Bool ⊕ Unit) (fun (s1 : Int) => bif decide (s1 < (o3.1.length : Int)) then (bnd ((bif decide (s1 > 0) then (bnd (elt o3.1 s1) fun x1 => bnd (elt o3.1 (IntKind.wrap .i64 (s1 - 1))) fun x2 => some (decide (x1.Slot < x2.Slot))) else (some false) : Option Bool)) fun o6 => bif o6 then (some (.done (.inl false))) else (bnd (elt o3.1 s1) fun x3 => bif (x3.Kind != 4) then (some (.next (IntKind.wrap .i64 (s1 + 1)))) else (bnd (loopM (τ := Bool) (fun (s2 : Bool × Int) => bif decide (s2.2 < (o3.2.1.length : Int)) then (bif s2.1 then (some (.next (true, IntKind.wrap .i64 (s2.2 + 1)))) else (bnd (elt o3.2.1 s2.2) fun x4 => bif (x4.Kind == 4) then (bnd (elt o3.1 s1) fun x5 => bif (x4.Slot == x5.From) then (some (.next ((x4.From == x5.Slot), IntKind.wrap .i64 (s2.2 + 1)))) else (some (.next (false, IntKind.wrap .i64 (s2.2 + 1))))) else (some (.next (false, IntKind.wrap .i64 (s2.2 + 1)))))) else (some (.done s2.1))) (false, 0)) fun o7 => bif !o7 then (some (.done (.inl false))) else (some (.next (IntKind.wrap .i64 (s1 + 1))))))) else (some (.done (.inr ())))) 0) fun o4 => retOr o4 fun o5 => bnd (m_law19_awake) fun r23 => some r23)))

theorem c_law19_InventoryTurns {l_p0 : (List Int)} {m_p1 : (List Int)} {A1 : Option Addr} {c1 : Nat} {A2 : Option Addr} {c2 : Nat} {r : Bool} (h : m_law19_InventoryTurns l_p0 m_p1 = some r) :
    Fun Try.prog 4 [.slice A1 l_p0.length c1, .slice A2 m_p1.length c2] [.ro (SlL ei64 A1 c1 l_p0), .ro (SlL ei64 A2 c2 m_p1)] (Val (.bool r)) := by
  unfold m_law19_InventoryTurns at h
  refine Fun.intro Try.func4 rfl rfl rfl fun w R => ?_
  refine St.seq ?_
  refine St.region ?_
  refine St.p rfl rfl ?_
  refine St.done ?_
  refine St.thenN ?_
  refine St.prune (Γ' := [(0, _), (1, _)]) ⟨rfl, rfl, trivial⟩ (.k (.k .z)) ?_
  refine St.seq ?_
  refine St.seq ?_
  obtain ⟨o1, hj1, h⟩ := bnd_e h
  refine St.cutE (fun (e1 : Unit) => [(0, .slice A1 l_p0.length c1), (1, .slice A2 m_p1.length c2), (23, .bool o1)]) (fun e1 => .ro (SlL ei64 A1 c1 l_p0) :: .ro (SlL ei64 A2 c2 m_p1) :: R) ?_ ?_
  · refine St.region ?_
    refine St.p rfl rfl ?_
    obtain ⟨r1, hr1, hj1⟩ := bnd_e hj1
    refine St.callV (c_made_Light hr1) ent10 rfl rfl rfl rfl ⟨(.head _), trivial⟩ ?_
    refine St.p rfl rfl ?_
    refine St.p rfl rfl ?_
    refine St.gSplit (dj := 19) _ rfl (fun hb1 => ?_) (fun hb1 => ?_)
    · replace hj1 := bif_t hb1 hj1
      refine St.gOff (dj := 19) rfl rfl rfl rfl ?_
      refine St.gOff (dj := 19) rfl rfl rfl rfl ?_
      refine St.gOff (dj := 19) rfl rfl rfl rfl ?_
      refine St.p rfl rfl ?_
      refine St.done ?_
      injection hj1 with hj1
      subst hj1
      refine St.thenN ?_
      exact St.hereE () ⟨rfl, rfl, rfl, trivial⟩ (fun _ w => ((.k (.k .z)) : Keep _ _).sat w)
    · replace hj1 := bif_f hb1 hj1
      refine St.gOn (dj := 19) rfl rfl ?_
      refine St.p rfl rfl ?_
      refine St.gOn (dj := 19) rfl rfl ?_
      obtain ⟨r2, hr2, hj1⟩ := bnd_e hj1
      refine St.callV (c_made_Light hr2) ent10 rfl rfl rfl rfl ⟨(.tail _ (.head _)), trivial⟩ ?_
      refine St.gOn (dj := 19) rfl rfl ?_
      refine St.p rfl rfl ?_
      refine St.p rfl rfl ?_
      refine St.done ?_
      injection hj1 with hj1
      subst hj1
      refine St.thenN ?_
      exact St.hereE () ⟨rfl, rfl, rfl, trivial⟩ (fun _ w => ((.k (.k .z)) : Keep _ _).sat w)
  · rintro e1
    refine St.cond _ rfl (fun hb2 => ?_) (fun hb2 => ?_)
    · replace h := bif_t hb2 h
      refine St.seq ?_
      refine St.region ?_
      obtain ⟨r3, hr3, h⟩ := bnd_e h
      refine St.callV (c_law19_awake hr3) ent11 rfl rfl rfl rfl trivial ?_
      refine St.p rfl rfl ?_
      refine St.done ?_
      refine St.thenN ?_
      refine St.prune (Γ' := [(4, _)]) ⟨rfl, trivial⟩ (.d (.d .z)) ?_
      refine St.ret ?_
      repeat (first | refine St.thenR ?_ | refine St.blkR ?_)
      injection h with h
      subst h
      exact St.finR Try.results4 (.tmp rfl .nil) rfl [] ⟨rfl, rfl⟩ (fun _ w => (.z : Keep _ _).sat w)
    · replace h := bif_f hb2 h
      refine St.skip ?_
      refine St.thenN ?_
      refine St.prune (Γ' := [(0, _), (1, _)]) ⟨rfl, rfl, trivial⟩ (.k (.k .z)) ?_
      refine St.seq ?_
      refine St.region ?_
      refine St.p rfl rfl ?_
      obtain ⟨r4, hr4, h⟩ := bnd_e h
      refine St.call (c_made_Roll hr4) ent12 rfl rfl rfl (fun _ w => Sat.dup (G := [.ro (SlL ei64 A1 c1 l_p0)]) rfl ⟨(.head _), trivial⟩ w) ?_
      rintro _ _ ⟨g1, A3, c3, rfl, rfl⟩
      refine St.asrt (F' := .ro (SlL ei64 A3 c3 r4.L) :: .res (Box g1 73 [.slice A3 r4.L.length c3, .int .i64 r4.At]) :: .ro (SlL ei64 A1 c1 l_p0) :: .ro (SlL ei64 A2 c2 m_p1) :: R) (fun _ w => w) ?_
      obtain ⟨r5, hr5, h⟩ := bnd_e h
      refine St.call (c_made_Dice_Inventory hr5) ent13 rfl rfl rfl (fun _ w => Sat.dup (G := [.ro (SlL ei64 A3 c3 r4.L)]) rfl ⟨(.tail _ (.head _)), trivial⟩ (w.front (.s .z))) ?_
      rintro _ _ ⟨A4, c4, A5, c5, rfl, rfl⟩
      refine St.asrt (F' := .ro (SlL ei64 A4 c4 r5.1.L) :: .res (Box g1 73 [.slice A4 r5.1.L.length c4, .int .i64 r5.1.At]) :: .res (OwnL e_Known 45 A5 c5 r5.2) :: .ro (SlL ei64 A3 c3 r4.L) :: .ro (SlL ei64 A1 c1 l_p0) :: .ro (SlL ei64 A2 c2 m_p1) :: R) (fun _ w => w) ?_
      refine St.p rfl rfl ?_
      obtain ⟨r6, hr6, h⟩ := bnd_e h
      refine St.call (c_made_Roll hr6) ent12 rfl rfl rfl (fun _ w => Sat.dup (G := [.ro (SlL ei64 A2 c2 m_p1)]) rfl ⟨(.tail _ (.tail _ (.tail _ (.tail _ (.tail _ (.head _)))))), trivial⟩ w) ?_
      rintro _ _ ⟨g2, A6, c6, rfl, rfl⟩
      refine St.asrt (F' := .ro (SlL ei64 A6 c6 r6.L) :: .res (Box g2 73 [.slice A6 r6.L.length c6, .int .i64 r6.At]) :: .ro (SlL ei64 A4 c4 r5.1.L) :: .res (Box g1 73 [.slice A4 r5.1.L.length c4, .int .i64 r5.1.At]) :: .res (OwnL e_Known 45 A5 c5 r5.2) :: .ro (SlL ei64 A3 c3 r4.L) :: .ro (SlL ei64 A1 c1 l_p0) :: .ro (SlL ei64 A2 c2 m_p1) :: R) (fun _ w => w) ?_
      obtain ⟨r7, hr7, h⟩ := bnd_e h
      refine St.call (c_made_Dice_Inventory hr7) ent13 rfl rfl rfl (fun _ w => Sat.dup (G := [.ro (SlL ei64 A6 c6 r6.L)]) rfl ⟨(.tail _ (.head _)), trivial⟩ (w.front (.s .z))) ?_
      rintro _ _ ⟨A7, c7, A8, c8, rfl, rfl⟩
      refine St.asrt (F' := .ro (SlL ei64 A7 c7 r7.1.L) :: .res (Box g2 73 [.slice A7 r7.1.L.length c7, .int .i64 r7.1.At]) :: .res (OwnL e_Known 45 A8 c8 r7.2) :: .ro (SlL ei64 A6 c6 r6.L) :: .ro (SlL ei64 A4 c4 r5.1.L) :: .res (Box g1 73 [.slice A4 r5.1.L.length c4, .int .i64 r5.1.At]) :: .res (OwnL e_Known 45 A5 c5 r5.2) :: .ro (SlL ei64 A3 c3 r4.L) :: .ro (SlL ei64 A1 c1 l_p0) :: .ro (SlL ei64 A2 c2 m_p1) :: R) (fun _ w => w) ?_
      refine St.p rfl rfl ?_
      refine St.p rfl rfl ?_
      refine St.done ?_
      refine St.thenN ?_
      refine St.prune (Γ' := [(5, _), (6, _)]) ⟨rfl, rfl, trivial⟩ (.d (.d (.k (.d (.d (.d (.k (.d (.d (.d .z)))))))))) ?_
      refine St.seq ?_
      refine St.region ?_
      refine St.p rfl rfl ?_
      refine St.p rfl rfl ?_
      refine St.asrt (fun _ w => (w.front (.s .z)).meltL) ?_
      obtain ⟨r8, hr8, h⟩ := bnd_e h
      refine St.call (c_inventory_Compare hr8) ent14 rfl rfl rfl (fun _ w => Sat.dup (G := [.ro (SlL e_Known A5 c5 r5.2), .ro (SlL e_Known A5 c5 r5.2)]) rfl ⟨(.head _), (.head _), trivial⟩ w) ?_
      rintro _ _ ⟨A9, c9, rfl, rfl⟩
      refine St.asrt (F' := .res (OwnL e_Difference 40 A9 c9 r8.1) :: .ro (SlL e_Known A5 c5 r5.2) :: .res (OwnL e_Known 45 A8 c8 r7.2) :: R) (fun _ w => w) ?_
      iterate 5 refine St.p rfl rfl ?_
      refine St.done ?_
      refine St.thenN ?_
      refine St.prune (Γ' := [(5, _), (6, _), (7, _), (8, _)]) ⟨rfl, rfl, rfl, rfl, trivial⟩ (.k (.k (.k .z))) ?_
      refine St.seq ?_
      refine St.region ?_
      refine St.p rfl rfl ?_
      refine St.p rfl rfl ?_
      refine St.asrt (fun _ w => (w.front (.s (.s .z))).meltL) ?_
      obtain ⟨r9, hr9, h⟩ := bnd_e h
      refine St.call (c_inventory_Compare hr9) ent14 rfl rfl rfl (fun _ w => Sat.dup (G := [.ro (SlL e_Known A5 c5 r5.2), .ro (SlL e_Known A8 c8 r7.2)]) rfl ⟨(.tail _ (.tail _ (.head _))), (.head _), trivial⟩ w) ?_
      rintro _ _ ⟨A10, c10, rfl, rfl⟩
      refine St.asrt (F' := .res (OwnL e_Difference 40 A10 c10 r9.1) :: .ro (SlL e_Known A8 c8 r7.2) :: .res (OwnL e_Difference 40 A9 c9 r8.1) :: .ro (SlL e_Known A5 c5 r5.2) :: R) (fun _ w => w) ?_
      iterate 5 refine St.p rfl rfl ?_
      refine St.done ?_
      refine St.thenN ?_
      refine St.prune (Γ' := [(5, _), (6, _), (7, _), (8, _), (9, _), (10, _)]) ⟨rfl, rfl, rfl, rfl, rfl, rfl, trivial⟩ (.k (.k (.k (.k .z)))) ?_
      refine St.seq ?_
      refine St.region ?_
      refine St.p rfl rfl ?_
      refine St.p rfl rfl ?_
      obtain ⟨r10, hr10, h⟩ := bnd_e h
      refine St.call (c_inventory_Compare hr10) ent14 rfl rfl rfl (fun _ w => Sat.dup (G := [.ro (SlL e_Known A8 c8 r7.2), .ro (SlL e_Known A5 c5 r5.2)]) rfl ⟨(.tail _ (.head _)), (.tail _ (.tail _ (.tail _ (.head _)))), trivial⟩ w) ?_
      rintro _ _ ⟨A11, c11, rfl, rfl⟩
      refine St.asrt (F' := .res (OwnL e_Difference 40 A11 c11 r10.1) :: .res (OwnL e_Difference 40 A10 c10 r9.1) :: .ro (SlL e_Known A8 c8 r7.2) :: .res (OwnL e_Difference 40 A9 c9 r8.1) :: .ro (SlL e_Known A5 c5 r5.2) :: R) (fun _ w => w) ?_
      iterate 5 refine St.p rfl rfl ?_
      refine St.done ?_
      refine St.thenN ?_
      refine St.prune (Γ' := [(5, _), (6, _), (7, _), (8, _), (9, _), (10, _), (11, _), (12, _)]) ⟨rfl, rfl, rfl, rfl, rfl, rfl, rfl, rfl, trivial⟩ (.k (.k (.k (.k (.k .z))))) ?_
      refine St.seq ?_
      refine St.seq ?_
      obtain ⟨o2, hj2, h⟩ := bnd_e h
      refine St.cutE (fun (e2 : Unit) => [(5, .slice A5 r5.2.length c5), (6, .slice A8 r7.2.length c8), (9, .slice A10 r9.1.length c10), (11, .slice A11 r10.1.length c11), (63, .bool o2)]) (fun e2 => .res (OwnL e_Difference 40 A11 c11 r10.1) :: .res (OwnL e_Difference 40 A10 c10 r9.1) :: .ro (SlL e_Known A8 c8 r7.2) :: .ro (SlL e_Known A5 c5 r5.2) :: R) ?_ ?_
      · refine St.region ?_
        iterate 3 refine St.p rfl rfl ?_
        refine St.gSplit (dj := 51) _ rfl (fun hb3 => ?_) (fun hb3 => ?_)
        · replace hj2 := bif_t hb3 hj2
          refine St.gOff (dj := 51) rfl rfl rfl rfl ?_
          refine St.gOff (dj := 51) rfl rfl rfl rfl ?_
          refine St.p rfl rfl ?_
          refine St.p rfl rfl ?_
          refine St.gOff (dj := 55) rfl rfl rfl rfl ?_
          refine St.gOff (dj := 55) rfl rfl rfl rfl ?_
          refine St.p rfl rfl ?_
          refine St.p rfl rfl ?_
          refine St.gOff (dj := 59) rfl rfl rfl rfl ?_
          refine St.gOff (dj := 59) rfl rfl rfl rfl ?_
          refine St.gOff (dj := 59) rfl rfl rfl rfl ?_
          refine St.p rfl rfl ?_
          refine St.done ?_
          injection hj2 with hj2
          subst hj2
          refine St.thenN ?_
          exact St.hereE () ⟨rfl, rfl, rfl, rfl, rfl, trivial⟩ (fun _ w => ((.k (.k (.k (.d (.k .z))))) : Keep _ _).sat w)
        · replace hj2 := bif_f hb3 hj2
          refine St.gOn (dj := 51) rfl rfl ?_
          refine St.p rfl rfl ?_
          refine St.gOn (dj := 51) rfl rfl ?_
          iterate 3 refine St.p rfl rfl ?_
          refine St.gSplit (dj := 55) _ rfl (fun hb4 => ?_) (fun hb4 => ?_)
          · replace hj2 := bif_t hb4 hj2
            refine St.gOff (dj := 55) rfl rfl rfl rfl ?_
            refine St.gOff (dj := 55) rfl rfl rfl rfl ?_
            refine St.p rfl rfl ?_
            refine St.p rfl rfl ?_
            refine St.gOff (dj := 59) rfl rfl rfl rfl ?_
            refine St.gOff (dj := 59) rfl rfl rfl rfl ?_
            refine St.gOff (dj := 59) rfl rfl rfl rfl ?_
            refine St.p rfl rfl ?_
            refine St.done ?_
            injection hj2 with hj2
            subst hj2
            refine St.thenN ?_
            exact St.hereE () ⟨rfl, rfl, rfl, rfl, rfl, trivial⟩ (fun _ w => ((.k (.k (.k (.d (.k .z))))) : Keep _ _).sat w)
          · replace hj2 := bif_f hb4 hj2
            refine St.gOn (dj := 55) rfl rfl ?_
            refine St.p rfl rfl ?_
            refine St.gOn (dj := 55) rfl rfl ?_
            iterate 3 refine St.p rfl rfl ?_
            refine St.gSplit (dj := 59) _ rfl (fun hb5 => ?_) (fun hb5 => ?_)
            · replace hj2 := bif_t hb5 hj2
              refine St.gOff (dj := 59) rfl rfl rfl rfl ?_
              refine St.gOff (dj := 59) rfl rfl rfl rfl ?_
              refine St.gOff (dj := 59) rfl rfl rfl rfl ?_
              refine St.p rfl rfl ?_
              refine St.done ?_
              injection hj2 with hj2
              subst hj2
              refine St.thenN ?_
              exact St.hereE () ⟨rfl, rfl, rfl, rfl, rfl, trivial⟩ (fun _ w => ((.k (.k (.k (.d (.k .z))))) : Keep _ _).sat w)
            · replace hj2 := bif_f hb5 hj2
              refine St.gOn (dj := 59) rfl rfl ?_
              refine St.p rfl rfl ?_
              refine St.gOn (dj := 59) rfl rfl ?_
              refine St.p rfl rfl ?_
              refine St.gOn (dj := 59) rfl rfl ?_
              refine St.p rfl rfl ?_
              refine St.p rfl rfl ?_
              refine St.done ?_
              injection hj2 with hj2
              subst hj2
              refine St.thenN ?_
              exact St.hereE () ⟨rfl, rfl, rfl, rfl, rfl, trivial⟩ (fun _ w => ((.k (.k (.k (.d (.k .z))))) : Keep _ _).sat w)
      · rintro e2
        refine St.cond _ rfl (fun hb6 => ?_) (fun hb6 => ?_)
        · replace h := bif_t hb6 h
          refine St.seq ?_
          refine St.region ?_
          refine St.p rfl rfl ?_
          refine St.done ?_
          refine St.thenN ?_
          refine St.prune (Γ' := [(4, _)]) ⟨rfl, trivial⟩ (.d (.d (.d (.d .z)))) ?_
          refine St.ret ?_
          repeat (first | refine St.thenR ?_ | refine St.blkR ?_)
          injection h with h
          subst h
          exact St.finR Try.results4 (.tmp rfl .nil) rfl [] ⟨rfl, rfl⟩ (fun _ w => (.z : Keep _ _).sat w)
        · replace h := bif_f hb6 h
          refine St.skip ?_
          refine St.thenN ?_
          refine St.prune (Γ' := [(5, _), (6, _), (9, _), (11, _)]) ⟨rfl, rfl, rfl, rfl, trivial⟩ (.k (.k (.k (.k .z)))) ?_
          refine St.seq ?_
          refine St.seq ?_
          obtain ⟨o3, hj3, h⟩ := bnd_e h
          refine St.cutE (fun (e3 : Option Addr × Nat × Option Addr × Nat) => [(9, .slice e3.1 o3.1.length e3.2.1), (11, .slice e3.2.2.1 o3.2.1.length e3.2.2.2), (109, .bool o3.2.2)]) (fun e3 => .ro (SlL e_Difference e3.2.2.1 e3.2.2.2 o3.2.1) :: .ro (SlL e_Difference e3.1 e3.2.1 o3.1) :: R) ?_ ?_
          · refine St.region ?_
            iterate 5 refine St.p rfl rfl ?_
            refine St.asrt (fun _ w => (w.front (.s .z)).meltL) ?_
            obtain ⟨r11, hr11, hj3⟩ := bnd_e hj3
            refine St.callV (c_law19_count hr11) ent19 rfl rfl rfl rfl ⟨(.head _), trivial⟩ ?_
            refine St.p rfl rfl ?_
            refine St.p rfl rfl ?_
            obtain ⟨r12, hr12, hj3⟩ := bnd_e hj3
            refine St.callV (c_law19_count hr12) ent19 rfl rfl rfl rfl ⟨(.head _), trivial⟩ ?_
            iterate 3 refine St.p rfl rfl ?_
            refine St.gSplit (dj := 75) _ rfl (fun hb7 => ?_) (fun hb7 => ?_)
            · replace hj3 := bif_t hb7 hj3
              refine St.gOff (dj := 75) rfl rfl rfl rfl ?_
              refine St.gOff (dj := 75) rfl rfl rfl rfl ?_
              refine St.gOff (dj := 75) rfl rfl rfl rfl ?_
              refine St.gOff (dj := 75) rfl rfl rfl rfl ?_
              refine St.gOff (dj := 75) rfl rfl rfl rfl ?_
              refine St.p rfl rfl ?_
              refine St.p rfl rfl ?_
              refine St.gOff (dj := 82) rfl rfl rfl rfl ?_
              refine St.gOff (dj := 82) rfl rfl rfl rfl ?_
              refine St.gOff (dj := 82) rfl rfl rfl rfl ?_
              refine St.gOff (dj := 82) rfl rfl rfl rfl ?_
              refine St.gOff (dj := 82) rfl rfl rfl rfl ?_
              refine St.p rfl rfl ?_
              refine St.p rfl rfl ?_
              refine St.gOff (dj := 89) rfl rfl rfl rfl ?_
              refine St.gOff (dj := 89) rfl rfl rfl rfl ?_
              refine St.gOff (dj := 89) rfl rfl rfl rfl ?_
              refine St.gOff (dj := 89) rfl rfl rfl rfl ?_
              refine St.gOff (dj := 89) rfl rfl rfl rfl ?_
              refine St.p rfl rfl ?_
              refine St.p rfl rfl ?_
              refine St.gOff (dj := 96) rfl rfl rfl rfl ?_
              refine St.gOff (dj := 96) rfl rfl rfl rfl ?_
              refine St.gOff (dj := 96) rfl rfl rfl rfl ?_
              refine St.gOff (dj := 96) rfl rfl rfl rfl ?_
              refine St.gOff (dj := 96) rfl rfl rfl rfl ?_
              refine St.p rfl rfl ?_
              refine St.p rfl rfl ?_
              refine St.gOff (dj := 103) rfl rfl rfl rfl ?_
              refine St.gOff (dj := 103) rfl rfl rfl rfl ?_
              refine St.gOff (dj := 103) rfl rfl rfl rfl ?_
              refine St.gOff (dj := 103) rfl rfl rfl rfl ?_
              refine St.gOff (dj := 103) rfl rfl rfl rfl ?_
              refine St.p rfl rfl ?_
              refine St.done ?_
              refine St.asrt (fun _ w => (w.front (.s .z)).meltL) ?_
              injection hj3 with hj3
              subst hj3
              refine St.thenN ?_
              exact St.hereE (A10, c10, A11, c11) ⟨rfl, rfl, rfl, trivial⟩ (fun _ w => ((.k (.k (.d (.d .z)))) : Keep _ _).sat w)
            · replace hj3 := bif_f hb7 hj3
              refine St.gOn (dj := 75) rfl rfl ?_
              refine St.p rfl rfl ?_
              refine St.gOn (dj := 75) rfl rfl ?_
              obtain ⟨r13, hr13, hj3⟩ := bnd_e hj3
              refine St.callV (c_law19_count hr13) ent19 rfl rfl rfl rfl ⟨(.head _), trivial⟩ ?_
              refine St.gOn (dj := 75) rfl rfl ?_
              refine St.p rfl rfl ?_
              refine St.gOn (dj := 75) rfl rfl ?_
              refine St.asrt (fun _ w => (w.front (.s .z)).meltL) ?_
              obtain ⟨r14, hr14, hj3⟩ := bnd_e hj3
              refine St.callV (c_law19_count hr14) ent19 rfl rfl rfl rfl ⟨(.head _), trivial⟩ ?_
              refine St.gOn (dj := 75) rfl rfl ?_
              iterate 3 refine St.p rfl rfl ?_
              refine St.gSplit (dj := 82) _ rfl (fun hb8 => ?_) (fun hb8 => ?_)
              · replace hj3 := bif_t hb8 hj3
                refine St.gOff (dj := 82) rfl rfl rfl rfl ?_
                refine St.gOff (dj := 82) rfl rfl rfl rfl ?_
                refine St.gOff (dj := 82) rfl rfl rfl rfl ?_
                refine St.gOff (dj := 82) rfl rfl rfl rfl ?_
                refine St.gOff (dj := 82) rfl rfl rfl rfl ?_
                refine St.p rfl rfl ?_
                refine St.p rfl rfl ?_
                refine St.gOff (dj := 89) rfl rfl rfl rfl ?_
                refine St.gOff (dj := 89) rfl rfl rfl rfl ?_
                refine St.gOff (dj := 89) rfl rfl rfl rfl ?_
                refine St.gOff (dj := 89) rfl rfl rfl rfl ?_
                refine St.gOff (dj := 89) rfl rfl rfl rfl ?_
                refine St.p rfl rfl ?_
                refine St.p rfl rfl ?_
                refine St.gOff (dj := 96) rfl rfl rfl rfl ?_
                refine St.gOff (dj := 96) rfl rfl rfl rfl ?_
                refine St.gOff (dj := 96) rfl rfl rfl rfl ?_
                refine St.gOff (dj := 96) rfl rfl rfl rfl ?_
                refine St.gOff (dj := 96) rfl rfl rfl rfl ?_
                refine St.p rfl rfl ?_
                refine St.p rfl rfl ?_
                refine St.gOff (dj := 103) rfl rfl rfl rfl ?_
                refine St.gOff (dj := 103) rfl rfl rfl rfl ?_
                refine St.gOff (dj := 103) rfl rfl rfl rfl ?_
                refine St.gOff (dj := 103) rfl rfl rfl rfl ?_
                refine St.gOff (dj := 103) rfl rfl rfl rfl ?_
                refine St.p rfl rfl ?_
                refine St.done ?_
                injection hj3 with hj3
                subst hj3
                refine St.thenN ?_
                exact St.hereE (A10, c10, A11, c11) ⟨rfl, rfl, rfl, trivial⟩ (fun _ w => ((.k (.k (.d (.d .z)))) : Keep _ _).sat w)
              · replace hj3 := bif_f hb8 hj3
                refine St.gOn (dj := 82) rfl rfl ?_
                refine St.p rfl rfl ?_
                refine St.gOn (dj := 82) rfl rfl ?_
                obtain ⟨r15, hr15, hj3⟩ := bnd_e hj3
                refine St.callV (c_law19_count hr15) ent19 rfl rfl rfl rfl ⟨(.tail _ (.head _)), trivial⟩ ?_
                refine St.gOn (dj := 82) rfl rfl ?_
                refine St.p rfl rfl ?_
                refine St.gOn (dj := 82) rfl rfl ?_
                obtain ⟨r16, hr16, hj3⟩ := bnd_e hj3
                refine St.callV (c_law19_count hr16) ent19 rfl rfl rfl rfl ⟨(.head _), trivial⟩ ?_
                refine St.gOn (dj := 82) rfl rfl ?_
                iterate 3 refine St.p rfl rfl ?_
                refine St.gSplit (dj := 89) _ rfl (fun hb9 => ?_) (fun hb9 => ?_)
                · replace hj3 := bif_t hb9 hj3
                  refine St.gOff (dj := 89) rfl rfl rfl rfl ?_
                  refine St.gOff (dj := 89) rfl rfl rfl rfl ?_
                  refine St.gOff (dj := 89) rfl rfl rfl rfl ?_
                  refine St.gOff (dj := 89) rfl rfl rfl rfl ?_
                  refine St.gOff (dj := 89) rfl rfl rfl rfl ?_
                  refine St.p rfl rfl ?_
                  refine St.p rfl rfl ?_
                  refine St.gOff (dj := 96) rfl rfl rfl rfl ?_
                  refine St.gOff (dj := 96) rfl rfl rfl rfl ?_
                  refine St.gOff (dj := 96) rfl rfl rfl rfl ?_
                  refine St.gOff (dj := 96) rfl rfl rfl rfl ?_
                  refine St.gOff (dj := 96) rfl rfl rfl rfl ?_
                  refine St.p rfl rfl ?_
                  refine St.p rfl rfl ?_
                  refine St.gOff (dj := 103) rfl rfl rfl rfl ?_
                  refine St.gOff (dj := 103) rfl rfl rfl rfl ?_
                  refine St.gOff (dj := 103) rfl rfl rfl rfl ?_
                  refine St.gOff (dj := 103) rfl rfl rfl rfl ?_
                  refine St.gOff (dj := 103) rfl rfl rfl rfl ?_
                  refine St.p rfl rfl ?_
                  refine St.done ?_
                  injection hj3 with hj3
                  subst hj3
                  refine St.thenN ?_
                  exact St.hereE (A10, c10, A11, c11) ⟨rfl, rfl, rfl, trivial⟩ (fun _ w => ((.k (.k (.d (.d .z)))) : Keep _ _).sat w)
                · replace hj3 := bif_f hb9 hj3
                  refine St.gOn (dj := 89) rfl rfl ?_
                  refine St.p rfl rfl ?_
                  refine St.gOn (dj := 89) rfl rfl ?_
                  obtain ⟨r17, hr17, hj3⟩ := bnd_e hj3
                  refine St.callV (c_law19_count hr17) ent19 rfl rfl rfl rfl ⟨(.tail _ (.head _)), trivial⟩ ?_
                  refine St.gOn (dj := 89) rfl rfl ?_
                  refine St.p rfl rfl ?_
                  refine St.gOn (dj := 89) rfl rfl ?_
                  obtain ⟨r18, hr18, hj3⟩ := bnd_e hj3
                  refine St.callV (c_law19_count hr18) ent19 rfl rfl rfl rfl ⟨(.head _), trivial⟩ ?_
                  refine St.gOn (dj := 89) rfl rfl ?_
                  iterate 3 refine St.p rfl rfl ?_
                  refine St.gSplit (dj := 96) _ rfl (fun hb10 => ?_) (fun hb10 => ?_)
                  · replace hj3 := bif_t hb10 hj3
                    refine St.gOff (dj := 96) rfl rfl rfl rfl ?_
                    refine St.gOff (dj := 96) rfl rfl rfl rfl ?_
                    refine St.gOff (dj := 96) rfl rfl rfl rfl ?_
                    refine St.gOff (dj := 96) rfl rfl rfl rfl ?_
                    refine St.gOff (dj := 96) rfl rfl rfl rfl ?_
                    refine St.p rfl rfl ?_
                    refine St.p rfl rfl ?_
                    refine St.gOff (dj := 103) rfl rfl rfl rfl ?_
                    refine St.gOff (dj := 103) rfl rfl rfl rfl ?_
                    refine St.gOff (dj := 103) rfl rfl rfl rfl ?_
                    refine St.gOff (dj := 103) rfl rfl rfl rfl ?_
                    refine St.gOff (dj := 103) rfl rfl rfl rfl ?_
                    refine St.p rfl rfl ?_
                    refine St.done ?_
                    injection hj3 with hj3
                    subst hj3
                    refine St.thenN ?_
                    exact St.hereE (A10, c10, A11, c11) ⟨rfl, rfl, rfl, trivial⟩ (fun _ w => ((.k (.k (.d (.d .z)))) : Keep _ _).sat w)
                  · replace hj3 := bif_f hb10 hj3
                    refine St.gOn (dj := 96) rfl rfl ?_
                    refine St.p rfl rfl ?_
                    refine St.gOn (dj := 96) rfl rfl ?_
                    obtain ⟨r19, hr19, hj3⟩ := bnd_e hj3
                    refine St.callV (c_law19_count hr19) ent19 rfl rfl rfl rfl ⟨(.tail _ (.head _)), trivial⟩ ?_
                    refine St.gOn (dj := 96) rfl rfl ?_
                    refine St.p rfl rfl ?_
                    refine St.gOn (dj := 96) rfl rfl ?_
                    obtain ⟨r20, hr20, hj3⟩ := bnd_e hj3
                    refine St.callV (c_law19_count hr20) ent19 rfl rfl rfl rfl ⟨(.head _), trivial⟩ ?_
                    refine St.gOn (dj := 96) rfl rfl ?_
                    iterate 3 refine St.p rfl rfl ?_
                    refine St.gSplit (dj := 103) _ rfl (fun hb11 => ?_) (fun hb11 => ?_)
                    · replace hj3 := bif_t hb11 hj3
                      refine St.gOff (dj := 103) rfl rfl rfl rfl ?_
                      refine St.gOff (dj := 103) rfl rfl rfl rfl ?_
                      refine St.gOff (dj := 103) rfl rfl rfl rfl ?_
                      refine St.gOff (dj := 103) rfl rfl rfl rfl ?_
                      refine St.gOff (dj := 103) rfl rfl rfl rfl ?_
                      refine St.p rfl rfl ?_
                      refine St.done ?_
                      injection hj3 with hj3
                      subst hj3
                      refine St.thenN ?_
                      exact St.hereE (A10, c10, A11, c11) ⟨rfl, rfl, rfl, trivial⟩ (fun _ w => ((.k (.k (.d (.d .z)))) : Keep _ _).sat w)
                    · replace hj3 := bif_f hb11 hj3
                      refine St.gOn (dj := 103) rfl rfl ?_
                      refine St.p rfl rfl ?_
                      refine St.gOn (dj := 103) rfl rfl ?_
                      obtain ⟨r21, hr21, hj3⟩ := bnd_e hj3
                      refine St.callV (c_law19_count hr21) ent19 rfl rfl rfl rfl ⟨(.tail _ (.head _)), trivial⟩ ?_
                      refine St.gOn (dj := 103) rfl rfl ?_
                      refine St.p rfl rfl ?_
                      refine St.gOn (dj := 103) rfl rfl ?_
                      obtain ⟨r22, hr22, hj3⟩ := bnd_e hj3
                      refine St.callV (c_law19_count hr22) ent19 rfl rfl rfl rfl ⟨(.head _), trivial⟩ ?_
                      refine St.gOn (dj := 103) rfl rfl ?_
                      refine St.p rfl rfl ?_
                      refine St.p rfl rfl ?_
                      refine St.done ?_
                      injection hj3 with hj3
                      subst hj3
                      refine St.thenN ?_
                      exact St.hereE (A10, c10, A11, c11) ⟨rfl, rfl, rfl, trivial⟩ (fun _ w => ((.k (.k (.d (.d .z)))) : Keep _ _).sat w)
          · rintro ⟨A12, c12, A13, c13⟩
            refine St.cond _ rfl (fun hb12 => ?_) (fun hb12 => ?_)
            · replace h := bif_t hb12 h
              refine St.seq ?_
              refine St.region ?_
              refine St.p rfl rfl ?_
              refine St.done ?_
              refine St.thenN ?_
              refine St.prune (Γ' := [(4, _)]) ⟨rfl, trivial⟩ (.d (.d .z)) ?_
              refine St.ret ?_
              repeat (first | refine St.thenR ?_ | refine St.blkR ?_)
              injection h with h
              subst h
              exact St.finR Try.results4 (.tmp rfl .nil) rfl [] ⟨rfl, rfl⟩ (fun _ w => (.z : Keep _ _).sat w)
            · replace h := bif_f hb12 h
              refine St.skip ?_
              refine St.thenN ?_
              refine St.prune (Γ' := [(9, _), (11, _)]) ⟨rfl, rfl, trivial⟩ (.k (.k .z)) ?_
              refine St.seq ?_
              refine St.seq ?_
              refine St.region ?_
              refine St.p rfl rfl ?_
              refine St.done ?_
              refine St.thenN ?_
              obtain ⟨o4, hl1, h⟩ := bnd_e h
              refine St.cutI (fun (o5 : Unit) (e5 : Unit) => []) (fun o5 e5 => R) (fun o5 => o4 = .inr o5) ?_ ?_
              · refine St.block ?_
                refine St.loop hl1 (fun (s1 : Int) (e4 : Unit) => [(9, .slice A12 o3.1.length c12), (11, .slice A13 o3.2.1.length c13), (13, .int .i64 s1)]) (fun s1 e4 => .ro (SlL e_Difference A13 c13 o3.2.1) :: .ro (SlL e_Difference A12 c12 o3.1) :: R) (fun _ _ => True) () trivial ⟨rfl, rfl, rfl, trivial⟩ (fun _ w => ((.k (.k .z)) : Keep _ _).sat w) ?_
                rintro s1 e4 - hit1
                obtain ⟨st1, hm1, hd1⟩ := iter_e hit1
                have h1 := hm1
                refine St.seq ?_
                refine St.seq ?_
                refine St.region ?_
                iterate 4 refine St.p rfl rfl ?_
                refine St.done ?_
                refine St.thenN ?_
                refine St.prune (Γ' := [(9, _), (11, _), (13, _), (113, _)]) ⟨rfl, rfl, rfl, rfl, trivial⟩ (.k (.k .z)) ?_
                refine St.cond _ rfl (fun hb13 => ?_) (fun hb13 => ?_)
                · replace h1 := bif_t hb13 h1
                  refine St.skip ?_
                  refine St.thenN ?_
                  refine St.prune (Γ' := [(9, _), (11, _), (13, _)]) ⟨rfl, rfl, rfl, trivial⟩ (.k (.k .z)) ?_
                  refine St.seq ?_
                  refine St.block ?_
                  refine St.seq ?_
                  refine St.seq ?_
                  obtain ⟨o6, hj4, h1⟩ := bnd_e h1
                  refine St.cutE (fun (e6 : Unit) => [(9, .slice A12 o3.1.length c12), (11, .slice A13 o3.2.1.length c13), (13, .int .i64 s1), (131, .bool o6)]) (fun e6 => .ro (SlL e_Difference A13 c13 o3.2.1) :: .ro (SlL e_Difference A12 c12 o3.1) :: R) ?_ ?_
                  · refine St.regionF mixed (by kernel_rfl) ?_
                    iterate 3 refine St.p rfl rfl ?_
                    refine St.gSplit (dj := 118) _ rfl (fun hb14 => ?_) (fun hb14 => ?_)
                    · replace hj4 := bif_t hb14 hj4
                      refine St.gOn (dj := 118) rfl rfl ?_
                      refine St.p rfl rfl ?_
                      refine St.gOn (dj := 118) rfl rfl ?_
                      refine St.p rfl rfl ?_
                      refine St.gOn (dj := 118) rfl rfl ?_
                      obtain ⟨x1, hx1, hj4⟩ := bnd_e hj4
                      refine St.ixL hx1 rfl rfl rfl (.tail _ (.head _)) rfl rfl rfl rfl rfl fun b1 ob1 => ?_
                      refine St.gOn (dj := 118) rfl rfl ?_
                      refine St.p rfl rfl ?_
                      refine St.gOn (dj := 118) rfl rfl ?_
                      refine St.load ob1 1 rfl rfl (.head _) rfl rfl ?_
                      refine St.gOn (dj := 118) rfl rfl ?_
                      refine St.p rfl rfl ?_
                      refine St.gOn (dj := 118) rfl rfl ?_
                      refine St.p rfl rfl ?_
                      refine St.gOn (dj := 118) rfl rfl ?_
                      refine St.p rfl rfl ?_
                      refine St.gOn (dj := 118) rfl rfl ?_
                      obtain ⟨x2, hx2, hj4⟩ := bnd_e hj4
                      refine St.ixL hx2 rfl rfl rfl (.tail _ (.tail _ (.head _))) rfl rfl rfl rfl rfl fun b2 ob2 => ?_
                      refine St.gOn (dj := 118) rfl rfl ?_
                      refine St.p rfl rfl ?_
                      refine St.gOn (dj := 118) rfl rfl ?_
                      refine St.load ob2 1 rfl rfl (.head _) rfl rfl ?_
                      refine St.gOn (dj := 118) rfl rfl ?_
                      refine St.p rfl rfl ?_
                      refine St.p rfl rfl ?_
                      refine St.doneQ ?_
                      injection hj4 with hj4
                      subst hj4
                      refine St.thenN ?_
                      exact St.hereE () ⟨rfl, rfl, rfl, rfl, trivial⟩ (fun _ w => ((.d (.d (.k (.k .z)))) : Keep _ _).sat w)
                    · replace hj4 := bif_f hb14 hj4
                      refine St.gOff (dj := 118) rfl rfl rfl rfl ?_
                      refine St.gOff (dj := 118) rfl rfl rfl rfl ?_
                      refine St.gOff (dj := 118) rfl rfl rfl rfl ?_
                      refine St.gOff (dj := 118) rfl rfl rfl rfl ?_
                      refine St.gOff (dj := 118) rfl rfl rfl rfl ?_
                      refine St.gOff (dj := 118) rfl rfl rfl rfl ?_
                      refine St.gOff (dj := 118) rfl rfl rfl rfl ?_
                      refine St.gOff (dj := 118) rfl rfl rfl rfl ?_
                      refine St.gOff (dj := 118) rfl rfl rfl rfl ?_
                      refine St.gOff (dj := 118) rfl rfl rfl rfl ?_
                      refine St.gOff (dj := 118) rfl rfl rfl rfl ?_
                      refine St.gOff (dj := 118) rfl rfl rfl rfl ?_
                      refine St.p rfl rfl ?_
                      refine St.doneQ ?_
                      injection hj4 with hj4
                      subst hj4
                      refine St.thenN ?_
                      exact St.hereE () ⟨rfl, rfl, rfl, rfl, trivial⟩ (fun _ w => ((.k (.k .z)) : Keep _ _).sat w)
                  · rintro e6
                    refine St.cond _ rfl (fun hb15 => ?_) (fun hb15 => ?_)
                    · replace h1 := bif_t hb15 h1
                      refine St.seq ?_
                      refine St.region ?_
                      refine St.p rfl rfl ?_
                      refine St.done ?_
                      refine St.thenN ?_
                      refine St.prune (Γ' := [(4, _)]) ⟨rfl, trivial⟩ (.d (.d .z)) ?_
                      refine St.ret ?_
                      repeat (first | refine St.thenR ?_ | refine St.blkR ?_)
                      injection h1 with h1
                      subst h1
                      have ho := hd1 _ rfl
                      subst ho
                      have h : some _ = some _ := h
                      injection h with h
                      subst h
                      exact St.finR Try.results4 (.tmp rfl .nil) rfl [] ⟨rfl, rfl⟩ (fun _ w => (.z : Keep _ _).sat w)
                    · replace h1 := bif_f hb15 h1
                      refine St.skip ?_
                      refine St.thenN ?_
                      refine St.prune (Γ' := [(9, _), (11, _), (13, _)]) ⟨rfl, rfl, rfl, trivial⟩ (.k (.k .z)) ?_
                      refine St.seq ?_
                      refine St.seq ?_
                      refine St.region ?_
                      refine St.p rfl rfl ?_
                      refine St.p rfl rfl ?_
                      obtain ⟨x3, hx3, h1⟩ := bnd_e h1
                      refine St.ixL hx3 rfl rfl rfl (.tail _ (.head _)) rfl rfl rfl rfl rfl fun b3 ob3 => ?_
                      refine St.p rfl rfl ?_
                      refine St.load ob3 0 rfl rfl (.head _) rfl rfl ?_
                      refine St.p rfl rfl ?_
                      refine St.done ?_
                      refine St.thenN ?_
                      refine St.prune (Γ' := [(9, _), (11, _), (13, _), (137, _)]) ⟨rfl, rfl, rfl, rfl, trivial⟩ (.d (.k (.k .z))) ?_
                      refine St.cond _ rfl (fun hb16 => ?_) (fun hb16 => ?_)
                      · replace h1 := bif_t hb16 h1
                        refine St.exit ?_
                        repeat (first | refine St.thenX ?_ | refine St.blkMiss rfl ?_)
                        refine St.blkHit ?_
                        refine St.thenN ?_
                        refine St.prune (Γ' := [(9, _), (11, _), (13, _)]) ⟨rfl, rfl, rfl, trivial⟩ (.k (.k .z)) ?_
                        refine St.region ?_
                        iterate 3 refine St.p rfl rfl ?_
                        refine St.done ?_
                        injection h1 with h1
                        subst h1
                        refine St.thenN ?_
                        exact St.again _ () hm1 trivial ⟨rfl, rfl, rfl, trivial⟩ (fun _ w => ((.k (.k .z)) : Keep _ _).sat w)
                      · replace h1 := bif_f hb16 h1
                        refine St.skip ?_
                        refine St.thenN ?_
                        refine St.prune (Γ' := [(9, _), (11, _), (13, _)]) ⟨rfl, rfl, rfl, trivial⟩ (.k (.k .z)) ?_
                        refine St.seq ?_
                        refine St.region ?_
                        refine St.p rfl rfl ?_
                        refine St.done ?_
                        refine St.thenN ?_
                        refine St.seq ?_
                        refine St.seq ?_
                        refine St.region ?_
                        refine St.p rfl rfl ?_
                        refine St.done ?_
                        refine St.thenN ?_
                        obtain ⟨o7, hl2, h1⟩ := bnd_e h1
                        refine St.cutE (fun (e8 : Unit) => [(9, .slice A12 o3.1.length c12), (11, .slice A13 o3.2.1.length c13), (13, .int .i64 s1), (14, .bool o7)]) (fun e8 => .ro (SlL e_Difference A13 c13 o3.2.1) :: .ro (SlL e_Difference A12 c12 o3.1) :: R) ?_ ?_
                        · refine St.block ?_
                          refine St.loop hl2 (fun (s2 : Bool × Int) (e7 : Unit) => [(9, .slice A12 o3.1.length c12), (11, .slice A13 o3.2.1.length c13), (13, .int .i64 s1), (14, .bool s2.1), (15, .int .i64 s2.2)]) (fun s2 e7 => .ro (SlL e_Difference A13 c13 o3.2.1) :: .ro (SlL e_Difference A12 c12 o3.1) :: R) (fun _ _ => True) () trivial ⟨rfl, rfl, rfl, rfl, rfl, trivial⟩ (fun _ w => ((.k (.k .z)) : Keep _ _).sat w) ?_
                          rintro s2 e7 - hit2
                          obtain ⟨st2, hm2, hd2⟩ := iter_e hit2
                          have h2 := hm2
                          refine St.seq ?_
                          refine St.seq ?_
                          refine St.region ?_
                          iterate 4 refine St.p rfl rfl ?_
                          refine St.done ?_
                          refine St.thenN ?_
                          refine St.prune (Γ' := [(9, _), (11, _), (13, _), (14, _), (15, _), (141, _)]) ⟨rfl, rfl, rfl, rfl, rfl, rfl, trivial⟩ (.k (.k .z)) ?_
                          refine St.cond _ rfl (fun hb17 => ?_) (fun hb17 => ?_)
                          · replace h2 := bif_t hb17 h2
                            refine St.skip ?_
                            refine St.thenN ?_
                            refine St.prune (Γ' := [(9, _), (11, _), (13, _), (14, _), (15, _)]) ⟨rfl, rfl, rfl, rfl, rfl, trivial⟩ (.k (.k .z)) ?_
                            refine St.seq ?_
                            refine St.block ?_
                            refine St.regionF mixed (by kernel_rfl) ?_
                            refine St.p rfl rfl ?_
                            refine St.p rfl rfl ?_
                            refine St.gSplit (dj := 145) _ rfl (fun hb18 => ?_) (fun hb18 => ?_)
                            · replace h2 := bif_t hb18 h2
                              refine St.gOff (dj := 145) rfl rfl rfl rfl ?_
                              refine St.gOff (dj := 145) rfl rfl rfl rfl ?_
                              refine St.gOff (dj := 145) rfl rfl rfl rfl ?_
                              refine St.gOff (dj := 145) rfl rfl rfl rfl ?_
                              refine St.gOff (dj := 145) rfl rfl rfl rfl ?_
                              refine St.gOff (dj := 145) rfl rfl rfl rfl ?_
                              refine St.gOff (dj := 145) rfl rfl rfl rfl ?_
                              refine St.gOff (dj := 152) rfl rfl rfl rfl ?_
                              refine St.gOff (dj := 152) rfl rfl rfl rfl ?_
                              refine St.gOff (dj := 152) rfl rfl rfl rfl ?_
                              refine St.gOff (dj := 152) rfl rfl rfl rfl ?_
                              refine St.gOff (dj := 152) rfl rfl rfl rfl ?_
                              refine St.gOff (dj := 152) rfl rfl rfl rfl ?_
                              refine St.gOff (dj := 152) rfl rfl rfl rfl ?_
                              refine St.gOff (dj := 152) rfl rfl rfl rfl ?_
                              refine St.gOff (dj := 152) rfl rfl rfl rfl ?_
                              refine St.gOff (dj := 152) rfl rfl rfl rfl ?_
                              refine St.gOff (dj := 152) rfl rfl rfl rfl ?_
                              refine St.gOff (dj := 145) rfl rfl rfl rfl ?_
                              refine St.gOff (dj := 145) rfl rfl rfl rfl ?_
                              refine St.gOff (dj := 165) rfl rfl rfl rfl ?_
                              refine St.gOff (dj := 165) rfl rfl rfl rfl ?_
                              refine St.gOff (dj := 165) rfl rfl rfl rfl ?_
                              refine St.gOff (dj := 165) rfl rfl rfl rfl ?_
                              refine St.gOff (dj := 165) rfl rfl rfl rfl ?_
                              refine St.gOff (dj := 165) rfl rfl rfl rfl ?_
                              refine St.gOff (dj := 165) rfl rfl rfl rfl ?_
                              refine St.gOff (dj := 165) rfl rfl rfl rfl ?_
                              refine St.gOff (dj := 165) rfl rfl rfl rfl ?_
                              refine St.gOff (dj := 165) rfl rfl rfl rfl ?_
                              refine St.gOff (dj := 165) rfl rfl rfl rfl ?_
                              refine St.gOff (dj := 145) rfl rfl rfl rfl ?_
                              refine St.p rfl rfl ?_
                              refine St.p rfl rfl ?_
                              refine St.doneQ ?_
                              refine St.blkN ?_
                              refine St.thenN ?_
                              refine St.prune (Γ' := [(9, _), (11, _), (13, _), (14, _), (15, _)]) ⟨rfl, rfl, rfl, rfl, rfl, trivial⟩ (.k (.k .z)) ?_
                              refine St.region ?_
                              iterate 3 refine St.p rfl rfl ?_
                              refine St.done ?_
                              injection h2 with h2
                              subst h2
                              refine St.thenN ?_
                              exact St.again _ () hm2 trivial ⟨rfl, rfl, rfl, rfl, rfl, trivial⟩ (fun _ w => ((.k (.k .z)) : Keep _ _).sat w)
                            · replace h2 := bif_f hb18 h2
                              refine St.gOn (dj := 145) rfl rfl ?_
                              refine St.p rfl rfl ?_
                              refine St.gOn (dj := 145) rfl rfl ?_
                              refine St.p rfl rfl ?_
                              refine St.gOn (dj := 145) rfl rfl ?_
                              obtain ⟨x4, hx4, h2⟩ := bnd_e h2
                              refine St.ixL hx4 rfl rfl rfl (.head _) rfl rfl rfl rfl rfl fun b4 ob4 => ?_
                              refine St.gOn (dj := 145) rfl rfl ?_
                              refine St.p rfl rfl ?_
                              refine St.gOn (dj := 145) rfl rfl ?_
                              refine St.load ob4 0 rfl rfl (.head _) rfl rfl ?_
                              refine St.gOn (dj := 145) rfl rfl ?_
                              refine St.p rfl rfl ?_
                              refine St.gOn (dj := 145) rfl rfl ?_
                              refine St.p rfl rfl ?_
                              refine St.gSplit (dj := 152) _ rfl (fun hb19 => ?_) (fun hb19 => ?_)
                              · replace h2 := bif_t hb19 h2
                                refine St.gOn (dj := 152) rfl rfl ?_
                                refine St.p rfl rfl ?_
                                refine St.gOn (dj := 152) rfl rfl ?_
                                refine St.p rfl rfl ?_
                                refine St.gOn (dj := 152) rfl rfl ?_
                                refine St.ixL hx4 rfl rfl rfl (.tail _ (.head _)) rfl rfl rfl rfl rfl fun b5 ob5 => ?_
                                refine St.gOn (dj := 152) rfl rfl ?_
                                refine St.p rfl rfl ?_
                                refine St.gOn (dj := 152) rfl rfl ?_
                                refine St.load ob5 1 rfl rfl (.head _) rfl rfl ?_
                                refine St.gOn (dj := 152) rfl rfl ?_
                                refine St.p rfl rfl ?_
                                refine St.gOn (dj := 152) rfl rfl ?_
                                refine St.p rfl rfl ?_
                                refine St.gOn (dj := 152) rfl rfl ?_
                                obtain ⟨x5, hx5, h2⟩ := bnd_e h2
                                refine St.ixL hx5 rfl rfl rfl (.tail _ (.tail _ (.tail _ (.head _)))) rfl rfl rfl rfl rfl fun b6 ob6 => ?_
                                refine St.gOn (dj := 152) rfl rfl ?_
                                refine St.p rfl rfl ?_
                                refine St.gOn (dj := 152) rfl rfl ?_
                                refine St.load ob6 2 rfl rfl (.head _) rfl rfl ?_
                                refine St.gOn (dj := 152) rfl rfl ?_
                                refine St.p rfl rfl ?_
                                refine St.gOn (dj := 145) rfl rfl ?_
                                refine St.p rfl rfl ?_
                                refine St.gOn (dj := 145) rfl rfl ?_
                                refine St.p rfl rfl ?_
                                refine St.gSplit (dj := 165) _ rfl (fun hb20 => ?_) (fun hb20 => ?_)
                                · replace h2 := bif_t hb20 h2
                                  refine St.gOn (dj := 165) rfl rfl ?_
                                  refine St.p rfl rfl ?_
                                  refine St.gOn (dj := 165) rfl rfl ?_
                                  refine St.p rfl rfl ?_
                                  refine St.gOn (dj := 165) rfl rfl ?_
                                  refine St.ixL hx4 rfl rfl rfl (.tail _ (.tail _ (.tail _ (.head _)))) rfl rfl rfl rfl rfl fun b7 ob7 => ?_
                                  refine St.gOn (dj := 165) rfl rfl ?_
                                  refine St.p rfl rfl ?_
                                  refine St.gOn (dj := 165) rfl rfl ?_
                                  refine St.load ob7 2 rfl rfl (.head _) rfl rfl ?_
                                  refine St.gOn (dj := 165) rfl rfl ?_
                                  refine St.p rfl rfl ?_
                                  refine St.gOn (dj := 165) rfl rfl ?_
                                  refine St.p rfl rfl ?_
                                  refine St.gOn (dj := 165) rfl rfl ?_
                                  refine St.ixL hx5 rfl rfl rfl (.tail _ (.tail _ (.tail _ (.tail _ (.tail _ (.head _)))))) rfl rfl rfl rfl rfl fun b8 ob8 => ?_
                                  refine St.gOn (dj := 165) rfl rfl ?_
                                  refine St.p rfl rfl ?_
                                  refine St.gOn (dj := 165) rfl rfl ?_
                                  refine St.load ob8 1 rfl rfl (.head _) rfl rfl ?_
                                  refine St.gOn (dj := 165) rfl rfl ?_
                                  refine St.p rfl rfl ?_
                                  refine St.gOn (dj := 145) rfl rfl ?_
                                  iterate 3 refine St.p rfl rfl ?_
                                  refine St.doneQ ?_
                                  refine St.blkN ?_
                                  refine St.thenN ?_
                                  refine St.prune (Γ' := [(9, _), (11, _), (13, _), (14, _), (15, _)]) ⟨rfl, rfl, rfl, rfl, rfl, trivial⟩ (.d (.d (.d (.d (.d (.k (.k .z))))))) ?_
                                  refine St.region ?_
                                  iterate 3 refine St.p rfl rfl ?_
                                  refine St.done ?_
                                  injection h2 with h2
                                  subst h2
                                  refine St.thenN ?_
                                  exact St.again _ () hm2 trivial ⟨rfl, rfl, rfl, rfl, rfl, trivial⟩ (fun _ w => ((.k (.k .z)) : Keep _ _).sat w)
                                · replace h2 := bif_f hb20 h2
                                  refine St.gOff (dj := 165) rfl rfl rfl rfl ?_
                                  refine St.gOff (dj := 165) rfl rfl rfl rfl ?_
                                  refine St.gOff (dj := 165) rfl rfl rfl rfl ?_
                                  refine St.gOff (dj := 165) rfl rfl rfl rfl ?_
                                  refine St.gOff (dj := 165) rfl rfl rfl rfl ?_
                                  refine St.gOff (dj := 165) rfl rfl rfl rfl ?_
                                  refine St.gOff (dj := 165) rfl rfl rfl rfl ?_
                                  refine St.gOff (dj := 165) rfl rfl rfl rfl ?_
                                  refine St.gOff (dj := 165) rfl rfl rfl rfl ?_
                                  refine St.gOff (dj := 165) rfl rfl rfl rfl ?_
                                  refine St.gOff (dj := 165) rfl rfl rfl rfl ?_
                                  refine St.gOn (dj := 145) rfl rfl ?_
                                  iterate 3 refine St.p rfl rfl ?_
                                  refine St.doneQ ?_
                                  refine St.blkN ?_
                                  refine St.thenN ?_
                                  refine St.prune (Γ' := [(9, _), (11, _), (13, _), (14, _), (15, _)]) ⟨rfl, rfl, rfl, rfl, rfl, trivial⟩ (.d (.d (.d (.k (.k .z))))) ?_
                                  refine St.region ?_
                                  iterate 3 refine St.p rfl rfl ?_
                                  refine St.done ?_
                                  injection h2 with h2
                                  subst h2
                                  refine St.thenN ?_
                                  exact St.again _ () hm2 trivial ⟨rfl, rfl, rfl, rfl, rfl, trivial⟩ (fun _ w => ((.k (.k .z)) : Keep _ _).sat w)
                              · replace h2 := bif_f hb19 h2
                                refine St.gOff (dj := 152) rfl rfl rfl rfl ?_
                                refine St.gOff (dj := 152) rfl rfl rfl rfl ?_
                                refine St.gOff (dj := 152) rfl rfl rfl rfl ?_
                                refine St.gOff (dj := 152) rfl rfl rfl rfl ?_
                                refine St.gOff (dj := 152) rfl rfl rfl rfl ?_
                                refine St.gOff (dj := 152) rfl rfl rfl rfl ?_
                                refine St.gOff (dj := 152) rfl rfl rfl rfl ?_
                                refine St.gOff (dj := 152) rfl rfl rfl rfl ?_
                                refine St.gOff (dj := 152) rfl rfl rfl rfl ?_
                                refine St.gOff (dj := 152) rfl rfl rfl rfl ?_
                                refine St.gOff (dj := 152) rfl rfl rfl rfl ?_
                                refine St.gOn (dj := 145) rfl rfl ?_
                                refine St.p rfl rfl ?_
                                refine St.gOn (dj := 145) rfl rfl ?_
                                refine St.p rfl rfl ?_
                                refine St.gOff (dj := 165) rfl rfl rfl rfl ?_
                                refine St.gOff (dj := 165) rfl rfl rfl rfl ?_
                                refine St.gOff (dj := 165) rfl rfl rfl rfl ?_
                                refine St.gOff (dj := 165) rfl rfl rfl rfl ?_
                                refine St.gOff (dj := 165) rfl rfl rfl rfl ?_
                                refine St.gOff (dj := 165) rfl rfl rfl rfl ?_
                                refine St.gOff (dj := 165) rfl rfl rfl rfl ?_
                                refine St.gOff (dj := 165) rfl rfl rfl rfl ?_
                                refine St.gOff (dj := 165) rfl rfl rfl rfl ?_
                                refine St.gOff (dj := 165) rfl rfl rfl rfl ?_
                                refine St.gOff (dj := 165) rfl rfl rfl rfl ?_
                                refine St.gOn (dj := 145) rfl rfl ?_
                                iterate 3 refine St.p rfl rfl ?_
                                refine St.doneQ ?_
                                refine St.blkN ?_
                                refine St.thenN ?_
                                refine St.prune (Γ' := [(9, _), (11, _), (13, _), (14, _), (15, _)]) ⟨rfl, rfl, rfl, rfl, rfl, trivial⟩ (.d (.k (.k .z))) ?_
                                refine St.region ?_
                                iterate 3 refine St.p rfl rfl ?_
                                refine St.done ?_
                                injection h2 with h2
                                subst h2
                                refine St.thenN ?_
                                exact St.again _ () hm2 trivial ⟨rfl, rfl, rfl, rfl, rfl, trivial⟩ (fun _ w => ((.k (.k .z)) : Keep _ _).sat w)
                          · replace h2 := bif_f hb17 h2
                            refine St.exit ?_
                            repeat (first | refine St.thenX ?_ | refine St.blkMiss rfl ?_)
                            refine St.blkHit ?_
                            injection h2 with h2
                            subst h2
                            have ho := hd2 _ rfl
                            subst ho
                            refine St.thenN ?_
                            exact St.hereE () ⟨rfl, rfl, rfl, rfl, trivial⟩ (fun _ w => ((.k (.k .z)) : Keep _ _).sat w)
                        · rintro e8
                          refine St.seq ?_
                          refine St.region ?_
                          refine St.p rfl rfl ?_
                          refine St.p rfl rfl ?_
                          refine St.done ?_
                          refine St.thenN ?_
                          refine St.prune (Γ' := [(9, _), (11, _), (13, _), (180, _)]) ⟨rfl, rfl, rfl, rfl, trivial⟩ (.k (.k .z)) ?_
                          refine St.cond _ rfl (fun hb21 => ?_) (fun hb21 => ?_)
                          · replace h1 := bif_t hb21 h1
                            refine St.seq ?_
                            refine St.region ?_
                            refine St.p rfl rfl ?_
                            refine St.done ?_
                            refine St.thenN ?_
                            refine St.prune (Γ' := [(4, _)]) ⟨rfl, trivial⟩ (.d (.d .z)) ?_
                            refine St.ret ?_
                            repeat (first | refine St.thenR ?_ | refine St.blkR ?_)
                            injection h1 with h1
                            subst h1
                            have ho := hd1 _ rfl
                            subst ho
                            have h : some _ = some _ := h
                            injection h with h
                            subst h
                            exact St.finR Try.results4 (.tmp rfl .nil) rfl [] ⟨rfl, rfl⟩ (fun _ w => (.z : Keep _ _).sat w)
                          · replace h1 := bif_f hb21 h1
                            refine St.skip ?_
                            refine St.blkN ?_
                            refine St.thenN ?_
                            refine St.prune (Γ' := [(9, _), (11, _), (13, _)]) ⟨rfl, rfl, rfl, trivial⟩ (.k (.k .z)) ?_
                            refine St.region ?_
                            iterate 3 refine St.p rfl rfl ?_
                            refine St.done ?_
                            injection h1 with h1
                            subst h1
                            refine St.thenN ?_
                            exact St.again _ () hm1 trivial ⟨rfl, rfl, rfl, trivial⟩ (fun _ w => ((.k (.k .z)) : Keep _ _).sat w)
                · replace h1 := bif_f hb13 h1
                  refine St.exit ?_
                  repeat (first | refine St.thenX ?_ | refine St.blkMiss rfl ?_)
                  refine St.blkHit ?_
                  injection h1 with h1
                  subst h1
                  have ho := hd1 _ rfl
                  subst ho
                  refine St.thenN ?_
                  exact St.hereI () () rfl trivial (fun _ w => ((.d (.d .z)) : Keep _ _).sat w)
              · rintro o5 e5 ho
                subst ho
                have h : _ = some _ := h
                refine St.seq ?_
                refine St.region ?_
                obtain ⟨r23, hr23, h⟩ := bnd_e h
                refine St.callV (c_law19_awake hr23) ent11 rfl rfl rfl rfl trivial ?_
                refine St.p rfl rfl ?_
                refine St.done ?_
                refine St.thenN ?_
                refine St.prune (Γ' := [(4, _)]) ⟨rfl, trivial⟩ .z ?_
                refine St.ret ?_
                repeat (first | refine St.thenR ?_ | refine St.blkR ?_)
                injection h with h
                subst h
                exact St.finR Try.results4 (.tmp rfl .nil) rfl [] ⟨rfl, rfl⟩ (fun _ w => (.z : Keep _ _).sat w)

theorem ent6 : Ent Try.prog 6 := ⟨_, Try.func6, by kernel_rfl, by kernel_rfl⟩

noncomputable def m_law19_InventoryOne (slot : Int) (a_p1 : ByteArray) (b_p2 : ByteArray) (good : Bool) (was : Bool) (sum : Int) (before : Int) : Option Bool :=
  bnd ((bif decide ((a_p1.size : Int) > 23) then (some true) else (some (decide ((b_p2.size : Int) > 23))) : Option Bool)) fun o1 => bif o1 then (bnd (m_law19_awake) fun r1 => some r1) else (bnd (m_made_Mod slot 16) fun r2 => bnd ((bif was then (some a_p1) else (some (⟨#[]⟩)) : Option ByteArray)) fun o2 => bnd ((bif good then (some b_p2) else (some (⟨#[]⟩)) : Option ByteArray)) fun o3 => bnd (m_inventory_Compare ([(⟨r2, was, o2, before⟩ : T_Known)]) ([(⟨r2, good, o3, sum⟩ : T_Known)])) fun r3 => bnd (m_inventory_Compare ([]) ([(⟨r2, good, o3, sum⟩ : T_Known)])) fun r4 => bnd (m_inventory_Compare ([(⟨r2, was, o2, before⟩ : T_Known)]) ([])) fun r5 => bnd ((bif ((r2 == r2) && ((was == good) && ((o2.toList == o3.toList) && ((before == sum) && true)))) then (some ([])) else (bnd ((bif !(o2.toList == ((⟨#[]⟩) : ByteArray).toList) then (some (o2.toList == o3.toList)) else (some false) : Option Bool)) fun o5 => bif o5 then (bnd (app 24 ([]) ([(⟨5, r2, 0⟩ : T_Difference)])) fun l1 => some l1) else (bnd (app 24 ([]) ([(⟨3, r2, 0⟩ : T_Difference)])) fun l2 => some l2)) : Option (List T_Difference))) fun o4 => bnd ((bif (r3.2 == 0) then (bif (r4.2 == 0) then (bif (r5.2 == 0) then (bnd (m_ref19_SameDifferences r3.1 o4) fun r6 => bif r6 then (bnd (m_ref19_SameDifferences r4.1 ([(⟨1, r2, 0⟩ : T_Difference)])) fun r7 => bif r7 then (bnd (m_ref19_SameDifferences r5.1 ([(⟨2, r2, 0⟩ : T_Difference)])) fun r8 => bif r8 then (bnd (m_law19_awake) fun r9 => some r9) else (some false)) else (some false)) else (some false)) else (some false)) else (some false)) else (some false) : Option Bool)) fun o6 => some o6)

theorem c_law19_InventoryOne {slot : Int} {a_p1 : ByteArray} {b_p2 : ByteArray} {good : Bool} {was : Bool} {sum : Int} {before : Int} {r : Bool} (h : m_law19_InventoryOne slot a_p1 b_p2 good was sum before = some r) :
    Fun Try.prog 6 [.int .i64 slot, .string a_p1, .string b_p2, .bool good, .bool was, .int .u32 sum, .int .u32 before] [] (Val (.bool r)) := by
  unfold m_law19_InventoryOne at h
  refine Fun.intro Try.func6 rfl rfl rfl fun w R => ?_
  refine St.seq ?_
  refine St.region ?_
  refine St.p rfl rfl ?_
  refine St.done ?_
  refine St.thenN ?_
  refine St.prune (Γ' := [(0, _), (1, _), (2, _), (3, _), (4, _), (5, _), (6, _)]) ⟨rfl, rfl, rfl, rfl, rfl, rfl, rfl, trivial⟩ .z ?_
  refine St.seq ?_
  refine St.seq ?_
  obtain ⟨o1, hj1, h⟩ := bnd_e h
  refine St.cutE (fun (e1 : Unit) => [(0, .int .i64 slot), (1, .string a_p1), (2, .string b_p2), (3, .bool good), (4, .bool was), (5, .int .u32 sum), (6, .int .u32 before), (32, .bool o1)]) (fun e1 => R) ?_ ?_
  · refine St.region ?_
    iterate 4 refine St.p rfl rfl ?_
    refine St.gSplit (dj := 28) _ rfl (fun hb1 => ?_) (fun hb1 => ?_)
    · replace hj1 := bif_t hb1 hj1
      refine St.gOff (dj := 28) rfl rfl rfl rfl ?_
      refine St.gOff (dj := 28) rfl rfl rfl rfl ?_
      refine St.gOff (dj := 28) rfl rfl rfl rfl ?_
      refine St.p rfl rfl ?_
      refine St.done ?_
      injection hj1 with hj1
      subst hj1
      refine St.thenN ?_
      exact St.hereE () ⟨rfl, rfl, rfl, rfl, rfl, rfl, rfl, rfl, trivial⟩ (fun _ w => (.z : Keep _ _).sat w)
    · replace hj1 := bif_f hb1 hj1
      refine St.gOn (dj := 28) rfl rfl ?_
      refine St.p rfl rfl ?_
      refine St.gOn (dj := 28) rfl rfl ?_
      refine St.p rfl rfl ?_
      refine St.gOn (dj := 28) rfl rfl ?_
      refine St.p rfl rfl ?_
      refine St.p rfl rfl ?_
      refine St.done ?_
      injection hj1 with hj1
      subst hj1
      refine St.thenN ?_
      exact St.hereE () ⟨rfl, rfl, rfl, rfl, rfl, rfl, rfl, rfl, trivial⟩ (fun _ w => (.z : Keep _ _).sat w)
  · rintro e1
    refine St.cond _ rfl (fun hb2 => ?_) (fun hb2 => ?_)
    · replace h := bif_t hb2 h
      refine St.seq ?_
      refine St.region ?_
      obtain ⟨r1, hr1, h⟩ := bnd_e h
      refine St.callV (c_law19_awake hr1) ent11 rfl rfl rfl rfl trivial ?_
      refine St.p rfl rfl ?_
      refine St.done ?_
      refine St.thenN ?_
      refine St.prune (Γ' := [(14, _)]) ⟨rfl, trivial⟩ .z ?_
      refine St.ret ?_
      repeat (first | refine St.thenR ?_ | refine St.blkR ?_)
      injection h with h
      subst h
      exact St.finR Try.results6 (.tmp rfl .nil) rfl [] ⟨rfl, rfl⟩ (fun _ w => (.z : Keep _ _).sat w)
    · replace h := bif_f hb2 h
      refine St.skip ?_
      refine St.thenN ?_
      refine St.prune (Γ' := [(0, _), (1, _), (2, _), (3, _), (4, _), (5, _), (6, _)]) ⟨rfl, rfl, rfl, rfl, rfl, rfl, rfl, trivial⟩ .z ?_
      refine St.seq ?_
      refine St.region ?_
      refine St.p rfl rfl ?_
      obtain ⟨r2, hr2, h⟩ := bnd_e h
      refine St.callV (c_made_Mod hr2) ent20 rfl rfl rfl rfl trivial ?_
      refine St.p rfl rfl ?_
      refine St.done ?_
      refine St.thenN ?_
      refine St.prune (Γ' := [(1, _), (2, _), (3, _), (4, _), (5, _), (6, _), (15, _)]) ⟨rfl, rfl, rfl, rfl, rfl, rfl, rfl, trivial⟩ .z ?_
      refine St.seq ?_
      refine St.region ?_
      iterate 8 refine St.p rfl rfl ?_
      refine St.alloc rfl rfl fun g1 => ?_
      refine St.alloc rfl rfl fun g2 => ?_
      refine St.store 0 rfl rfl rfl rfl rfl rfl (.s .z) rfl ?_
      refine St.store 0 rfl rfl rfl rfl rfl rfl (.s .z) rfl ?_
      refine St.done ?_
      refine St.thenN ?_
      refine St.prune (Γ' := [(1, _), (2, _), (3, _), (4, _), (15, _), (16, _), (17, _)]) ⟨rfl, rfl, rfl, rfl, rfl, rfl, rfl, trivial⟩ (.k (.k .z)) ?_
      refine St.seq ?_
      obtain ⟨o2, hj2, h⟩ := bnd_e h
      refine St.cutE (fun (e2 : Unit) => [(2, .string b_p2), (3, .bool good), (15, .int .i64 r2), (16, .pointer (some ⟨g1, 0, none⟩)), (17, .pointer (some ⟨g2, 0, none⟩))]) (fun e2 => .res (Box g2 45 [.int .i64 r2, .bool good, .string (⟨#[]⟩), .int .u32 sum]) :: .res (Box g1 45 [.int .i64 r2, .bool was, .string o2, .int .u32 before]) :: R) ?_ ?_
      · refine St.seq ?_
        refine St.region ?_
        refine St.p rfl rfl ?_
        refine St.done ?_
        refine St.thenN ?_
        refine St.prune (Γ' := [(1, _), (2, _), (3, _), (15, _), (16, _), (17, _), (44, _)]) ⟨rfl, rfl, rfl, rfl, rfl, rfl, rfl, trivial⟩ (.k (.k .z)) ?_
        refine St.cond _ rfl (fun hb3 => ?_) (fun hb3 => ?_)
        · replace hj2 := bif_t hb3 hj2
          refine St.region ?_
          refine St.p rfl rfl ?_
          refine St.p rfl rfl ?_
          refine St.store 2 rfl rfl rfl rfl rfl rfl (.s .z) rfl ?_
          refine St.done ?_
          injection hj2 with hj2
          subst hj2
          refine St.thenN ?_
          exact St.hereE () ⟨rfl, rfl, rfl, rfl, rfl, trivial⟩ (fun _ w => ((.k (.k .z)) : Keep _ _).sat ((w.front .z).front (.s .z)))
        · replace hj2 := bif_f hb3 hj2
          refine St.skip ?_
          injection hj2 with hj2
          subst hj2
          refine St.thenN ?_
          exact St.hereE () ⟨rfl, rfl, rfl, rfl, rfl, trivial⟩ (fun _ w => ((.k (.k .z)) : Keep _ _).sat w)
      · rintro e2
        refine St.seq ?_
        obtain ⟨o3, hj3, h⟩ := bnd_e h
        refine St.cutE (fun (e3 : Unit) => [(15, .int .i64 r2), (16, .pointer (some ⟨g1, 0, none⟩)), (17, .pointer (some ⟨g2, 0, none⟩))]) (fun e3 => .res (Box g2 45 [.int .i64 r2, .bool good, .string o3, .int .u32 sum]) :: .res (Box g1 45 [.int .i64 r2, .bool was, .string o2, .int .u32 before]) :: R) ?_ ?_
        · refine St.seq ?_
          refine St.region ?_
          refine St.p rfl rfl ?_
          refine St.done ?_
          refine St.thenN ?_
          refine St.prune (Γ' := [(2, _), (15, _), (16, _), (17, _), (47, _)]) ⟨rfl, rfl, rfl, rfl, rfl, trivial⟩ (.k (.k .z)) ?_
          refine St.cond _ rfl (fun hb4 => ?_) (fun hb4 => ?_)
          · replace hj3 := bif_t hb4 hj3
            refine St.region ?_
            refine St.p rfl rfl ?_
            refine St.p rfl rfl ?_
            refine St.store 2 rfl rfl rfl rfl rfl rfl .z rfl ?_
            refine St.done ?_
            injection hj3 with hj3
            subst hj3
            refine St.thenN ?_
            exact St.hereE () ⟨rfl, rfl, rfl, trivial⟩ (fun _ w => ((.k (.k .z)) : Keep _ _).sat w)
          · replace hj3 := bif_f hb4 hj3
            refine St.skip ?_
            injection hj3 with hj3
            subst hj3
            refine St.thenN ?_
            exact St.hereE () ⟨rfl, rfl, rfl, trivial⟩ (fun _ w => ((.k (.k .z)) : Keep _ _).sat w)
        · rintro e3
          refine St.seq ?_
          refine St.region ?_
          refine St.loadB 0 rfl rfl (.tail _ (.head _)) rfl rfl ?_
          refine St.buildSlice rfl rfl rfl rfl rfl rfl rfl rfl fun g3 => ?_
          refine St.loadB 0 rfl rfl (.tail _ (.head _)) rfl rfl ?_
          refine St.buildSlice rfl rfl rfl rfl rfl rfl rfl rfl fun g4 => ?_
          refine St.asrt (fun _ w => (w.front (.s .z)).litL (E := e_Known) (e := 45) [(⟨r2, was, o2, before⟩ : T_Known)] rfl rfl) ?_
          refine St.asrt (fun _ w => (w.front .z).meltL) ?_
          refine St.asrt (fun _ w => (w.front (.s .z)).litL (E := e_Known) (e := 45) [(⟨r2, good, o3, sum⟩ : T_Known)] rfl rfl) ?_
          refine St.asrt (fun _ w => (w.front .z).meltL) ?_
          obtain ⟨r3, hr3, h⟩ := bnd_e h
          refine St.call (c_inventory_Compare hr3) ent14 rfl rfl rfl (fun _ w => Sat.dup (G := [.ro (SlL e_Known (some ⟨g3, 0, none⟩) ([(⟨r2, was, o2, before⟩ : T_Known)] : List T_Known).length ([(⟨r2, was, o2, before⟩ : T_Known)])), .ro (SlL e_Known (some ⟨g4, 0, none⟩) ([(⟨r2, good, o3, sum⟩ : T_Known)] : List T_Known).length ([(⟨r2, good, o3, sum⟩ : T_Known)]))]) rfl ⟨(.tail _ (.head _)), (.head _), trivial⟩ w) ?_
          rintro _ _ ⟨A1, c1, rfl, rfl⟩
          refine St.asrt (F' := .res (OwnL e_Difference 40 A1 c1 r3.1) :: .ro (SlL e_Known (some ⟨g4, 0, none⟩) ([(⟨r2, good, o3, sum⟩ : T_Known)] : List T_Known).length ([(⟨r2, good, o3, sum⟩ : T_Known)])) :: .ro (SlL e_Known (some ⟨g3, 0, none⟩) ([(⟨r2, was, o2, before⟩ : T_Known)] : List T_Known).length ([(⟨r2, was, o2, before⟩ : T_Known)])) :: .res (Box g2 45 [.int .i64 r2, .bool good, .string o3, .int .u32 sum]) :: .res (Box g1 45 [.int .i64 r2, .bool was, .string o2, .int .u32 before]) :: R) (fun _ w => w) ?_
          iterate 5 refine St.p rfl rfl ?_
          refine St.done ?_
          refine St.thenN ?_
          refine St.prune (Γ' := [(15, _), (16, _), (17, _), (18, _), (19, _)]) ⟨rfl, rfl, rfl, rfl, rfl, trivial⟩ (.k (.d (.d (.k (.k .z))))) ?_
          refine St.seq ?_
          refine St.region ?_
          refine St.loadB 0 rfl rfl (.tail _ (.head _)) rfl rfl ?_
          refine St.buildSlice rfl rfl rfl rfl rfl rfl rfl rfl fun g5 => ?_
          refine St.asrt (fun _ w => w.nilSl (cod e_Known)) ?_
          refine St.asrt (fun _ w => (w.front (.s .z)).litL (E := e_Known) (e := 45) [(⟨r2, good, o3, sum⟩ : T_Known)] rfl rfl) ?_
          refine St.asrt (fun _ w => (w.front .z).meltL) ?_
          obtain ⟨r4, hr4, h⟩ := bnd_e h
          refine St.call (c_inventory_Compare hr4) ent14 rfl rfl rfl (fun _ w => Sat.dup (G := [.ro (SlL e_Known none 0 ([])), .ro (SlL e_Known (some ⟨g5, 0, none⟩) ([(⟨r2, good, o3, sum⟩ : T_Known)] : List T_Known).length ([(⟨r2, good, o3, sum⟩ : T_Known)]))]) rfl ⟨(.tail _ (.head _)), (.head _), trivial⟩ w) ?_
          rintro _ _ ⟨A2, c2, rfl, rfl⟩
          refine St.asrt (F' := .res (OwnL e_Difference 40 A2 c2 r4.1) :: .ro (SlL e_Known (some ⟨g5, 0, none⟩) ([(⟨r2, good, o3, sum⟩ : T_Known)] : List T_Known).length ([(⟨r2, good, o3, sum⟩ : T_Known)])) :: .ro (SlL e_Known none 0 ([])) :: .res (OwnL e_Difference 40 A1 c1 r3.1) :: .res (Box g2 45 [.int .i64 r2, .bool good, .string o3, .int .u32 sum]) :: .res (Box g1 45 [.int .i64 r2, .bool was, .string o2, .int .u32 before]) :: R) (fun _ w => w) ?_
          iterate 5 refine St.p rfl rfl ?_
          refine St.done ?_
          refine St.thenN ?_
          refine St.prune (Γ' := [(15, _), (16, _), (17, _), (18, _), (19, _), (20, _), (21, _)]) ⟨rfl, rfl, rfl, rfl, rfl, rfl, rfl, trivial⟩ (.k (.d (.d (.k (.k (.k .z)))))) ?_
          refine St.seq ?_
          refine St.region ?_
          refine St.loadB 0 rfl rfl (.tail _ (.tail _ (.tail _ (.head _)))) rfl rfl ?_
          refine St.buildSlice rfl rfl rfl rfl rfl rfl rfl rfl fun g6 => ?_
          refine St.asrt (fun _ w => (w.front .z).litL (E := e_Known) (e := 45) [(⟨r2, was, o2, before⟩ : T_Known)] rfl rfl) ?_
          refine St.asrt (fun _ w => (w.front .z).meltL) ?_
          refine St.asrt (fun _ w => w.nilSl (cod e_Known)) ?_
          obtain ⟨r5, hr5, h⟩ := bnd_e h
          refine St.call (c_inventory_Compare hr5) ent14 rfl rfl rfl (fun _ w => Sat.dup (G := [.ro (SlL e_Known (some ⟨g6, 0, none⟩) ([(⟨r2, was, o2, before⟩ : T_Known)] : List T_Known).length ([(⟨r2, was, o2, before⟩ : T_Known)])), .ro (SlL e_Known none 0 ([]))]) rfl ⟨(.tail _ (.head _)), (.head _), trivial⟩ w) ?_
          rintro _ _ ⟨A3, c3, rfl, rfl⟩
          refine St.asrt (F' := .res (OwnL e_Difference 40 A3 c3 r5.1) :: .ro (SlL e_Known none 0 ([])) :: .ro (SlL e_Known (some ⟨g6, 0, none⟩) ([(⟨r2, was, o2, before⟩ : T_Known)] : List T_Known).length ([(⟨r2, was, o2, before⟩ : T_Known)])) :: .res (OwnL e_Difference 40 A2 c2 r4.1) :: .res (OwnL e_Difference 40 A1 c1 r3.1) :: .res (Box g2 45 [.int .i64 r2, .bool good, .string o3, .int .u32 sum]) :: .res (Box g1 45 [.int .i64 r2, .bool was, .string o2, .int .u32 before]) :: R) (fun _ w => w) ?_
          iterate 5 refine St.p rfl rfl ?_
          refine St.done ?_
          refine St.thenN ?_
          refine St.prune (Γ' := [(15, _), (16, _), (17, _), (18, _), (19, _), (20, _), (21, _), (22, _), (23, _)]) ⟨rfl, rfl, rfl, rfl, rfl, rfl, rfl, rfl, rfl, trivial⟩ (.k (.d (.d (.k (.k (.k (.k .z))))))) ?_
          refine St.seq ?_
          refine St.region ?_
          refine St.p rfl rfl ?_
          refine St.done ?_
          refine St.thenN ?_
          refine St.seq ?_
          obtain ⟨o4, hj4, h⟩ := bnd_e h
          refine St.cutE (fun (e4 : Option Addr × Nat) => [(15, .int .i64 r2), (18, .slice A1 r3.1.length c1), (19, .int .i64 r3.2), (20, .slice A2 r4.1.length c2), (21, .int .i64 r4.2), (22, .slice A3 r5.1.length c3), (23, .int .i64 r5.2), (24, .slice e4.1 o4.length e4.2)]) (fun e4 => .res (OwnL e_Difference 40 e4.1 e4.2 o4) :: .res (OwnL e_Difference 40 A3 c3 r5.1) :: .res (OwnL e_Difference 40 A2 c2 r4.1) :: .res (OwnL e_Difference 40 A1 c1 r3.1) :: R) ?_ ?_
          · refine St.block ?_
            refine St.seq ?_
            refine St.region ?_
            refine St.loadB 0 rfl rfl (.tail _ (.tail _ (.tail _ (.tail _ (.head _))))) rfl rfl ?_
            refine St.loadB 0 rfl rfl (.tail _ (.tail _ (.tail _ (.head _)))) rfl rfl ?_
            refine St.p rfl rfl ?_
            refine St.p rfl rfl ?_
            refine St.done ?_
            refine St.thenN ?_
            refine St.prune (Γ' := [(15, _), (16, _), (17, _), (18, _), (19, _), (20, _), (21, _), (22, _), (23, _), (24, _), (75, _)]) ⟨rfl, rfl, rfl, rfl, rfl, rfl, rfl, rfl, rfl, rfl, rfl, trivial⟩ (.k (.k (.k (.k (.k .z))))) ?_
            refine St.cond _ rfl (fun hb5 => ?_) (fun hb5 => ?_)
            · replace hj4 := bif_t hb5 hj4
              refine St.skip ?_
              refine St.blkN ?_
              refine St.asrt (fun _ w => w.nilL e_Difference 40) ?_
              injection hj4 with hj4
              subst hj4
              refine St.thenN ?_
              exact St.hereE (none, 0) ⟨rfl, rfl, rfl, rfl, rfl, rfl, rfl, rfl, trivial⟩ (fun _ w => ((.k (.k (.k (.k (.d (.d .z)))))) : Keep _ _).sat w)
            · replace hj4 := bif_f hb5 hj4
              refine St.seq ?_
              obtain ⟨o5, hj5, hj4⟩ := bnd_e hj4
              refine St.cutE (fun (e5 : Unit) => [(15, .int .i64 r2), (18, .slice A1 r3.1.length c1), (19, .int .i64 r3.2), (20, .slice A2 r4.1.length c2), (21, .int .i64 r4.2), (22, .slice A3 r5.1.length c3), (23, .int .i64 r5.2), (24, .slice none 0 0), (79, .bool o5)]) (fun e5 => .res (OwnL e_Difference 40 A3 c3 r5.1) :: .res (OwnL e_Difference 40 A2 c2 r4.1) :: .res (OwnL e_Difference 40 A1 c1 r3.1) :: R) ?_ ?_
              · refine St.region ?_
                refine St.p rfl rfl ?_
                refine St.loadB 2 rfl rfl (.tail _ (.tail _ (.tail _ (.tail _ (.head _))))) rfl rfl ?_
                refine St.p rfl rfl ?_
                refine St.p rfl rfl ?_
                refine St.gSplit (dj := 83) _ rfl (fun hb6 => ?_) (fun hb6 => ?_)
                · replace hj5 := bif_t hb6 hj5
                  refine St.gOn (dj := 83) rfl rfl ?_
                  refine St.p rfl rfl ?_
                  refine St.gOn (dj := 83) rfl rfl ?_
                  refine St.loadB 2 rfl rfl (.tail _ (.tail _ (.tail _ (.tail _ (.head _))))) rfl rfl ?_
                  refine St.gOn (dj := 83) rfl rfl ?_
                  refine St.p rfl rfl ?_
                  refine St.gOn (dj := 83) rfl rfl ?_
                  refine St.loadB 2 rfl rfl (.tail _ (.tail _ (.tail _ (.head _)))) rfl rfl ?_
                  refine St.gOn (dj := 83) rfl rfl ?_
                  iterate 3 refine St.p rfl rfl ?_
                  refine St.done ?_
                  injection hj5 with hj5
                  subst hj5
                  refine St.thenN ?_
                  exact St.hereE () ⟨rfl, rfl, rfl, rfl, rfl, rfl, rfl, rfl, rfl, trivial⟩ (fun _ w => ((.k (.k (.k (.d (.d .z))))) : Keep _ _).sat w)
                · replace hj5 := bif_f hb6 hj5
                  refine St.gOff (dj := 83) rfl rfl rfl rfl ?_
                  refine St.gOff (dj := 83) rfl rfl rfl rfl ?_
                  refine St.gOff (dj := 83) rfl rfl rfl rfl ?_
                  refine St.gOff (dj := 83) rfl rfl rfl rfl ?_
                  refine St.gOff (dj := 83) rfl rfl rfl rfl ?_
                  refine St.p rfl rfl ?_
                  refine St.p rfl rfl ?_
                  refine St.done ?_
                  injection hj5 with hj5
                  subst hj5
                  refine St.thenN ?_
                  exact St.hereE () ⟨rfl, rfl, rfl, rfl, rfl, rfl, rfl, rfl, rfl, trivial⟩ (fun _ w => ((.k (.k (.k (.d (.d .z))))) : Keep _ _).sat w)
              · rintro e5
                refine St.cond _ rfl (fun hb7 => ?_) (fun hb7 => ?_)
                · replace hj4 := bif_t hb7 hj4
                  refine St.region ?_
                  iterate 3 refine St.p rfl rfl ?_
                  refine St.buildSlice rfl rfl rfl rfl rfl rfl rfl rfl fun g7 => ?_
                  refine St.asrt (fun _ w => w.nilL e_Difference 40) ?_
                  obtain ⟨l1, hl1, hj4⟩ := bnd_e hj4
                  refine St.app (E := e_Difference) hl1 rfl rfl rfl .z rfl rfl rfl rfl rfl rfl rfl rfl (srcB (.tail _ (.head _)) rfl rfl) fun A5 c5 => ?_
                  refine St.p rfl rfl ?_
                  refine St.done ?_
                  refine St.blkN ?_
                  injection hj4 with hj4
                  subst hj4
                  refine St.thenN ?_
                  exact St.hereE (A5, c5) ⟨rfl, rfl, rfl, rfl, rfl, rfl, rfl, rfl, trivial⟩ (fun _ w => ((.k (.d (.k (.k (.k .z))))) : Keep _ _).sat w)
                · replace hj4 := bif_f hb7 hj4
                  refine St.region ?_
                  iterate 3 refine St.p rfl rfl ?_
                  refine St.buildSlice rfl rfl rfl rfl rfl rfl rfl rfl fun g8 => ?_
                  refine St.asrt (fun _ w => w.nilL e_Difference 40) ?_
                  obtain ⟨l2, hl2, hj4⟩ := bnd_e hj4
                  refine St.app (E := e_Difference) hl2 rfl rfl rfl .z rfl rfl rfl rfl rfl rfl rfl rfl (srcB (.tail _ (.head _)) rfl rfl) fun A6 c6 => ?_
                  refine St.p rfl rfl ?_
                  refine St.done ?_
                  refine St.blkN ?_
                  injection hj4 with hj4
                  subst hj4
                  refine St.thenN ?_
                  exact St.hereE (A6, c6) ⟨rfl, rfl, rfl, rfl, rfl, rfl, rfl, rfl, trivial⟩ (fun _ w => ((.k (.d (.k (.k (.k .z))))) : Keep _ _).sat w)
          · rintro ⟨A4, c4⟩
            refine St.seq ?_
            obtain ⟨o6, hj6, h⟩ := bnd_e h
            refine St.cutE (fun (e6 : Unit) => [(14, .bool o6)]) (fun e6 => R) ?_ ?_
            · refine St.region ?_
              iterate 3 refine St.p rfl rfl ?_
              refine St.gSplit (dj := 97) _ rfl (fun hb8 => ?_) (fun hb8 => ?_)
              · replace hj6 := bif_t hb8 hj6
                refine St.gOn (dj := 97) rfl rfl ?_
                refine St.p rfl rfl ?_
                refine St.gOn (dj := 97) rfl rfl ?_
                iterate 3 refine St.p rfl rfl ?_
                refine St.gSplit (dj := 101) _ rfl (fun hb9 => ?_) (fun hb9 => ?_)
                · replace hj6 := bif_t hb9 hj6
                  refine St.gOn (dj := 101) rfl rfl ?_
                  refine St.p rfl rfl ?_
                  refine St.gOn (dj := 101) rfl rfl ?_
                  iterate 3 refine St.p rfl rfl ?_
                  refine St.gSplit (dj := 105) _ rfl (fun hb10 => ?_) (fun hb10 => ?_)
                  · replace hj6 := bif_t hb10 hj6
                    refine St.gOn (dj := 105) rfl rfl ?_
                    refine St.p rfl rfl ?_
                    refine St.gOn (dj := 105) rfl rfl ?_
                    refine St.p rfl rfl ?_
                    refine St.gOn (dj := 105) rfl rfl ?_
                    refine St.asrt (fun _ w => (w.front (.s (.s (.s .z)))).meltL) ?_
                    refine St.asrt (fun _ w => (w.front (.s .z)).meltL) ?_
                    obtain ⟨r6, hr6, hj6⟩ := bnd_e hj6
                    refine St.callV (c_ref19_SameDifferences hr6) ent16 rfl rfl rfl rfl ⟨(.tail _ (.head _)), (.head _), trivial⟩ ?_
                    refine St.p rfl rfl ?_
                    refine St.p rfl rfl ?_
                    refine St.gSplit (dj := 110) _ rfl (fun hb11 => ?_) (fun hb11 => ?_)
                    · replace hj6 := bif_t hb11 hj6
                      refine St.gOn (dj := 110) rfl rfl ?_
                      refine St.p rfl rfl ?_
                      refine St.gOn (dj := 110) rfl rfl ?_
                      refine St.p rfl rfl ?_
                      refine St.gOn (dj := 110) rfl rfl ?_
                      refine St.p rfl rfl ?_
                      refine St.gOn (dj := 110) rfl rfl ?_
                      refine St.buildSlice rfl rfl rfl rfl rfl rfl rfl rfl fun g9 => ?_
                      refine St.gOn (dj := 110) rfl rfl ?_
                      refine St.asrt (fun _ w => (w.front (.s (.s (.s (.s .z))))).meltL) ?_
                      refine St.asrt (fun _ w => (w.front (.s .z)).litL (E := e_Difference) (e := 40) [(⟨1, r2, 0⟩ : T_Difference)] rfl rfl) ?_
                      refine St.asrt (fun _ w => (w.front .z).meltL) ?_
                      obtain ⟨r7, hr7, hj6⟩ := bnd_e hj6
                      refine St.callV (c_ref19_SameDifferences hr7) ent16 rfl rfl rfl rfl ⟨(.tail _ (.head _)), (.head _), trivial⟩ ?_
                      refine St.p rfl rfl ?_
                      refine St.p rfl rfl ?_
                      refine St.gSplit (dj := 117) _ rfl (fun hb12 => ?_) (fun hb12 => ?_)
                      · replace hj6 := bif_t hb12 hj6
                        refine St.gOn (dj := 117) rfl rfl ?_
                        refine St.p rfl rfl ?_
                        refine St.gOn (dj := 117) rfl rfl ?_
                        refine St.p rfl rfl ?_
                        refine St.gOn (dj := 117) rfl rfl ?_
                        refine St.p rfl rfl ?_
                        refine St.gOn (dj := 117) rfl rfl ?_
                        refine St.buildSlice rfl rfl rfl rfl rfl rfl rfl rfl fun g10 => ?_
                        refine St.gOn (dj := 117) rfl rfl ?_
                        refine St.asrt (fun _ w => (w.front (.s (.s (.s (.s (.s .z)))))).meltL) ?_
                        refine St.asrt (fun _ w => (w.front (.s .z)).litL (E := e_Difference) (e := 40) [(⟨2, r2, 0⟩ : T_Difference)] rfl rfl) ?_
                        refine St.asrt (fun _ w => (w.front .z).meltL) ?_
                        obtain ⟨r8, hr8, hj6⟩ := bnd_e hj6
                        refine St.callV (c_ref19_SameDifferences hr8) ent16 rfl rfl rfl rfl ⟨(.tail _ (.head _)), (.head _), trivial⟩ ?_
                        refine St.p rfl rfl ?_
                        refine St.p rfl rfl ?_
                        refine St.gSplit (dj := 124) _ rfl (fun hb13 => ?_) (fun hb13 => ?_)
                        · replace hj6 := bif_t hb13 hj6
                          refine St.gOn (dj := 124) rfl rfl ?_
                          obtain ⟨r9, hr9, hj6⟩ := bnd_e hj6
                          refine St.callV (c_law19_awake hr9) ent11 rfl rfl rfl rfl trivial ?_
                          refine St.p rfl rfl ?_
                          refine St.p rfl rfl ?_
                          refine St.done ?_
                          injection hj6 with hj6
                          subst hj6
                          refine St.thenN ?_
                          exact St.hereE () ⟨rfl, trivial⟩ (fun _ w => ((.d (.d (.d (.d (.d (.d .z)))))) : Keep _ _).sat w)
                        · replace hj6 := bif_f hb13 hj6
                          refine St.gOff (dj := 124) rfl rfl rfl rfl ?_
                          refine St.p rfl rfl ?_
                          refine St.p rfl rfl ?_
                          refine St.done ?_
                          injection hj6 with hj6
                          subst hj6
                          refine St.thenN ?_
                          exact St.hereE () ⟨rfl, trivial⟩ (fun _ w => ((.d (.d (.d (.d (.d (.d .z)))))) : Keep _ _).sat w)
                      · replace hj6 := bif_f hb12 hj6
                        refine St.gOff (dj := 117) rfl rfl rfl rfl ?_
                        refine St.gOff (dj := 117) rfl rfl rfl rfl ?_
                        refine St.gOff (dj := 117) rfl rfl rfl rfl ?_
                        refine St.gOff (dj := 117) rfl rfl rfl rfl ?_
                        refine St.gOff (dj := 117) rfl rfl rfl rfl ?_
                        refine St.p rfl rfl ?_
                        refine St.p rfl rfl ?_
                        refine St.gOff (dj := 124) rfl rfl rfl rfl ?_
                        refine St.p rfl rfl ?_
                        refine St.p rfl rfl ?_
                        refine St.done ?_
                        injection hj6 with hj6
                        subst hj6
                        refine St.thenN ?_
                        exact St.hereE () ⟨rfl, trivial⟩ (fun _ w => ((.d (.d (.d (.d (.d .z))))) : Keep _ _).sat w)
                    · replace hj6 := bif_f hb11 hj6
                      refine St.gOff (dj := 110) rfl rfl rfl rfl ?_
                      refine St.gOff (dj := 110) rfl rfl rfl rfl ?_
                      refine St.gOff (dj := 110) rfl rfl rfl rfl ?_
                      refine St.gOff (dj := 110) rfl rfl rfl rfl ?_
                      refine St.gOff (dj := 110) rfl rfl rfl rfl ?_
                      refine St.p rfl rfl ?_
                      refine St.p rfl rfl ?_
                      refine St.gOff (dj := 117) rfl rfl rfl rfl ?_
                      refine St.gOff (dj := 117) rfl rfl rfl rfl ?_
                      refine St.gOff (dj := 117) rfl rfl rfl rfl ?_
                      refine St.gOff (dj := 117) rfl rfl rfl rfl ?_
                      refine St.gOff (dj := 117) rfl rfl rfl rfl ?_
                      refine St.p rfl rfl ?_
                      refine St.p rfl rfl ?_
                      refine St.gOff (dj := 124) rfl rfl rfl rfl ?_
                      refine St.p rfl rfl ?_
                      refine St.p rfl rfl ?_
                      refine St.done ?_
                      injection hj6 with hj6
                      subst hj6
                      refine St.thenN ?_
                      exact St.hereE () ⟨rfl, trivial⟩ (fun _ w => ((.d (.d (.d (.d .z)))) : Keep _ _).sat w)
                  · replace hj6 := bif_f hb10 hj6
                    refine St.gOff (dj := 105) rfl rfl rfl rfl ?_
                    refine St.gOff (dj := 105) rfl rfl rfl rfl ?_
                    refine St.gOff (dj := 105) rfl rfl rfl rfl ?_
                    refine St.p rfl rfl ?_
                    refine St.p rfl rfl ?_
                    refine St.gOff (dj := 110) rfl rfl rfl rfl ?_
                    refine St.gOff (dj := 110) rfl rfl rfl rfl ?_
                    refine St.gOff (dj := 110) rfl rfl rfl rfl ?_
                    refine St.gOff (dj := 110) rfl rfl rfl rfl ?_
                    refine St.gOff (dj := 110) rfl rfl rfl rfl ?_
                    refine St.p rfl rfl ?_
                    refine St.p rfl rfl ?_
                    refine St.gOff (dj := 117) rfl rfl rfl rfl ?_
                    refine St.gOff (dj := 117) rfl rfl rfl rfl ?_
                    refine St.gOff (dj := 117) rfl rfl rfl rfl ?_
                    refine St.gOff (dj := 117) rfl rfl rfl rfl ?_
                    refine St.gOff (dj := 117) rfl rfl rfl rfl ?_
                    refine St.p rfl rfl ?_
                    refine St.p rfl rfl ?_
                    refine St.gOff (dj := 124) rfl rfl rfl rfl ?_
                    refine St.p rfl rfl ?_
                    refine St.p rfl rfl ?_
                    refine St.done ?_
                    injection hj6 with hj6
                    subst hj6
                    refine St.thenN ?_
                    exact St.hereE () ⟨rfl, trivial⟩ (fun _ w => ((.d (.d (.d (.d .z)))) : Keep _ _).sat w)
                · replace hj6 := bif_f hb9 hj6
                  refine St.gOff (dj := 101) rfl rfl rfl rfl ?_
                  refine St.gOff (dj := 101) rfl rfl rfl rfl ?_
                  refine St.p rfl rfl ?_
                  refine St.p rfl rfl ?_
                  refine St.gOff (dj := 105) rfl rfl rfl rfl ?_
                  refine St.gOff (dj := 105) rfl rfl rfl rfl ?_
                  refine St.gOff (dj := 105) rfl rfl rfl rfl ?_
                  refine St.p rfl rfl ?_
                  refine St.p rfl rfl ?_
                  refine St.gOff (dj := 110) rfl rfl rfl rfl ?_
                  refine St.gOff (dj := 110) rfl rfl rfl rfl ?_
                  refine St.gOff (dj := 110) rfl rfl rfl rfl ?_
                  refine St.gOff (dj := 110) rfl rfl rfl rfl ?_
                  refine St.gOff (dj := 110) rfl rfl rfl rfl ?_
                  refine St.p rfl rfl ?_
                  refine St.p rfl rfl ?_
                  refine St.gOff (dj := 117) rfl rfl rfl rfl ?_
                  refine St.gOff (dj := 117) rfl rfl rfl rfl ?_
                  refine St.gOff (dj := 117) rfl rfl rfl rfl ?_
                  refine St.gOff (dj := 117) rfl rfl rfl rfl ?_
                  refine St.gOff (dj := 117) rfl rfl rfl rfl ?_
                  refine St.p rfl rfl ?_
                  refine St.p rfl rfl ?_
                  refine St.gOff (dj := 124) rfl rfl rfl rfl ?_
                  refine St.p rfl rfl ?_
                  refine St.p rfl rfl ?_
                  refine St.done ?_
                  injection hj6 with hj6
                  subst hj6
                  refine St.thenN ?_
                  exact St.hereE () ⟨rfl, trivial⟩ (fun _ w => ((.d (.d (.d (.d .z)))) : Keep _ _).sat w)
              · replace hj6 := bif_f hb8 hj6
                refine St.gOff (dj := 97) rfl rfl rfl rfl ?_
                refine St.gOff (dj := 97) rfl rfl rfl rfl ?_
                refine St.p rfl rfl ?_
                refine St.p rfl rfl ?_
                refine St.gOff (dj := 101) rfl rfl rfl rfl ?_
                refine St.gOff (dj := 101) rfl rfl rfl rfl ?_
                refine St.p rfl rfl ?_
                refine St.p rfl rfl ?_
                refine St.gOff (dj := 105) rfl rfl rfl rfl ?_
                refine St.gOff (dj := 105) rfl rfl rfl rfl ?_
                refine St.gOff (dj := 105) rfl rfl rfl rfl ?_
                refine St.p rfl rfl ?_
                refine St.p rfl rfl ?_
                refine St.gOff (dj := 110) rfl rfl rfl rfl ?_
                refine St.gOff (dj := 110) rfl rfl rfl rfl ?_
                refine St.gOff (dj := 110) rfl rfl rfl rfl ?_
                refine St.gOff (dj := 110) rfl rfl rfl rfl ?_
                refine St.gOff (dj := 110) rfl rfl rfl rfl ?_
                refine St.p rfl rfl ?_
                refine St.p rfl rfl ?_
                refine St.gOff (dj := 117) rfl rfl rfl rfl ?_
                refine St.gOff (dj := 117) rfl rfl rfl rfl ?_
                refine St.gOff (dj := 117) rfl rfl rfl rfl ?_
                refine St.gOff (dj := 117) rfl rfl rfl rfl ?_
                refine St.gOff (dj := 117) rfl rfl rfl rfl ?_
                refine St.p rfl rfl ?_
                refine St.p rfl rfl ?_
                refine St.gOff (dj := 124) rfl rfl rfl rfl ?_
                refine St.p rfl rfl ?_
                refine St.p rfl rfl ?_
                refine St.done ?_
                injection hj6 with hj6
                subst hj6
                refine St.thenN ?_
                exact St.hereE () ⟨rfl, trivial⟩ (fun _ w => ((.d (.d (.d (.d .z)))) : Keep _ _).sat w)
            · rintro e6
              refine St.ret ?_
              repeat (first | refine St.thenR ?_ | refine St.blkR ?_)
              injection h with h
              subst h
              exact St.finR Try.results6 (.tmp rfl .nil) rfl [] ⟨rfl, rfl⟩ (fun _ w => (.z : Keep _ _).sat w)

theorem ent40 : Ent Try.prog 40 := ⟨_, Try.func40, by kernel_rfl, by kernel_rfl⟩

noncomputable def m_event_State (sensorType : Int) (number : Int) (index : Int) (asserted : Bool) : Option (T_Event × Int) :=
  bnd ((bif decide (index < 0) then (some true) else (some (decide (index > 14))) : Option Bool)) fun o1 => bif o1 then (some ((⟨0, 0, 0, 0, 0, 0, false, (⟨0, 0, 0⟩ : (Arr3 Int))⟩ : T_Event), 2)) else (some ((⟨0, 0, 32, sensorType, number, 111, !asserted, (⟨IntKind.wrap .u8 index, 255, 255⟩ : (Arr3 Int))⟩ : T_Event), 0))

theorem c_event_State {sensorType : Int} {number : Int} {index : Int} {asserted : Bool} {r : (T_Event × Int)} (h : m_event_State sensorType number index asserted = some r) :
    Fun Try.prog 40 [.int .u8 sensorType, .int .u8 number, .int .i64 index, .bool asserted] [] (Val (.tuple #[.agg #[.int .u16 r.1.ID, .int .u32 r.1.Time, .int .u16 r.1.Generator, .int .u8 r.1.SensorType, .int .u8 r.1.Sensor, .int .u8 r.1.Type_, .bool r.1.Deassert, .int .u8 r.1.Data.e0, .int .u8 r.1.Data.e1, .int .u8 r.1.Data.e2], .int .i64 r.2])) := by
  unfold m_event_State at h
  refine Fun.intro Try.func40 rfl rfl rfl fun w R => ?_
  refine St.seq ?_
  refine St.region ?_
  refine St.alloc rfl rfl fun g1 => ?_
  refine St.p rfl rfl ?_
  refine St.done ?_
  refine St.thenN ?_
  refine St.prune (Γ' := [(0, _), (1, _), (2, _), (3, _), (8, _)]) ⟨rfl, rfl, rfl, rfl, rfl, trivial⟩ (.k .z) ?_
  refine St.seq ?_
  refine St.seq ?_
  obtain ⟨o1, hj1, h⟩ := bnd_e h
  refine St.cutE (fun (e1 : Unit) => [(0, .int .u8 sensorType), (1, .int .u8 number), (2, .int .i64 index), (3, .bool asserted), (8, .pointer (some ⟨g1, 0, none⟩)), (15, .bool o1)]) (fun e1 => .res (Box g1 83 [.int .u16 0, .int .u32 0, .int .u16 0, .int .u8 0, .int .u8 0, .int .u8 0, .bool false, .int .u8 0, .int .u8 0, .int .u8 0]) :: R) ?_ ?_
  · refine St.region ?_
    iterate 3 refine St.p rfl rfl ?_
    refine St.gSplit (dj := 12) _ rfl (fun hb1 => ?_) (fun hb1 => ?_)
    · replace hj1 := bif_t hb1 hj1
      refine St.gOff (dj := 12) rfl rfl rfl rfl ?_
      refine St.gOff (dj := 12) rfl rfl rfl rfl ?_
      refine St.p rfl rfl ?_
      refine St.done ?_
      injection hj1 with hj1
      subst hj1
      refine St.thenN ?_
      exact St.hereE () ⟨rfl, rfl, rfl, rfl, rfl, rfl, trivial⟩ (fun _ w => ((.k .z) : Keep _ _).sat w)
    · replace hj1 := bif_f hb1 hj1
      refine St.gOn (dj := 12) rfl rfl ?_
      refine St.p rfl rfl ?_
      refine St.gOn (dj := 12) rfl rfl ?_
      refine St.p rfl rfl ?_
      refine St.p rfl rfl ?_
      refine St.done ?_
      injection hj1 with hj1
      subst hj1
      refine St.thenN ?_
      exact St.hereE () ⟨rfl, rfl, rfl, rfl, rfl, rfl, trivial⟩ (fun _ w => ((.k .z) : Keep _ _).sat w)
  · rintro e1
    refine St.cond _ rfl (fun hb2 => ?_) (fun hb2 => ?_)
    · replace h := bif_t hb2 h
      refine St.seq ?_
      refine St.region ?_
      refine St.p rfl rfl ?_
      refine St.store 0 rfl rfl rfl rfl rfl rfl .z rfl ?_
      refine St.p rfl rfl ?_
      refine St.done ?_
      refine St.thenN ?_
      refine St.prune (Γ' := [(8, _), (9, _)]) ⟨rfl, rfl, trivial⟩ (.k .z) ?_
      refine St.ret ?_
      repeat (first | refine St.thenR ?_ | refine St.blkR ?_)
      injection h with h
      subst h
      exact St.finR Try.results40 (.cell rfl (.head _) rfl (.tmp rfl .nil)) rfl [] ⟨rfl, rfl⟩ (fun _ w => ((.d .z) : Keep _ _).sat w)
    · replace h := bif_f hb2 h
      refine St.skip ?_
      refine St.thenN ?_
      refine St.prune (Γ' := [(0, _), (1, _), (2, _), (3, _), (8, _)]) ⟨rfl, rfl, rfl, rfl, rfl, trivial⟩ (.k .z) ?_
      refine St.seq ?_
      refine St.region ?_
      iterate 8 refine St.p rfl rfl ?_
      refine St.store 0 rfl rfl rfl rfl rfl rfl .z rfl ?_
      refine St.p rfl rfl ?_
      refine St.done ?_
      refine St.thenN ?_
      refine St.prune (Γ' := [(8, _), (9, _)]) ⟨rfl, rfl, trivial⟩ (.k .z) ?_
      refine St.ret ?_
      repeat (first | refine St.thenR ?_ | refine St.blkR ?_)
      injection h with h
      subst h
      exact St.finR Try.results40 (.cell rfl (.head _) rfl (.tmp rfl .nil)) rfl [] ⟨rfl, rfl⟩ (fun _ w => ((.d .z) : Keep _ _).sat w)

theorem ent24 : Ent Try.prog 24 := ⟨_, Try.func24, by kernel_rfl, by kernel_rfl⟩

noncomputable def m_inventory_Events (l_p0 : (List T_Difference)) : Option ((List T_Event) × Int) :=
  bnd (loopM (τ := ((List T_Event) × Int) ⊕ List T_Event) (fun (s1 : List T_Event × Int) => bif decide (s1.2 < (l_p0.length : Int)) then (bnd (elt l_p0 s1.2) fun x1 => bnd ((bif decide (x1.Kind < 1) then (some true) else (bif decide (x1.Kind > 5) then (some true) else (bnd (m_inventory_slotted x1.Slot) fun r1 => some (!r1))) : Option Bool)) fun o3 => bif o3 then (some (.done (.inl ([], 2)))) else (bnd (m_event_State 37 (IntKind.wrap .u8 x1.Slot) 0 (x1.Kind != 2)) fun r2 => bnd (app 20 s1.1 ([(⟨r2.1.ID, r2.1.Time, r2.1.Generator, r2.1.SensorType, r2.1.Sensor, r2.1.Type_, r2.1.Deassert, (⟨r2.1.Data.e0, IntKind.wrap .u8 x1.Kind, r2.1.Data.e2⟩ : (Arr3 Int))⟩ : T_Event)])) fun l1 => some (.next (l1, IntKind.wrap .i64 (s1.2 + 1))))) else (some (.done (.inr s1.1)))) ([], 0)) fun o1 => retOr o1 fun o2 => some (o2, 0)

theorem c_inventory_Events {l_p0 : (List T_Difference)} {A1 : Option Addr} {c1 : Nat} {r : ((List T_Event) × Int)} (h : m_inventory_Events l_p0 = some r) :
    Fun Try.prog 24 [.slice A1 l_p0.length c1] [.ro (SlL e_Difference A1 c1 l_p0)] (fun v_ F_ => ∃ (A1 : Option Addr) (c1 : Nat), v_ = .tuple #[.slice A1 r.1.length c1, .int .i64 r.2] ∧ F_ = [.res (OwnL e_Event 83 A1 c1 r.1)]) := by
  unfold m_inventory_Events at h
  refine Fun.intro Try.func24 rfl rfl rfl fun w R => ?_
  refine St.seq ?_
  refine St.region ?_
  refine St.p rfl rfl ?_
  refine St.p rfl rfl ?_
  refine St.done ?_
  refine St.thenN ?_
  refine St.prune (Γ' := [(0, _)]) ⟨rfl, trivial⟩ (.k .z) ?_
  refine St.seq ?_
  refine St.region ?_
  refine St.p rfl rfl ?_
  refine St.done ?_
  refine St.thenN ?_
  refine St.seq ?_
  refine St.seq ?_
  refine St.region ?_
  iterate 3 refine St.p rfl rfl ?_
  refine St.done ?_
  refine St.thenN ?_
  refine St.prune (Γ' := [(4, _), (9, _), (10, _), (11, _)]) ⟨rfl, rfl, rfl, rfl, trivial⟩ (.k .z) ?_
  refine St.asrt (fun _ w => w.nilL e_Event 83) ?_
  obtain ⟨o1, hl1, h⟩ := bnd_e h
  refine St.cutI (fun (o2 : List T_Event) (e2 : Option Addr × Nat) => [(4, .slice e2.1 o2.length e2.2)]) (fun o2 e2 => .res (OwnL e_Event 83 e2.1 e2.2 o2) :: R) (fun o2 => o1 = .inr o2) ?_ ?_
  · refine St.block ?_
    refine St.loop hl1 (fun (s1 : List T_Event × Int) (e1 : Option Addr × Nat) => [(4, .slice e1.1 s1.1.length e1.2), (9, .slice A1 l_p0.length c1), (10, .int .i64 (l_p0.length : Int)), (11, .int .i64 s1.2)]) (fun s1 e1 => .res (OwnL e_Event 83 e1.1 e1.2 s1.1) :: .ro (SlL e_Difference A1 c1 l_p0) :: R) (fun _ _ => True) (none, 0) trivial ⟨rfl, rfl, rfl, rfl, trivial⟩ (fun _ w => ((.k (.k .z)) : Keep _ _).sat w) ?_
    rintro s1 ⟨A2, c2⟩ - hit1
    obtain ⟨st1, hm1, hd1⟩ := iter_e hit1
    have h1 := hm1
    refine St.seq ?_
    refine St.region ?_
    refine St.p rfl rfl ?_
    refine St.done ?_
    refine St.thenN ?_
    refine St.seq ?_
    refine St.cond _ rfl (fun hb1 => ?_) (fun hb1 => ?_)
    · replace h1 := bif_t hb1 h1
      refine St.skip ?_
      refine St.thenN ?_
      refine St.prune (Γ' := [(4, _), (9, _), (10, _), (11, _)]) ⟨rfl, rfl, rfl, rfl, trivial⟩ (.k (.k .z)) ?_
      refine St.seq ?_
      refine St.block ?_
      refine St.seq ?_
      refine St.region ?_
      obtain ⟨x1, hx1, h1⟩ := bnd_e h1
      refine St.ixL hx1 rfl rfl rfl (.tail _ (.head _)) rfl rfl rfl rfl rfl fun b1 ob1 => ?_
      refine St.load ob1 0 rfl rfl (.head _) rfl rfl ?_
      refine St.alloc rfl rfl fun g1 => ?_
      refine St.store 0 rfl rfl rfl rfl rfl rfl .z rfl ?_
      refine St.done ?_
      refine St.thenN ?_
      refine St.prune (Γ' := [(4, _), (6, _), (9, _), (10, _), (11, _)]) ⟨rfl, rfl, rfl, rfl, rfl, trivial⟩ (.k (.d (.k (.k .z)))) ?_
      refine St.seq ?_
      refine St.seq ?_
      obtain ⟨o3, hj1, h1⟩ := bnd_e h1
      refine St.cutE (fun (e3 : Unit) => [(4, .slice A2 s1.1.length c2), (6, .pointer (some ⟨g1, 0, none⟩)), (9, .slice A1 l_p0.length c1), (10, .int .i64 (l_p0.length : Int)), (11, .int .i64 s1.2), (28, .bool o3)]) (fun e3 => .res (Box g1 40 [.int .i64 x1.Kind, .int .i64 x1.Slot, .int .i64 x1.From]) :: .res (OwnL e_Event 83 A2 c2 s1.1) :: .ro (SlL e_Difference A1 c1 l_p0) :: R) ?_ ?_
      · refine St.region ?_
        refine St.p rfl rfl ?_
        refine St.loadB 0 rfl rfl (.head _) rfl rfl ?_
        refine St.p rfl rfl ?_
        refine St.p rfl rfl ?_
        refine St.gSplit (dj := 18) _ rfl (fun hb2 => ?_) (fun hb2 => ?_)
        · replace hj1 := bif_t hb2 hj1
          refine St.gOff (dj := 18) rfl rfl rfl rfl ?_
          refine St.gOff (dj := 18) rfl rfl rfl rfl ?_
          refine St.gOff (dj := 18) rfl rfl rfl rfl ?_
          refine St.p rfl rfl ?_
          refine St.p rfl rfl ?_
          refine St.gOff (dj := 23) rfl rfl rfl rfl ?_
          refine St.gOff (dj := 23) rfl rfl rfl rfl ?_
          refine St.gOff (dj := 23) rfl rfl rfl rfl ?_
          refine St.gOff (dj := 23) rfl rfl rfl rfl ?_
          refine St.p rfl rfl ?_
          refine St.done ?_
          injection hj1 with hj1
          subst hj1
          refine St.thenN ?_
          exact St.hereE () ⟨rfl, rfl, rfl, rfl, rfl, rfl, trivial⟩ (fun _ w => ((.k (.k (.k .z))) : Keep _ _).sat w)
        · replace hj1 := bif_f hb2 hj1
          refine St.gOn (dj := 18) rfl rfl ?_
          refine St.p rfl rfl ?_
          refine St.gOn (dj := 18) rfl rfl ?_
          refine St.loadB 0 rfl rfl (.head _) rfl rfl ?_
          refine St.gOn (dj := 18) rfl rfl ?_
          iterate 3 refine St.p rfl rfl ?_
          refine St.gSplit (dj := 23) _ rfl (fun hb3 => ?_) (fun hb3 => ?_)
          · replace hj1 := bif_t hb3 hj1
            refine St.gOff (dj := 23) rfl rfl rfl rfl ?_
            refine St.gOff (dj := 23) rfl rfl rfl rfl ?_
            refine St.gOff (dj := 23) rfl rfl rfl rfl ?_
            refine St.gOff (dj := 23) rfl rfl rfl rfl ?_
            refine St.p rfl rfl ?_
            refine St.done ?_
            injection hj1 with hj1
            subst hj1
            refine St.thenN ?_
            exact St.hereE () ⟨rfl, rfl, rfl, rfl, rfl, rfl, trivial⟩ (fun _ w => ((.k (.k (.k .z))) : Keep _ _).sat w)
          · replace hj1 := bif_f hb3 hj1
            refine St.gOn (dj := 23) rfl rfl ?_
            refine St.p rfl rfl ?_
            refine St.gOn (dj := 23) rfl rfl ?_
            refine St.loadB 1 rfl rfl (.head _) rfl rfl ?_
            refine St.gOn (dj := 23) rfl rfl ?_
            obtain ⟨r1, hr1, hj1⟩ := bnd_e hj1
            refine St.callV (c_inventory_slotted hr1) ent39 rfl rfl rfl rfl trivial ?_
            refine St.gOn (dj := 23) rfl rfl ?_
            refine St.p rfl rfl ?_
            refine St.p rfl rfl ?_
            refine St.done ?_
            injection hj1 with hj1
            subst hj1
            refine St.thenN ?_
            exact St.hereE () ⟨rfl, rfl, rfl, rfl, rfl, rfl, trivial⟩ (fun _ w => ((.k (.k (.k .z))) : Keep _ _).sat w)
      · rintro e3
        refine St.cond _ rfl (fun hb4 => ?_) (fun hb4 => ?_)
        · replace h1 := bif_t hb4 h1
          refine St.seq ?_
          refine St.region ?_
          refine St.p rfl rfl ?_
          refine St.p rfl rfl ?_
          refine St.done ?_
          refine St.thenN ?_
          refine St.prune (Γ' := [(2, _), (3, _)]) ⟨rfl, rfl, trivial⟩ (.d (.d (.d .z))) ?_
          refine St.ret ?_
          repeat (first | refine St.thenR ?_ | refine St.blkR ?_)
          refine St.asrt (fun _ w => w.nilL e_Event 83) ?_
          injection h1 with h1
          subst h1
          have ho := hd1 _ rfl
          subst ho
          have h : some _ = some _ := h
          injection h with h
          subst h
          exact St.finR Try.results24 (.tmp rfl (.tmp rfl .nil)) rfl [.res (OwnL e_Event 83 none 0 ([]))] ⟨none, 0, rfl, rfl⟩ (fun _ w => ((.k .z) : Keep _ _).sat w)
        · replace h1 := bif_f hb4 h1
          refine St.skip ?_
          refine St.thenN ?_
          refine St.prune (Γ' := [(4, _), (6, _), (9, _), (10, _), (11, _)]) ⟨rfl, rfl, rfl, rfl, rfl, trivial⟩ (.k (.k (.k .z))) ?_
          refine St.seq ?_
          refine St.region ?_
          refine St.p rfl rfl ?_
          refine St.loadB 1 rfl rfl (.head _) rfl rfl ?_
          refine St.p rfl rfl ?_
          refine St.p rfl rfl ?_
          refine St.loadB 0 rfl rfl (.head _) rfl rfl ?_
          refine St.p rfl rfl ?_
          obtain ⟨r2, hr2, h1⟩ := bnd_e h1
          refine St.callV (c_event_State hr2) ent40 rfl rfl rfl rfl trivial ?_
          iterate 3 refine St.p rfl rfl ?_
          refine St.alloc rfl rfl fun g2 => ?_
          refine St.store 0 rfl rfl rfl rfl rfl rfl .z rfl ?_
          refine St.p rfl rfl ?_
          refine St.done ?_
          refine St.thenN ?_
          refine St.prune (Γ' := [(4, _), (6, _), (7, _), (9, _), (10, _), (11, _)]) ⟨rfl, rfl, rfl, rfl, rfl, rfl, trivial⟩ (.k (.k (.k (.k .z)))) ?_
          refine St.seq ?_
          refine St.region ?_
          refine St.p rfl rfl ?_
          refine St.loadB 0 rfl rfl (.tail _ (.head _)) rfl rfl ?_
          iterate 3 refine St.p rfl rfl ?_
          refine St.store 8 rfl rfl rfl rfl rfl rfl .z rfl ?_
          refine St.done ?_
          refine St.thenN ?_
          refine St.prune (Γ' := [(4, _), (7, _), (9, _), (10, _), (11, _)]) ⟨rfl, rfl, rfl, rfl, rfl, trivial⟩ (.k (.d (.k (.k .z)))) ?_
          refine St.region ?_
          refine St.p rfl rfl ?_
          refine St.loadB 0 rfl rfl (.head _) rfl rfl ?_
          refine St.buildSlice rfl rfl rfl rfl rfl rfl rfl rfl fun g3 => ?_
          obtain ⟨l1, hl1, h1⟩ := bnd_e h1
          refine St.app (E := e_Event) hl1 rfl rfl rfl (.s (.s .z)) rfl rfl rfl rfl rfl rfl rfl rfl (srcB (.head _) rfl rfl) fun A4 c4 => ?_
          refine St.p rfl rfl ?_
          refine St.done ?_
          refine St.blkN ?_
          refine St.thenN ?_
          refine St.prune (Γ' := [(4, _), (9, _), (10, _), (11, _)]) ⟨rfl, rfl, rfl, rfl, trivial⟩ (.k (.d (.d (.k .z)))) ?_
          refine St.region ?_
          refine St.p rfl rfl ?_
          refine St.p rfl rfl ?_
          refine St.done ?_
          injection h1 with h1
          subst h1
          refine St.thenN ?_
          exact St.again _ (A4, c4) hm1 trivial ⟨rfl, rfl, rfl, rfl, trivial⟩ (fun _ w => ((.k (.k .z)) : Keep _ _).sat w)
    · replace h1 := bif_f hb1 h1
      refine St.exit ?_
      repeat (first | refine St.thenX ?_ | refine St.blkMiss rfl ?_)
      refine St.blkHit ?_
      injection h1 with h1
      subst h1
      have ho := hd1 _ rfl
      subst ho
      refine St.thenN ?_
      exact St.hereI s1.1 (A2, c2) rfl ⟨rfl, trivial⟩ (fun _ w => ((.k (.d .z)) : Keep _ _).sat w)
  · rintro o2 ⟨A3, c3⟩ ho
    subst ho
    have h : _ = some _ := h
    refine St.seq ?_
    refine St.region ?_
    iterate 3 refine St.p rfl rfl ?_
    refine St.done ?_
    refine St.thenN ?_
    refine St.prune (Γ' := [(2, _), (3, _)]) ⟨rfl, rfl, trivial⟩ (.k .z) ?_
    refine St.ret ?_
    repeat (first | refine St.thenR ?_ | refine St.blkR ?_)
    injection h with h
    subst h
    exact St.finR Try.results24 (.tmp rfl (.tmp rfl .nil)) rfl [.res (OwnL e_Event 83 A3 c3 o2)] ⟨A3, c3, rfl, rfl⟩ (fun _ w => ((.k .z) : Keep _ _).sat w)

theorem ent41 : Ent Try.prog 41 := ⟨_, Try.func41, by kernel_rfl, by kernel_rfl⟩

noncomputable def m_ref07_State (sensorType : Int) (number : Int) (index : Int) (asserted : Bool) : Option (T_Event × Int) :=
  bnd ((bif decide (index < 0) then (some true) else (some (decide (index > 14))) : Option Bool)) fun o1 => bif o1 then (some ((⟨0, 0, 0, 0, 0, 0, false, (⟨0, 0, 0⟩ : (Arr3 Int))⟩ : T_Event), 2)) else (some ((⟨0, 0, 32, sensorType, number, 111, !asserted, (⟨IntKind.wrap .u8 index, 255, 255⟩ : (Arr3 Int))⟩ : T_Event), 0))

theorem c_ref07_State {sensorType : Int} {number : Int} {index : Int} {asserted : Bool} {r : (T_Event × Int)} (h : m_ref07_State sensorType number index asserted = some r) :
    Fun Try.prog 41 [.int .u8 sensorType, .int .u8 number, .int .i64 index, .bool asserted] [] (Val (.tuple #[.agg #[.int .u16 r.1.ID, .int .u32 r.1.Time, .int .u16 r.1.Generator, .int .u8 r.1.SensorType, .int .u8 r.1.Sensor, .int .u8 r.1.Type_, .bool r.1.Deassert, .int .u8 r.1.Data.e0, .int .u8 r.1.Data.e1, .int .u8 r.1.Data.e2], .int .i64 r.2])) := by
  unfold m_ref07_State at h
  refine Fun.intro Try.func41 rfl rfl rfl fun w R => ?_
  refine St.seq ?_
  refine St.region ?_
  refine St.alloc rfl rfl fun g1 => ?_
  refine St.p rfl rfl ?_
  refine St.done ?_
  refine St.thenN ?_
  refine St.prune (Γ' := [(0, _), (1, _), (2, _), (3, _), (8, _)]) ⟨rfl, rfl, rfl, rfl, rfl, trivial⟩ (.k .z) ?_
  refine St.seq ?_
  refine St.seq ?_
  obtain ⟨o1, hj1, h⟩ := bnd_e h
  refine St.cutE (fun (e1 : Unit) => [(0, .int .u8 sensorType), (1, .int .u8 number), (2, .int .i64 index), (3, .bool asserted), (8, .pointer (some ⟨g1, 0, none⟩)), (15, .bool o1)]) (fun e1 => .res (Box g1 83 [.int .u16 0, .int .u32 0, .int .u16 0, .int .u8 0, .int .u8 0, .int .u8 0, .bool false, .int .u8 0, .int .u8 0, .int .u8 0]) :: R) ?_ ?_
  · refine St.region ?_
    iterate 3 refine St.p rfl rfl ?_
    refine St.gSplit (dj := 12) _ rfl (fun hb1 => ?_) (fun hb1 => ?_)
    · replace hj1 := bif_t hb1 hj1
      refine St.gOff (dj := 12) rfl rfl rfl rfl ?_
      refine St.gOff (dj := 12) rfl rfl rfl rfl ?_
      refine St.p rfl rfl ?_
      refine St.done ?_
      injection hj1 with hj1
      subst hj1
      refine St.thenN ?_
      exact St.hereE () ⟨rfl, rfl, rfl, rfl, rfl, rfl, trivial⟩ (fun _ w => ((.k .z) : Keep _ _).sat w)
    · replace hj1 := bif_f hb1 hj1
      refine St.gOn (dj := 12) rfl rfl ?_
      refine St.p rfl rfl ?_
      refine St.gOn (dj := 12) rfl rfl ?_
      refine St.p rfl rfl ?_
      refine St.p rfl rfl ?_
      refine St.done ?_
      injection hj1 with hj1
      subst hj1
      refine St.thenN ?_
      exact St.hereE () ⟨rfl, rfl, rfl, rfl, rfl, rfl, trivial⟩ (fun _ w => ((.k .z) : Keep _ _).sat w)
  · rintro e1
    refine St.cond _ rfl (fun hb2 => ?_) (fun hb2 => ?_)
    · replace h := bif_t hb2 h
      refine St.seq ?_
      refine St.region ?_
      refine St.p rfl rfl ?_
      refine St.store 0 rfl rfl rfl rfl rfl rfl .z rfl ?_
      refine St.p rfl rfl ?_
      refine St.done ?_
      refine St.thenN ?_
      refine St.prune (Γ' := [(8, _), (9, _)]) ⟨rfl, rfl, trivial⟩ (.k .z) ?_
      refine St.ret ?_
      repeat (first | refine St.thenR ?_ | refine St.blkR ?_)
      injection h with h
      subst h
      exact St.finR Try.results41 (.cell rfl (.head _) rfl (.tmp rfl .nil)) rfl [] ⟨rfl, rfl⟩ (fun _ w => ((.d .z) : Keep _ _).sat w)
    · replace h := bif_f hb2 h
      refine St.skip ?_
      refine St.thenN ?_
      refine St.prune (Γ' := [(0, _), (1, _), (2, _), (3, _), (8, _)]) ⟨rfl, rfl, rfl, rfl, rfl, trivial⟩ (.k .z) ?_
      refine St.seq ?_
      refine St.region ?_
      iterate 8 refine St.p rfl rfl ?_
      refine St.store 0 rfl rfl rfl rfl rfl rfl .z rfl ?_
      refine St.p rfl rfl ?_
      refine St.done ?_
      refine St.thenN ?_
      refine St.prune (Γ' := [(8, _), (9, _)]) ⟨rfl, rfl, trivial⟩ (.k .z) ?_
      refine St.ret ?_
      repeat (first | refine St.thenR ?_ | refine St.blkR ?_)
      injection h with h
      subst h
      exact St.finR Try.results41 (.cell rfl (.head _) rfl (.tmp rfl .nil)) rfl [] ⟨rfl, rfl⟩ (fun _ w => ((.d .z) : Keep _ _).sat w)

theorem ent25 : Ent Try.prog 25 := ⟨_, Try.func25, by kernel_rfl, by kernel_rfl⟩

noncomputable def m_ref19_Events (l_p0 : (List T_Difference)) : Option ((List T_Event) × Int) :=
  bnd (loopM (τ := ((List T_Event) × Int) ⊕ List T_Event) (fun (s1 : List T_Event × Int) => bif decide (s1.2 < (l_p0.length : Int)) then (bnd ((bnd (elt l_p0 s1.2) fun x1 => bif decide (x1.Kind < 1) then (some true) else (bif decide (x1.Kind > 5) then (some true) else (bif decide (x1.Slot < 0) then (some true) else (some (decide (x1.Slot ≥ 16))))) : Option Bool)) fun o3 => bif o3 then (some (.done (.inl ([], 2)))) else (bnd (elt l_p0 s1.2) fun x2 => bnd (elt l_p0 s1.2) fun x3 => bnd (m_ref07_State 37 (IntKind.wrap .u8 x2.Slot) 0 (x3.Kind != 2)) fun r1 => bnd (elt l_p0 s1.2) fun x4 => bnd (app 20 s1.1 ([(⟨r1.1.ID, r1.1.Time, r1.1.Generator, r1.1.SensorType, r1.1.Sensor, r1.1.Type_, r1.1.Deassert, (⟨r1.1.Data.e0, IntKind.wrap .u8 x4.Kind, r1.1.Data.e2⟩ : (Arr3 Int))⟩ : T_Event)])) fun l1 => some (.next (l1, IntKind.wrap .i64 (s1.2 + 1))))) else (some (.done (.inr s1.1)))) ([], 0)) fun o1 => retOr o1 fun o2 => some (o2, 0)

theorem c_ref19_Events {l_p0 : (List T_Difference)} {A1 : Option Addr} {c1 : Nat} {r : ((List T_Event) × Int)} (h : m_ref19_Events l_p0 = some r) :
    Fun Try.prog 25 [.slice A1 l_p0.length c1] [.ro (SlL e_Difference A1 c1 l_p0)] (fun v_ F_ => ∃ (A1 : Option Addr) (c1 : Nat), v_ = .tuple #[.slice A1 r.1.length c1, .int .i64 r.2] ∧ F_ = [.res (OwnL e_Event 83 A1 c1 r.1)]) := by
  unfold m_ref19_Events at h
  refine Fun.intro Try.func25 rfl rfl rfl fun w R => ?_
  refine St.seq ?_
  refine St.region ?_
  refine St.p rfl rfl ?_
  refine St.p rfl rfl ?_
  refine St.done ?_
  refine St.thenN ?_
  refine St.prune (Γ' := [(0, _)]) ⟨rfl, trivial⟩ (.k .z) ?_
  refine St.seq ?_
  refine St.region ?_
  refine St.p rfl rfl ?_
  refine St.done ?_
  refine St.thenN ?_
  refine St.seq ?_
  refine St.seq ?_
  refine St.region ?_
  refine St.p rfl rfl ?_
  refine St.done ?_
  refine St.thenN ?_
  refine St.asrt (fun _ w => w.nilL e_Event 83) ?_
  obtain ⟨o1, hl1, h⟩ := bnd_e h
  refine St.cutI (fun (o2 : List T_Event) (e2 : Option Addr × Nat) => [(4, .slice e2.1 o2.length e2.2)]) (fun o2 e2 => .res (OwnL e_Event 83 e2.1 e2.2 o2) :: R) (fun o2 => o1 = .inr o2) ?_ ?_
  · refine St.block ?_
    refine St.loop hl1 (fun (s1 : List T_Event × Int) (e1 : Option Addr × Nat) => [(0, .slice A1 l_p0.length c1), (4, .slice e1.1 s1.1.length e1.2), (5, .int .i64 s1.2)]) (fun s1 e1 => .res (OwnL e_Event 83 e1.1 e1.2 s1.1) :: .ro (SlL e_Difference A1 c1 l_p0) :: R) (fun _ _ => True) (none, 0) trivial ⟨rfl, rfl, rfl, trivial⟩ (fun _ w => ((.k (.k .z)) : Keep _ _).sat w) ?_
    rintro s1 ⟨A2, c2⟩ - hit1
    obtain ⟨st1, hm1, hd1⟩ := iter_e hit1
    have h1 := hm1
    refine St.seq ?_
    refine St.seq ?_
    refine St.region ?_
    iterate 4 refine St.p rfl rfl ?_
    refine St.done ?_
    refine St.thenN ?_
    refine St.prune (Γ' := [(0, _), (4, _), (5, _), (11, _)]) ⟨rfl, rfl, rfl, rfl, trivial⟩ (.k (.k .z)) ?_
    refine St.cond _ rfl (fun hb1 => ?_) (fun hb1 => ?_)
    · replace h1 := bif_t hb1 h1
      refine St.skip ?_
      refine St.thenN ?_
      refine St.prune (Γ' := [(0, _), (4, _), (5, _)]) ⟨rfl, rfl, rfl, trivial⟩ (.k (.k .z)) ?_
      refine St.seq ?_
      refine St.block ?_
      refine St.seq ?_
      refine St.seq ?_
      obtain ⟨o3, hj1, h1⟩ := bnd_e h1
      refine St.cutE (fun (e3 : Unit) => [(0, .slice A1 l_p0.length c1), (4, .slice A2 s1.1.length c2), (5, .int .i64 s1.2), (43, .bool o3)]) (fun e3 => .res (OwnL e_Event 83 A2 c2 s1.1) :: .ro (SlL e_Difference A1 c1 l_p0) :: R) ?_ ?_
      · refine St.region ?_
        refine St.p rfl rfl ?_
        refine St.p rfl rfl ?_
        obtain ⟨x1, hx1, hj1⟩ := bnd_e hj1
        refine St.ixL hx1 rfl rfl rfl (.tail _ (.head _)) rfl rfl rfl rfl rfl fun b1 ob1 => ?_
        refine St.p rfl rfl ?_
        refine St.load ob1 0 rfl rfl (.head _) rfl rfl ?_
        refine St.p rfl rfl ?_
        refine St.p rfl rfl ?_
        refine St.gSplit (dj := 20) _ rfl (fun hb2 => ?_) (fun hb2 => ?_)
        · replace hj1 := bif_t hb2 hj1
          refine St.gOff (dj := 20) rfl rfl rfl rfl ?_
          refine St.gOff (dj := 20) rfl rfl rfl rfl ?_
          refine St.gOff (dj := 20) rfl rfl rfl rfl ?_
          refine St.gOff (dj := 20) rfl rfl rfl rfl ?_
          refine St.gOff (dj := 20) rfl rfl rfl rfl ?_
          refine St.gOff (dj := 20) rfl rfl rfl rfl ?_
          refine St.p rfl rfl ?_
          refine St.p rfl rfl ?_
          refine St.gOff (dj := 28) rfl rfl rfl rfl ?_
          refine St.gOff (dj := 28) rfl rfl rfl rfl ?_
          refine St.gOff (dj := 28) rfl rfl rfl rfl ?_
          refine St.gOff (dj := 28) rfl rfl rfl rfl ?_
          refine St.gOff (dj := 28) rfl rfl rfl rfl ?_
          refine St.gOff (dj := 28) rfl rfl rfl rfl ?_
          refine St.p rfl rfl ?_
          refine St.p rfl rfl ?_
          refine St.gOff (dj := 36) rfl rfl rfl rfl ?_
          refine St.gOff (dj := 36) rfl rfl rfl rfl ?_
          refine St.gOff (dj := 36) rfl rfl rfl rfl ?_
          refine St.gOff (dj := 36) rfl rfl rfl rfl ?_
          refine St.gOff (dj := 36) rfl rfl rfl rfl ?_
          refine St.gOff (dj := 36) rfl rfl rfl rfl ?_
          refine St.p rfl rfl ?_
          refine St.done ?_
          injection hj1 with hj1
          subst hj1
          refine St.thenN ?_
          exact St.hereE () ⟨rfl, rfl, rfl, rfl, trivial⟩ (fun _ w => ((.d (.k (.k .z))) : Keep _ _).sat w)
        · replace hj1 := bif_f hb2 hj1
          refine St.gOn (dj := 20) rfl rfl ?_
          refine St.p rfl rfl ?_
          refine St.gOn (dj := 20) rfl rfl ?_
          refine St.p rfl rfl ?_
          refine St.gOn (dj := 20) rfl rfl ?_
          refine St.ixL hx1 rfl rfl rfl (.tail _ (.tail _ (.head _))) rfl rfl rfl rfl rfl fun b2 ob2 => ?_
          refine St.gOn (dj := 20) rfl rfl ?_
          refine St.p rfl rfl ?_
          refine St.gOn (dj := 20) rfl rfl ?_
          refine St.load ob2 0 rfl rfl (.head _) rfl rfl ?_
          refine St.gOn (dj := 20) rfl rfl ?_
          iterate 3 refine St.p rfl rfl ?_
          refine St.gSplit (dj := 28) _ rfl (fun hb3 => ?_) (fun hb3 => ?_)
          · replace hj1 := bif_t hb3 hj1
            refine St.gOff (dj := 28) rfl rfl rfl rfl ?_
            refine St.gOff (dj := 28) rfl rfl rfl rfl ?_
            refine St.gOff (dj := 28) rfl rfl rfl rfl ?_
            refine St.gOff (dj := 28) rfl rfl rfl rfl ?_
            refine St.gOff (dj := 28) rfl rfl rfl rfl ?_
            refine St.gOff (dj := 28) rfl rfl rfl rfl ?_
            refine St.p rfl rfl ?_
            refine St.p rfl rfl ?_
            refine St.gOff (dj := 36) rfl rfl rfl rfl ?_
            refine St.gOff (dj := 36) rfl rfl rfl rfl ?_
            refine St.gOff (dj := 36) rfl rfl rfl rfl ?_
            refine St.gOff (dj := 36) rfl rfl rfl rfl ?_
            refine St.gOff (dj := 36) rfl rfl rfl rfl ?_
            refine St.gOff (dj := 36) rfl rfl rfl rfl ?_
            refine St.p rfl rfl ?_
            refine St.done ?_
            injection hj1 with hj1
            subst hj1
            refine St.thenN ?_
            exact St.hereE () ⟨rfl, rfl, rfl, rfl, trivial⟩ (fun _ w => ((.d (.d (.k (.k .z)))) : Keep _ _).sat w)
          · replace hj1 := bif_f hb3 hj1
            refine St.gOn (dj := 28) rfl rfl ?_
            refine St.p rfl rfl ?_
            refine St.gOn (dj := 28) rfl rfl ?_
            refine St.p rfl rfl ?_
            refine St.gOn (dj := 28) rfl rfl ?_
            refine St.ixL hx1 rfl rfl rfl (.tail _ (.tail _ (.tail _ (.head _)))) rfl rfl rfl rfl rfl fun b3 ob3 => ?_
            refine St.gOn (dj := 28) rfl rfl ?_
            refine St.p rfl rfl ?_
            refine St.gOn (dj := 28) rfl rfl ?_
            refine St.load ob3 1 rfl rfl (.head _) rfl rfl ?_
            refine St.gOn (dj := 28) rfl rfl ?_
            iterate 3 refine St.p rfl rfl ?_
            refine St.gSplit (dj := 36) _ rfl (fun hb4 => ?_) (fun hb4 => ?_)
            · replace hj1 := bif_t hb4 hj1
              refine St.gOff (dj := 36) rfl rfl rfl rfl ?_
              refine St.gOff (dj := 36) rfl rfl rfl rfl ?_
              refine St.gOff (dj := 36) rfl rfl rfl rfl ?_
              refine St.gOff (dj := 36) rfl rfl rfl rfl ?_
              refine St.gOff (dj := 36) rfl rfl rfl rfl ?_
              refine St.gOff (dj := 36) rfl rfl rfl rfl ?_
              refine St.p rfl rfl ?_
              refine St.done ?_
              injection hj1 with hj1
              subst hj1
              refine St.thenN ?_
              exact St.hereE () ⟨rfl, rfl, rfl, rfl, trivial⟩ (fun _ w => ((.d (.d (.d (.k (.k .z))))) : Keep _ _).sat w)
            · replace hj1 := bif_f hb4 hj1
              refine St.gOn (dj := 36) rfl rfl ?_
              refine St.p rfl rfl ?_
              refine St.gOn (dj := 36) rfl rfl ?_
              refine St.p rfl rfl ?_
              refine St.gOn (dj := 36) rfl rfl ?_
              refine St.ixL hx1 rfl rfl rfl (.tail _ (.tail _ (.tail _ (.tail _ (.head _))))) rfl rfl rfl rfl rfl fun b4 ob4 => ?_
              refine St.gOn (dj := 36) rfl rfl ?_
              refine St.p rfl rfl ?_
              refine St.gOn (dj := 36) rfl rfl ?_
              refine St.load ob4 1 rfl rfl (.head _) rfl rfl ?_
              refine St.gOn (dj := 36) rfl rfl ?_
              refine St.p rfl rfl ?_
              refine St.p rfl rfl ?_
              refine St.done ?_
              injection hj1 with hj1
              subst hj1
              refine St.thenN ?_
              exact St.hereE () ⟨rfl, rfl, rfl, rfl, trivial⟩ (fun _ w => ((.d (.d (.d (.d (.k (.k .z)))))) : Keep _ _).sat w)
      · rintro e3
        refine St.cond _ rfl (fun hb5 => ?_) (fun hb5 => ?_)
        · replace h1 := bif_t hb5 h1
          refine St.seq ?_
          refine St.region ?_
          refine St.p rfl rfl ?_
          refine St.p rfl rfl ?_
          refine St.done ?_
          refine St.thenN ?_
          refine St.prune (Γ' := [(2, _), (3, _)]) ⟨rfl, rfl, trivial⟩ (.d (.d .z)) ?_
          refine St.ret ?_
          repeat (first | refine St.thenR ?_ | refine St.blkR ?_)
          refine St.asrt (fun _ w => w.nilL e_Event 83) ?_
          injection h1 with h1
          subst h1
          have ho := hd1 _ rfl
          subst ho
          have h : some _ = some _ := h
          injection h with h
          subst h
          exact St.finR Try.results25 (.tmp rfl (.tmp rfl .nil)) rfl [.res (OwnL e_Event 83 none 0 ([]))] ⟨none, 0, rfl, rfl⟩ (fun _ w => ((.k .z) : Keep _ _).sat w)
        · replace h1 := bif_f hb5 h1
          refine St.skip ?_
          refine St.thenN ?_
          refine St.prune (Γ' := [(0, _), (4, _), (5, _)]) ⟨rfl, rfl, rfl, trivial⟩ (.k (.k .z)) ?_
          refine St.seq ?_
          refine St.regionX [(.fl, 0), (.fl, 1), (.fl, 2), (.fl, 3), (.fl, 4), (.fl, 5), (.fl, 6), (.fl, 7), (.fl, 8), (.fl, 9), (.fl, 10), (.fl, 11), (.qc, 12), (.fl, 13), (.fl, 14), (.fl, 15), (.ef, 16), (.ef, 17), (.fl, 18)] (.res (OwnL e_Event 83 A2 c2 s1.1) :: .ro (SlL e_Difference A1 c1 l_p0) :: R) mixed (by kernel_rfl) (by kernel_rfl) (fun _ w => ((.k (.k .z)) : Keep _ _).sat w) ?_
          refine St.xfl (fun _ h => h) (Rd.p rfl) rfl ?_
          refine St.xfl (fun _ h => h) (Rd.p rfl) rfl ?_
          obtain ⟨x2, hx2, h1⟩ := bnd_e h1
          refine St.openA (.tail _ (.head _)) hx2 fun b5 ob5 hqb5 => ?_
          refine St.asrt (fun _ w => Sat.addC hqb5 (.tail _ (.head _)) hx2 w) ?_
          have hc1 := fun w h => Sat.addC hqb5 (.tail _ (.head _)) hx2 ((fun (w : World) (h : Sat (.res (OwnL e_Event 83 A2 c2 s1.1) :: .ro (SlL e_Difference A1 c1 l_p0) :: R) w) => h) w h)
          refine St.xfl (fun _ h => h) (Rd.ixL (E := e_Difference) hqb5 hx2 rfl rfl rfl rfl rfl rfl rfl) rfl ?_
          refine St.xfl (fun _ h => h) (Rd.p rfl) rfl ?_
          refine St.xfl hc1 (Rd.load ob5 1 rfl (.head _) rfl rfl) rfl ?_
          refine St.xfl (fun _ h => h) (Rd.p rfl) rfl ?_
          refine St.xfl (fun _ h => h) (Rd.p rfl) rfl ?_
          refine St.xfl (fun _ h => h) (Rd.p rfl) rfl ?_
          obtain ⟨x3, hx3, h1⟩ := bnd_e h1
          refine St.openA (.tail _ (.tail _ (.head _))) hx3 fun b6 ob6 hqb6 => ?_
          refine St.asrt (fun _ w => Sat.addC hqb6 (.tail _ (.tail _ (.head _))) hx3 w) ?_
          have hc2 := fun w h => Sat.addC hqb6 (.tail _ (.tail _ (.head _))) hx3 (hc1 w h)
          refine St.xfl (fun _ h => h) (Rd.ixL (E := e_Difference) hqb6 hx3 rfl rfl rfl rfl rfl rfl rfl) rfl ?_
          refine St.xfl (fun _ h => h) (Rd.p rfl) rfl ?_
          refine St.xfl hc2 (Rd.load ob6 0 rfl (.head _) rfl rfl) rfl ?_
          refine St.xfl (fun _ h => h) (Rd.p rfl) rfl ?_
          obtain ⟨r1, hr1, h1⟩ := bnd_e h1
          refine St.xqc hc2 (c_ref07_State hr1) ent41 rfl rfl rfl rfl trivial ?_
          refine St.xfl (fun _ h => h) (Rd.p rfl) rfl ?_
          refine St.xfl (fun _ h => h) (Rd.p rfl) rfl ?_
          refine St.xfl (fun _ h => h) (Rd.p rfl) rfl ?_
          refine St.xef ?_
          refine St.alloc rfl rfl fun g1 => ?_
          refine St.xk (fun _ w => ((.d (.d (.d (.k (.k .z))))) : Keep _ _).sat w) ?_
          refine St.xef ?_
          refine St.store 0 rfl rfl rfl rfl rfl rfl .z rfl ?_
          refine St.xk (fun _ w => ((.d (.d (.d (.k (.k .z))))) : Keep _ _).sat w) ?_
          refine St.xfl (fun _ h => h) (Rd.p rfl) rfl ?_
          refine St.xdone ?_
          refine St.thenN ?_
          refine St.prune (Γ' := [(0, _), (4, _), (5, _), (6, _)]) ⟨rfl, rfl, rfl, rfl, trivial⟩ (.k (.d (.d (.k (.k .z))))) ?_
          refine St.seq ?_
          refine St.region ?_
          refine St.p rfl rfl ?_
          refine St.p rfl rfl ?_
          obtain ⟨x4, hx4, h1⟩ := bnd_e h1
          refine St.ixL hx4 rfl rfl rfl (.tail _ (.tail _ (.head _))) rfl rfl rfl rfl rfl fun b7 ob7 => ?_
          refine St.p rfl rfl ?_
          refine St.load ob7 0 rfl rfl (.head _) rfl rfl ?_
          iterate 3 refine St.p rfl rfl ?_
          refine St.store 8 rfl rfl rfl rfl rfl rfl (.s .z) rfl ?_
          refine St.done ?_
          refine St.thenN ?_
          refine St.prune (Γ' := [(0, _), (4, _), (5, _), (6, _)]) ⟨rfl, rfl, rfl, rfl, trivial⟩ (.k (.d (.k (.k .z)))) ?_
          refine St.region ?_
          refine St.p rfl rfl ?_
          refine St.loadB 0 rfl rfl (.head _) rfl rfl ?_
          refine St.buildSlice rfl rfl rfl rfl rfl rfl rfl rfl fun g2 => ?_
          obtain ⟨l1, hl1, h1⟩ := bnd_e h1
          refine St.app (E := e_Event) hl1 rfl rfl rfl (.s (.s .z)) rfl rfl rfl rfl rfl rfl rfl rfl (srcB (.head _) rfl rfl) fun A4 c4 => ?_
          refine St.p rfl rfl ?_
          refine St.done ?_
          refine St.blkN ?_
          refine St.thenN ?_
          refine St.prune (Γ' := [(0, _), (4, _), (5, _)]) ⟨rfl, rfl, rfl, trivial⟩ (.k (.d (.d (.k .z)))) ?_
          refine St.region ?_
          iterate 3 refine St.p rfl rfl ?_
          refine St.done ?_
          injection h1 with h1
          subst h1
          refine St.thenN ?_
          exact St.again _ (A4, c4) hm1 trivial ⟨rfl, rfl, rfl, trivial⟩ (fun _ w => ((.k (.k .z)) : Keep _ _).sat w)
    · replace h1 := bif_f hb1 h1
      refine St.exit ?_
      repeat (first | refine St.thenX ?_ | refine St.blkMiss rfl ?_)
      refine St.blkHit ?_
      injection h1 with h1
      subst h1
      have ho := hd1 _ rfl
      subst ho
      refine St.thenN ?_
      exact St.hereI s1.1 (A2, c2) rfl ⟨rfl, trivial⟩ (fun _ w => ((.k (.d .z)) : Keep _ _).sat w)
  · rintro o2 ⟨A3, c3⟩ ho
    subst ho
    have h : _ = some _ := h
    refine St.seq ?_
    refine St.region ?_
    iterate 3 refine St.p rfl rfl ?_
    refine St.done ?_
    refine St.thenN ?_
    refine St.prune (Γ' := [(2, _), (3, _)]) ⟨rfl, rfl, trivial⟩ (.k .z) ?_
    refine St.ret ?_
    repeat (first | refine St.thenR ?_ | refine St.blkR ?_)
    injection h with h
    subst h
    exact St.finR Try.results25 (.tmp rfl (.tmp rfl .nil)) rfl [.res (OwnL e_Event 83 A3 c3 o2)] ⟨A3, c3, rfl, rfl⟩ (fun _ w => ((.k .z) : Keep _ _).sat w)

theorem ent26 : Ent Try.prog 26 := ⟨_, Try.func26, by kernel_rfl, by kernel_rfl⟩

noncomputable def m_ref07_SameList (a_p0 : (List T_Event)) (b_p1 : (List T_Event)) : Option Bool :=
  bif ((a_p0.length : Int) != (b_p1.length : Int)) then (some false) else (bnd (loopM (τ := Bool ⊕ Unit) (fun (s1 : Int) => bif decide (s1 < (a_p0.length : Int)) then (bnd (elt a_p0 s1) fun x1 => bnd (elt b_p1 s1) fun x2 => bif !((x1.ID == x2.ID) && ((x1.Time == x2.Time) && ((x1.Generator == x2.Generator) && ((x1.SensorType == x2.SensorType) && ((x1.Sensor == x2.Sensor) && ((x1.Type_ == x2.Type_) && ((x1.Deassert == x2.Deassert) && (((x1.Data.e0 == x2.Data.e0) && ((x1.Data.e1 == x2.Data.e1) && ((x1.Data.e2 == x2.Data.e2) && true))) && true)))))))) then (some (.done (.inl false))) else (some (.next (IntKind.wrap .i64 (s1 + 1))))) else (some (.done (.inr ())))) 0) fun o1 => retOr o1 fun o2 => some true)

theorem c_ref07_SameList {a_p0 : (List T_Event)} {b_p1 : (List T_Event)} {A1 : Option Addr} {c1 : Nat} {A2 : Option Addr} {c2 : Nat} {r : Bool} (h : m_ref07_SameList a_p0 b_p1 = some r) :
    Fun Try.prog 26 [.slice A1 a_p0.length c1, .slice A2 b_p1.length c2] [.ro (SlL e_Event A1 c1 a_p0), .ro (SlL e_Event A2 c2 b_p1)] (Val (.bool r)) := by
  unfold m_ref07_SameList at h
  refine Fun.intro Try.func26 rfl rfl rfl fun w R => ?_
  refine St.seq ?_
  refine St.region ?_
  refine St.p rfl rfl ?_
  refine St.done ?_
  refine St.thenN ?_
  refine St.prune (Γ' := [(0, _), (1, _)]) ⟨rfl, rfl, trivial⟩ (.k (.k .z)) ?_
  refine St.seq ?_
  refine St.seq ?_
  refine St.region ?_
  iterate 5 refine St.p rfl rfl ?_
  refine St.done ?_
  refine St.thenN ?_
  refine St.prune (Γ' := [(0, _), (1, _), (10, _)]) ⟨rfl, rfl, rfl, trivial⟩ (.k (.k .z)) ?_
  refine St.cond _ rfl (fun hb1 => ?_) (fun hb1 => ?_)
  · replace h := bif_t hb1 h
    refine St.seq ?_
    refine St.region ?_
    refine St.p rfl rfl ?_
    refine St.done ?_
    refine St.thenN ?_
    refine St.prune (Γ' := [(4, _)]) ⟨rfl, trivial⟩ (.d (.d .z)) ?_
    refine St.ret ?_
    repeat (first | refine St.thenR ?_ | refine St.blkR ?_)
    injection h with h
    subst h
    exact St.finR Try.results26 (.tmp rfl .nil) rfl [] ⟨rfl, rfl⟩ (fun _ w => (.z : Keep _ _).sat w)
  · replace h := bif_f hb1 h
    refine St.skip ?_
    refine St.thenN ?_
    refine St.prune (Γ' := [(0, _), (1, _)]) ⟨rfl, rfl, trivial⟩ (.k (.k .z)) ?_
    refine St.seq ?_
    refine St.seq ?_
    refine St.region ?_
    refine St.p rfl rfl ?_
    refine St.done ?_
    refine St.thenN ?_
    obtain ⟨o1, hl1, h⟩ := bnd_e h
    refine St.cutI (fun (o2 : Unit) (e2 : Unit) => []) (fun o2 e2 => R) (fun o2 => o1 = .inr o2) ?_ ?_
    · refine St.block ?_
      refine St.loop hl1 (fun (s1 : Int) (e1 : Unit) => [(0, .slice A1 a_p0.length c1), (1, .slice A2 b_p1.length c2), (5, .int .i64 s1)]) (fun s1 e1 => .ro (SlL e_Event A1 c1 a_p0) :: .ro (SlL e_Event A2 c2 b_p1) :: R) (fun _ _ => True) () trivial ⟨rfl, rfl, rfl, trivial⟩ (fun _ w => ((.k (.k .z)) : Keep _ _).sat w) ?_
      rintro s1 e1 - hit1
      obtain ⟨st1, hm1, hd1⟩ := iter_e hit1
      have h1 := hm1
      refine St.seq ?_
      refine St.seq ?_
      refine St.region ?_
      iterate 4 refine St.p rfl rfl ?_
      refine St.done ?_
      refine St.thenN ?_
      refine St.prune (Γ' := [(0, _), (1, _), (5, _), (14, _)]) ⟨rfl, rfl, rfl, rfl, trivial⟩ (.k (.k .z)) ?_
      refine St.cond _ rfl (fun hb2 => ?_) (fun hb2 => ?_)
      · replace h1 := bif_t hb2 h1
        refine St.skip ?_
        refine St.thenN ?_
        refine St.prune (Γ' := [(0, _), (1, _), (5, _)]) ⟨rfl, rfl, rfl, trivial⟩ (.k (.k .z)) ?_
        refine St.seq ?_
        refine St.block ?_
        refine St.seq ?_
        refine St.regionF mixed (by kernel_rfl) ?_
        refine St.p rfl rfl ?_
        refine St.p rfl rfl ?_
        obtain ⟨x1, hx1, h1⟩ := bnd_e h1
        refine St.ixL hx1 rfl rfl rfl (.head _) rfl rfl rfl rfl rfl fun b1 ob1 => ?_
        refine St.load ob1 0 rfl rfl (.head _) rfl rfl ?_
        refine St.p rfl rfl ?_
        refine St.p rfl rfl ?_
        obtain ⟨x2, hx2, h1⟩ := bnd_e h1
        refine St.ixL hx2 rfl rfl rfl (.tail _ (.tail _ (.head _))) rfl rfl rfl rfl rfl fun b2 ob2 => ?_
        refine St.load ob2 0 rfl rfl (.head _) rfl rfl ?_
        refine St.p rfl rfl ?_
        refine St.doneQ ?_
        refine St.thenN ?_
        refine St.prune (Γ' := [(0, _), (1, _), (5, _), (25, _)]) ⟨rfl, rfl, rfl, rfl, trivial⟩ (.d (.d (.k (.k .z)))) ?_
        refine St.cond _ rfl (fun hb3 => ?_) (fun hb3 => ?_)
        · replace h1 := bif_t hb3 h1
          refine St.seq ?_
          refine St.region ?_
          refine St.p rfl rfl ?_
          refine St.done ?_
          refine St.thenN ?_
          refine St.prune (Γ' := [(4, _)]) ⟨rfl, trivial⟩ (.d (.d .z)) ?_
          refine St.ret ?_
          repeat (first | refine St.thenR ?_ | refine St.blkR ?_)
          injection h1 with h1
          subst h1
          have ho := hd1 _ rfl
          subst ho
          have h : some _ = some _ := h
          injection h with h
          subst h
          exact St.finR Try.results26 (.tmp rfl .nil) rfl [] ⟨rfl, rfl⟩ (fun _ w => (.z : Keep _ _).sat w)
        · replace h1 := bif_f hb3 h1
          refine St.skip ?_
          refine St.blkN ?_
          refine St.thenN ?_
          refine St.prune (Γ' := [(0, _), (1, _), (5, _)]) ⟨rfl, rfl, rfl, trivial⟩ (.k (.k .z)) ?_
          refine St.region ?_
          iterate 3 refine St.p rfl rfl ?_
          refine St.done ?_
          injection h1 with h1
          subst h1
          refine St.thenN ?_
          exact St.again _ () hm1 trivial ⟨rfl, rfl, rfl, trivial⟩ (fun _ w => ((.k (.k .z)) : Keep _ _).sat w)
      · replace h1 := bif_f hb2 h1
        refine St.exit ?_
        repeat (first | refine St.thenX ?_ | refine St.blkMiss rfl ?_)
        refine St.blkHit ?_
        injection h1 with h1
        subst h1
        have ho := hd1 _ rfl
        subst ho
        refine St.thenN ?_
        exact St.hereI () () rfl trivial (fun _ w => ((.d (.d .z)) : Keep _ _).sat w)
    · rintro o2 e2 ho
      subst ho
      have h : _ = some _ := h
      refine St.seq ?_
      refine St.region ?_
      refine St.p rfl rfl ?_
      refine St.done ?_
      refine St.thenN ?_
      refine St.ret ?_
      repeat (first | refine St.thenR ?_ | refine St.blkR ?_)
      injection h with h
      subst h
      exact St.finR Try.results26 (.tmp rfl .nil) rfl [] ⟨rfl, rfl⟩ (fun _ w => (.z : Keep _ _).sat w)

theorem ent5 : Ent Try.prog 5 := ⟨_, Try.func5, by kernel_rfl, by kernel_rfl⟩

noncomputable def m_law19_InventorySwaps (n_p0 : Int) (order : (List Int)) : Option Bool :=
  bif decide ((order.length : Int) > 40) then (bnd (m_law19_awake) fun r1 => some r1) else (bnd (m_made_Mod n_p0 16) fun r2 => bnd (mkS 8 0 (IntKind.wrap .i64 (1 + r2)) (IntKind.wrap .i64 (1 + r2))) fun l1 => bnd (loopM (τ := List Int) (fun (s1 : Int × List Int) => bif decide (s1.1 < (IntKind.wrap .i64 (1 + r2))) then (bnd (elt s1.2 s1.1) fun x1 => bnd (setE s1.2 s1.1 s1.1) fun l2 => some (.next (IntKind.wrap .i64 (s1.1 + 1), l2))) else (some (.done s1.2))) (0, l1)) fun o1 => bnd (loopM (τ := List Int) (fun (s2 : Int × List Int) => bif decide ((IntKind.wrap .i64 (s2.1 + 1)) < (order.length : Int)) then (bnd (elt order s2.1) fun x2 => bnd (m_made_Mod x2 (IntKind.wrap .i64 (1 + r2))) fun r3 => bnd (elt order (IntKind.wrap .i64 (s2.1 + 1))) fun x3 => bnd (m_made_Mod x3 (IntKind.wrap .i64 (1 + r2))) fun r4 => bnd (elt s2.2 r4) fun x4 => bnd (elt s2.2 r3) fun x5 => bnd (elt s2.2 r3) fun x6 => bnd (setE s2.2 r3 x4) fun l3 => bnd (elt l3 r4) fun x7 => bnd (setE l3 r4 x5) fun l4 => some (.next (IntKind.wrap .i64 (s2.1 + 2), l4))) else (some (.done s2.2))) (0, o1)) fun o2 => bnd (loopM (τ := List T_Known × List T_Known × List T_Difference) (fun (s3 : List T_Known × List T_Known × List T_Difference × Int) => bif decide (s3.2.2.2 < (IntKind.wrap .i64 (1 + r2))) then (bnd (subS (⟨#[65, 66, 67, 68, 69, 70, 71, 72, 73, 74, 75, 76, 77, 78, 79, 80]⟩) s3.2.2.2 (IntKind.wrap .i64 (s3.2.2.2 + 1))) fun t1 => bnd (catS (⟨#[83, 78, 45]⟩) t1) fun t2 => bnd (m_law19_known s3.2.2.2 t2) fun r5 => bnd (app 40 s3.1 ([r5])) fun l5 => bnd (elt o2 s3.2.2.2) fun x8 => bnd (subS (⟨#[65, 66, 67, 68, 69, 70, 71, 72, 73, 74, 75, 76, 77, 78, 79, 80]⟩) x8 (IntKind.wrap .i64 (x8 + 1))) fun t3 => bnd (catS (⟨#[83, 78, 45]⟩) t3) fun t4 => bnd (m_law19_known s3.2.2.2 t4) fun r6 => bnd (app 40 s3.2.1 ([r6])) fun l6 => bif (x8 != s3.2.2.2) then (bnd (app 24 s3.2.2.1 ([(⟨4, s3.2.2.2, x8⟩ : T_Difference)])) fun l7 => some (.next (l5, l6, l7, IntKind.wrap .i64 (s3.2.2.2 + 1)))) else (some (.next (l5, l6, s3.2.2.1, IntKind.wrap .i64 (s3.2.2.2 + 1))))) else (some (.done (s3.1, s3.2.1, s3.2.2.1)))) ([], [], [], 0)) fun o3 => bnd (m_inventory_Compare o3.1 o3.2.1) fun r7 => bnd ((bif (r7.2 == 0) then (bnd (m_ref19_SameDifferences r7.1 o3.2.2) fun r8 => bif r8 then (bnd (m_law19_awake) fun r9 => some r9) else (some false)) else (some false) : Option Bool)) fun o4 => some o4)

theorem c_law19_InventorySwaps {n_p0 : Int} {order : (List Int)} {A1 : Option Addr} {c1 : Nat} {r : Bool} (h : m_law19_InventorySwaps n_p0 order = some r) :
    Fun Try.prog 5 [.int .i64 n_p0, .slice A1 order.length c1] [.ro (SlL ei64 A1 c1 order)] (Val (.bool r)) := by
  unfold m_law19_InventorySwaps at h
  refine Fun.intro Try.func5 rfl rfl rfl fun w R => ?_
  refine St.seq ?_
  refine St.region ?_
  refine St.p rfl rfl ?_
  refine St.done ?_
  refine St.thenN ?_
  refine St.prune (Γ' := [(0, _), (1, _)]) ⟨rfl, rfl, trivial⟩ (.k .z) ?_
  refine St.seq ?_
  refine St.seq ?_
  refine St.region ?_
  iterate 3 refine St.p rfl rfl ?_
  refine St.done ?_
  refine St.thenN ?_
  refine St.prune (Γ' := [(0, _), (1, _), (20, _)]) ⟨rfl, rfl, rfl, trivial⟩ (.k .z) ?_
  refine St.cond _ rfl (fun hb1 => ?_) (fun hb1 => ?_)
  · replace h := bif_t hb1 h
    refine St.seq ?_
    refine St.region ?_
    obtain ⟨r1, hr1, h⟩ := bnd_e h
    refine St.callV (c_law19_awake hr1) ent11 rfl rfl rfl rfl trivial ?_
    refine St.p rfl rfl ?_
    refine St.done ?_
    refine St.thenN ?_
    refine St.prune (Γ' := [(4, _)]) ⟨rfl, trivial⟩ (.d .z) ?_
    refine St.ret ?_
    repeat (first | refine St.thenR ?_ | refine St.blkR ?_)
    injection h with h
    subst h
    exact St.finR Try.results5 (.tmp rfl .nil) rfl [] ⟨rfl, rfl⟩ (fun _ w => (.z : Keep _ _).sat w)
  · replace h := bif_f hb1 h
    refine St.skip ?_
    refine St.thenN ?_
    refine St.prune (Γ' := [(0, _), (1, _)]) ⟨rfl, rfl, trivial⟩ (.k .z) ?_
    refine St.seq ?_
    refine St.region ?_
    refine St.p rfl rfl ?_
    obtain ⟨r2, hr2, h⟩ := bnd_e h
    refine St.callV (c_made_Mod hr2) ent20 rfl rfl rfl rfl trivial ?_
    refine St.p rfl rfl ?_
    refine St.p rfl rfl ?_
    refine St.done ?_
    refine St.thenN ?_
    refine St.prune (Γ' := [(1, _), (5, _)]) ⟨rfl, rfl, trivial⟩ (.k .z) ?_
    refine St.seq ?_
    refine St.region ?_
    refine St.p rfl rfl ?_
    obtain ⟨l1, hl1, h⟩ := bnd_e h
    refine St.mkL (E := ei64) 0 hl1 rfl rfl rfl rfl rfl rfl rfl rfl rfl rfl fun g1 => ?_
    refine St.p rfl rfl ?_
    refine St.done ?_
    refine St.thenN ?_
    refine St.prune (Γ' := [(1, _), (5, _), (6, _)]) ⟨rfl, rfl, rfl, trivial⟩ (.k (.k .z)) ?_
    refine St.seq ?_
    refine St.seq ?_
    refine St.region ?_
    refine St.p rfl rfl ?_
    refine St.done ?_
    refine St.thenN ?_
    obtain ⟨o1, hl1, h⟩ := bnd_e h
    refine St.cutE (fun (e2 : Option Addr × Nat) => [(1, .slice A1 order.length c1), (5, .int .i64 (IntKind.wrap .i64 (1 + r2))), (6, .slice e2.1 o1.length e2.2)]) (fun e2 => .res (OwnL ei64 3 e2.1 e2.2 o1) :: .ro (SlL ei64 A1 c1 order) :: R) ?_ ?_
    · refine St.block ?_
      refine St.loop hl1 (fun (s1 : Int × List Int) (e1 : Option Addr × Nat) => [(1, .slice A1 order.length c1), (5, .int .i64 (IntKind.wrap .i64 (1 + r2))), (6, .slice e1.1 s1.2.length e1.2), (7, .int .i64 s1.1)]) (fun s1 e1 => .res (OwnL ei64 3 e1.1 e1.2 s1.2) :: .ro (SlL ei64 A1 c1 order) :: R) (fun _ _ => True) ((some ⟨g1, 0, none⟩), (Int.toNat (IntKind.wrap .i64 (1 + r2)))) trivial ⟨rfl, rfl, rfl, rfl, trivial⟩ (fun _ w => ((.k (.k .z)) : Keep _ _).sat w) ?_
      rintro s1 ⟨A2, c2⟩ - hit1
      obtain ⟨st1, hm1, hd1⟩ := iter_e hit1
      have h1 := hm1
      refine St.seq ?_
      refine St.seq ?_
      refine St.region ?_
      iterate 3 refine St.p rfl rfl ?_
      refine St.done ?_
      refine St.thenN ?_
      refine St.prune (Γ' := [(1, _), (5, _), (6, _), (7, _), (29, _)]) ⟨rfl, rfl, rfl, rfl, rfl, trivial⟩ (.k (.k .z)) ?_
      refine St.cond _ rfl (fun hb2 => ?_) (fun hb2 => ?_)
      · replace h1 := bif_t hb2 h1
        refine St.skip ?_
        refine St.thenN ?_
        refine St.prune (Γ' := [(1, _), (5, _), (6, _), (7, _)]) ⟨rfl, rfl, rfl, rfl, trivial⟩ (.k (.k .z)) ?_
        refine St.seq ?_
        refine St.block ?_
        refine St.region ?_
        iterate 3 refine St.p rfl rfl ?_
        obtain ⟨x1, hx1, h1⟩ := bnd_e h1
        refine St.ixO hx1 rfl rfl rfl (.head _) rfl rfl rfl rfl rfl fun g2 hA => ?_
        subst hA
        obtain ⟨l2, hl2, h1⟩ := bnd_e h1
        refine St.stO 0 hx1 hl2 rfl rfl .z rfl rfl rfl rfl rfl ?_
        refine St.slots (Γ' := [(1, _), (5, _), (6, .slice (some ⟨g2, 0, none⟩) l2.length c2), (7, _), (32, .slice (some ⟨g2, 0, none⟩) l2.length c2), (33, _), (34, _), (35, _)]) ⟨rfl, rfl, sl_len hl2, rfl, sl_len hl2, rfl, rfl, rfl, trivial⟩ ?_
        refine St.done ?_
        refine St.blkN ?_
        refine St.thenN ?_
        refine St.prune (Γ' := [(1, _), (5, _), (6, _), (7, _)]) ⟨rfl, rfl, rfl, rfl, trivial⟩ (.k (.k .z)) ?_
        refine St.region ?_
        iterate 3 refine St.p rfl rfl ?_
        refine St.done ?_
        injection h1 with h1
        subst h1
        refine St.thenN ?_
        exact St.again _ ((some ⟨g2, 0, none⟩), c2) hm1 trivial ⟨rfl, rfl, rfl, rfl, trivial⟩ (fun _ w => ((.k (.k .z)) : Keep _ _).sat w)
      · replace h1 := bif_f hb2 h1
        refine St.exit ?_
        repeat (first | refine St.thenX ?_ | refine St.blkMiss rfl ?_)
        refine St.blkHit ?_
        injection h1 with h1
        subst h1
        have ho := hd1 _ rfl
        subst ho
        refine St.thenN ?_
        exact St.hereE (A2, c2) ⟨rfl, rfl, rfl, trivial⟩ (fun _ w => ((.k (.k .z)) : Keep _ _).sat w)
    · rintro ⟨A3, c3⟩
      refine St.seq ?_
      refine St.seq ?_
      refine St.region ?_
      refine St.p rfl rfl ?_
      refine St.done ?_
      refine St.thenN ?_
      obtain ⟨o2, hl2, h⟩ := bnd_e h
      refine St.cutE (fun (e4 : Option Addr × Nat) => [(5, .int .i64 (IntKind.wrap .i64 (1 + r2))), (6, .slice e4.1 o2.length e4.2)]) (fun e4 => .res (OwnL ei64 3 e4.1 e4.2 o2) :: R) ?_ ?_
      · refine St.block ?_
        refine St.loop hl2 (fun (s2 : Int × List Int) (e3 : Option Addr × Nat) => [(1, .slice A1 order.length c1), (5, .int .i64 (IntKind.wrap .i64 (1 + r2))), (6, .slice e3.1 s2.2.length e3.2), (8, .int .i64 s2.1)]) (fun s2 e3 => .res (OwnL ei64 3 e3.1 e3.2 s2.2) :: .ro (SlL ei64 A1 c1 order) :: R) (fun _ _ => True) (A3, c3) trivial ⟨rfl, rfl, rfl, rfl, trivial⟩ (fun _ w => ((.k (.k .z)) : Keep _ _).sat w) ?_
        rintro s2 ⟨A4, c4⟩ - hit2
        obtain ⟨st2, hm2, hd2⟩ := iter_e hit2
        have h2 := hm2
        refine St.seq ?_
        refine St.seq ?_
        refine St.region ?_
        iterate 5 refine St.p rfl rfl ?_
        refine St.done ?_
        refine St.thenN ?_
        refine St.prune (Γ' := [(1, _), (5, _), (6, _), (8, _), (40, _)]) ⟨rfl, rfl, rfl, rfl, rfl, trivial⟩ (.k (.k .z)) ?_
        refine St.cond _ rfl (fun hb3 => ?_) (fun hb3 => ?_)
        · replace h2 := bif_t hb3 h2
          refine St.skip ?_
          refine St.thenN ?_
          refine St.prune (Γ' := [(1, _), (5, _), (6, _), (8, _)]) ⟨rfl, rfl, rfl, rfl, trivial⟩ (.k (.k .z)) ?_
          refine St.seq ?_
          refine St.block ?_
          refine St.seq ?_
          refine St.regionF mixed (by kernel_rfl) ?_
          refine St.p rfl rfl ?_
          refine St.p rfl rfl ?_
          obtain ⟨x2, hx2, h2⟩ := bnd_e h2
          refine St.ixL hx2 rfl rfl rfl (.tail _ (.head _)) rfl rfl rfl rfl rfl fun b1 ob1 => ?_
          refine St.load ob1 0 rfl rfl (.head _) rfl rfl ?_
          refine St.p rfl rfl ?_
          obtain ⟨r3, hr3, h2⟩ := bnd_e h2
          refine St.callV (c_made_Mod hr3) ent20 rfl rfl rfl rfl trivial ?_
          iterate 3 refine St.p rfl rfl ?_
          obtain ⟨x3, hx3, h2⟩ := bnd_e h2
          refine St.ixL hx3 rfl rfl rfl (.tail _ (.tail _ (.head _))) rfl rfl rfl rfl rfl fun b2 ob2 => ?_
          refine St.load ob2 0 rfl rfl (.head _) rfl rfl ?_
          refine St.p rfl rfl ?_
          obtain ⟨r4, hr4, h2⟩ := bnd_e h2
          refine St.callV (c_made_Mod hr4) ent20 rfl rfl rfl rfl trivial ?_
          refine St.p rfl rfl ?_
          refine St.p rfl rfl ?_
          refine St.doneQ ?_
          refine St.thenN ?_
          refine St.prune (Γ' := [(1, _), (5, _), (6, _), (8, _), (9, _), (10, _)]) ⟨rfl, rfl, rfl, rfl, rfl, rfl, trivial⟩ (.d (.d (.k (.k .z)))) ?_
          refine St.regionX [(.fl, 0), (.fl, 1), (.fl, 2), (.fl, 3), (.fl, 4), (.fl, 5), (.fx, 6), (.fx, 7), (.fl, 8), (.fl, 9), (.fx, 10), (.fx, 11), (.fx, 12), (.ef, 13), (.fx, 14), (.ef, 15)] (.ro (SlL ei64 A1 c1 order) :: R) mixed (by kernel_rfl) (by kernel_rfl) (fun _ w => ((.d (.k .z)) : Keep _ _).sat w) ?_
          refine St.xfl (fun _ h => h) (Rd.p rfl) rfl ?_
          refine St.xfl (fun _ h => h) (Rd.p rfl) rfl ?_
          refine St.xfl (fun _ h => h) (Rd.p rfl) rfl ?_
          refine St.xfl (fun _ h => h) (Rd.p rfl) rfl ?_
          refine St.xfl (fun _ h => h) (Rd.p rfl) rfl ?_
          refine St.xfl (fun _ h => h) (Rd.p rfl) rfl ?_
          obtain ⟨x4, hx4, h2⟩ := bnd_e h2
          refine St.openO (.head _) hx4 fun g3 hA => ?_
          subst hA
          refine St.xfx (Rd.ixO (E := ei64) hx4 rfl rfl rfl rfl rfl rfl rfl) rfl ?_
          refine St.xfx (Rd.ldO 0 hx4 rfl (.head _) rfl rfl) rfl ?_
          refine St.xfl (fun _ h => h) (Rd.p rfl) rfl ?_
          refine St.xfl (fun _ h => h) (Rd.p rfl) rfl ?_
          obtain ⟨x5, hx5, h2⟩ := bnd_e h2
          refine St.xfx (Rd.ixO (E := ei64) hx5 rfl rfl rfl rfl rfl rfl rfl) rfl ?_
          refine St.xfx (Rd.ldO 0 hx5 rfl (.head _) rfl rfl) rfl ?_
          obtain ⟨x6, hx6, h2⟩ := bnd_e h2
          refine St.xfx (Rd.ixO (E := ei64) hx6 rfl rfl rfl rfl rfl rfl rfl) rfl ?_
          refine St.xef ?_
          obtain ⟨l3, hl3, h2⟩ := bnd_e h2
          refine St.stO 0 hx6 hl3 rfl rfl .z rfl rfl rfl rfl rfl ?_
          refine St.slots (Γ' := [(1, _), (5, _), (6, .slice (some ⟨g3, 0, none⟩) l3.length c4), (8, _), (9, _), (10, _), (56, .slice (some ⟨g3, 0, none⟩) l3.length c4), (57, _), (58, .slice (some ⟨g3, 0, none⟩) l3.length c4), (59, _), (60, .slice (some ⟨g3, 0, none⟩) l3.length c4), (61, _), (62, _), (63, _), (64, .slice (some ⟨g3, 0, none⟩) l3.length c4), (65, _), (66, _), (67, _), (68, _)]) ⟨rfl, rfl, sl_len hl3, rfl, rfl, rfl, sl_len hl3, rfl, sl_len hl3, rfl, sl_len hl3, rfl, rfl, rfl, sl_len hl3, rfl, rfl, rfl, rfl, trivial⟩ ?_
          refine St.xk (fun _ w => ((.d (.k .z)) : Keep _ _).sat w) ?_
          obtain ⟨x7, hx7, h2⟩ := bnd_e h2
          refine St.xfx (Rd.ixO (E := ei64) hx7 rfl rfl rfl rfl rfl rfl rfl) rfl ?_
          refine St.xef ?_
          obtain ⟨l4, hl4, h2⟩ := bnd_e h2
          refine St.stO 0 hx7 hl4 rfl rfl .z rfl rfl rfl rfl rfl ?_
          refine St.slots (Γ' := [(1, _), (5, _), (6, .slice (some ⟨g3, 0, none⟩) l4.length c4), (8, _), (9, _), (10, _), (56, .slice (some ⟨g3, 0, none⟩) l4.length c4), (57, _), (58, .slice (some ⟨g3, 0, none⟩) l4.length c4), (59, _), (60, .slice (some ⟨g3, 0, none⟩) l4.length c4), (61, _), (62, _), (63, _), (64, .slice (some ⟨g3, 0, none⟩) l4.length c4), (65, _), (66, _), (67, _), (68, _), (69, _)]) ⟨rfl, rfl, sl_len hl4, rfl, rfl, rfl, sl_len hl4, rfl, sl_len hl4, rfl, sl_len hl4, rfl, rfl, rfl, sl_len hl4, rfl, rfl, rfl, rfl, rfl, trivial⟩ ?_
          refine St.xk (fun _ w => ((.d (.k .z)) : Keep _ _).sat w) ?_
          refine St.xdone ?_
          refine St.blkN ?_
          refine St.thenN ?_
          refine St.prune (Γ' := [(1, _), (5, _), (6, _), (8, _)]) ⟨rfl, rfl, rfl, rfl, trivial⟩ (.k (.k .z)) ?_
          refine St.region ?_
          iterate 3 refine St.p rfl rfl ?_
          refine St.done ?_
          injection h2 with h2
          subst h2
          refine St.thenN ?_
          exact St.again _ ((some ⟨g3, 0, none⟩), c4) hm2 trivial ⟨rfl, rfl, rfl, rfl, trivial⟩ (fun _ w => ((.k (.k .z)) : Keep _ _).sat w)
        · replace h2 := bif_f hb3 h2
          refine St.exit ?_
          repeat (first | refine St.thenX ?_ | refine St.blkMiss rfl ?_)
          refine St.blkHit ?_
          injection h2 with h2
          subst h2
          have ho := hd2 _ rfl
          subst ho
          refine St.thenN ?_
          exact St.hereE (A4, c4) ⟨rfl, rfl, trivial⟩ (fun _ w => ((.k (.d .z)) : Keep _ _).sat w)
      · rintro ⟨A5, c5⟩
        refine St.seq ?_
        refine St.region ?_
        refine St.p rfl rfl ?_
        refine St.p rfl rfl ?_
        refine St.done ?_
        refine St.thenN ?_
        refine St.seq ?_
        refine St.region ?_
        refine St.p rfl rfl ?_
        refine St.done ?_
        refine St.thenN ?_
        refine St.seq ?_
        refine St.seq ?_
        refine St.region ?_
        refine St.p rfl rfl ?_
        refine St.done ?_
        refine St.thenN ?_
        refine St.asrt (fun _ w => w.nilL e_Known 45) ?_
        refine St.asrt (fun _ w => w.nilL e_Known 45) ?_
        refine St.asrt (fun _ w => w.nilL e_Difference 40) ?_
        obtain ⟨o3, hl3, h⟩ := bnd_e h
        refine St.cutE (fun (e6 : Option Addr × Nat × Option Addr × Nat × Option Addr × Nat) => [(11, .slice e6.1 o3.1.length e6.2.1), (12, .slice e6.2.2.1 o3.2.1.length e6.2.2.2.1), (13, .slice e6.2.2.2.2.1 o3.2.2.length e6.2.2.2.2.2)]) (fun e6 => .res (OwnL e_Difference 40 e6.2.2.2.2.1 e6.2.2.2.2.2 o3.2.2) :: .res (OwnL e_Known 45 e6.2.2.1 e6.2.2.2.1 o3.2.1) :: .res (OwnL e_Known 45 e6.1 e6.2.1 o3.1) :: R) ?_ ?_
        · refine St.block ?_
          refine St.loop hl3 (fun (s3 : List T_Known × List T_Known × List T_Difference × Int) (e5 : Option Addr × Nat × Option Addr × Nat × Option Addr × Nat) => [(5, .int .i64 (IntKind.wrap .i64 (1 + r2))), (6, .slice A5 o2.length c5), (11, .slice e5.1 s3.1.length e5.2.1), (12, .slice e5.2.2.1 s3.2.1.length e5.2.2.2.1), (13, .slice e5.2.2.2.2.1 s3.2.2.1.length e5.2.2.2.2.2), (14, .int .i64 s3.2.2.2)]) (fun s3 e5 => .res (OwnL e_Difference 40 e5.2.2.2.2.1 e5.2.2.2.2.2 s3.2.2.1) :: .res (OwnL e_Known 45 e5.2.2.1 e5.2.2.2.1 s3.2.1) :: .res (OwnL e_Known 45 e5.1 e5.2.1 s3.1) :: .res (OwnL ei64 3 A5 c5 o2) :: R) (fun _ _ => True) (none, 0, none, 0, none, 0) trivial ⟨rfl, rfl, rfl, rfl, rfl, rfl, trivial⟩ (fun _ w => ((.k (.k (.k (.k .z)))) : Keep _ _).sat w) ?_
          rintro s3 ⟨A6, c6, A7, c7, A8, c8⟩ - hit3
          obtain ⟨st3, hm3, hd3⟩ := iter_e hit3
          have h3 := hm3
          refine St.seq ?_
          refine St.seq ?_
          refine St.region ?_
          iterate 3 refine St.p rfl rfl ?_
          refine St.done ?_
          refine St.thenN ?_
          refine St.prune (Γ' := [(5, _), (6, _), (11, _), (12, _), (13, _), (14, _), (72, _)]) ⟨rfl, rfl, rfl, rfl, rfl, rfl, rfl, trivial⟩ (.k (.k (.k (.k .z)))) ?_
          refine St.cond _ rfl (fun hb4 => ?_) (fun hb4 => ?_)
          · replace h3 := bif_t hb4 h3
            refine St.skip ?_
            refine St.thenN ?_
            refine St.prune (Γ' := [(5, _), (6, _), (11, _), (12, _), (13, _), (14, _)]) ⟨rfl, rfl, rfl, rfl, rfl, rfl, trivial⟩ (.k (.k (.k (.k .z)))) ?_
            refine St.seq ?_
            refine St.block ?_
            refine St.seq ?_
            refine St.region ?_
            iterate 5 refine St.p rfl rfl ?_
            obtain ⟨t1, ht1, h3⟩ := bnd_e h3
            refine St.subS rfl rfl rfl rfl rfl rfl ht1 ?_
            obtain ⟨t2, ht2, h3⟩ := bnd_e h3
            refine St.catS rfl rfl rfl ht2 ?_
            obtain ⟨r5, hr5, h3⟩ := bnd_e h3
            refine St.callV (c_law19_known hr5) ent21 rfl rfl rfl rfl trivial ?_
            refine St.buildSlice rfl rfl rfl rfl rfl rfl rfl rfl fun g7 => ?_
            obtain ⟨l5, hl5, h3⟩ := bnd_e h3
            refine St.app (E := e_Known) hl5 rfl rfl rfl (.s (.s (.s .z))) rfl rfl rfl rfl rfl rfl rfl rfl (srcB (.head _) rfl rfl) fun A12 c12 => ?_
            refine St.p rfl rfl ?_
            refine St.done ?_
            refine St.thenN ?_
            refine St.prune (Γ' := [(5, _), (6, _), (11, _), (12, _), (13, _), (14, _)]) ⟨rfl, rfl, rfl, rfl, rfl, rfl, trivial⟩ (.k (.d (.k (.k (.k .z))))) ?_
            refine St.seq ?_
            refine St.region ?_
            refine St.p rfl rfl ?_
            refine St.p rfl rfl ?_
            obtain ⟨x8, hx8, h3⟩ := bnd_e h3
            refine St.ixO hx8 rfl rfl rfl (.tail _ (.tail _ (.tail _ (.head _)))) rfl rfl rfl rfl rfl fun g8 hA => ?_
            subst hA
            refine St.ldO 0 hx8 rfl rfl (.tail _ (.tail _ (.tail _ (.head _)))) rfl rfl ?_
            refine St.p rfl rfl ?_
            refine St.done ?_
            refine St.thenN ?_
            refine St.prune (Γ' := [(5, _), (6, _), (11, _), (12, _), (13, _), (14, _), (15, _)]) ⟨rfl, rfl, rfl, rfl, rfl, rfl, rfl, trivial⟩ (.k (.k (.k (.k .z)))) ?_
            refine St.seq ?_
            refine St.region ?_
            iterate 5 refine St.p rfl rfl ?_
            obtain ⟨t3, ht3, h3⟩ := bnd_e h3
            refine St.subS rfl rfl rfl rfl rfl rfl ht3 ?_
            obtain ⟨t4, ht4, h3⟩ := bnd_e h3
            refine St.catS rfl rfl rfl ht4 ?_
            obtain ⟨r6, hr6, h3⟩ := bnd_e h3
            refine St.callV (c_law19_known hr6) ent21 rfl rfl rfl rfl trivial ?_
            refine St.buildSlice rfl rfl rfl rfl rfl rfl rfl rfl fun g9 => ?_
            obtain ⟨l6, hl6, h3⟩ := bnd_e h3
            refine St.app (E := e_Known) hl6 rfl rfl rfl (.s (.s (.s .z))) rfl rfl rfl rfl rfl rfl rfl rfl (srcB (.head _) rfl rfl) fun A13 c13 => ?_
            refine St.p rfl rfl ?_
            refine St.done ?_
            refine St.thenN ?_
            refine St.prune (Γ' := [(5, _), (6, _), (11, _), (12, _), (13, _), (14, _), (15, _)]) ⟨rfl, rfl, rfl, rfl, rfl, rfl, rfl, trivial⟩ (.k (.d (.k (.k (.k .z))))) ?_
            refine St.seq ?_
            refine St.region ?_
            iterate 3 refine St.p rfl rfl ?_
            refine St.done ?_
            refine St.thenN ?_
            refine St.prune (Γ' := [(5, _), (6, _), (11, _), (12, _), (13, _), (14, _), (15, _), (101, _)]) ⟨rfl, rfl, rfl, rfl, rfl, rfl, rfl, rfl, trivial⟩ (.k (.k (.k (.k .z)))) ?_
            refine St.cond _ rfl (fun hb5 => ?_) (fun hb5 => ?_)
            · replace h3 := bif_t hb5 h3
              refine St.region ?_
              iterate 4 refine St.p rfl rfl ?_
              refine St.buildSlice rfl rfl rfl rfl rfl rfl rfl rfl fun g10 => ?_
              obtain ⟨l7, hl7, h3⟩ := bnd_e h3
              refine St.app (E := e_Difference) hl7 rfl rfl rfl (.s (.s (.s .z))) rfl rfl rfl rfl rfl rfl rfl rfl (srcB (.head _) rfl rfl) fun A14 c14 => ?_
              refine St.p rfl rfl ?_
              refine St.done ?_
              refine St.blkN ?_
              refine St.thenN ?_
              refine St.prune (Γ' := [(5, _), (6, _), (11, _), (12, _), (13, _), (14, _)]) ⟨rfl, rfl, rfl, rfl, rfl, rfl, trivial⟩ (.k (.d (.k (.k (.k .z))))) ?_
              refine St.region ?_
              iterate 3 refine St.p rfl rfl ?_
              refine St.done ?_
              injection h3 with h3
              subst h3
              refine St.thenN ?_
              exact St.again _ (A12, c12, A13, c13, A14, c14) hm3 trivial ⟨rfl, rfl, rfl, rfl, rfl, rfl, trivial⟩ (fun _ w => ((.k (.k (.k (.k .z)))) : Keep _ _).sat w)
            · replace h3 := bif_f hb5 h3
              refine St.skip ?_
              refine St.blkN ?_
              refine St.thenN ?_
              refine St.prune (Γ' := [(5, _), (6, _), (11, _), (12, _), (13, _), (14, _)]) ⟨rfl, rfl, rfl, rfl, rfl, rfl, trivial⟩ (.k (.k (.k (.k .z)))) ?_
              refine St.region ?_
              iterate 3 refine St.p rfl rfl ?_
              refine St.done ?_
              injection h3 with h3
              subst h3
              refine St.thenN ?_
              exact St.again _ (A12, c12, A13, c13, A8, c8) hm3 trivial ⟨rfl, rfl, rfl, rfl, rfl, rfl, trivial⟩ (fun _ w => ((.k (.k (.k (.k .z)))) : Keep _ _).sat ((((w.front (.s (.s (.s .z)))).front (.s (.s .z))).front (.s (.s .z))).front (.s (.s (.s .z)))))
          · replace h3 := bif_f hb4 h3
            refine St.exit ?_
            repeat (first | refine St.thenX ?_ | refine St.blkMiss rfl ?_)
            refine St.blkHit ?_
            injection h3 with h3
            subst h3
            have ho := hd3 _ rfl
            subst ho
            refine St.thenN ?_
            exact St.hereE (A6, c6, A7, c7, A8, c8) ⟨rfl, rfl, rfl, trivial⟩ (fun _ w => ((.k (.k (.k (.d .z)))) : Keep _ _).sat w)
        · rintro ⟨A9, c9, A10, c10, A11, c11⟩
          refine St.seq ?_
          refine St.region ?_
          refine St.p rfl rfl ?_
          refine St.p rfl rfl ?_
          refine St.asrt (fun _ w => (w.front (.s (.s .z))).meltL) ?_
          refine St.asrt (fun _ w => (w.front (.s (.s .z))).meltL) ?_
          obtain ⟨r7, hr7, h⟩ := bnd_e h
          refine St.call (c_inventory_Compare hr7) ent14 rfl rfl rfl (fun _ w => Sat.dup (G := [.ro (SlL e_Known A9 c9 o3.1), .ro (SlL e_Known A10 c10 o3.2.1)]) rfl ⟨(.tail _ (.head _)), (.head _), trivial⟩ w) ?_
          rintro _ _ ⟨A15, c15, rfl, rfl⟩
          refine St.asrt (F' := .res (OwnL e_Difference 40 A15 c15 r7.1) :: .ro (SlL e_Known A10 c10 o3.2.1) :: .ro (SlL e_Known A9 c9 o3.1) :: .res (OwnL e_Difference 40 A11 c11 o3.2.2) :: R) (fun _ w => w) ?_
          iterate 5 refine St.p rfl rfl ?_
          refine St.done ?_
          refine St.thenN ?_
          refine St.prune (Γ' := [(13, _), (16, _), (17, _)]) ⟨rfl, rfl, rfl, trivial⟩ (.k (.d (.d (.k .z)))) ?_
          refine St.seq ?_
          obtain ⟨o4, hj1, h⟩ := bnd_e h
          refine St.cutE (fun (e7 : Unit) => [(4, .bool o4)]) (fun e7 => R) ?_ ?_
          · refine St.region ?_
            iterate 3 refine St.p rfl rfl ?_
            refine St.gSplit (dj := 116) _ rfl (fun hb6 => ?_) (fun hb6 => ?_)
            · replace hj1 := bif_t hb6 hj1
              refine St.gOn (dj := 116) rfl rfl ?_
              refine St.p rfl rfl ?_
              refine St.gOn (dj := 116) rfl rfl ?_
              refine St.p rfl rfl ?_
              refine St.gOn (dj := 116) rfl rfl ?_
              refine St.asrt (fun _ w => (w.front .z).meltL) ?_
              refine St.asrt (fun _ w => (w.front (.s .z)).meltL) ?_
              obtain ⟨r8, hr8, hj1⟩ := bnd_e hj1
              refine St.callV (c_ref19_SameDifferences hr8) ent16 rfl rfl rfl rfl ⟨(.tail _ (.head _)), (.head _), trivial⟩ ?_
              refine St.p rfl rfl ?_
              refine St.p rfl rfl ?_
              refine St.gSplit (dj := 121) _ rfl (fun hb7 => ?_) (fun hb7 => ?_)
              · replace hj1 := bif_t hb7 hj1
                refine St.gOn (dj := 121) rfl rfl ?_
                obtain ⟨r9, hr9, hj1⟩ := bnd_e hj1
                refine St.callV (c_law19_awake hr9) ent11 rfl rfl rfl rfl trivial ?_
                refine St.p rfl rfl ?_
                refine St.p rfl rfl ?_
                refine St.done ?_
                injection hj1 with hj1
                subst hj1
                refine St.thenN ?_
                exact St.hereE () ⟨rfl, trivial⟩ (fun _ w => ((.d (.d .z)) : Keep _ _).sat w)
              · replace hj1 := bif_f hb7 hj1
                refine St.gOff (dj := 121) rfl rfl rfl rfl ?_
                refine St.p rfl rfl ?_
                refine St.p rfl rfl ?_
                refine St.done ?_
                injection hj1 with hj1
                subst hj1
                refine St.thenN ?_
                exact St.hereE () ⟨rfl, trivial⟩ (fun _ w => ((.d (.d .z)) : Keep _ _).sat w)
            · replace hj1 := bif_f hb6 hj1
              refine St.gOff (dj := 116) rfl rfl rfl rfl ?_
              refine St.gOff (dj := 116) rfl rfl rfl rfl ?_
              refine St.gOff (dj := 116) rfl rfl rfl rfl ?_
              refine St.p rfl rfl ?_
              refine St.p rfl rfl ?_
              refine St.gOff (dj := 121) rfl rfl rfl rfl ?_
              refine St.p rfl rfl ?_
              refine St.p rfl rfl ?_
              refine St.done ?_
              injection hj1 with hj1
              subst hj1
              refine St.thenN ?_
              exact St.hereE () ⟨rfl, trivial⟩ (fun _ w => ((.d (.d .z)) : Keep _ _).sat w)
          · rintro e7
            refine St.ret ?_
            repeat (first | refine St.thenR ?_ | refine St.blkR ?_)
            injection h with h
            subst h
            exact St.finR Try.results5 (.tmp rfl .nil) rfl [] ⟨rfl, rfl⟩ (fun _ w => (.z : Keep _ _).sat w)

theorem ent7 : Ent Try.prog 7 := ⟨_, Try.func7, by kernel_rfl, by kernel_rfl⟩

noncomputable def m_law19_InventoryEvents (l_p0 : (List T_Difference)) (n_p1 : (List Int)) : Option Bool :=
  bnd ((bif decide ((l_p0.length : Int) > 60) then (some true) else (bnd (m_made_Light n_p1) fun r1 => some (!r1)) : Option Bool)) fun o1 => bif o1 then (bnd (m_law19_awake) fun r2 => some r2) else (bnd (m_made_Roll n_p1) fun r3 => bnd (m_made_Dice_Next r3 12) fun r4 => bnd (loopM (τ := List T_Difference × List Int × Int) (fun (s1 : List T_Difference × Int × List Int × Int) => bif decide (s1.2.1 > 0) then (bnd (m_made_Dice_Next (⟨s1.2.2.1, s1.2.2.2⟩ : T_Dice) 5) fun r5 => bnd (m_made_Dice_Next r5.1 16) fun r6 => bnd (m_made_Dice_Next r6.1 9) fun r7 => bnd ((bnd (m_made_Dice_Bool r7.1 40) fun r8 => bif r8.2 then (bnd (m_made_Dice_Next r8.1 8) fun r9 => some (IntKind.wrap .i64 (r9.2 - 1), r9.1.L, r9.1.At)) else (some (IntKind.wrap .i64 (1 + r5.2), r8.1.L, r8.1.At)) : Option (Int × List Int × Int))) fun o3 => bnd (m_made_Dice_Bool (⟨o3.2.1, o3.2.2⟩ : T_Dice) 40) fun r10 => bif r10.2 then (bnd (m_made_Dice_Next r10.1 19) fun r11 => bnd (app 24 s1.1 ([(⟨o3.1, IntKind.wrap .i64 (r11.2 - 2), r7.2⟩ : T_Difference)])) fun l1 => some (.next (l1, IntKind.wrap .i64 (s1.2.1 - 1), r11.1.L, r11.1.At))) else (bnd (app 24 s1.1 ([(⟨o3.1, r6.2, r7.2⟩ : T_Difference)])) fun l2 => some (.next (l2, IntKind.wrap .i64 (s1.2.1 - 1), r10.1.L, r10.1.At)))) else (some (.done (s1.1, s1.2.2.1, s1.2.2.2)))) ([], r4.2, r4.1.L, r4.1.At)) fun o2 => bnd (m_inventory_Events l_p0) fun r12 => bnd (m_ref19_Events l_p0) fun r13 => bnd ((bif (r12.2 != r13.2) then (some true) else (bnd (m_ref07_SameList r12.1 r13.1) fun r14 => some (!r14)) : Option Bool)) fun o4 => bif o4 then (some false) else (bnd (m_inventory_Events o2.1) fun r15 => bnd (m_ref19_Events o2.1) fun r16 => bnd ((bif (r15.2 != r16.2) then (some true) else (bnd (m_ref07_SameList r15.1 r16.1) fun r17 => some (!r17)) : Option Bool)) fun o5 => bif o5 then (some false) else (bnd (m_law19_awake) fun r18 => some r18)))

end Go.Proofs.Ytnolaefjmjgfbaa
