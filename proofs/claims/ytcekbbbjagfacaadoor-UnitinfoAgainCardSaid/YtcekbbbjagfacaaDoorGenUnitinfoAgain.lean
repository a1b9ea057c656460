/-
  Models of functions of the program, and that the functions compute them.
  Conditions: none.
-/
import Derived.Test.YtcekbbbjagfacaaDoorGen
namespace Go.Proofs.YtcekbbbjagfacaaDoor
open Go
set_option linter.unusedVariables false
set_option maxRecDepth 4000

theorem ent7 : Ent Tryd.prog 7 := ⟨_, Tryd.func7, by kernel_rfl, by kernel_rfl⟩

noncomputable def m_law17_UnitinfoAgain (b_p0 : (List Int)) (l_p1 : (List Int)) : Option Bool :=
  bnd ((bif decide ((b_p0.length : Int) > 2100) then (some true) else (bnd (m_made_Light l_p1) fun r1 => some (!r1)) : Option Bool)) fun o1 => bif o1 then (bnd (m_law17_awake) fun r2 => some r2) else (bnd (m_made_Roll l_p1) fun r3 => bnd (m_made_Dice_Info r3) fun r4 => bnd (m_ref17_Encode r4.2) fun r5 => bnd (sub r5.1 0 8) fun l1 => bnd (sub r5.1 8 (r5.1.length : Int)) fun l2 => bnd (app 1 ([]) l1) fun l3 => bnd (appZ 1 l3 8 0) fun l4 => bnd (app 1 l4 l2) fun l5 => bnd (loopM (τ := List Int) (fun (s1 : Int × List Int) => bif decide (s1.1 < 6) then (bnd (elt s1.2 s1.1) fun x1 => bif (x1 != 0) then (bnd (setE s1.2 s1.1 (IntKind.wrap .u8 (x1 + 1))) fun l6 => some (.next (IntKind.wrap .i64 (s1.1 + 1), l6))) else (some (.next (IntKind.wrap .i64 (s1.1 + 1), s1.2)))) else (some (.done s1.2))) (2, l5)) fun o2 => bnd (sub o2 0 7) fun l7 => bnd (m_ref01_Sum8 l7) fun r6 => bnd (elt o2 7) fun x2 => bnd (setE o2 7 r6) fun l8 => bnd ((bnd (m_unitinfo_Decode b_p0) fun r7 => bif (r7.2 != 0) then (some (.inr ())) else (bnd (m_unitinfo_Encode r7.1) fun r8 => bnd (m_unitinfo_Decode r8.1) fun r9 => bnd ((bnd (m_unitinfo_Valid r7.1) fun r10 => bif !r10 then (some true) else (bif (r8.2 != 0) then (some true) else (bif (r9.2 != 0) then (some true) else (bnd (m_ref17_Same r7.1 r9.1) fun r11 => some (!r11)))) : Option Bool)) fun o5 => bif o5 then (some (.inl false)) else (some (.inr ()))) : Option (Bool ⊕ Unit))) fun o3 => retOr o3 fun o4 => bnd ((bnd (m_unitinfo_Decode r5.1) fun r12 => bif (r12.2 != 0) then (some (.inr ())) else (bnd (m_unitinfo_Encode r12.1) fun r13 => bnd (m_unitinfo_Decode r13.1) fun r14 => bnd ((bnd (m_unitinfo_Valid r12.1) fun r15 => bif !r15 then (some true) else (bif (r13.2 != 0) then (some true) else (bif (r14.2 != 0) then (some true) else (bnd (m_ref17_Same r12.1 r14.1) fun r16 => some (!r16)))) : Option Bool)) fun o8 => bif o8 then (some (.inl false)) else (some (.inr ()))) : Option (Bool ⊕ Unit))) fun o6 => retOr o6 fun o7 => bnd ((bnd (m_unitinfo_Decode l8) fun r17 => bif (r17.2 != 0) then (some (.inr (l8, l8))) else (bnd (m_unitinfo_Encode r17.1) fun r18 => bnd (m_unitinfo_Decode r18.1) fun r19 => bnd ((bnd (m_unitinfo_Valid r17.1) fun r20 => bif !r20 then (some true) else (bif (r18.2 != 0) then (some true) else (bif (r19.2 != 0) then (some true) else (bnd (m_ref17_Same r17.1 r19.1) fun r21 => some (!r21)))) : Option Bool)) fun o11 => bif o11 then (some (.inl false)) else (some (.inr (l8, l8)))) : Option (Bool ⊕ (List Int × List Int)))) fun o9 => retOr o9 fun o10 => bnd (m_unitinfo_Decode r5.1) fun r22 => bnd (m_unitinfo_Decode o10.1) fun r23 => bnd ((bif (r22.2 == 0) then (bif decide ((o10.1.length : Int) > 2048) then (bnd (m_law17_awake) fun r24 => some r24) else (bif (r23.2 == 0) then (bnd (m_ref17_Same r22.1 r23.1) fun r25 => bif r25 then (bnd (m_law17_awake) fun r26 => some r26) else (some false)) else (some false))) else (some false) : Option Bool)) fun o12 => some o12)

set_option maxHeartbeats 4000000 in
theorem c_law17_UnitinfoAgain {b_p0 : (List Int)} {l_p1 : (List Int)} {A1 : Option Addr} {c1 : Nat} {A2 : Option Addr} {c2 : Nat} {r : Bool} (h : m_law17_UnitinfoAgain b_p0 l_p1 = some r) :
    Fun Tryd.prog 7 [.slice A1 b_p0.length c1, .slice A2 l_p1.length c2] [.ro (SlL eu8 A1 c1 b_p0), .ro (SlL ei64 A2 c2 l_p1), .ro (SlL ei64 (some ⟨0, 0, none⟩) 3 ([2, 5, 7] : List Int))] (Val (.bool r)) := by
  unfold m_law17_UnitinfoAgain at h
  refine Fun.intro Tryd.func7 rfl rfl rfl fun w R => ?_
  refine St.seq ?_
  refine St.region ?_
  refine St.p rfl rfl ?_
  refine St.done ?_
  refine St.thenN ?_
  refine St.prune (Γ' := [(0, _), (1, _)]) ⟨rfl, rfl, trivial⟩ (.k (.k (.k .z))) ?_
  refine St.seq ?_
  refine St.seq ?_
  obtain ⟨o1, hj1, h⟩ := bnd_e h
  refine St.cutE (fun (e1 : Unit) => [(0, .slice A1 b_p0.length c1), (1, .slice A2 l_p1.length c2), (29, .bool o1)]) (fun e1 => .ro (SlL eu8 A1 c1 b_p0) :: .ro (SlL ei64 A2 c2 l_p1) :: .ro (SlL ei64 (some ⟨0, 0, none⟩) 3 ([2, 5, 7] : List Int)) :: R) ?_ ?_
  · refine St.region ?_
    iterate 4 refine St.p rfl rfl ?_
    refine St.gSplit (dj := 25) _ rfl (fun hb1 => ?_) (fun hb1 => ?_)
    · replace hj1 := bif_t hb1 hj1
      refine St.gOff (dj := 25) rfl rfl rfl rfl ?_
      refine St.gOff (dj := 25) rfl rfl rfl rfl ?_
      refine St.gOff (dj := 25) rfl rfl rfl rfl ?_
      refine St.p rfl rfl ?_
      refine St.done ?_
      injection hj1 with hj1
      subst hj1
      refine St.thenN ?_
      exact St.hereE () ⟨rfl, rfl, rfl, trivial⟩ (fun _ w => ((.k (.k (.k .z))) : Keep _ _).sat w)
    · replace hj1 := bif_f hb1 hj1
      refine St.gOn (dj := 25) rfl rfl ?_
      refine St.p rfl rfl ?_
      refine St.gOn (dj := 25) rfl rfl ?_
      obtain ⟨r1, hr1, hj1⟩ := bnd_e hj1
      refine St.callV (c_made_Light hr1) ent9 rfl rfl rfl rfl ⟨(.tail _ (.head _)), trivial⟩ ?_
      refine St.gOn (dj := 25) rfl rfl ?_
      refine St.p rfl rfl ?_
      refine St.p rfl rfl ?_
      refine St.done ?_
      injection hj1 with hj1
      subst hj1
      refine St.thenN ?_
      exact St.hereE () ⟨rfl, rfl, rfl, trivial⟩ (fun _ w => ((.k (.k (.k .z))) : Keep _ _).sat w)
  · rintro e1
    refine St.cond _ rfl (fun hb2 => ?_) (fun hb2 => ?_)
    · replace h := bif_t hb2 h
      refine St.seq ?_
      refine St.region ?_
      obtain ⟨r2, hr2, h⟩ := bnd_e h
      refine St.callV (c_law17_awake hr2) ent10 rfl rfl rfl rfl ⟨(.tail _ (.tail _ (.head _))), trivial⟩ ?_
      refine St.p rfl rfl ?_
      refine St.done ?_
      refine St.thenN ?_
      refine St.prune (Γ' := [(4, _)]) ⟨rfl, trivial⟩ (.d (.d (.k .z))) ?_
      refine St.ret ?_
      repeat (first | refine St.thenR ?_ | refine St.blkR ?_)
      injection h with h
      subst h
      exact St.finR Tryd.results7 (.tmp rfl .nil) rfl [] ⟨rfl, rfl⟩ (fun _ w => ((.d .z) : Keep _ _).sat w)
    · replace h := bif_f hb2 h
      refine St.skip ?_
      refine St.thenN ?_
      refine St.prune (Γ' := [(0, _), (1, _)]) ⟨rfl, rfl, trivial⟩ (.k (.k (.k .z))) ?_
      refine St.seq ?_
      refine St.region ?_
      refine St.p rfl rfl ?_
      obtain ⟨r3, hr3, h⟩ := bnd_e h
      refine St.call (c_made_Roll hr3) ent11 rfl rfl rfl (fun _ w => Sat.dup (G := [.ro (SlL ei64 A2 c2 l_p1)]) rfl ⟨(.tail _ (.head _)), trivial⟩ w) ?_
      rintro _ _ ⟨g1, A3, c3, rfl, rfl⟩
      refine St.asrt (F' := .ro (SlL ei64 A3 c3 r3.L) :: .res (Box g1 62 [.slice A3 r3.L.length c3, .int .i64 r3.At]) :: .ro (SlL eu8 A1 c1 b_p0) :: .ro (SlL ei64 A2 c2 l_p1) :: .ro (SlL ei64 (some ⟨0, 0, none⟩) 3 ([2, 5, 7] : List Int)) :: R) (fun _ w => w) ?_
      refine St.p rfl rfl ?_
      refine St.done ?_
      refine St.thenN ?_
      refine St.prune (Γ' := [(0, _), (5, _)]) ⟨rfl, rfl, trivial⟩ (.k (.k (.k (.d (.k .z))))) ?_
      refine St.seq ?_
      refine St.region ?_
      refine St.p rfl rfl ?_
      obtain ⟨r4, hr4, h⟩ := bnd_e h
      refine St.call (c_made_Dice_Info hr4) ent12 rfl rfl rfl (fun _ w => Sat.dup (G := [.ro (SlL ei64 A3 c3 r3.L)]) rfl ⟨(.tail _ (.head _)), trivial⟩ (w.front (.s .z))) ?_
      rintro _ _ ⟨A4, c4, A5, c5, A6, c6, A7, c7, A8, c8, rfl, rfl⟩
      refine St.asrt (F' := .ro (SlL ei64 A4 c4 r4.1.L) :: .ro (SlL e_Field A5 c5 r4.2.Chassis.Fields) :: .ro (SlL e_Field A6 c6 r4.2.Board.Fields) :: .ro (SlL e_Field A7 c7 r4.2.Product.Fields) :: .ro (SlL eu8 A8 c8 r4.2.Multi) :: .res (Box g1 62 [.slice A4 r4.1.L.length c4, .int .i64 r4.1.At]) :: .ro (SlL ei64 A3 c3 r3.L) :: .ro (SlL eu8 A1 c1 b_p0) :: .ro (SlL ei64 (some ⟨0, 0, none⟩) 3 ([2, 5, 7] : List Int)) :: R) (fun _ w => w) ?_
      obtain ⟨r5, hr5, h⟩ := bnd_e h
      refine St.call (c_ref17_Encode hr5) ent15 rfl rfl rfl (fun _ w => Sat.dup (G := [.ro (SlL e_Field A5 c5 r4.2.Chassis.Fields), .ro (SlL e_Field A6 c6 r4.2.Board.Fields), .ro (SlL e_Field A7 c7 r4.2.Product.Fields), .ro (SlL eu8 A8 c8 r4.2.Multi)]) rfl ⟨(.tail _ (.head _)), (.tail _ (.tail _ (.head _))), (.tail _ (.tail _ (.tail _ (.head _)))), (.tail _ (.tail _ (.tail _ (.tail _ (.head _))))), trivial⟩ w) ?_
      rintro _ _ ⟨A9, c9, rfl, rfl⟩
      refine St.asrt (F' := .res (OwnL eu8 5 A9 c9 r5.1) :: .ro (SlL ei64 A4 c4 r4.1.L) :: .ro (SlL e_Field A5 c5 r4.2.Chassis.Fields) :: .ro (SlL e_Field A6 c6 r4.2.Board.Fields) :: .ro (SlL e_Field A7 c7 r4.2.Product.Fields) :: .ro (SlL eu8 A8 c8 r4.2.Multi) :: .res (Box g1 62 [.slice A4 r4.1.L.length c4, .int .i64 r4.1.At]) :: .ro (SlL ei64 A3 c3 r3.L) :: .ro (SlL eu8 A1 c1 b_p0) :: .ro (SlL ei64 (some ⟨0, 0, none⟩) 3 ([2, 5, 7] : List Int)) :: R) (fun _ w => w) ?_
      iterate 5 refine St.p rfl rfl ?_
      refine St.done ?_
      refine St.thenN ?_
      refine St.prune (Γ' := [(0, _), (6, _)]) ⟨rfl, rfl, trivial⟩ (.k (.d (.d (.d (.d (.d (.d (.d (.k (.k .z)))))))))) ?_
      refine St.seq ?_
      refine St.asrt (fun _ w => (w.front .z).meltL) ?_
      refine St.regionX (iL [(.fl, 0), (.fx, 1), (.fl, 4), (.fl, 5), (.ef, 2), (.ef, 3), (.ef, 6), (.fl, 7)] .nil) (.ro (SlL eu8 A9 c9 r5.1) :: .ro (SlL eu8 A1 c1 b_p0) :: .ro (SlL ei64 (some ⟨0, 0, none⟩) 3 ([2, 5, 7] : List Int)) :: R) mixed (by kernel_rfl) (fun _ w => ((.k (.k (.k .z))) : Keep _ _).sat w) ?_
      refine St.xfl (fun _ h => h) (Rd.p rfl) rfl ?_
      obtain ⟨l1, hl1, h⟩ := bnd_e h
      refine St.openS (.head _) hl1 fun A10 c10 hS1 => ?_
      have hc1 := fun w h => Sat.addS hS1 (.head _) hl1 ((fun (w : World) (h : Sat (.ro (SlL eu8 A9 c9 r5.1) :: .ro (SlL eu8 A1 c1 b_p0) :: .ro (SlL ei64 (some ⟨0, 0, none⟩) 3 ([2, 5, 7] : List Int)) :: R) w) => h) w h)
      refine St.xfx (Rd.sub hS1 hl1 (.tail _ (.head _)) rfl rfl rfl rfl rfl rfl rfl rfl) rfl ?_
      refine St.xfl (fun _ h => h) (Rd.p rfl) rfl ?_
      obtain ⟨l2, hl2, h⟩ := bnd_e h
      refine St.openS (.tail _ (.head _)) hl2 fun A11 c11 hS2 => ?_
      have hc2 := fun w h => Sat.addS hS2 (.tail _ (.head _)) hl2 (hc1 w h)
      refine St.xfl hc2 (Rd.sub hS2 hl2 (.tail _ (.tail _ (.head _))) rfl rfl rfl rfl rfl rfl rfl rfl) rfl ?_
      refine St.xef ?_
      refine St.asrt (fun _ w => w.nilL eu8 5) ?_
      obtain ⟨l3, hl3, h⟩ := bnd_e h
      refine St.app (E := eu8) hl3 rfl rfl rfl .z rfl rfl rfl rfl rfl rfl rfl rfl (srcL (.tail _ (.tail _ (.head _)))) rfl rfl fun A12 c12 => ?_
      refine St.xk (fun _ w => ((.d (.d (.d (.k (.k (.k .z)))))) : Keep _ _).sat w) ?_
      refine St.xef ?_
      obtain ⟨l4, hl4, h⟩ := bnd_e h
      refine St.appZ (E := eu8) hl4 rfl rfl rfl .z rfl rfl rfl rfl rfl rfl rfl rfl rfl rfl fun A13 c13 => ?_
      refine St.xk (fun _ w => ((.d (.d (.d (.k (.k (.k .z)))))) : Keep _ _).sat w) ?_
      refine St.xef ?_
      obtain ⟨l5, hl5, h⟩ := bnd_e h
      refine St.app (E := eu8) hl5 rfl rfl rfl .z rfl rfl rfl rfl rfl rfl rfl rfl (srcL (.tail _ (.head _))) rfl rfl fun A14 c14 => ?_
      refine St.xk (fun _ w => ((.d (.d (.d (.k (.k (.k .z)))))) : Keep _ _).sat w) ?_
      refine St.xfl (fun _ h => h) (Rd.p rfl) rfl ?_
      refine St.xdone ?_
      refine St.thenN ?_
      refine St.prune (Γ' := [(0, _), (6, _), (8, _)]) ⟨rfl, rfl, rfl, trivial⟩ (.k (.d (.d (.k (.k (.k .z)))))) ?_
      refine St.seq ?_
      refine St.seq ?_
      refine St.region ?_
      refine St.p rfl rfl ?_
      refine St.done ?_
      refine St.thenN ?_
      obtain ⟨o2, hl1, h⟩ := bnd_e h
      refine St.cutE (fun (e3 : Option Addr × Nat) => [(0, .slice A1 b_p0.length c1), (6, .slice A9 r5.1.length c9), (8, .slice e3.1 o2.length e3.2)]) (fun e3 => .res (OwnL eu8 5 e3.1 e3.2 o2) :: .ro (SlL eu8 A9 c9 r5.1) :: .ro (SlL eu8 A1 c1 b_p0) :: .ro (SlL ei64 (some ⟨0, 0, none⟩) 3 ([2, 5, 7] : List Int)) :: R) ?_ ?_
      · refine St.block ?_
        refine St.loop hl1 (fun (s1 : Int × List Int) (e2 : Option Addr × Nat) => [(0, .slice A1 b_p0.length c1), (6, .slice A9 r5.1.length c9), (8, .slice e2.1 s1.2.length e2.2), (9, .int .i64 s1.1)]) (fun s1 e2 => .res (OwnL eu8 5 e2.1 e2.2 s1.2) :: .ro (SlL eu8 A9 c9 r5.1) :: .ro (SlL eu8 A1 c1 b_p0) :: .ro (SlL ei64 (some ⟨0, 0, none⟩) 3 ([2, 5, 7] : List Int)) :: R) (fun _ _ => True) (A14, c14) trivial ⟨rfl, rfl, rfl, rfl, trivial⟩ (fun _ w => ((.k (.k (.k (.k .z)))) : Keep _ _).sat w) ?_
        rintro s1 ⟨A15, c15⟩ - hit1
        obtain ⟨st1, hm1, hd1⟩ := iter_e hit1
        have h1 := hm1
        refine St.seq ?_
        refine St.seq ?_
        refine St.region ?_
        refine St.p rfl rfl ?_
        refine St.p rfl rfl ?_
        refine St.done ?_
        refine St.thenN ?_
        refine St.prune (Γ' := [(0, _), (6, _), (8, _), (9, _), (47, _)]) ⟨rfl, rfl, rfl, rfl, rfl, trivial⟩ (.k (.k (.k (.k .z)))) ?_
        refine St.cond _ rfl (fun hb3 => ?_) (fun hb3 => ?_)
        · replace h1 := bif_t hb3 h1
          refine St.skip ?_
          refine St.thenN ?_
          refine St.prune (Γ' := [(0, _), (6, _), (8, _), (9, _)]) ⟨rfl, rfl, rfl, rfl, trivial⟩ (.k (.k (.k (.k .z)))) ?_
          refine St.seq ?_
          refine St.block ?_
          refine St.seq ?_
          refine St.region ?_
          refine St.p rfl rfl ?_
          refine St.p rfl rfl ?_
          obtain ⟨x1, hx1, h1⟩ := bnd_e h1
          refine St.ixO hx1 rfl rfl rfl (.head _) rfl rfl rfl rfl rfl fun g2 hA => ?_
          subst hA
          refine St.ldO 0 hx1 rfl rfl (.head _) rfl rfl ?_
          refine St.p rfl rfl ?_
          refine St.done ?_
          refine St.thenN ?_
          refine St.prune (Γ' := [(0, _), (6, _), (8, _), (9, _), (54, _)]) ⟨rfl, rfl, rfl, rfl, rfl, trivial⟩ (.k (.k (.k (.k .z)))) ?_
          refine St.cond _ rfl (fun hb4 => ?_) (fun hb4 => ?_)
          · replace h1 := bif_t hb4 h1
            refine St.region ?_
            refine St.p rfl rfl ?_
            refine St.p rfl rfl ?_
            refine St.ixO hx1 rfl rfl rfl (.head _) rfl rfl rfl rfl rfl fun g3 hA => ?_
            cases hA
            refine St.ldO 0 hx1 rfl rfl (.head _) rfl rfl ?_
            refine St.p rfl rfl ?_
            refine St.ixO hx1 rfl rfl rfl (.head _) rfl rfl rfl rfl rfl fun g4 hA => ?_
            cases hA
            obtain ⟨l6, hl6, h1⟩ := bnd_e h1
            refine St.stO 0 hx1 hl6 rfl rfl .z rfl rfl rfl rfl rfl ?_
            refine St.slots (Γ' := [(0, _), (6, _), (8, .slice (some ⟨g2, 0, none⟩) l6.length c15), (9, _), (54, _), (55, .slice (some ⟨g2, 0, none⟩) l6.length c15), (56, _), (57, _), (58, _), (59, _), (60, _)]) ⟨rfl, rfl, sl_len hl6, rfl, rfl, sl_len hl6, rfl, rfl, rfl, rfl, rfl, trivial⟩ ?_
            refine St.done ?_
            refine St.blkN ?_
            refine St.thenN ?_
            refine St.prune (Γ' := [(0, _), (6, _), (8, _), (9, _)]) ⟨rfl, rfl, rfl, rfl, trivial⟩ (.k (.k (.k (.k .z)))) ?_
            refine St.region ?_
            iterate 3 refine St.p rfl rfl ?_
            refine St.done ?_
            injection h1 with h1
            subst h1
            refine St.thenN ?_
            exact St.again _ ((some ⟨g2, 0, none⟩), c15) hm1 trivial ⟨rfl, rfl, rfl, rfl, trivial⟩ (fun _ w => ((.k (.k (.k (.k .z)))) : Keep _ _).sat w)
          · replace h1 := bif_f hb4 h1
            refine St.skip ?_
            refine St.blkN ?_
            refine St.thenN ?_
            refine St.prune (Γ' := [(0, _), (6, _), (8, _), (9, _)]) ⟨rfl, rfl, rfl, rfl, trivial⟩ (.k (.k (.k (.k .z)))) ?_
            refine St.region ?_
            iterate 3 refine St.p rfl rfl ?_
            refine St.done ?_
            injection h1 with h1
            subst h1
            refine St.thenN ?_
            exact St.again _ ((some ⟨g2, 0, none⟩), c15) hm1 trivial ⟨rfl, rfl, rfl, rfl, trivial⟩ (fun _ w => ((.k (.k (.k (.k .z)))) : Keep _ _).sat w)
        · replace h1 := bif_f hb3 h1
          refine St.exit ?_
          repeat (first | refine St.thenX ?_ | refine St.blkMiss rfl ?_)
          refine St.blkHit ?_
          injection h1 with h1
          subst h1
          have ho := hd1 _ rfl
          subst ho
          refine St.thenN ?_
          exact St.hereE (A15, c15) ⟨rfl, rfl, rfl, trivial⟩ (fun _ w => ((.k (.k (.k (.k .z)))) : Keep _ _).sat w)
      · rintro ⟨A16, c16⟩
        refine St.seq ?_
        refine St.region ?_
        refine St.p rfl rfl ?_
        refine St.p rfl rfl ?_
        obtain ⟨l7, hl7, h⟩ := bnd_e h
        refine St.view (E := eu8) rfl rfl (.head _) rfl rfl rfl rfl rfl rfl rfl hl7 fun A17 c17 hv1 => ?_
        obtain ⟨r6, hr6, h⟩ := bnd_e h
        refine St.callL (c_ref01_Sum8 hr6) ent30 rfl rfl rfl rfl (Asks.view hv1 Asks.nil) (fun _ _ h => by rw [h.2]; exact True.intro) ?_
        rintro _ _ ⟨rfl, rfl⟩
        refine St.asrt (F' := .res (OwnL eu8 5 A16 c16 o2) :: .ro (SlL eu8 A9 c9 r5.1) :: .ro (SlL eu8 A1 c1 b_p0) :: .ro (SlL ei64 (some ⟨0, 0, none⟩) 3 ([2, 5, 7] : List Int)) :: R) (fun _ w => w) ?_
        obtain ⟨x2, hx2, h⟩ := bnd_e h
        refine St.ixO hx2 rfl rfl rfl (.head _) rfl rfl rfl rfl rfl fun g5 hA => ?_
        subst hA
        obtain ⟨l8, hl8, h⟩ := bnd_e h
        refine St.stO 0 hx2 hl8 rfl rfl .z rfl rfl rfl rfl rfl ?_
        refine St.slots (Γ' := [(0, _), (6, _), (8, .slice (some ⟨g5, 0, none⟩) l8.length c16), (61, .slice (some ⟨g5, 0, none⟩) l8.length c16), (62, .slice (some ⟨g5, 0, none⟩) l8.length c16), (63, _), (64, _), (65, _)]) ⟨rfl, rfl, sl_len hl8, sl_len hl8, sl_len hl8, rfl, rfl, rfl, trivial⟩ ?_
        refine St.done ?_
        refine St.thenN ?_
        refine St.prune (Γ' := [(0, _), (6, _), (8, _)]) ⟨rfl, rfl, rfl, trivial⟩ (.k (.k (.k (.k .z)))) ?_
        refine St.seq ?_
        refine St.seq ?_
        refine St.region ?_
        iterate 3 refine St.p rfl rfl ?_
        refine St.buildSlice rfl rfl rfl rfl rfl rfl rfl rfl fun g6 => ?_
        refine St.p rfl rfl ?_
        refine St.p rfl rfl ?_
        refine St.done ?_
        refine St.thenN ?_
        refine St.prune (Γ' := [(6, _), (8, _), (69, _), (70, _), (71, _)]) ⟨rfl, rfl, rfl, rfl, rfl, trivial⟩ (.k (.k (.k (.k (.k .z))))) ?_
        refine St.block ?_
        refine St.rounds 9 ?_
        refine St.round ?_
        refine St.seq ?_
        refine St.region ?_
        refine St.p rfl rfl ?_
        refine St.done ?_
        refine St.thenN ?_
        refine St.seq ?_
        refine St.condT rfl ?_
        refine St.skip ?_
        refine St.thenN ?_
        refine St.prune (Γ' := [(6, _), (8, _), (69, _), (70, _), (71, _)]) ⟨rfl, rfl, rfl, rfl, rfl, trivial⟩ (.k (.k (.k (.k (.k .z))))) ?_
        refine St.seq ?_
        obtain ⟨o3, hj2, h⟩ := bnd_e h
        refine St.cutI (fun (o4 : Unit) (e4 : Unit) => [(6, .slice A9 r5.1.length c9), (8, .slice (some ⟨g5, 0, none⟩) l8.length c16), (69, .slice (some ⟨g6, 0, none⟩) 3 3), (70, .int .i64 ((3 : Nat) : Int)), (71, .int .i64 0)]) (fun o4 e4 => .res (Box g6 26 [.slice A1 b_p0.length c1, .slice A9 r5.1.length c9, .slice (some ⟨g5, 0, none⟩) l8.length c16]) :: .res (OwnL eu8 5 (some ⟨g5, 0, none⟩) c16 l8) :: .ro (SlL eu8 A9 c9 r5.1) :: .ro (SlL eu8 A1 c1 b_p0) :: .ro (SlL ei64 (some ⟨0, 0, none⟩) 3 ([2, 5, 7] : List Int)) :: R) (fun o4 => o3 = .inr o4) ?_ ?_
        · refine St.block ?_
          refine St.seq ?_
          refine St.region ?_
          refine St.ixB 0 rfl rfl rfl rfl rfl rfl rfl rfl rfl rfl ?_
          refine St.loadB 0 rfl rfl (.head _) rfl rfl ?_
          refine St.p rfl rfl ?_
          refine St.done ?_
          refine St.thenN ?_
          refine St.prune (Γ' := [(6, _), (8, _), (11, _), (69, _), (70, _), (71, _)]) ⟨rfl, rfl, rfl, rfl, rfl, rfl, trivial⟩ (.k (.k (.k (.k (.k .z))))) ?_
          refine St.seq ?_
          refine St.region ?_
          refine St.p rfl rfl ?_
          obtain ⟨r7, hr7, hj2⟩ := bnd_e hj2
          refine St.call (c_unitinfo_Decode hr7) ent27 rfl rfl rfl (fun _ w => Sat.dup (G := [.ro (SlL eu8 A1 c1 b_p0), .ro (SlL ei64 (some ⟨0, 0, none⟩) 3 ([2, 5, 7] : List Int))]) rfl ⟨(.tail _ (.tail _ (.tail _ (.head _)))), (.tail _ (.tail _ (.tail _ (.tail _ (.head _))))), trivial⟩ w) ?_
          rintro _ _ ⟨A18, c18, A19, c19, A20, c20, A21, c21, rfl, rfl⟩
          refine St.asrt (F' := .ro (SlL e_Field A18 c18 r7.1.Chassis.Fields) :: .ro (SlL e_Field A19 c19 r7.1.Board.Fields) :: .ro (SlL e_Field A20 c20 r7.1.Product.Fields) :: .ro (SlL eu8 A21 c21 r7.1.Multi) :: .res (Box g6 26 [.slice A1 b_p0.length c1, .slice A9 r5.1.length c9, .slice (some ⟨g5, 0, none⟩) l8.length c16]) :: .res (OwnL eu8 5 (some ⟨g5, 0, none⟩) c16 l8) :: .ro (SlL eu8 A9 c9 r5.1) :: .ro (SlL eu8 A1 c1 b_p0) :: .ro (SlL ei64 (some ⟨0, 0, none⟩) 3 ([2, 5, 7] : List Int)) :: R) (fun _ w => w) ?_
          iterate 3 refine St.p rfl rfl ?_
          refine St.alloc rfl rfl fun g7 => ?_
          refine St.store 0 rfl rfl rfl rfl rfl rfl .z rfl ?_
          refine St.p rfl rfl ?_
          refine St.done ?_
          refine St.thenN ?_
          refine St.prune (Γ' := [(6, _), (8, _), (12, _), (13, _), (69, _), (70, _), (71, _)]) ⟨rfl, rfl, rfl, rfl, rfl, rfl, rfl, trivial⟩ (.k (.k (.k (.k (.k (.k (.k (.k (.k (.k .z)))))))))) ?_
          refine St.seq ?_
          refine St.seq ?_
          refine St.region ?_
          refine St.p rfl rfl ?_
          refine St.p rfl rfl ?_
          refine St.done ?_
          refine St.thenN ?_
          refine St.prune (Γ' := [(6, _), (8, _), (12, _), (69, _), (70, _), (71, _), (81, _)]) ⟨rfl, rfl, rfl, rfl, rfl, rfl, rfl, trivial⟩ (.k (.k (.k (.k (.k (.k (.k (.k (.k (.k .z)))))))))) ?_
          refine St.cond _ rfl (fun hb5 => ?_) (fun hb5 => ?_)
          · replace hj2 := bif_t hb5 hj2
            refine St.exit ?_
            repeat (first | refine St.thenX ?_ | refine St.blkMiss rfl ?_)
            refine St.blkHit ?_
            injection hj2 with hj2
            subst hj2
            refine St.thenN ?_
            exact St.hereI () () rfl ⟨rfl, rfl, rfl, rfl, rfl, trivial⟩ (fun _ w => ((.d (.d (.d (.d (.d (.k (.k (.k (.k (.k .z)))))))))) : Keep _ _).sat w)
          · replace hj2 := bif_f hb5 hj2
            refine St.skip ?_
            refine St.thenN ?_
            refine St.prune (Γ' := [(6, _), (8, _), (12, _), (69, _), (70, _), (71, _)]) ⟨rfl, rfl, rfl, rfl, rfl, rfl, trivial⟩ (.k (.k (.k (.k (.k (.k (.k (.k (.k (.k .z)))))))))) ?_
            refine St.seq ?_
            refine St.region ?_
            refine St.loadB 0 rfl rfl (.head _) rfl rfl ?_
            obtain ⟨r8, hr8, hj2⟩ := bnd_e hj2
            refine St.call (c_unitinfo_Encode hr8) ent14 rfl rfl rfl (fun _ w => Sat.dup (G := [.ro (SlL e_Field A18 c18 r7.1.Chassis.Fields), .ro (SlL e_Field A19 c19 r7.1.Board.Fields), .ro (SlL e_Field A20 c20 r7.1.Product.Fields), .ro (SlL eu8 A21 c21 r7.1.Multi), .ro (SlL ei64 (some ⟨0, 0, none⟩) 3 ([2, 5, 7] : List Int))]) rfl ⟨(.tail _ (.head _)), (.tail _ (.tail _ (.head _))), (.tail _ (.tail _ (.tail _ (.head _)))), (.tail _ (.tail _ (.tail _ (.tail _ (.head _))))), (.tail _ (.tail _ (.tail _ (.tail _ (.tail _ (.tail _ (.tail _ (.tail _ (.tail _ (.head _)))))))))), trivial⟩ w) ?_
            rintro _ _ ⟨A22, c22, rfl, rfl⟩
            refine St.asrt (F' := .res (OwnL eu8 5 A22 c22 r8.1) :: .res (Box g7 28 (bx_T_Info r7.1 A18 c18 A19 c19 A20 c20 A21 c21)) :: .ro (SlL e_Field A18 c18 r7.1.Chassis.Fields) :: .ro (SlL e_Field A19 c19 r7.1.Board.Fields) :: .ro (SlL e_Field A20 c20 r7.1.Product.Fields) :: .ro (SlL eu8 A21 c21 r7.1.Multi) :: .res (Box g6 26 [.slice A1 b_p0.length c1, .slice A9 r5.1.length c9, .slice (some ⟨g5, 0, none⟩) l8.length c16]) :: .res (OwnL eu8 5 (some ⟨g5, 0, none⟩) c16 l8) :: .ro (SlL eu8 A9 c9 r5.1) :: .ro (SlL eu8 A1 c1 b_p0) :: .ro (SlL ei64 (some ⟨0, 0, none⟩) 3 ([2, 5, 7] : List Int)) :: R) (fun _ w => w) ?_
            iterate 5 refine St.p rfl rfl ?_
            refine St.done ?_
            refine St.thenN ?_
            refine St.prune (Γ' := [(6, _), (8, _), (12, _), (14, _), (15, _), (69, _), (70, _), (71, _)]) ⟨rfl, rfl, rfl, rfl, rfl, rfl, rfl, rfl, trivial⟩ (.k (.k (.k (.k (.k (.k (.k (.k (.k (.k (.k .z))))))))))) ?_
            refine St.seq ?_
            refine St.region ?_
            refine St.p rfl rfl ?_
            refine St.asrt (fun _ w => (w.front .z).meltL) ?_
            obtain ⟨r9, hr9, hj2⟩ := bnd_e hj2
            refine St.call (c_unitinfo_Decode hr9) ent27 rfl rfl rfl (fun _ w => Sat.dup (G := [.ro (SlL eu8 A22 c22 r8.1), .ro (SlL ei64 (some ⟨0, 0, none⟩) 3 ([2, 5, 7] : List Int))]) rfl ⟨(.head _), (.tail _ (.tail _ (.tail _ (.tail _ (.tail _ (.tail _ (.tail _ (.tail _ (.tail _ (.tail _ (.head _))))))))))), trivial⟩ w) ?_
            rintro _ _ ⟨A23, c23, A24, c24, A25, c25, A26, c26, rfl, rfl⟩
            refine St.asrt (F' := .ro (SlL e_Field A23 c23 r9.1.Chassis.Fields) :: .ro (SlL e_Field A24 c24 r9.1.Board.Fields) :: .ro (SlL e_Field A25 c25 r9.1.Product.Fields) :: .ro (SlL eu8 A26 c26 r9.1.Multi) :: .ro (SlL eu8 A22 c22 r8.1) :: .res (Box g7 28 (bx_T_Info r7.1 A18 c18 A19 c19 A20 c20 A21 c21)) :: .ro (SlL e_Field A18 c18 r7.1.Chassis.Fields) :: .ro (SlL e_Field A19 c19 r7.1.Board.Fields) :: .ro (SlL e_Field A20 c20 r7.1.Product.Fields) :: .ro (SlL eu8 A21 c21 r7.1.Multi) :: .res (Box g6 26 [.slice A1 b_p0.length c1, .slice A9 r5.1.length c9, .slice (some ⟨g5, 0, none⟩) l8.length c16]) :: .res (OwnL eu8 5 (some ⟨g5, 0, none⟩) c16 l8) :: .ro (SlL eu8 A9 c9 r5.1) :: .ro (SlL eu8 A1 c1 b_p0) :: .ro (SlL ei64 (some ⟨0, 0, none⟩) 3 ([2, 5, 7] : List Int)) :: R) (fun _ w => w) ?_
            iterate 3 refine St.p rfl rfl ?_
            refine St.alloc rfl rfl fun g8 => ?_
            refine St.store 0 rfl rfl rfl rfl rfl rfl .z rfl ?_
            refine St.p rfl rfl ?_
            refine St.done ?_
            refine St.thenN ?_
            refine St.prune (Γ' := [(6, _), (8, _), (12, _), (15, _), (16, _), (17, _), (69, _), (70, _), (71, _)]) ⟨rfl, rfl, rfl, rfl, rfl, rfl, rfl, rfl, rfl, trivial⟩ (.k (.k (.k (.k (.k (.d (.k (.k (.k (.k (.k (.k (.k (.k (.k (.k .z)))))))))))))))) ?_
            refine St.seq ?_
            obtain ⟨o5, hj3, hj2⟩ := bnd_e hj2
            refine St.cutE (fun (e5 : Unit) => [(6, .slice A9 r5.1.length c9), (8, .slice (some ⟨g5, 0, none⟩) l8.length c16), (69, .slice (some ⟨g6, 0, none⟩) 3 3), (70, .int .i64 ((3 : Nat) : Int)), (71, .int .i64 0), (108, .bool o5)]) (fun e5 => .res (Box g6 26 [.slice A1 b_p0.length c1, .slice A9 r5.1.length c9, .slice (some ⟨g5, 0, none⟩) l8.length c16]) :: .res (OwnL eu8 5 (some ⟨g5, 0, none⟩) c16 l8) :: .ro (SlL eu8 A9 c9 r5.1) :: .ro (SlL eu8 A1 c1 b_p0) :: .ro (SlL ei64 (some ⟨0, 0, none⟩) 3 ([2, 5, 7] : List Int)) :: R) ?_ ?_
            · refine St.region ?_
              refine St.loadB 0 rfl rfl (.tail _ (.tail _ (.tail _ (.tail _ (.tail _ (.head _)))))) rfl rfl ?_
              obtain ⟨r10, hr10, hj3⟩ := bnd_e hj3
              refine St.callV (c_unitinfo_Valid hr10) ent16 rfl rfl rfl rfl ⟨(.tail _ (.tail _ (.tail _ (.tail _ (.tail _ (.tail _ (.head _))))))), (.tail _ (.tail _ (.tail _ (.tail _ (.tail _ (.tail _ (.tail _ (.head _)))))))), (.tail _ (.tail _ (.tail _ (.tail _ (.tail _ (.tail _ (.tail _ (.tail _ (.head _))))))))), (.tail _ (.tail _ (.tail _ (.tail _ (.tail _ (.tail _ (.tail _ (.tail _ (.tail _ (.head _)))))))))), (.tail _ (.tail _ (.tail _ (.tail _ (.tail _ (.tail _ (.tail _ (.tail _ (.tail _ (.tail _ (.tail _ (.tail _ (.tail _ (.tail _ (.head _))))))))))))))), trivial⟩ ?_
              refine St.p rfl rfl ?_
              refine St.p rfl rfl ?_
              refine St.gSplit (dj := 95) _ rfl (fun hb6 => ?_) (fun hb6 => ?_)
              · replace hj3 := bif_t hb6 hj3
                refine St.gOff (dj := 95) rfl rfl rfl rfl ?_
                refine St.gOff (dj := 95) rfl rfl rfl rfl ?_
                refine St.p rfl rfl ?_
                refine St.p rfl rfl ?_
                refine St.gOff (dj := 99) rfl rfl rfl rfl ?_
                refine St.gOff (dj := 99) rfl rfl rfl rfl ?_
                refine St.p rfl rfl ?_
                refine St.p rfl rfl ?_
                refine St.gOff (dj := 103) rfl rfl rfl rfl ?_
                refine St.gOff (dj := 103) rfl rfl rfl rfl ?_
                refine St.gOff (dj := 103) rfl rfl rfl rfl ?_
                refine St.gOff (dj := 103) rfl rfl rfl rfl ?_
                refine St.p rfl rfl ?_
                refine St.done ?_
                injection hj3 with hj3
                subst hj3
                refine St.thenN ?_
                exact St.hereE () ⟨rfl, rfl, rfl, rfl, rfl, rfl, trivial⟩ (fun _ w => ((.d (.d (.d (.d (.d (.d (.d (.d (.d (.d (.k (.k (.k (.k (.k .z))))))))))))))) : Keep _ _).sat w)
              · replace hj3 := bif_f hb6 hj3
                refine St.gOn (dj := 95) rfl rfl ?_
                refine St.p rfl rfl ?_
                refine St.gOn (dj := 95) rfl rfl ?_
                iterate 3 refine St.p rfl rfl ?_
                refine St.gSplit (dj := 99) _ rfl (fun hb7 => ?_) (fun hb7 => ?_)
                · replace hj3 := bif_t hb7 hj3
                  refine St.gOff (dj := 99) rfl rfl rfl rfl ?_
                  refine St.gOff (dj := 99) rfl rfl rfl rfl ?_
                  refine St.p rfl rfl ?_
                  refine St.p rfl rfl ?_
                  refine St.gOff (dj := 103) rfl rfl rfl rfl ?_
                  refine St.gOff (dj := 103) rfl rfl rfl rfl ?_
                  refine St.gOff (dj := 103) rfl rfl rfl rfl ?_
                  refine St.gOff (dj := 103) rfl rfl rfl rfl ?_
                  refine St.p rfl rfl ?_
                  refine St.done ?_
                  injection hj3 with hj3
                  subst hj3
                  refine St.thenN ?_
                  exact St.hereE () ⟨rfl, rfl, rfl, rfl, rfl, rfl, trivial⟩ (fun _ w => ((.d (.d (.d (.d (.d (.d (.d (.d (.d (.d (.k (.k (.k (.k (.k .z))))))))))))))) : Keep _ _).sat w)
                · replace hj3 := bif_f hb7 hj3
                  refine St.gOn (dj := 99) rfl rfl ?_
                  refine St.p rfl rfl ?_
                  refine St.gOn (dj := 99) rfl rfl ?_
                  iterate 3 refine St.p rfl rfl ?_
                  refine St.gSplit (dj := 103) _ rfl (fun hb8 => ?_) (fun hb8 => ?_)
                  · replace hj3 := bif_t hb8 hj3
                    refine St.gOff (dj := 103) rfl rfl rfl rfl ?_
                    refine St.gOff (dj := 103) rfl rfl rfl rfl ?_
                    refine St.gOff (dj := 103) rfl rfl rfl rfl ?_
                    refine St.gOff (dj := 103) rfl rfl rfl rfl ?_
                    refine St.p rfl rfl ?_
                    refine St.done ?_
                    injection hj3 with hj3
                    subst hj3
                    refine St.thenN ?_
                    exact St.hereE () ⟨rfl, rfl, rfl, rfl, rfl, rfl, trivial⟩ (fun _ w => ((.d (.d (.d (.d (.d (.d (.d (.d (.d (.d (.k (.k (.k (.k (.k .z))))))))))))))) : Keep _ _).sat w)
                  · replace hj3 := bif_f hb8 hj3
                    refine St.gOn (dj := 103) rfl rfl ?_
                    refine St.loadB 0 rfl rfl (.tail _ (.tail _ (.tail _ (.tail _ (.tail _ (.head _)))))) rfl rfl ?_
                    refine St.gOn (dj := 103) rfl rfl ?_
                    refine St.loadB 0 rfl rfl (.head _) rfl rfl ?_
                    refine St.gOn (dj := 103) rfl rfl ?_
                    obtain ⟨r11, hr11, hj3⟩ := bnd_e hj3
                    refine St.callV (c_ref17_Same hr11) ent29 rfl rfl rfl rfl ⟨(.tail _ (.tail _ (.tail _ (.tail _ (.tail _ (.tail _ (.head _))))))), (.tail _ (.tail _ (.tail _ (.tail _ (.tail _ (.tail _ (.tail _ (.head _)))))))), (.tail _ (.tail _ (.tail _ (.tail _ (.tail _ (.tail _ (.tail _ (.tail _ (.head _))))))))), (.tail _ (.tail _ (.tail _ (.tail _ (.tail _ (.tail _ (.tail _ (.tail _ (.tail _ (.head _)))))))))), (.tail _ (.head _)), (.tail _ (.tail _ (.head _))), (.tail _ (.tail _ (.tail _ (.head _)))), (.tail _ (.tail _ (.tail _ (.tail _ (.head _))))), trivial⟩ ?_
                    refine St.gOn (dj := 103) rfl rfl ?_
                    refine St.p rfl rfl ?_
                    refine St.p rfl rfl ?_
                    refine St.done ?_
                    injection hj3 with hj3
                    subst hj3
                    refine St.thenN ?_
                    exact St.hereE () ⟨rfl, rfl, rfl, rfl, rfl, rfl, trivial⟩ (fun _ w => ((.d (.d (.d (.d (.d (.d (.d (.d (.d (.d (.k (.k (.k (.k (.k .z))))))))))))))) : Keep _ _).sat w)
            · rintro e5
              refine St.cond _ rfl (fun hb9 => ?_) (fun hb9 => ?_)
              · replace hj2 := bif_t hb9 hj2
                refine St.seq ?_
                refine St.region ?_
                refine St.p rfl rfl ?_
                refine St.done ?_
                refine St.thenN ?_
                refine St.prune (Γ' := [(4, _)]) ⟨rfl, trivial⟩ (.d (.d (.d (.d (.k .z))))) ?_
                refine St.ret ?_
                repeat (first | refine St.thenR ?_ | refine St.blkR ?_)
                injection hj2 with hj2
                subst hj2
                have h : some _ = some _ := h
                injection h with h
                subst h
                exact St.finR Tryd.results7 (.tmp rfl .nil) rfl [] ⟨rfl, rfl⟩ (fun _ w => ((.d .z) : Keep _ _).sat w)
              · replace hj2 := bif_f hb9 hj2
                refine St.skip ?_
                refine St.blkN ?_
                injection hj2 with hj2
                subst hj2
                refine St.thenN ?_
                exact St.hereI () () rfl ⟨rfl, rfl, rfl, rfl, rfl, trivial⟩ (fun _ w => ((.k (.k (.k (.k (.k .z))))) : Keep _ _).sat w)
        · rintro o4 e4 ho
          subst ho
          have h : _ = some _ := h
          refine St.region ?_
          refine St.p rfl rfl ?_
          refine St.p rfl rfl ?_
          refine St.done ?_
          refine St.thenN ?_
          refine St.round ?_
          refine St.prune (Γ' := [(6, _), (8, _), (69, _), (70, _), (71, _)]) ⟨rfl, rfl, rfl, rfl, rfl, trivial⟩ (.k (.k (.k (.k (.k .z))))) ?_
          refine St.seq ?_
          refine St.region ?_
          refine St.p rfl rfl ?_
          refine St.done ?_
          refine St.thenN ?_
          refine St.seq ?_
          refine St.condT rfl ?_
          refine St.skip ?_
          refine St.thenN ?_
          refine St.prune (Γ' := [(6, _), (8, _), (69, _), (70, _), (71, _)]) ⟨rfl, rfl, rfl, rfl, rfl, trivial⟩ (.k (.k (.k (.k (.k .z))))) ?_
          refine St.seq ?_
          obtain ⟨o6, hj4, h⟩ := bnd_e h
          refine St.cutI (fun (o7 : Unit) (e6 : Unit) => [(6, .slice A9 r5.1.length c9), (8, .slice (some ⟨g5, 0, none⟩) l8.length c16), (69, .slice (some ⟨g6, 0, none⟩) 3 3), (70, .int .i64 ((3 : Nat) : Int)), (71, .int .i64 1)]) (fun o7 e6 => .res (Box g6 26 [.slice A1 b_p0.length c1, .slice A9 r5.1.length c9, .slice (some ⟨g5, 0, none⟩) l8.length c16]) :: .res (OwnL eu8 5 (some ⟨g5, 0, none⟩) c16 l8) :: .ro (SlL eu8 A9 c9 r5.1) :: .ro (SlL eu8 A1 c1 b_p0) :: .ro (SlL ei64 (some ⟨0, 0, none⟩) 3 ([2, 5, 7] : List Int)) :: R) (fun o7 => o6 = .inr o7) ?_ ?_
          · refine St.block ?_
            refine St.seq ?_
            refine St.region ?_
            refine St.ixB 1 rfl rfl rfl rfl rfl rfl rfl rfl rfl rfl ?_
            refine St.loadB 1 rfl rfl (.head _) rfl rfl ?_
            refine St.p rfl rfl ?_
            refine St.done ?_
            refine St.thenN ?_
            refine St.prune (Γ' := [(6, _), (8, _), (11, _), (69, _), (70, _), (71, _)]) ⟨rfl, rfl, rfl, rfl, rfl, rfl, trivial⟩ (.k (.k (.k (.k (.k .z))))) ?_
            refine St.seq ?_
            refine St.region ?_
            refine St.p rfl rfl ?_
            obtain ⟨r12, hr12, hj4⟩ := bnd_e hj4
            refine St.call (c_unitinfo_Decode hr12) ent27 rfl rfl rfl (fun _ w => Sat.dup (G := [.ro (SlL eu8 A9 c9 r5.1), .ro (SlL ei64 (some ⟨0, 0, none⟩) 3 ([2, 5, 7] : List Int))]) rfl ⟨(.tail _ (.tail _ (.head _))), (.tail _ (.tail _ (.tail _ (.tail _ (.head _))))), trivial⟩ w) ?_
            rintro _ _ ⟨A27, c27, A28, c28, A29, c29, A30, c30, rfl, rfl⟩
            refine St.asrt (F' := .ro (SlL e_Field A27 c27 r12.1.Chassis.Fields) :: .ro (SlL e_Field A28 c28 r12.1.Board.Fields) :: .ro (SlL e_Field A29 c29 r12.1.Product.Fields) :: .ro (SlL eu8 A30 c30 r12.1.Multi) :: .res (Box g6 26 [.slice A1 b_p0.length c1, .slice A9 r5.1.length c9, .slice (some ⟨g5, 0, none⟩) l8.length c16]) :: .res (OwnL eu8 5 (some ⟨g5, 0, none⟩) c16 l8) :: .ro (SlL eu8 A9 c9 r5.1) :: .ro (SlL eu8 A1 c1 b_p0) :: .ro (SlL ei64 (some ⟨0, 0, none⟩) 3 ([2, 5, 7] : List Int)) :: R) (fun _ w => w) ?_
            iterate 3 refine St.p rfl rfl ?_
            refine St.alloc rfl rfl fun g9 => ?_
            refine St.store 0 rfl rfl rfl rfl rfl rfl .z rfl ?_
            refine St.p rfl rfl ?_
            refine St.done ?_
            refine St.thenN ?_
            refine St.prune (Γ' := [(6, _), (8, _), (12, _), (13, _), (69, _), (70, _), (71, _)]) ⟨rfl, rfl, rfl, rfl, rfl, rfl, rfl, trivial⟩ (.k (.k (.k (.k (.k (.k (.k (.k (.k (.k .z)))))))))) ?_
            refine St.seq ?_
            refine St.seq ?_
            refine St.region ?_
            refine St.p rfl rfl ?_
            refine St.p rfl rfl ?_
            refine St.done ?_
            refine St.thenN ?_
            refine St.prune (Γ' := [(6, _), (8, _), (12, _), (69, _), (70, _), (71, _), (81, _)]) ⟨rfl, rfl, rfl, rfl, rfl, rfl, rfl, trivial⟩ (.k (.k (.k (.k (.k (.k (.k (.k (.k (.k .z)))))))))) ?_
            refine St.cond _ rfl (fun hb10 => ?_) (fun hb10 => ?_)
            · replace hj4 := bif_t hb10 hj4
              refine St.exit ?_
              repeat (first | refine St.thenX ?_ | refine St.blkMiss rfl ?_)
              refine St.blkHit ?_
              injection hj4 with hj4
              subst hj4
              refine St.thenN ?_
              exact St.hereI () () rfl ⟨rfl, rfl, rfl, rfl, rfl, trivial⟩ (fun _ w => ((.d (.d (.d (.d (.d (.k (.k (.k (.k (.k .z)))))))))) : Keep _ _).sat w)
            · replace hj4 := bif_f hb10 hj4
              refine St.skip ?_
              refine St.thenN ?_
              refine St.prune (Γ' := [(6, _), (8, _), (12, _), (69, _), (70, _), (71, _)]) ⟨rfl, rfl, rfl, rfl, rfl, rfl, trivial⟩ (.k (.k (.k (.k (.k (.k (.k (.k (.k (.k .z)))))))))) ?_
              refine St.seq ?_
              refine St.region ?_
              refine St.loadB 0 rfl rfl (.head _) rfl rfl ?_
              obtain ⟨r13, hr13, hj4⟩ := bnd_e hj4
              refine St.call (c_unitinfo_Encode hr13) ent14 rfl rfl rfl (fun _ w => Sat.dup (G := [.ro (SlL e_Field A27 c27 r12.1.Chassis.Fields), .ro (SlL e_Field A28 c28 r12.1.Board.Fields), .ro (SlL e_Field A29 c29 r12.1.Product.Fields), .ro (SlL eu8 A30 c30 r12.1.Multi), .ro (SlL ei64 (some ⟨0, 0, none⟩) 3 ([2, 5, 7] : List Int))]) rfl ⟨(.tail _ (.head _)), (.tail _ (.tail _ (.head _))), (.tail _ (.tail _ (.tail _ (.head _)))), (.tail _ (.tail _ (.tail _ (.tail _ (.head _))))), (.tail _ (.tail _ (.tail _ (.tail _ (.tail _ (.tail _ (.tail _ (.tail _ (.tail _ (.head _)))))))))), trivial⟩ w) ?_
              rintro _ _ ⟨A31, c31, rfl, rfl⟩
              refine St.asrt (F' := .res (OwnL eu8 5 A31 c31 r13.1) :: .res (Box g9 28 (bx_T_Info r12.1 A27 c27 A28 c28 A29 c29 A30 c30)) :: .ro (SlL e_Field A27 c27 r12.1.Chassis.Fields) :: .ro (SlL e_Field A28 c28 r12.1.Board.Fields) :: .ro (SlL e_Field A29 c29 r12.1.Product.Fields) :: .ro (SlL eu8 A30 c30 r12.1.Multi) :: .res (Box g6 26 [.slice A1 b_p0.length c1, .slice A9 r5.1.length c9, .slice (some ⟨g5, 0, none⟩) l8.length c16]) :: .res (OwnL eu8 5 (some ⟨g5, 0, none⟩) c16 l8) :: .ro (SlL eu8 A9 c9 r5.1) :: .ro (SlL eu8 A1 c1 b_p0) :: .ro (SlL ei64 (some ⟨0, 0, none⟩) 3 ([2, 5, 7] : List Int)) :: R) (fun _ w => w) ?_
              iterate 5 refine St.p rfl rfl ?_
              refine St.done ?_
              refine St.thenN ?_
              refine St.prune (Γ' := [(6, _), (8, _), (12, _), (14, _), (15, _), (69, _), (70, _), (71, _)]) ⟨rfl, rfl, rfl, rfl, rfl, rfl, rfl, rfl, trivial⟩ (.k (.k (.k (.k (.k (.k (.k (.k (.k (.k (.k .z))))))))))) ?_
              refine St.seq ?_
              refine St.region ?_
              refine St.p rfl rfl ?_
              refine St.asrt (fun _ w => (w.front .z).meltL) ?_
              obtain ⟨r14, hr14, hj4⟩ := bnd_e hj4
              refine St.call (c_unitinfo_Decode hr14) ent27 rfl rfl rfl (fun _ w => Sat.dup (G := [.ro (SlL eu8 A31 c31 r13.1), .ro (SlL ei64 (some ⟨0, 0, none⟩) 3 ([2, 5, 7] : List Int))]) rfl ⟨(.head _), (.tail _ (.tail _ (.tail _ (.tail _ (.tail _ (.tail _ (.tail _ (.tail _ (.tail _ (.tail _ (.head _))))))))))), trivial⟩ w) ?_
              rintro _ _ ⟨A32, c32, A33, c33, A34, c34, A35, c35, rfl, rfl⟩
              refine St.asrt (F' := .ro (SlL e_Field A32 c32 r14.1.Chassis.Fields) :: .ro (SlL e_Field A33 c33 r14.1.Board.Fields) :: .ro (SlL e_Field A34 c34 r14.1.Product.Fields) :: .ro (SlL eu8 A35 c35 r14.1.Multi) :: .ro (SlL eu8 A31 c31 r13.1) :: .res (Box g9 28 (bx_T_Info r12.1 A27 c27 A28 c28 A29 c29 A30 c30)) :: .ro (SlL e_Field A27 c27 r12.1.Chassis.Fields) :: .ro (SlL e_Field A28 c28 r12.1.Board.Fields) :: .ro (SlL e_Field A29 c29 r12.1.Product.Fields) :: .ro (SlL eu8 A30 c30 r12.1.Multi) :: .res (Box g6 26 [.slice A1 b_p0.length c1, .slice A9 r5.1.length c9, .slice (some ⟨g5, 0, none⟩) l8.length c16]) :: .res (OwnL eu8 5 (some ⟨g5, 0, none⟩) c16 l8) :: .ro (SlL eu8 A9 c9 r5.1) :: .ro (SlL eu8 A1 c1 b_p0) :: .ro (SlL ei64 (some ⟨0, 0, none⟩) 3 ([2, 5, 7] : List Int)) :: R) (fun _ w => w) ?_
              iterate 3 refine St.p rfl rfl ?_
              refine St.alloc rfl rfl fun g10 => ?_
              refine St.store 0 rfl rfl rfl rfl rfl rfl .z rfl ?_
              refine St.p rfl rfl ?_
              refine St.done ?_
              refine St.thenN ?_
              refine St.prune (Γ' := [(6, _), (8, _), (12, _), (15, _), (16, _), (17, _), (69, _), (70, _), (71, _)]) ⟨rfl, rfl, rfl, rfl, rfl, rfl, rfl, rfl, rfl, trivial⟩ (.k (.k (.k (.k (.k (.d (.k (.k (.k (.k (.k (.k (.k (.k (.k (.k .z)))))))))))))))) ?_
              refine St.seq ?_
              obtain ⟨o8, hj5, hj4⟩ := bnd_e hj4
              refine St.cutE (fun (e7 : Unit) => [(6, .slice A9 r5.1.length c9), (8, .slice (some ⟨g5, 0, none⟩) l8.length c16), (69, .slice (some ⟨g6, 0, none⟩) 3 3), (70, .int .i64 ((3 : Nat) : Int)), (71, .int .i64 1), (108, .bool o8)]) (fun e7 => .res (Box g6 26 [.slice A1 b_p0.length c1, .slice A9 r5.1.length c9, .slice (some ⟨g5, 0, none⟩) l8.length c16]) :: .res (OwnL eu8 5 (some ⟨g5, 0, none⟩) c16 l8) :: .ro (SlL eu8 A9 c9 r5.1) :: .ro (SlL eu8 A1 c1 b_p0) :: .ro (SlL ei64 (some ⟨0, 0, none⟩) 3 ([2, 5, 7] : List Int)) :: R) ?_ ?_
              · refine St.region ?_
                refine St.loadB 0 rfl rfl (.tail _ (.tail _ (.tail _ (.tail _ (.tail _ (.head _)))))) rfl rfl ?_
                obtain ⟨r15, hr15, hj5⟩ := bnd_e hj5
                refine St.callV (c_unitinfo_Valid hr15) ent16 rfl rfl rfl rfl ⟨(.tail _ (.tail _ (.tail _ (.tail _ (.tail _ (.tail _ (.head _))))))), (.tail _ (.tail _ (.tail _ (.tail _ (.tail _ (.tail _ (.tail _ (.head _)))))))), (.tail _ (.tail _ (.tail _ (.tail _ (.tail _ (.tail _ (.tail _ (.tail _ (.head _))))))))), (.tail _ (.tail _ (.tail _ (.tail _ (.tail _ (.tail _ (.tail _ (.tail _ (.tail _ (.head _)))))))))), (.tail _ (.tail _ (.tail _ (.tail _ (.tail _ (.tail _ (.tail _ (.tail _ (.tail _ (.tail _ (.tail _ (.tail _ (.tail _ (.tail _ (.head _))))))))))))))), trivial⟩ ?_
                refine St.p rfl rfl ?_
                refine St.p rfl rfl ?_
                refine St.gSplit (dj := 95) _ rfl (fun hb11 => ?_) (fun hb11 => ?_)
                · replace hj5 := bif_t hb11 hj5
                  refine St.gOff (dj := 95) rfl rfl rfl rfl ?_
                  refine St.gOff (dj := 95) rfl rfl rfl rfl ?_
                  refine St.p rfl rfl ?_
                  refine St.p rfl rfl ?_
                  refine St.gOff (dj := 99) rfl rfl rfl rfl ?_
                  refine St.gOff (dj := 99) rfl rfl rfl rfl ?_
                  refine St.p rfl rfl ?_
                  refine St.p rfl rfl ?_
                  refine St.gOff (dj := 103) rfl rfl rfl rfl ?_
                  refine St.gOff (dj := 103) rfl rfl rfl rfl ?_
                  refine St.gOff (dj := 103) rfl rfl rfl rfl ?_
                  refine St.gOff (dj := 103) rfl rfl rfl rfl ?_
                  refine St.p rfl rfl ?_
                  refine St.done ?_
                  injection hj5 with hj5
                  subst hj5
                  refine St.thenN ?_
                  exact St.hereE () ⟨rfl, rfl, rfl, rfl, rfl, rfl, trivial⟩ (fun _ w => ((.d (.d (.d (.d (.d (.d (.d (.d (.d (.d (.k (.k (.k (.k (.k .z))))))))))))))) : Keep _ _).sat w)
                · replace hj5 := bif_f hb11 hj5
                  refine St.gOn (dj := 95) rfl rfl ?_
                  refine St.p rfl rfl ?_
                  refine St.gOn (dj := 95) rfl rfl ?_
                  iterate 3 refine St.p rfl rfl ?_
                  refine St.gSplit (dj := 99) _ rfl (fun hb12 => ?_) (fun hb12 => ?_)
                  · replace hj5 := bif_t hb12 hj5
                    refine St.gOff (dj := 99) rfl rfl rfl rfl ?_
                    refine St.gOff (dj := 99) rfl rfl rfl rfl ?_
                    refine St.p rfl rfl ?_
                    refine St.p rfl rfl ?_
                    refine St.gOff (dj := 103) rfl rfl rfl rfl ?_
                    refine St.gOff (dj := 103) rfl rfl rfl rfl ?_
                    refine St.gOff (dj := 103) rfl rfl rfl rfl ?_
                    refine St.gOff (dj := 103) rfl rfl rfl rfl ?_
                    refine St.p rfl rfl ?_
                    refine St.done ?_
                    injection hj5 with hj5
                    subst hj5
                    refine St.thenN ?_
                    exact St.hereE () ⟨rfl, rfl, rfl, rfl, rfl, rfl, trivial⟩ (fun _ w => ((.d (.d (.d (.d (.d (.d (.d (.d (.d (.d (.k (.k (.k (.k (.k .z))))))))))))))) : Keep _ _).sat w)
                  · replace hj5 := bif_f hb12 hj5
                    refine St.gOn (dj := 99) rfl rfl ?_
                    refine St.p rfl rfl ?_
                    refine St.gOn (dj := 99) rfl rfl ?_
                    iterate 3 refine St.p rfl rfl ?_
                    refine St.gSplit (dj := 103) _ rfl (fun hb13 => ?_) (fun hb13 => ?_)
                    · replace hj5 := bif_t hb13 hj5
                      refine St.gOff (dj := 103) rfl rfl rfl rfl ?_
                      refine St.gOff (dj := 103) rfl rfl rfl rfl ?_
                      refine St.gOff (dj := 103) rfl rfl rfl rfl ?_
                      refine St.gOff (dj := 103) rfl rfl rfl rfl ?_
                      refine St.p rfl rfl ?_
                      refine St.done ?_
                      injection hj5 with hj5
                      subst hj5
                      refine St.thenN ?_
                      exact St.hereE () ⟨rfl, rfl, rfl, rfl, rfl, rfl, trivial⟩ (fun _ w => ((.d (.d (.d (.d (.d (.d (.d (.d (.d (.d (.k (.k (.k (.k (.k .z))))))))))))))) : Keep _ _).sat w)
                    · replace hj5 := bif_f hb13 hj5
                      refine St.gOn (dj := 103) rfl rfl ?_
                      refine St.loadB 0 rfl rfl (.tail _ (.tail _ (.tail _ (.tail _ (.tail _ (.head _)))))) rfl rfl ?_
                      refine St.gOn (dj := 103) rfl rfl ?_
                      refine St.loadB 0 rfl rfl (.head _) rfl rfl ?_
                      refine St.gOn (dj := 103) rfl rfl ?_
                      obtain ⟨r16, hr16, hj5⟩ := bnd_e hj5
                      refine St.callV (c_ref17_Same hr16) ent29 rfl rfl rfl rfl ⟨(.tail _ (.tail _ (.tail _ (.tail _ (.tail _ (.tail _ (.head _))))))), (.tail _ (.tail _ (.tail _ (.tail _ (.tail _ (.tail _ (.tail _ (.head _)))))))), (.tail _ (.tail _ (.tail _ (.tail _ (.tail _ (.tail _ (.tail _ (.tail _ (.head _))))))))), (.tail _ (.tail _ (.tail _ (.tail _ (.tail _ (.tail _ (.tail _ (.tail _ (.tail _ (.head _)))))))))), (.tail _ (.head _)), (.tail _ (.tail _ (.head _))), (.tail _ (.tail _ (.tail _ (.head _)))), (.tail _ (.tail _ (.tail _ (.tail _ (.head _))))), trivial⟩ ?_
                      refine St.gOn (dj := 103) rfl rfl ?_
                      refine St.p rfl rfl ?_
                      refine St.p rfl rfl ?_
                      refine St.done ?_
                      injection hj5 with hj5
                      subst hj5
                      refine St.thenN ?_
                      exact St.hereE () ⟨rfl, rfl, rfl, rfl, rfl, rfl, trivial⟩ (fun _ w => ((.d (.d (.d (.d (.d (.d (.d (.d (.d (.d (.k (.k (.k (.k (.k .z))))))))))))))) : Keep _ _).sat w)
              · rintro e7
                refine St.cond _ rfl (fun hb14 => ?_) (fun hb14 => ?_)
                · replace hj4 := bif_t hb14 hj4
                  refine St.seq ?_
                  refine St.region ?_
                  refine St.p rfl rfl ?_
                  refine St.done ?_
                  refine St.thenN ?_
                  refine St.prune (Γ' := [(4, _)]) ⟨rfl, trivial⟩ (.d (.d (.d (.d (.k .z))))) ?_
                  refine St.ret ?_
                  repeat (first | refine St.thenR ?_ | refine St.blkR ?_)
                  injection hj4 with hj4
                  subst hj4
                  have h : some _ = some _ := h
                  injection h with h
                  subst h
                  exact St.finR Tryd.results7 (.tmp rfl .nil) rfl [] ⟨rfl, rfl⟩ (fun _ w => ((.d .z) : Keep _ _).sat w)
                · replace hj4 := bif_f hb14 hj4
                  refine St.skip ?_
                  refine St.blkN ?_
                  injection hj4 with hj4
                  subst hj4
                  refine St.thenN ?_
                  exact St.hereI () () rfl ⟨rfl, rfl, rfl, rfl, rfl, trivial⟩ (fun _ w => ((.k (.k (.k (.k (.k .z))))) : Keep _ _).sat w)
          · rintro o7 e6 ho
            subst ho
            have h : _ = some _ := h
            refine St.region ?_
            refine St.p rfl rfl ?_
            refine St.p rfl rfl ?_
            refine St.done ?_
            refine St.thenN ?_
            refine St.round ?_
            refine St.prune (Γ' := [(6, _), (8, _), (69, _), (70, _), (71, _)]) ⟨rfl, rfl, rfl, rfl, rfl, trivial⟩ (.k (.k (.k (.k (.k .z))))) ?_
            refine St.seq ?_
            refine St.region ?_
            refine St.p rfl rfl ?_
            refine St.done ?_
            refine St.thenN ?_
            refine St.seq ?_
            refine St.condT rfl ?_
            refine St.skip ?_
            refine St.thenN ?_
            refine St.prune (Γ' := [(6, _), (8, _), (69, _), (70, _), (71, _)]) ⟨rfl, rfl, rfl, rfl, rfl, trivial⟩ (.k (.k (.k (.k (.k .z))))) ?_
            refine St.seq ?_
            obtain ⟨o9, hj6, h⟩ := bnd_e h
            refine St.cutI (fun (o10 : List Int × List Int) (e8 : Option Addr × Nat × Option Addr × Nat) => [(6, .slice A9 r5.1.length c9), (8, .slice e8.1 o10.1.length e8.2.1), (69, .slice (some ⟨g6, 0, none⟩) 3 3), (70, .int .i64 ((3 : Nat) : Int)), (71, .int .i64 2)]) (fun o10 e8 => .ro (SlL eu8 e8.2.2.1 e8.2.2.2 o10.2) :: .ro (SlL eu8 e8.1 e8.2.1 o10.1) :: .res (Box g6 26 [.slice A1 b_p0.length c1, .slice A9 r5.1.length c9, .slice e8.2.2.1 o10.2.length e8.2.2.2]) :: .ro (SlL eu8 A9 c9 r5.1) :: .ro (SlL eu8 A1 c1 b_p0) :: .ro (SlL ei64 (some ⟨0, 0, none⟩) 3 ([2, 5, 7] : List Int)) :: R) (fun o10 => o9 = .inr o10) ?_ ?_
            · refine St.block ?_
              refine St.seq ?_
              refine St.region ?_
              refine St.ixB 2 rfl rfl rfl rfl rfl rfl rfl rfl rfl rfl ?_
              refine St.loadB 2 rfl rfl (.head _) rfl rfl ?_
              refine St.p rfl rfl ?_
              refine St.done ?_
              refine St.thenN ?_
              refine St.prune (Γ' := [(6, _), (8, _), (11, _), (69, _), (70, _), (71, _)]) ⟨rfl, rfl, rfl, rfl, rfl, rfl, trivial⟩ (.k (.k (.k (.k (.k .z))))) ?_
              refine St.seq ?_
              refine St.region ?_
              refine St.p rfl rfl ?_
              refine St.asrt (fun _ w => (w.front (.s .z)).meltL) ?_
              obtain ⟨r17, hr17, hj6⟩ := bnd_e hj6
              refine St.call (c_unitinfo_Decode hr17) ent27 rfl rfl rfl (fun _ w => Sat.dup (G := [.ro (SlL eu8 (some ⟨g5, 0, none⟩) c16 l8), .ro (SlL ei64 (some ⟨0, 0, none⟩) 3 ([2, 5, 7] : List Int))]) rfl ⟨(.head _), (.tail _ (.tail _ (.tail _ (.tail _ (.head _))))), trivial⟩ w) ?_
              rintro _ _ ⟨A38, c38, A39, c39, A40, c40, A41, c41, rfl, rfl⟩
              refine St.asrt (F' := .ro (SlL e_Field A38 c38 r17.1.Chassis.Fields) :: .ro (SlL e_Field A39 c39 r17.1.Board.Fields) :: .ro (SlL e_Field A40 c40 r17.1.Product.Fields) :: .ro (SlL eu8 A41 c41 r17.1.Multi) :: .ro (SlL eu8 (some ⟨g5, 0, none⟩) c16 l8) :: .res (Box g6 26 [.slice A1 b_p0.length c1, .slice A9 r5.1.length c9, .slice (some ⟨g5, 0, none⟩) l8.length c16]) :: .ro (SlL eu8 A9 c9 r5.1) :: .ro (SlL eu8 A1 c1 b_p0) :: .ro (SlL ei64 (some ⟨0, 0, none⟩) 3 ([2, 5, 7] : List Int)) :: R) (fun _ w => w) ?_
              iterate 3 refine St.p rfl rfl ?_
              refine St.alloc rfl rfl fun g11 => ?_
              refine St.store 0 rfl rfl rfl rfl rfl rfl .z rfl ?_
              refine St.p rfl rfl ?_
              refine St.done ?_
              refine St.thenN ?_
              refine St.prune (Γ' := [(6, _), (8, _), (12, _), (13, _), (69, _), (70, _), (71, _)]) ⟨rfl, rfl, rfl, rfl, rfl, rfl, rfl, trivial⟩ (.k (.k (.k (.k (.k (.k (.k (.k (.k (.k .z)))))))))) ?_
              refine St.seq ?_
              refine St.seq ?_
              refine St.region ?_
              refine St.p rfl rfl ?_
              refine St.p rfl rfl ?_
              refine St.done ?_
              refine St.thenN ?_
              refine St.prune (Γ' := [(6, _), (8, _), (12, _), (69, _), (70, _), (71, _), (81, _)]) ⟨rfl, rfl, rfl, rfl, rfl, rfl, rfl, trivial⟩ (.k (.k (.k (.k (.k (.k (.k (.k (.k (.k .z)))))))))) ?_
              refine St.cond _ rfl (fun hb15 => ?_) (fun hb15 => ?_)
              · replace hj6 := bif_t hb15 hj6
                refine St.exit ?_
                repeat (first | refine St.thenX ?_ | refine St.blkMiss rfl ?_)
                refine St.blkHit ?_
                injection hj6 with hj6
                subst hj6
                refine St.thenN ?_
                exact St.hereI (l8, l8) ((some ⟨g5, 0, none⟩), c16, (some ⟨g5, 0, none⟩), c16) rfl ⟨rfl, rfl, rfl, rfl, rfl, trivial⟩ (fun _ w => ((.k (.d (.d (.d (.d (.d (.k (.k (.k (.k (.k .z))))))))))) : Keep _ _).sat (Sat.dup (G := [.ro (SlL eu8 (some ⟨g5, 0, none⟩) c16 l8)]) rfl ⟨(.tail _ (.tail _ (.tail _ (.tail _ (.tail _ (.head _)))))), trivial⟩ w))
              · replace hj6 := bif_f hb15 hj6
                refine St.skip ?_
                refine St.thenN ?_
                refine St.prune (Γ' := [(6, _), (8, _), (12, _), (69, _), (70, _), (71, _)]) ⟨rfl, rfl, rfl, rfl, rfl, rfl, trivial⟩ (.k (.k (.k (.k (.k (.k (.k (.k (.k (.k .z)))))))))) ?_
                refine St.seq ?_
                refine St.region ?_
                refine St.loadB 0 rfl rfl (.head _) rfl rfl ?_
                obtain ⟨r18, hr18, hj6⟩ := bnd_e hj6
                refine St.call (c_unitinfo_Encode hr18) ent14 rfl rfl rfl (fun _ w => Sat.dup (G := [.ro (SlL e_Field A38 c38 r17.1.Chassis.Fields), .ro (SlL e_Field A39 c39 r17.1.Board.Fields), .ro (SlL e_Field A40 c40 r17.1.Product.Fields), .ro (SlL eu8 A41 c41 r17.1.Multi), .ro (SlL ei64 (some ⟨0, 0, none⟩) 3 ([2, 5, 7] : List Int))]) rfl ⟨(.tail _ (.head _)), (.tail _ (.tail _ (.head _))), (.tail _ (.tail _ (.tail _ (.head _)))), (.tail _ (.tail _ (.tail _ (.tail _ (.head _))))), (.tail _ (.tail _ (.tail _ (.tail _ (.tail _ (.tail _ (.tail _ (.tail _ (.tail _ (.head _)))))))))), trivial⟩ w) ?_
                rintro _ _ ⟨A42, c42, rfl, rfl⟩
                refine St.asrt (F' := .res (OwnL eu8 5 A42 c42 r18.1) :: .res (Box g11 28 (bx_T_Info r17.1 A38 c38 A39 c39 A40 c40 A41 c41)) :: .ro (SlL e_Field A38 c38 r17.1.Chassis.Fields) :: .ro (SlL e_Field A39 c39 r17.1.Board.Fields) :: .ro (SlL e_Field A40 c40 r17.1.Product.Fields) :: .ro (SlL eu8 A41 c41 r17.1.Multi) :: .ro (SlL eu8 (some ⟨g5, 0, none⟩) c16 l8) :: .res (Box g6 26 [.slice A1 b_p0.length c1, .slice A9 r5.1.length c9, .slice (some ⟨g5, 0, none⟩) l8.length c16]) :: .ro (SlL eu8 A9 c9 r5.1) :: .ro (SlL eu8 A1 c1 b_p0) :: .ro (SlL ei64 (some ⟨0, 0, none⟩) 3 ([2, 5, 7] : List Int)) :: R) (fun _ w => w) ?_
                iterate 5 refine St.p rfl rfl ?_
                refine St.done ?_
                refine St.thenN ?_
                refine St.prune (Γ' := [(6, _), (8, _), (12, _), (14, _), (15, _), (69, _), (70, _), (71, _)]) ⟨rfl, rfl, rfl, rfl, rfl, rfl, rfl, rfl, trivial⟩ (.k (.k (.k (.k (.k (.k (.k (.k (.k (.k (.k .z))))))))))) ?_
                refine St.seq ?_
                refine St.region ?_
                refine St.p rfl rfl ?_
                refine St.asrt (fun _ w => (w.front .z).meltL) ?_
                obtain ⟨r19, hr19, hj6⟩ := bnd_e hj6
                refine St.call (c_unitinfo_Decode hr19) ent27 rfl rfl rfl (fun _ w => Sat.dup (G := [.ro (SlL eu8 A42 c42 r18.1), .ro (SlL ei64 (some ⟨0, 0, none⟩) 3 ([2, 5, 7] : List Int))]) rfl ⟨(.head _), (.tail _ (.tail _ (.tail _ (.tail _ (.tail _ (.tail _ (.tail _ (.tail _ (.tail _ (.tail _ (.head _))))))))))), trivial⟩ w) ?_
                rintro _ _ ⟨A43, c43, A44, c44, A45, c45, A46, c46, rfl, rfl⟩
                refine St.asrt (F' := .ro (SlL e_Field A43 c43 r19.1.Chassis.Fields) :: .ro (SlL e_Field A44 c44 r19.1.Board.Fields) :: .ro (SlL e_Field A45 c45 r19.1.Product.Fields) :: .ro (SlL eu8 A46 c46 r19.1.Multi) :: .ro (SlL eu8 A42 c42 r18.1) :: .res (Box g11 28 (bx_T_Info r17.1 A38 c38 A39 c39 A40 c40 A41 c41)) :: .ro (SlL e_Field A38 c38 r17.1.Chassis.Fields) :: .ro (SlL e_Field A39 c39 r17.1.Board.Fields) :: .ro (SlL e_Field A40 c40 r17.1.Product.Fields) :: .ro (SlL eu8 A41 c41 r17.1.Multi) :: .ro (SlL eu8 (some ⟨g5, 0, none⟩) c16 l8) :: .res (Box g6 26 [.slice A1 b_p0.length c1, .slice A9 r5.1.length c9, .slice (some ⟨g5, 0, none⟩) l8.length c16]) :: .ro (SlL eu8 A9 c9 r5.1) :: .ro (SlL eu8 A1 c1 b_p0) :: .ro (SlL ei64 (some ⟨0, 0, none⟩) 3 ([2, 5, 7] : List Int)) :: R) (fun _ w => w) ?_
                iterate 3 refine St.p rfl rfl ?_
                refine St.alloc rfl rfl fun g12 => ?_
                refine St.store 0 rfl rfl rfl rfl rfl rfl .z rfl ?_
                refine St.p rfl rfl ?_
                refine St.done ?_
                refine St.thenN ?_
                refine St.prune (Γ' := [(6, _), (8, _), (12, _), (15, _), (16, _), (17, _), (69, _), (70, _), (71, _)]) ⟨rfl, rfl, rfl, rfl, rfl, rfl, rfl, rfl, rfl, trivial⟩ (.k (.k (.k (.k (.k (.d (.k (.k (.k (.k (.k (.k (.k (.k (.k (.k .z)))))))))))))))) ?_
                refine St.seq ?_
                obtain ⟨o11, hj7, hj6⟩ := bnd_e hj6
                refine St.cutE (fun (e9 : Unit) => [(6, .slice A9 r5.1.length c9), (8, .slice (some ⟨g5, 0, none⟩) l8.length c16), (69, .slice (some ⟨g6, 0, none⟩) 3 3), (70, .int .i64 ((3 : Nat) : Int)), (71, .int .i64 2), (108, .bool o11)]) (fun e9 => .ro (SlL eu8 (some ⟨g5, 0, none⟩) c16 l8) :: .res (Box g6 26 [.slice A1 b_p0.length c1, .slice A9 r5.1.length c9, .slice (some ⟨g5, 0, none⟩) l8.length c16]) :: .ro (SlL eu8 A9 c9 r5.1) :: .ro (SlL eu8 A1 c1 b_p0) :: .ro (SlL ei64 (some ⟨0, 0, none⟩) 3 ([2, 5, 7] : List Int)) :: R) ?_ ?_
                · refine St.region ?_
                  refine St.loadB 0 rfl rfl (.tail _ (.tail _ (.tail _ (.tail _ (.tail _ (.head _)))))) rfl rfl ?_
                  obtain ⟨r20, hr20, hj7⟩ := bnd_e hj7
                  refine St.callV (c_unitinfo_Valid hr20) ent16 rfl rfl rfl rfl ⟨(.tail _ (.tail _ (.tail _ (.tail _ (.tail _ (.tail _ (.head _))))))), (.tail _ (.tail _ (.tail _ (.tail _ (.tail _ (.tail _ (.tail _ (.head _)))))))), (.tail _ (.tail _ (.tail _ (.tail _ (.tail _ (.tail _ (.tail _ (.tail _ (.head _))))))))), (.tail _ (.tail _ (.tail _ (.tail _ (.tail _ (.tail _ (.tail _ (.tail _ (.tail _ (.head _)))))))))), (.tail _ (.tail _ (.tail _ (.tail _ (.tail _ (.tail _ (.tail _ (.tail _ (.tail _ (.tail _ (.tail _ (.tail _ (.tail _ (.tail _ (.head _))))))))))))))), trivial⟩ ?_
                  refine St.p rfl rfl ?_
                  refine St.p rfl rfl ?_
                  refine St.gSplit (dj := 95) _ rfl (fun hb16 => ?_) (fun hb16 => ?_)
                  · replace hj7 := bif_t hb16 hj7
                    refine St.gOff (dj := 95) rfl rfl rfl rfl ?_
                    refine St.gOff (dj := 95) rfl rfl rfl rfl ?_
                    refine St.p rfl rfl ?_
                    refine St.p rfl rfl ?_
                    refine St.gOff (dj := 99) rfl rfl rfl rfl ?_
                    refine St.gOff (dj := 99) rfl rfl rfl rfl ?_
                    refine St.p rfl rfl ?_
                    refine St.p rfl rfl ?_
                    refine St.gOff (dj := 103) rfl rfl rfl rfl ?_
                    refine St.gOff (dj := 103) rfl rfl rfl rfl ?_
                    refine St.gOff (dj := 103) rfl rfl rfl rfl ?_
                    refine St.gOff (dj := 103) rfl rfl rfl rfl ?_
                    refine St.p rfl rfl ?_
                    refine St.done ?_
                    injection hj7 with hj7
                    subst hj7
                    refine St.thenN ?_
                    exact St.hereE () ⟨rfl, rfl, rfl, rfl, rfl, rfl, trivial⟩ (fun _ w => ((.d (.d (.d (.d (.d (.d (.d (.d (.d (.d (.k (.k (.k (.k (.k .z))))))))))))))) : Keep _ _).sat w)
                  · replace hj7 := bif_f hb16 hj7
                    refine St.gOn (dj := 95) rfl rfl ?_
                    refine St.p rfl rfl ?_
                    refine St.gOn (dj := 95) rfl rfl ?_
                    iterate 3 refine St.p rfl rfl ?_
                    refine St.gSplit (dj := 99) _ rfl (fun hb17 => ?_) (fun hb17 => ?_)
                    · replace hj7 := bif_t hb17 hj7
                      refine St.gOff (dj := 99) rfl rfl rfl rfl ?_
                      refine St.gOff (dj := 99) rfl rfl rfl rfl ?_
                      refine St.p rfl rfl ?_
                      refine St.p rfl rfl ?_
                      refine St.gOff (dj := 103) rfl rfl rfl rfl ?_
                      refine St.gOff (dj := 103) rfl rfl rfl rfl ?_
                      refine St.gOff (dj := 103) rfl rfl rfl rfl ?_
                      refine St.gOff (dj := 103) rfl rfl rfl rfl ?_
                      refine St.p rfl rfl ?_
                      refine St.done ?_
                      injection hj7 with hj7
                      subst hj7
                      refine St.thenN ?_
                      exact St.hereE () ⟨rfl, rfl, rfl, rfl, rfl, rfl, trivial⟩ (fun _ w => ((.d (.d (.d (.d (.d (.d (.d (.d (.d (.d (.k (.k (.k (.k (.k .z))))))))))))))) : Keep _ _).sat w)
                    · replace hj7 := bif_f hb17 hj7
                      refine St.gOn (dj := 99) rfl rfl ?_
                      refine St.p rfl rfl ?_
                      refine St.gOn (dj := 99) rfl rfl ?_
                      iterate 3 refine St.p rfl rfl ?_
                      refine St.gSplit (dj := 103) _ rfl (fun hb18 => ?_) (fun hb18 => ?_)
                      · replace hj7 := bif_t hb18 hj7
                        refine St.gOff (dj := 103) rfl rfl rfl rfl ?_
                        refine St.gOff (dj := 103) rfl rfl rfl rfl ?_
                        refine St.gOff (dj := 103) rfl rfl rfl rfl ?_
                        refine St.gOff (dj := 103) rfl rfl rfl rfl ?_
                        refine St.p rfl rfl ?_
                        refine St.done ?_
                        injection hj7 with hj7
                        subst hj7
                        refine St.thenN ?_
                        exact St.hereE () ⟨rfl, rfl, rfl, rfl, rfl, rfl, trivial⟩ (fun _ w => ((.d (.d (.d (.d (.d (.d (.d (.d (.d (.d (.k (.k (.k (.k (.k .z))))))))))))))) : Keep _ _).sat w)
                      · replace hj7 := bif_f hb18 hj7
                        refine St.gOn (dj := 103) rfl rfl ?_
                        refine St.loadB 0 rfl rfl (.tail _ (.tail _ (.tail _ (.tail _ (.tail _ (.head _)))))) rfl rfl ?_
                        refine St.gOn (dj := 103) rfl rfl ?_
                        refine St.loadB 0 rfl rfl (.head _) rfl rfl ?_
                        refine St.gOn (dj := 103) rfl rfl ?_
                        obtain ⟨r21, hr21, hj7⟩ := bnd_e hj7
                        refine St.callV (c_ref17_Same hr21) ent29 rfl rfl rfl rfl ⟨(.tail _ (.tail _ (.tail _ (.tail _ (.tail _ (.tail _ (.head _))))))), (.tail _ (.tail _ (.tail _ (.tail _ (.tail _ (.tail _ (.tail _ (.head _)))))))), (.tail _ (.tail _ (.tail _ (.tail _ (.tail _ (.tail _ (.tail _ (.tail _ (.head _))))))))), (.tail _ (.tail _ (.tail _ (.tail _ (.tail _ (.tail _ (.tail _ (.tail _ (.tail _ (.head _)))))))))), (.tail _ (.head _)), (.tail _ (.tail _ (.head _))), (.tail _ (.tail _ (.tail _ (.head _)))), (.tail _ (.tail _ (.tail _ (.tail _ (.head _))))), trivial⟩ ?_
                        refine St.gOn (dj := 103) rfl rfl ?_
                        refine St.p rfl rfl ?_
                        refine St.p rfl rfl ?_
                        refine St.done ?_
                        injection hj7 with hj7
                        subst hj7
                        refine St.thenN ?_
                        exact St.hereE () ⟨rfl, rfl, rfl, rfl, rfl, rfl, trivial⟩ (fun _ w => ((.d (.d (.d (.d (.d (.d (.d (.d (.d (.d (.k (.k (.k (.k (.k .z))))))))))))))) : Keep _ _).sat w)
                · rintro e9
                  refine St.cond _ rfl (fun hb19 => ?_) (fun hb19 => ?_)
                  · replace hj6 := bif_t hb19 hj6
                    refine St.seq ?_
                    refine St.region ?_
                    refine St.p rfl rfl ?_
                    refine St.done ?_
                    refine St.thenN ?_
                    refine St.prune (Γ' := [(4, _)]) ⟨rfl, trivial⟩ (.d (.d (.d (.d (.k .z))))) ?_
                    refine St.ret ?_
                    repeat (first | refine St.thenR ?_ | refine St.blkR ?_)
                    injection hj6 with hj6
                    subst hj6
                    have h : some _ = some _ := h
                    injection h with h
                    subst h
                    exact St.finR Tryd.results7 (.tmp rfl .nil) rfl [] ⟨rfl, rfl⟩ (fun _ w => ((.d .z) : Keep _ _).sat w)
                  · replace hj6 := bif_f hb19 hj6
                    refine St.skip ?_
                    refine St.blkN ?_
                    injection hj6 with hj6
                    subst hj6
                    refine St.thenN ?_
                    exact St.hereI (l8, l8) ((some ⟨g5, 0, none⟩), c16, (some ⟨g5, 0, none⟩), c16) rfl ⟨rfl, rfl, rfl, rfl, rfl, trivial⟩ (fun _ w => ((.k (.k (.k (.k (.k (.k .z)))))) : Keep _ _).sat (Sat.dup (G := [.ro (SlL eu8 (some ⟨g5, 0, none⟩) c16 l8)]) rfl ⟨(.head _), trivial⟩ w))
            · rintro o10 ⟨A36, c36, A37, c37⟩ ho
              subst ho
              have h : _ = some _ := h
              refine St.region ?_
              refine St.p rfl rfl ?_
              refine St.p rfl rfl ?_
              refine St.done ?_
              refine St.thenN ?_
              refine St.round ?_
              refine St.prune (Γ' := [(6, _), (8, _), (69, _), (70, _), (71, _)]) ⟨rfl, rfl, rfl, rfl, rfl, trivial⟩ (.k (.k (.k (.k (.k (.k .z)))))) ?_
              refine St.seq ?_
              refine St.region ?_
              refine St.p rfl rfl ?_
              refine St.done ?_
              refine St.thenN ?_
              refine St.seq ?_
              refine St.condF rfl ?_
              refine St.exit ?_
              repeat (first | refine St.thenX ?_ | refine St.blkMiss rfl ?_)
              refine St.blkHit ?_
              refine St.thenN ?_
              refine St.prune (Γ' := [(6, _), (8, _)]) ⟨rfl, rfl, trivial⟩ (.d (.k (.d (.k (.d (.k .z)))))) ?_
              refine St.seq ?_
              refine St.region ?_
              refine St.p rfl rfl ?_
              obtain ⟨r22, hr22, h⟩ := bnd_e h
              refine St.call (c_unitinfo_Decode hr22) ent27 rfl rfl rfl (fun _ w => Sat.dup (G := [.ro (SlL eu8 A9 c9 r5.1), .ro (SlL ei64 (some ⟨0, 0, none⟩) 3 ([2, 5, 7] : List Int))]) rfl ⟨(.tail _ (.head _)), (.tail _ (.tail _ (.head _))), trivial⟩ w) ?_
              rintro _ _ ⟨A47, c47, A48, c48, A49, c49, A50, c50, rfl, rfl⟩
              refine St.asrt (F' := .ro (SlL e_Field A47 c47 r22.1.Chassis.Fields) :: .ro (SlL e_Field A48 c48 r22.1.Board.Fields) :: .ro (SlL e_Field A49 c49 r22.1.Product.Fields) :: .ro (SlL eu8 A50 c50 r22.1.Multi) :: .ro (SlL eu8 A36 c36 o10.1) :: .ro (SlL eu8 A9 c9 r5.1) :: .ro (SlL ei64 (some ⟨0, 0, none⟩) 3 ([2, 5, 7] : List Int)) :: R) (fun _ w => w) ?_
              iterate 3 refine St.p rfl rfl ?_
              refine St.alloc rfl rfl fun g13 => ?_
              refine St.store 0 rfl rfl rfl rfl rfl rfl .z rfl ?_
              refine St.p rfl rfl ?_
              refine St.done ?_
              refine St.thenN ?_
              refine St.prune (Γ' := [(8, _), (18, _), (19, _)]) ⟨rfl, rfl, rfl, trivial⟩ (.k (.k (.k (.k (.k (.k (.d (.k .z)))))))) ?_
              refine St.seq ?_
              refine St.region ?_
              refine St.p rfl rfl ?_
              obtain ⟨r23, hr23, h⟩ := bnd_e h
              refine St.call (c_unitinfo_Decode hr23) ent27 rfl rfl rfl (fun _ w => Sat.dup (G := [.ro (SlL eu8 A36 c36 o10.1), .ro (SlL ei64 (some ⟨0, 0, none⟩) 3 ([2, 5, 7] : List Int))]) rfl ⟨(.tail _ (.tail _ (.tail _ (.tail _ (.tail _ (.head _)))))), (.tail _ (.tail _ (.tail _ (.tail _ (.tail _ (.tail _ (.head _))))))), trivial⟩ w) ?_
              rintro _ _ ⟨A51, c51, A52, c52, A53, c53, A54, c54, rfl, rfl⟩
              refine St.asrt (F' := .ro (SlL e_Field A51 c51 r23.1.Chassis.Fields) :: .ro (SlL e_Field A52 c52 r23.1.Board.Fields) :: .ro (SlL e_Field A53 c53 r23.1.Product.Fields) :: .ro (SlL eu8 A54 c54 r23.1.Multi) :: .res (Box g13 28 (bx_T_Info r22.1 A47 c47 A48 c48 A49 c49 A50 c50)) :: .ro (SlL e_Field A47 c47 r22.1.Chassis.Fields) :: .ro (SlL e_Field A48 c48 r22.1.Board.Fields) :: .ro (SlL e_Field A49 c49 r22.1.Product.Fields) :: .ro (SlL eu8 A50 c50 r22.1.Multi) :: .ro (SlL eu8 A36 c36 o10.1) :: .ro (SlL ei64 (some ⟨0, 0, none⟩) 3 ([2, 5, 7] : List Int)) :: R) (fun _ w => w) ?_
              iterate 3 refine St.p rfl rfl ?_
              refine St.alloc rfl rfl fun g14 => ?_
              refine St.store 0 rfl rfl rfl rfl rfl rfl .z rfl ?_
              refine St.p rfl rfl ?_
              refine St.done ?_
              refine St.thenN ?_
              refine St.prune (Γ' := [(8, _), (18, _), (19, _), (20, _), (21, _)]) ⟨rfl, rfl, rfl, rfl, rfl, trivial⟩ (.k (.k (.k (.k (.k (.k (.k (.k (.k (.k (.k (.k .z)))))))))))) ?_
              refine St.seq ?_
              obtain ⟨o12, hj8, h⟩ := bnd_e h
              refine St.cutE (fun (e10 : Unit) => [(4, .bool o12)]) (fun e10 => .ro (SlL ei64 (some ⟨0, 0, none⟩) 3 ([2, 5, 7] : List Int)) :: R) ?_ ?_
              · refine St.region ?_
                iterate 3 refine St.p rfl rfl ?_
                refine St.gSplit (dj := 122) _ rfl (fun hb20 => ?_) (fun hb20 => ?_)
                · replace hj8 := bif_t hb20 hj8
                  refine St.gOn (dj := 122) rfl rfl ?_
                  refine St.p rfl rfl ?_
                  refine St.gOn (dj := 122) rfl rfl ?_
                  refine St.p rfl rfl ?_
                  refine St.gOn (dj := 122) rfl rfl ?_
                  refine St.p rfl rfl ?_
                  refine St.gOn (dj := 122) rfl rfl ?_
                  refine St.p rfl rfl ?_
                  refine St.gSplit (dj := 126) _ rfl (fun hb21 => ?_) (fun hb21 => ?_)
                  · replace hj8 := bif_t hb21 hj8
                    refine St.gOff (dj := 126) rfl rfl rfl rfl ?_
                    refine St.gOff (dj := 126) rfl rfl rfl rfl ?_
                    refine St.gOff (dj := 126) rfl rfl rfl rfl ?_
                    refine St.gOff (dj := 129) rfl rfl rfl rfl ?_
                    refine St.gOff (dj := 129) rfl rfl rfl rfl ?_
                    refine St.gOff (dj := 129) rfl rfl rfl rfl ?_
                    refine St.gOff (dj := 126) rfl rfl rfl rfl ?_
                    refine St.gOn (dj := 122) rfl rfl ?_
                    iterate 3 refine St.p rfl rfl ?_
                    refine St.gOn (dj := 136) rfl rfl ?_
                    obtain ⟨r24, hr24, hj8⟩ := bnd_e hj8
                    refine St.callV (c_law17_awake hr24) ent10 rfl rfl rfl rfl ⟨(.tail _ (.tail _ (.tail _ (.tail _ (.tail _ (.tail _ (.tail _ (.tail _ (.tail _ (.tail _ (.tail _ (.head _)))))))))))), trivial⟩ ?_
                    refine St.p rfl rfl ?_
                    refine St.p rfl rfl ?_
                    refine St.done ?_
                    injection hj8 with hj8
                    subst hj8
                    refine St.thenN ?_
                    exact St.hereE () ⟨rfl, trivial⟩ (fun _ w => ((.d (.d (.d (.d (.d (.d (.d (.d (.d (.d (.d (.k .z)))))))))))) : Keep _ _).sat w)
                  · replace hj8 := bif_f hb21 hj8
                    refine St.gOn (dj := 126) rfl rfl ?_
                    refine St.p rfl rfl ?_
                    refine St.gOn (dj := 126) rfl rfl ?_
                    refine St.p rfl rfl ?_
                    refine St.gOn (dj := 126) rfl rfl ?_
                    refine St.p rfl rfl ?_
                    refine St.gSplit (dj := 129) _ rfl (fun hb22 => ?_) (fun hb22 => ?_)
                    · replace hj8 := bif_t hb22 hj8
                      refine St.gOn (dj := 129) rfl rfl ?_
                      refine St.loadB 0 rfl rfl (.tail _ (.tail _ (.tail _ (.tail _ (.tail _ (.head _)))))) rfl rfl ?_
                      refine St.gOn (dj := 129) rfl rfl ?_
                      refine St.loadB 0 rfl rfl (.head _) rfl rfl ?_
                      refine St.gOn (dj := 129) rfl rfl ?_
                      obtain ⟨r25, hr25, hj8⟩ := bnd_e hj8
                      refine St.callV (c_ref17_Same hr25) ent29 rfl rfl rfl rfl ⟨(.tail _ (.tail _ (.tail _ (.tail _ (.tail _ (.tail _ (.head _))))))), (.tail _ (.tail _ (.tail _ (.tail _ (.tail _ (.tail _ (.tail _ (.head _)))))))), (.tail _ (.tail _ (.tail _ (.tail _ (.tail _ (.tail _ (.tail _ (.tail _ (.head _))))))))), (.tail _ (.tail _ (.tail _ (.tail _ (.tail _ (.tail _ (.tail _ (.tail _ (.tail _ (.head _)))))))))), (.tail _ (.head _)), (.tail _ (.tail _ (.head _))), (.tail _ (.tail _ (.tail _ (.head _)))), (.tail _ (.tail _ (.tail _ (.tail _ (.head _))))), trivial⟩ ?_
                      refine St.gOn (dj := 126) rfl rfl ?_
                      refine St.p rfl rfl ?_
                      refine St.gOn (dj := 122) rfl rfl ?_
                      iterate 3 refine St.p rfl rfl ?_
                      refine St.gSplit (dj := 136) _ rfl (fun hb23 => ?_) (fun hb23 => ?_)
                      · replace hj8 := bif_t hb23 hj8
                        refine St.gOn (dj := 136) rfl rfl ?_
                        obtain ⟨r26, hr26, hj8⟩ := bnd_e hj8
                        refine St.callV (c_law17_awake hr26) ent10 rfl rfl rfl rfl ⟨(.tail _ (.tail _ (.tail _ (.tail _ (.tail _ (.tail _ (.tail _ (.tail _ (.tail _ (.tail _ (.tail _ (.head _)))))))))))), trivial⟩ ?_
                        refine St.p rfl rfl ?_
                        refine St.p rfl rfl ?_
                        refine St.done ?_
                        injection hj8 with hj8
                        subst hj8
                        refine St.thenN ?_
                        exact St.hereE () ⟨rfl, trivial⟩ (fun _ w => ((.d (.d (.d (.d (.d (.d (.d (.d (.d (.d (.d (.k .z)))))))))))) : Keep _ _).sat w)
                      · replace hj8 := bif_f hb23 hj8
                        refine St.gOff (dj := 136) rfl rfl rfl rfl ?_
                        refine St.p rfl rfl ?_
                        refine St.p rfl rfl ?_
                        refine St.done ?_
                        injection hj8 with hj8
                        subst hj8
                        refine St.thenN ?_
                        exact St.hereE () ⟨rfl, trivial⟩ (fun _ w => ((.d (.d (.d (.d (.d (.d (.d (.d (.d (.d (.d (.k .z)))))))))))) : Keep _ _).sat w)
                    · replace hj8 := bif_f hb22 hj8
                      refine St.gOff (dj := 129) rfl rfl rfl rfl ?_
                      refine St.gOff (dj := 129) rfl rfl rfl rfl ?_
                      refine St.gOff (dj := 129) rfl rfl rfl rfl ?_
                      refine St.gOn (dj := 126) rfl rfl ?_
                      refine St.p rfl rfl ?_
                      refine St.gOn (dj := 122) rfl rfl ?_
                      iterate 3 refine St.p rfl rfl ?_
                      refine St.gOff (dj := 136) rfl rfl rfl rfl ?_
                      refine St.p rfl rfl ?_
                      refine St.p rfl rfl ?_
                      refine St.done ?_
                      injection hj8 with hj8
                      subst hj8
                      refine St.thenN ?_
                      exact St.hereE () ⟨rfl, trivial⟩ (fun _ w => ((.d (.d (.d (.d (.d (.d (.d (.d (.d (.d (.d (.k .z)))))))))))) : Keep _ _).sat w)
                · replace hj8 := bif_f hb20 hj8
                  refine St.gOff (dj := 122) rfl rfl rfl rfl ?_
                  refine St.gOff (dj := 122) rfl rfl rfl rfl ?_
                  refine St.gOff (dj := 122) rfl rfl rfl rfl ?_
                  refine St.gOff (dj := 122) rfl rfl rfl rfl ?_
                  refine St.gOff (dj := 126) rfl rfl rfl rfl ?_
                  refine St.gOff (dj := 126) rfl rfl rfl rfl ?_
                  refine St.gOff (dj := 126) rfl rfl rfl rfl ?_
                  refine St.gOff (dj := 129) rfl rfl rfl rfl ?_
                  refine St.gOff (dj := 129) rfl rfl rfl rfl ?_
                  refine St.gOff (dj := 129) rfl rfl rfl rfl ?_
                  refine St.gOff (dj := 126) rfl rfl rfl rfl ?_
                  refine St.gOff (dj := 122) rfl rfl rfl rfl ?_
                  refine St.p rfl rfl ?_
                  refine St.p rfl rfl ?_
                  refine St.gOff (dj := 136) rfl rfl rfl rfl ?_
                  refine St.p rfl rfl ?_
                  refine St.p rfl rfl ?_
                  refine St.done ?_
                  injection hj8 with hj8
                  subst hj8
                  refine St.thenN ?_
                  exact St.hereE () ⟨rfl, trivial⟩ (fun _ w => ((.d (.d (.d (.d (.d (.d (.d (.d (.d (.d (.d (.k .z)))))))))))) : Keep _ _).sat w)
              · rintro e10
                refine St.ret ?_
                repeat (first | refine St.thenR ?_ | refine St.blkR ?_)
                injection h with h
                subst h
                exact St.finR Tryd.results7 (.tmp rfl .nil) rfl [] ⟨rfl, rfl⟩ (fun _ w => ((.d .z) : Keep _ _).sat w)

end Go.Proofs.YtcekbbbjagfacaaDoor
