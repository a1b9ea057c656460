/-
  Models of functions of the program, and that the functions compute them.
  Conditions: none.
-/
import Derived.Test.YteaoblglgcpdnaaGen
namespace Go.Proofs.Yteaoblglgcpdnaa
open Go
set_option linter.unusedVariables false
set_option maxRecDepth 4000

theorem ent8 : Ent Try.prog 8 := ⟨_, Try.func8, by kernel_rfl, by kernel_rfl⟩

noncomputable def m_law31_ActivationDecides (codes : (List Int)) (sets : (List Int)) : Option Bool :=
  bnd (m_law31_awake) fun r1 => bif !r1 then (some false) else (bif decide ((sets.length : Int) > 300) then (some true) else (bnd (m_field_New codes 120) fun r2 => bnd (m_field_Codes_Plan r2) fun r3 => bnd (m_activation_Valid r3.2) fun r4 => bif (r4 != 0) then (bnd (m_activation_Stuck r3.2 sets) fun r5 => some (!r5)) else (bnd (m_activation_Order r3.2) fun r6 => bnd (m_activation_Reachable r3.2) fun r7 => bnd ((bif (r7.2 != 0) then (some true) else (bif (r6.2 != 0) then (bif (r6.2 != 41) then (some true) else (some ((r7.1.length : Int) == 0))) else (some ((r7.1.length : Int) == 0))) : Option Bool)) fun o1 => bif o1 then (some false) else (bnd (m_activation_Steps r3.2) fun r8 => bnd (loopM (τ := Bool ⊕ Int) (fun (s1 : Int × Int) => bif decide (s1.2 < (r8.length : Int)) then (bnd (elt r8 s1.2) fun x1 => bnd ((bif decide (x1 < 0) then (some true) else (some (decide (x1 > 7))) : Option Bool)) fun o4 => bif o4 then (some (.done (.inl false))) else (bnd (shlM .i64 1 (IntKind.wrap .u64 x1)) fun q1 => some (.next (iOr .i64 s1.1 q1, IntKind.wrap .i64 (s1.2 + 1))))) else (some (.done (.inr s1.1)))) (0, 0)) fun o2 => retOr o2 fun o3 => bnd (elt r7.1 (IntKind.wrap .i64 ((r7.1.length : Int) - 1))) fun x2 => bif !((x2 == o3) == (r6.2 == 0)) then (some false) else (bif (r6.2 == 0) then (bnd ((bnd (m_activation_Stuck r3.2 sets) fun r9 => bif !r9 then (bnd (m_activation_Stuck r3.2 r7.1) fun r10 => bif !r10 then (bnd (sub r7.1 0 (IntKind.wrap .i64 ((r7.1.length : Int) - 1))) fun l1 => bnd (m_activation_Stuck r3.2 l1) fun r11 => some (!r11)) else (some false)) else (some false) : Option Bool)) fun o5 => some o5) else (bnd (m_activation_Stuck r3.2 r7.1) fun r12 => some r12))))))

set_option maxHeartbeats 4000000 in
theorem c_law31_ActivationDecides {codes : (List Int)} {sets : (List Int)} {A1 : Option Addr} {c1 : Nat} {A2 : Option Addr} {c2 : Nat} {r : Bool} (h : m_law31_ActivationDecides codes sets = some r) :
    Fun Try.prog 8 [.slice A1 codes.length c1, .slice A2 sets.length c2] [.ro (SlL eu8 A1 c1 codes), .ro (SlL ei64 A2 c2 sets)] (Val (.bool r)) := by
  unfold m_law31_ActivationDecides at h
  refine Fun.intro Try.func8 rfl rfl rfl fun w R => ?_
  refine St.seq ?_
  refine St.region ?_
  refine St.p rfl rfl ?_
  refine St.done ?_
  refine St.thenN ?_
  refine St.prune (Γ' := [(0, _), (1, _)]) ⟨rfl, rfl, trivial⟩ (.k (.k .z)) ?_
  refine St.seq ?_
  refine St.seq ?_
  refine St.region ?_
  obtain ⟨r1, hr1, h⟩ := bnd_e h
  refine St.callV (c_law31_awake hr1) ent10 rfl rfl rfl rfl trivial ?_
  refine St.p rfl rfl ?_
  refine St.done ?_
  refine St.thenN ?_
  refine St.prune (Γ' := [(0, _), (1, _), (14, _)]) ⟨rfl, rfl, rfl, trivial⟩ (.k (.k .z)) ?_
  refine St.cond _ rfl (fun hb1 => ?_) (fun hb1 => ?_)
  · replace h := bif_t hb1 h
    refine St.seq ?_
    refine St.region ?_
    refine St.p rfl rfl ?_
    refine St.done ?_
    refine St.thenN ?_
    refine St.prune (Γ' := [(4, _)]) ⟨rfl, trivial⟩ (.d (.d .z)) ?_
    refine St.ret ?_
    repeat (first | refine St.thenR ?_ | refine St.blkR ?_)
    injection h with h
    subst h
    exact St.finR Try.results8 (.tmp rfl .nil) rfl [] ⟨rfl, rfl⟩ (fun _ w => (.z : Keep _ _).sat w)
  · replace h := bif_f hb1 h
    refine St.skip ?_
    refine St.thenN ?_
    refine St.prune (Γ' := [(0, _), (1, _)]) ⟨rfl, rfl, trivial⟩ (.k (.k .z)) ?_
    refine St.seq ?_
    refine St.seq ?_
    refine St.region ?_
    iterate 3 refine St.p rfl rfl ?_
    refine St.done ?_
    refine St.thenN ?_
    refine St.prune (Γ' := [(0, _), (1, _), (17, _)]) ⟨rfl, rfl, rfl, trivial⟩ (.k (.k .z)) ?_
    refine St.cond _ rfl (fun hb2 => ?_) (fun hb2 => ?_)
    · replace h := bif_t hb2 h
      refine St.seq ?_
      refine St.region ?_
      refine St.p rfl rfl ?_
      refine St.done ?_
      refine St.thenN ?_
      refine St.prune (Γ' := [(4, _)]) ⟨rfl, trivial⟩ (.d (.d .z)) ?_
      refine St.ret ?_
      repeat (first | refine St.thenR ?_ | refine St.blkR ?_)
      injection h with h
      subst h
      exact St.finR Try.results8 (.tmp rfl .nil) rfl [] ⟨rfl, rfl⟩ (fun _ w => (.z : Keep _ _).sat w)
    · replace h := bif_f hb2 h
      refine St.skip ?_
      refine St.thenN ?_
      refine St.prune (Γ' := [(0, _), (1, _)]) ⟨rfl, rfl, trivial⟩ (.k (.k .z)) ?_
      refine St.seq ?_
      refine St.region ?_
      refine St.p rfl rfl ?_
      obtain ⟨r2, hr2, h⟩ := bnd_e h
      refine St.call (c_field_New hr2) ent13 rfl rfl rfl (fun _ w => Sat.dup (G := [.ro (SlL eu8 A1 c1 codes)]) rfl ⟨(.head _), trivial⟩ w) ?_
      rintro _ _ ⟨g1, A3, c3, rfl, rfl⟩
      refine St.asrt (F' := .ro (SlL eu8 A3 c3 r2.L) :: .res (Box g1 69 [.slice A3 r2.L.length c3, .int .i64 r2.At]) :: .ro (SlL eu8 A1 c1 codes) :: .ro (SlL ei64 A2 c2 sets) :: R) (fun _ w => w) ?_
      obtain ⟨r3, hr3, h⟩ := bnd_e h
      refine St.call (c_field_Codes_Plan hr3) ent14 rfl rfl rfl (fun _ w => Sat.dup (G := [.ro (SlL eu8 A3 c3 r2.L)]) rfl ⟨(.tail _ (.head _)), trivial⟩ (w.front (.s .z))) ?_
      rintro _ _ ⟨A4, c4, A5, c5, A6, c6, A7, c7, rfl, rfl⟩
      refine St.asrt (F' := .ro (SlL eu8 A4 c4 r3.1.L) :: .ro (SlL e_Installed A5 c5 r3.2.Now) :: .ro (SlL e_Installed A6 c6 r3.2.Next) :: .ro (SlL e_Need A7 c7 r3.2.Needs) :: .res (Box g1 69 [.slice A4 r3.1.L.length c4, .int .i64 r3.1.At]) :: .ro (SlL eu8 A3 c3 r2.L) :: .ro (SlL eu8 A1 c1 codes) :: .ro (SlL ei64 A2 c2 sets) :: R) (fun _ w => w) ?_
      refine St.alloc rfl rfl fun g2 => ?_
      refine St.store 0 rfl rfl rfl rfl rfl rfl .z rfl ?_
      refine St.done ?_
      refine St.thenN ?_
      refine St.prune (Γ' := [(1, _), (5, _)]) ⟨rfl, rfl, trivial⟩ (.k (.d (.k (.k (.k (.d (.d (.d (.k .z))))))))) ?_
      refine St.seq ?_
      refine St.seq ?_
      refine St.region ?_
      refine St.loadB 0 rfl rfl (.head _) rfl rfl ?_
      obtain ⟨r4, hr4, h⟩ := bnd_e h
      refine St.callV (c_activation_Valid hr4) ent20 rfl rfl rfl rfl ⟨(.tail _ (.head _)), (.tail _ (.tail _ (.head _))), (.tail _ (.tail _ (.tail _ (.head _)))), trivial⟩ ?_
      refine St.p rfl rfl ?_
      refine St.done ?_
      refine St.thenN ?_
      refine St.prune (Γ' := [(1, _), (5, _), (23, _)]) ⟨rfl, rfl, rfl, trivial⟩ (.k (.k (.k (.k (.k .z))))) ?_
      refine St.cond _ rfl (fun hb3 => ?_) (fun hb3 => ?_)
      · replace h := bif_t hb3 h
        refine St.seq ?_
        refine St.region ?_
        refine St.loadB 0 rfl rfl (.head _) rfl rfl ?_
        refine St.p rfl rfl ?_
        obtain ⟨r5, hr5, h⟩ := bnd_e h
        refine St.callV (c_activation_Stuck hr5) ent12 rfl rfl rfl rfl ⟨(.tail _ (.head _)), (.tail _ (.tail _ (.head _))), (.tail _ (.tail _ (.tail _ (.head _)))), (.tail _ (.tail _ (.tail _ (.tail _ (.head _))))), trivial⟩ ?_
        refine St.p rfl rfl ?_
        refine St.p rfl rfl ?_
        refine St.done ?_
        refine St.thenN ?_
        refine St.prune (Γ' := [(4, _)]) ⟨rfl, trivial⟩ (.d (.d (.d (.d (.d .z))))) ?_
        refine St.ret ?_
        repeat (first | refine St.thenR ?_ | refine St.blkR ?_)
        injection h with h
        subst h
        exact St.finR Try.results8 (.tmp rfl .nil) rfl [] ⟨rfl, rfl⟩ (fun _ w => (.z : Keep _ _).sat w)
      · replace h := bif_f hb3 h
        refine St.skip ?_
        refine St.thenN ?_
        refine St.prune (Γ' := [(1, _), (5, _)]) ⟨rfl, rfl, trivial⟩ (.k (.k (.k (.k (.k .z))))) ?_
        refine St.seq ?_
        refine St.region ?_
        refine St.loadB 0 rfl rfl (.head _) rfl rfl ?_
        obtain ⟨r6, hr6, h⟩ := bnd_e h
        refine St.call (c_activation_Order hr6) ent11 rfl rfl rfl (fun _ w => Sat.dup (G := [.ro (SlL e_Installed A5 c5 r3.2.Now), .ro (SlL e_Installed A6 c6 r3.2.Next), .ro (SlL e_Need A7 c7 r3.2.Needs)]) rfl ⟨(.tail _ (.head _)), (.tail _ (.tail _ (.head _))), (.tail _ (.tail _ (.tail _ (.head _)))), trivial⟩ w) ?_
        rintro _ _ ⟨A8, c8, rfl, rfl⟩
        refine St.asrt (F' := .res (OwnL ei64 3 A8 c8 r6.1) :: .res (Box g2 29 [.slice A5 r3.2.Now.length c5, .slice A6 r3.2.Next.length c6, .slice A7 r3.2.Needs.length c7]) :: .ro (SlL e_Installed A5 c5 r3.2.Now) :: .ro (SlL e_Installed A6 c6 r3.2.Next) :: .ro (SlL e_Need A7 c7 r3.2.Needs) :: .ro (SlL ei64 A2 c2 sets) :: R) (fun _ w => w) ?_
        iterate 5 refine St.p rfl rfl ?_
        refine St.done ?_
        refine St.thenN ?_
        refine St.prune (Γ' := [(1, _), (5, _), (7, _)]) ⟨rfl, rfl, rfl, trivial⟩ (.d (.k (.k (.k (.k (.k .z)))))) ?_
        refine St.seq ?_
        refine St.region ?_
        refine St.loadB 0 rfl rfl (.head _) rfl rfl ?_
        obtain ⟨r7, hr7, h⟩ := bnd_e h
        refine St.call (c_activation_Reachable hr7) ent23 rfl rfl rfl (fun _ w => Sat.dup (G := [.ro (SlL e_Installed A5 c5 r3.2.Now), .ro (SlL e_Installed A6 c6 r3.2.Next), .ro (SlL e_Need A7 c7 r3.2.Needs)]) rfl ⟨(.tail _ (.head _)), (.tail _ (.tail _ (.head _))), (.tail _ (.tail _ (.tail _ (.head _)))), trivial⟩ w) ?_
        rintro _ _ ⟨A9, c9, rfl, rfl⟩
        refine St.asrt (F' := .res (OwnL ei64 3 A9 c9 r7.1) :: .res (Box g2 29 [.slice A5 r3.2.Now.length c5, .slice A6 r3.2.Next.length c6, .slice A7 r3.2.Needs.length c7]) :: .ro (SlL e_Installed A5 c5 r3.2.Now) :: .ro (SlL e_Installed A6 c6 r3.2.Next) :: .ro (SlL e_Need A7 c7 r3.2.Needs) :: .ro (SlL ei64 A2 c2 sets) :: R) (fun _ w => w) ?_
        iterate 5 refine St.p rfl rfl ?_
        refine St.done ?_
        refine St.thenN ?_
        refine St.prune (Γ' := [(1, _), (5, _), (7, _), (8, _), (9, _)]) ⟨rfl, rfl, rfl, rfl, rfl, trivial⟩ (.k (.k (.k (.k (.k (.k .z)))))) ?_
        refine St.seq ?_
        refine St.seq ?_
        obtain ⟨o1, hj1, h⟩ := bnd_e h
        refine St.cutE (fun (e1 : Unit) => [(1, .slice A2 sets.length c2), (5, .pointer (some ⟨g2, 0, none⟩)), (7, .int .i64 r6.2), (8, .slice A9 r7.1.length c9), (52, .bool o1)]) (fun e1 => .res (OwnL ei64 3 A9 c9 r7.1) :: .res (Box g2 29 [.slice A5 r3.2.Now.length c5, .slice A6 r3.2.Next.length c6, .slice A7 r3.2.Needs.length c7]) :: .ro (SlL e_Installed A5 c5 r3.2.Now) :: .ro (SlL e_Installed A6 c6 r3.2.Next) :: .ro (SlL e_Need A7 c7 r3.2.Needs) :: .ro (SlL ei64 A2 c2 sets) :: R) ?_ ?_
        · refine St.region ?_
          iterate 3 refine St.p rfl rfl ?_
          refine St.gSplit (dj := 40) _ rfl (fun hb4 => ?_) (fun hb4 => ?_)
          · replace hj1 := bif_t hb4 hj1
            refine St.gOff (dj := 40) rfl rfl rfl rfl ?_
            refine St.gOff (dj := 40) rfl rfl rfl rfl ?_
            refine St.gOff (dj := 40) rfl rfl rfl rfl ?_
            refine St.gOff (dj := 43) rfl rfl rfl rfl ?_
            refine St.gOff (dj := 43) rfl rfl rfl rfl ?_
            refine St.gOff (dj := 40) rfl rfl rfl rfl ?_
            refine St.p rfl rfl ?_
            refine St.p rfl rfl ?_
            refine St.gOff (dj := 48) rfl rfl rfl rfl ?_
            refine St.gOff (dj := 48) rfl rfl rfl rfl ?_
            refine St.gOff (dj := 48) rfl rfl rfl rfl ?_
            refine St.p rfl rfl ?_
            refine St.done ?_
            injection hj1 with hj1
            subst hj1
            refine St.thenN ?_
            exact St.hereE () ⟨rfl, rfl, rfl, rfl, rfl, trivial⟩ (fun _ w => ((.k (.k (.k (.k (.k (.k .z)))))) : Keep _ _).sat w)
          · replace hj1 := bif_f hb4 hj1
            refine St.gOn (dj := 40) rfl rfl ?_
            refine St.p rfl rfl ?_
            refine St.gOn (dj := 40) rfl rfl ?_
            refine St.p rfl rfl ?_
            refine St.gOn (dj := 40) rfl rfl ?_
            refine St.p rfl rfl ?_
            refine St.gSplit (dj := 43) _ rfl (fun hb5 => ?_) (fun hb5 => ?_)
            · replace hj1 := bif_t hb5 hj1
              refine St.gOn (dj := 43) rfl rfl ?_
              refine St.p rfl rfl ?_
              refine St.gOn (dj := 43) rfl rfl ?_
              refine St.p rfl rfl ?_
              refine St.gOn (dj := 40) rfl rfl ?_
              iterate 3 refine St.p rfl rfl ?_
              refine St.gSplit (dj := 48) _ rfl (fun hb6 => ?_) (fun hb6 => ?_)
              · replace hj1 := bif_t hb6 hj1
                refine St.gOff (dj := 48) rfl rfl rfl rfl ?_
                refine St.gOff (dj := 48) rfl rfl rfl rfl ?_
                refine St.gOff (dj := 48) rfl rfl rfl rfl ?_
                refine St.p rfl rfl ?_
                refine St.done ?_
                injection hj1 with hj1
                subst hj1
                refine St.thenN ?_
                exact St.hereE () ⟨rfl, rfl, rfl, rfl, rfl, trivial⟩ (fun _ w => ((.k (.k (.k (.k (.k (.k .z)))))) : Keep _ _).sat w)
              · replace hj1 := bif_f hb6 hj1
                refine St.gOn (dj := 48) rfl rfl ?_
                refine St.p rfl rfl ?_
                refine St.gOn (dj := 48) rfl rfl ?_
                refine St.p rfl rfl ?_
                refine St.gOn (dj := 48) rfl rfl ?_
                refine St.p rfl rfl ?_
                refine St.p rfl rfl ?_
                refine St.done ?_
                injection hj1 with hj1
                subst hj1
                refine St.thenN ?_
                exact St.hereE () ⟨rfl, rfl, rfl, rfl, rfl, trivial⟩ (fun _ w => ((.k (.k (.k (.k (.k (.k .z)))))) : Keep _ _).sat w)
            · replace hj1 := bif_f hb5 hj1
              refine St.gOff (dj := 43) rfl rfl rfl rfl ?_
              refine St.gOff (dj := 43) rfl rfl rfl rfl ?_
              refine St.gOn (dj := 40) rfl rfl ?_
              iterate 3 refine St.p rfl rfl ?_
              refine St.gOn (dj := 48) rfl rfl ?_
              refine St.p rfl rfl ?_
              refine St.gOn (dj := 48) rfl rfl ?_
              refine St.p rfl rfl ?_
              refine St.gOn (dj := 48) rfl rfl ?_
              refine St.p rfl rfl ?_
              refine St.p rfl rfl ?_
              refine St.done ?_
              injection hj1 with hj1
              subst hj1
              refine St.thenN ?_
              exact St.hereE () ⟨rfl, rfl, rfl, rfl, rfl, trivial⟩ (fun _ w => ((.k (.k (.k (.k (.k (.k .z)))))) : Keep _ _).sat w)
        · rintro e1
          refine St.cond _ rfl (fun hb7 => ?_) (fun hb7 => ?_)
          · replace h := bif_t hb7 h
            refine St.seq ?_
            refine St.region ?_
            refine St.p rfl rfl ?_
            refine St.done ?_
            refine St.thenN ?_
            refine St.prune (Γ' := [(4, _)]) ⟨rfl, trivial⟩ (.d (.d (.d (.d (.d (.d .z)))))) ?_
            refine St.ret ?_
            repeat (first | refine St.thenR ?_ | refine St.blkR ?_)
            injection h with h
            subst h
            exact St.finR Try.results8 (.tmp rfl .nil) rfl [] ⟨rfl, rfl⟩ (fun _ w => (.z : Keep _ _).sat w)
          · replace h := bif_f hb7 h
            refine St.skip ?_
            refine St.thenN ?_
            refine St.prune (Γ' := [(1, _), (5, _), (7, _), (8, _)]) ⟨rfl, rfl, rfl, rfl, trivial⟩ (.k (.k (.k (.k (.k (.k .z)))))) ?_
            refine St.seq ?_
            refine St.region ?_
            refine St.p rfl rfl ?_
            refine St.done ?_
            refine St.thenN ?_
            refine St.seq ?_
            refine St.seq ?_
            refine St.region ?_
            refine St.loadB 0 rfl rfl (.tail _ (.head _)) rfl rfl ?_
            obtain ⟨r8, hr8, h⟩ := bnd_e h
            refine St.call (c_activation_Steps hr8) ent19 rfl rfl rfl (fun _ w => Sat.dup (G := [.ro (SlL e_Installed A5 c5 r3.2.Now), .ro (SlL e_Installed A6 c6 r3.2.Next), .ro (SlL e_Need A7 c7 r3.2.Needs)]) rfl ⟨(.tail _ (.tail _ (.head _))), (.tail _ (.tail _ (.tail _ (.head _)))), (.tail _ (.tail _ (.tail _ (.tail _ (.head _))))), trivial⟩ w) ?_
            rintro _ _ ⟨A10, c10, rfl, rfl⟩
            refine St.asrt (F' := .res (OwnL ei64 3 A10 c10 r8) :: .res (OwnL ei64 3 A9 c9 r7.1) :: .res (Box g2 29 [.slice A5 r3.2.Now.length c5, .slice A6 r3.2.Next.length c6, .slice A7 r3.2.Needs.length c7]) :: .ro (SlL e_Installed A5 c5 r3.2.Now) :: .ro (SlL e_Installed A6 c6 r3.2.Next) :: .ro (SlL e_Need A7 c7 r3.2.Needs) :: .ro (SlL ei64 A2 c2 sets) :: R) (fun _ w => w) ?_
            refine St.p rfl rfl ?_
            refine St.p rfl rfl ?_
            refine St.done ?_
            refine St.thenN ?_
            refine St.prune (Γ' := [(1, _), (5, _), (7, _), (8, _), (10, _), (54, _), (55, _), (56, _)]) ⟨rfl, rfl, rfl, rfl, rfl, rfl, rfl, rfl, trivial⟩ (.k (.k (.k (.k (.k (.k (.k .z))))))) ?_
            obtain ⟨o2, hl1, h⟩ := bnd_e h
            refine St.cutI (fun (o3 : Int) (e3 : Unit) => [(1, .slice A2 sets.length c2), (5, .pointer (some ⟨g2, 0, none⟩)), (7, .int .i64 r6.2), (8, .slice A9 r7.1.length c9), (10, .int .i64 o3)]) (fun o3 e3 => .res (OwnL ei64 3 A9 c9 r7.1) :: .res (Box g2 29 [.slice A5 r3.2.Now.length c5, .slice A6 r3.2.Next.length c6, .slice A7 r3.2.Needs.length c7]) :: .ro (SlL e_Installed A5 c5 r3.2.Now) :: .ro (SlL e_Installed A6 c6 r3.2.Next) :: .ro (SlL e_Need A7 c7 r3.2.Needs) :: .ro (SlL ei64 A2 c2 sets) :: R) (fun o3 => o2 = .inr o3) ?_ ?_
            · refine St.block ?_
              refine St.loop hl1 (fun (s1 : Int × Int) (e2 : Unit) => [(1, .slice A2 sets.length c2), (5, .pointer (some ⟨g2, 0, none⟩)), (7, .int .i64 r6.2), (8, .slice A9 r7.1.length c9), (10, .int .i64 s1.1), (54, .slice A10 r8.length c10), (55, .int .i64 (r8.length : Int)), (56, .int .i64 s1.2)]) (fun s1 e2 => .res (OwnL ei64 3 A10 c10 r8) :: .res (OwnL ei64 3 A9 c9 r7.1) :: .res (Box g2 29 [.slice A5 r3.2.Now.length c5, .slice A6 r3.2.Next.length c6, .slice A7 r3.2.Needs.length c7]) :: .ro (SlL e_Installed A5 c5 r3.2.Now) :: .ro (SlL e_Installed A6 c6 r3.2.Next) :: .ro (SlL e_Need A7 c7 r3.2.Needs) :: .ro (SlL ei64 A2 c2 sets) :: R) (fun _ _ => True) () trivial ⟨rfl, rfl, rfl, rfl, rfl, rfl, rfl, rfl, trivial⟩ (fun _ w => ((.k (.k (.k (.k (.k (.k (.k .z))))))) : Keep _ _).sat w) ?_
              rintro s1 e2 - hit1
              obtain ⟨st1, hm1, hd1⟩ := iter_e hit1
              have h1 := hm1
              refine St.seq ?_
              refine St.region ?_
              refine St.p rfl rfl ?_
              refine St.done ?_
              refine St.thenN ?_
              refine St.seq ?_
              refine St.cond _ rfl (fun hb8 => ?_) (fun hb8 => ?_)
              · replace h1 := bif_t hb8 h1
                refine St.skip ?_
                refine St.thenN ?_
                refine St.prune (Γ' := [(1, _), (5, _), (7, _), (8, _), (10, _), (54, _), (55, _), (56, _)]) ⟨rfl, rfl, rfl, rfl, rfl, rfl, rfl, rfl, trivial⟩ (.k (.k (.k (.k (.k (.k (.k .z))))))) ?_
                refine St.seq ?_
                refine St.block ?_
                refine St.seq ?_
                refine St.region ?_
                obtain ⟨x1, hx1, h1⟩ := bnd_e h1
                refine St.ixO hx1 rfl rfl rfl (.head _) rfl rfl rfl rfl rfl fun g3 hA => ?_
                subst hA
                refine St.ldO 0 hx1 rfl rfl (.head _) rfl rfl ?_
                refine St.p rfl rfl ?_
                refine St.done ?_
                refine St.thenN ?_
                refine St.prune (Γ' := [(1, _), (5, _), (7, _), (8, _), (10, _), (12, _), (54, _), (55, _), (56, _)]) ⟨rfl, rfl, rfl, rfl, rfl, rfl, rfl, rfl, rfl, trivial⟩ (.k (.k (.k (.k (.k (.k (.k .z))))))) ?_
                refine St.seq ?_
                refine St.seq ?_
                obtain ⟨o4, hj2, h1⟩ := bnd_e h1
                refine St.cutE (fun (e4 : Unit) => [(1, .slice A2 sets.length c2), (5, .pointer (some ⟨g2, 0, none⟩)), (7, .int .i64 r6.2), (8, .slice A9 r7.1.length c9), (10, .int .i64 s1.1), (12, .int .i64 x1), (54, .slice (some ⟨g3, 0, none⟩) r8.length c10), (55, .int .i64 (r8.length : Int)), (56, .int .i64 s1.2), (65, .bool o4)]) (fun e4 => .res (OwnL ei64 3 (some ⟨g3, 0, none⟩) c10 r8) :: .res (OwnL ei64 3 A9 c9 r7.1) :: .res (Box g2 29 [.slice A5 r3.2.Now.length c5, .slice A6 r3.2.Next.length c6, .slice A7 r3.2.Needs.length c7]) :: .ro (SlL e_Installed A5 c5 r3.2.Now) :: .ro (SlL e_Installed A6 c6 r3.2.Next) :: .ro (SlL e_Need A7 c7 r3.2.Needs) :: .ro (SlL ei64 A2 c2 sets) :: R) ?_ ?_
                · refine St.region ?_
                  iterate 3 refine St.p rfl rfl ?_
                  refine St.gSplit (dj := 62) _ rfl (fun hb9 => ?_) (fun hb9 => ?_)
                  · replace hj2 := bif_t hb9 hj2
                    refine St.gOff (dj := 62) rfl rfl rfl rfl ?_
                    refine St.gOff (dj := 62) rfl rfl rfl rfl ?_
                    refine St.p rfl rfl ?_
                    refine St.done ?_
                    injection hj2 with hj2
                    subst hj2
                    refine St.thenN ?_
                    exact St.hereE () ⟨rfl, rfl, rfl, rfl, rfl, rfl, rfl, rfl, rfl, rfl, trivial⟩ (fun _ w => ((.k (.k (.k (.k (.k (.k (.k .z))))))) : Keep _ _).sat w)
                  · replace hj2 := bif_f hb9 hj2
                    refine St.gOn (dj := 62) rfl rfl ?_
                    refine St.p rfl rfl ?_
                    refine St.gOn (dj := 62) rfl rfl ?_
                    refine St.p rfl rfl ?_
                    refine St.p rfl rfl ?_
                    refine St.done ?_
                    injection hj2 with hj2
                    subst hj2
                    refine St.thenN ?_
                    exact St.hereE () ⟨rfl, rfl, rfl, rfl, rfl, rfl, rfl, rfl, rfl, rfl, trivial⟩ (fun _ w => ((.k (.k (.k (.k (.k (.k (.k .z))))))) : Keep _ _).sat w)
                · rintro e4
                  refine St.cond _ rfl (fun hb10 => ?_) (fun hb10 => ?_)
                  · replace h1 := bif_t hb10 h1
                    refine St.seq ?_
                    refine St.region ?_
                    refine St.p rfl rfl ?_
                    refine St.done ?_
                    refine St.thenN ?_
                    refine St.prune (Γ' := [(4, _)]) ⟨rfl, trivial⟩ (.d (.d (.d (.d (.d (.d (.d .z))))))) ?_
                    refine St.ret ?_
                    repeat (first | refine St.thenR ?_ | refine St.blkR ?_)
                    injection h1 with h1
                    subst h1
                    have ho := hd1 _ rfl
                    subst ho
                    have h : some _ = some _ := h
                    injection h with h
                    subst h
                    exact St.finR Try.results8 (.tmp rfl .nil) rfl [] ⟨rfl, rfl⟩ (fun _ w => (.z : Keep _ _).sat w)
                  · replace h1 := bif_f hb10 h1
                    refine St.skip ?_
                    refine St.thenN ?_
                    refine St.prune (Γ' := [(1, _), (5, _), (7, _), (8, _), (10, _), (12, _), (54, _), (55, _), (56, _)]) ⟨rfl, rfl, rfl, rfl, rfl, rfl, rfl, rfl, rfl, trivial⟩ (.k (.k (.k (.k (.k (.k (.k .z))))))) ?_
                    refine St.region ?_
                    iterate 3 refine St.p rfl rfl ?_
                    obtain ⟨q1, hq1, h1⟩ := bnd_e h1
                    refine St.shl rfl rfl rfl hq1 ?_
                    refine St.p rfl rfl ?_
                    refine St.p rfl rfl ?_
                    refine St.done ?_
                    refine St.blkN ?_
                    refine St.thenN ?_
                    refine St.prune (Γ' := [(1, _), (5, _), (7, _), (8, _), (10, _), (54, _), (55, _), (56, _)]) ⟨rfl, rfl, rfl, rfl, rfl, rfl, rfl, rfl, trivial⟩ (.k (.k (.k (.k (.k (.k (.k .z))))))) ?_
                    refine St.region ?_
                    refine St.p rfl rfl ?_
                    refine St.p rfl rfl ?_
                    refine St.done ?_
                    injection h1 with h1
                    subst h1
                    refine St.thenN ?_
                    exact St.again _ () hm1 trivial ⟨rfl, rfl, rfl, rfl, rfl, rfl, rfl, rfl, trivial⟩ (fun _ w => ((.k (.k (.k (.k (.k (.k (.k .z))))))) : Keep _ _).sat w)
              · replace h1 := bif_f hb8 h1
                refine St.exit ?_
                repeat (first | refine St.thenX ?_ | refine St.blkMiss rfl ?_)
                refine St.blkHit ?_
                injection h1 with h1
                subst h1
                have ho := hd1 _ rfl
                subst ho
                refine St.thenN ?_
                exact St.hereI s1.1 () rfl ⟨rfl, rfl, rfl, rfl, rfl, trivial⟩ (fun _ w => ((.d (.k (.k (.k (.k (.k (.k .z))))))) : Keep _ _).sat w)
            · rintro o3 e3 ho
              subst ho
              have h : _ = some _ := h
              refine St.seq ?_
              refine St.seq ?_
              refine St.region ?_
              iterate 4 refine St.p rfl rfl ?_
              obtain ⟨x2, hx2, h⟩ := bnd_e h
              refine St.ixO hx2 rfl rfl rfl (.head _) rfl rfl rfl rfl rfl fun g4 hA => ?_
              subst hA
              refine St.ldO 0 hx2 rfl rfl (.head _) rfl rfl ?_
              iterate 5 refine St.p rfl rfl ?_
              refine St.done ?_
              refine St.thenN ?_
              refine St.prune (Γ' := [(1, _), (5, _), (7, _), (8, _), (82, _)]) ⟨rfl, rfl, rfl, rfl, rfl, trivial⟩ (.k (.k (.k (.k (.k (.k .z)))))) ?_
              refine St.cond _ rfl (fun hb11 => ?_) (fun hb11 => ?_)
              · replace h := bif_t hb11 h
                refine St.seq ?_
                refine St.region ?_
                refine St.p rfl rfl ?_
                refine St.done ?_
                refine St.thenN ?_
                refine St.prune (Γ' := [(4, _)]) ⟨rfl, trivial⟩ (.d (.d (.d (.d (.d (.d .z)))))) ?_
                refine St.ret ?_
                repeat (first | refine St.thenR ?_ | refine St.blkR ?_)
                injection h with h
                subst h
                exact St.finR Try.results8 (.tmp rfl .nil) rfl [] ⟨rfl, rfl⟩ (fun _ w => (.z : Keep _ _).sat w)
              · replace h := bif_f hb11 h
                refine St.skip ?_
                refine St.thenN ?_
                refine St.prune (Γ' := [(1, _), (5, _), (7, _), (8, _)]) ⟨rfl, rfl, rfl, rfl, trivial⟩ (.k (.k (.k (.k (.k (.k .z)))))) ?_
                refine St.seq ?_
                refine St.seq ?_
                refine St.region ?_
                refine St.p rfl rfl ?_
                refine St.p rfl rfl ?_
                refine St.done ?_
                refine St.thenN ?_
                refine St.prune (Γ' := [(1, _), (5, _), (8, _), (84, _)]) ⟨rfl, rfl, rfl, rfl, trivial⟩ (.k (.k (.k (.k (.k (.k .z)))))) ?_
                refine St.cond _ rfl (fun hb12 => ?_) (fun hb12 => ?_)
                · replace h := bif_t hb12 h
                  refine St.seq ?_
                  obtain ⟨o5, hj3, h⟩ := bnd_e h
                  refine St.cutE (fun (e5 : Unit) => [(4, .bool o5)]) (fun e5 => R) ?_ ?_
                  · refine St.regionF mixed (by kernel_rfl) ?_
                    refine St.loadB 0 rfl rfl (.tail _ (.head _)) rfl rfl ?_
                    refine St.p rfl rfl ?_
                    obtain ⟨r9, hr9, hj3⟩ := bnd_e hj3
                    refine St.callV (c_activation_Stuck hr9) ent12 rfl rfl rfl rfl ⟨(.tail _ (.tail _ (.head _))), (.tail _ (.tail _ (.tail _ (.head _)))), (.tail _ (.tail _ (.tail _ (.tail _ (.head _))))), (.tail _ (.tail _ (.tail _ (.tail _ (.tail _ (.head _)))))), trivial⟩ ?_
                    refine St.p rfl rfl ?_
                    refine St.p rfl rfl ?_
                    refine St.gSplit (dj := 89) _ rfl (fun hb13 => ?_) (fun hb13 => ?_)
                    · replace hj3 := bif_t hb13 hj3
                      refine St.gOn (dj := 89) rfl rfl ?_
                      refine St.loadB 0 rfl rfl (.tail _ (.head _)) rfl rfl ?_
                      refine St.gOn (dj := 89) rfl rfl ?_
                      refine St.p rfl rfl ?_
                      refine St.gOn (dj := 89) rfl rfl ?_
                      refine St.asrt (fun _ w => (w.front .z).meltL) ?_
                      obtain ⟨r10, hr10, hj3⟩ := bnd_e hj3
                      refine St.callV (c_activation_Stuck hr10) ent12 rfl rfl rfl rfl ⟨(.tail _ (.tail _ (.head _))), (.tail _ (.tail _ (.tail _ (.head _)))), (.tail _ (.tail _ (.tail _ (.tail _ (.head _))))), (.head _), trivial⟩ ?_
                      refine St.gOn (dj := 89) rfl rfl ?_
                      iterate 3 refine St.p rfl rfl ?_
                      refine St.gSplit (dj := 95) _ rfl (fun hb14 => ?_) (fun hb14 => ?_)
                      · replace hj3 := bif_t hb14 hj3
                        refine St.gOn (dj := 95) rfl rfl ?_
                        refine St.loadB 0 rfl rfl (.tail _ (.head _)) rfl rfl ?_
                        refine St.gOn (dj := 95) rfl rfl ?_
                        refine St.p rfl rfl ?_
                        refine St.gOn (dj := 95) rfl rfl ?_
                        refine St.p rfl rfl ?_
                        refine St.gOn (dj := 95) rfl rfl ?_
                        refine St.p rfl rfl ?_
                        refine St.gOn (dj := 95) rfl rfl ?_
                        refine St.p rfl rfl ?_
                        refine St.gOn (dj := 95) rfl rfl ?_
                        obtain ⟨l1, hl1, hj3⟩ := bnd_e hj3
                        refine St.sub (E := (cod ei64)) rfl rfl (.head _) rfl rfl rfl rfl rfl rfl rfl hl1 fun A11 c11 => ?_
                        refine St.gOn (dj := 95) rfl rfl ?_
                        obtain ⟨r11, hr11, hj3⟩ := bnd_e hj3
                        refine St.callV (c_activation_Stuck hr11) ent12 rfl rfl rfl rfl ⟨(.tail _ (.tail _ (.tail _ (.head _)))), (.tail _ (.tail _ (.tail _ (.tail _ (.head _))))), (.tail _ (.tail _ (.tail _ (.tail _ (.tail _ (.head _)))))), (.head _), trivial⟩ ?_
                        refine St.gOn (dj := 95) rfl rfl ?_
                        iterate 3 refine St.p rfl rfl ?_
                        refine St.doneQ ?_
                        injection hj3 with hj3
                        subst hj3
                        refine St.thenN ?_
                        exact St.hereE () ⟨rfl, trivial⟩ (fun _ w => ((.d (.d (.d (.d (.d (.d (.d .z))))))) : Keep _ _).sat w)
                      · replace hj3 := bif_f hb14 hj3
                        refine St.gOff (dj := 95) rfl rfl rfl rfl ?_
                        refine St.gOff (dj := 95) rfl rfl rfl rfl ?_
                        refine St.gOff (dj := 95) rfl rfl rfl rfl ?_
                        refine St.gOff (dj := 95) rfl rfl rfl rfl ?_
                        refine St.gOff (dj := 95) rfl rfl rfl rfl ?_
                        refine St.gOff (dj := 95) rfl rfl rfl rfl ?_
                        refine St.gOff (dj := 95) rfl rfl rfl rfl ?_
                        refine St.gOff (dj := 95) rfl rfl rfl rfl ?_
                        refine St.p rfl rfl ?_
                        refine St.p rfl rfl ?_
                        refine St.doneQ ?_
                        injection hj3 with hj3
                        subst hj3
                        refine St.thenN ?_
                        exact St.hereE () ⟨rfl, trivial⟩ (fun _ w => ((.d (.d (.d (.d (.d (.d .z)))))) : Keep _ _).sat w)
                    · replace hj3 := bif_f hb13 hj3
                      refine St.gOff (dj := 89) rfl rfl rfl rfl ?_
                      refine St.gOff (dj := 89) rfl rfl rfl rfl ?_
                      refine St.gOff (dj := 89) rfl rfl rfl rfl ?_
                      refine St.gOff (dj := 89) rfl rfl rfl rfl ?_
                      refine St.p rfl rfl ?_
                      refine St.p rfl rfl ?_
                      refine St.gOff (dj := 95) rfl rfl rfl rfl ?_
                      refine St.gOff (dj := 95) rfl rfl rfl rfl ?_
                      refine St.gOff (dj := 95) rfl rfl rfl rfl ?_
                      refine St.gOff (dj := 95) rfl rfl rfl rfl ?_
                      refine St.gOff (dj := 95) rfl rfl rfl rfl ?_
                      refine St.gOff (dj := 95) rfl rfl rfl rfl ?_
                      refine St.gOff (dj := 95) rfl rfl rfl rfl ?_
                      refine St.gOff (dj := 95) rfl rfl rfl rfl ?_
                      refine St.p rfl rfl ?_
                      refine St.p rfl rfl ?_
                      refine St.doneQ ?_
                      injection hj3 with hj3
                      subst hj3
                      refine St.thenN ?_
                      exact St.hereE () ⟨rfl, trivial⟩ (fun _ w => ((.d (.d (.d (.d (.d (.d .z)))))) : Keep _ _).sat w)
                  · rintro e5
                    refine St.ret ?_
                    repeat (first | refine St.thenR ?_ | refine St.blkR ?_)
                    injection h with h
                    subst h
                    exact St.finR Try.results8 (.tmp rfl .nil) rfl [] ⟨rfl, rfl⟩ (fun _ w => (.z : Keep _ _).sat w)
                · replace h := bif_f hb12 h
                  refine St.skip ?_
                  refine St.thenN ?_
                  refine St.prune (Γ' := [(5, _), (8, _)]) ⟨rfl, rfl, trivial⟩ (.k (.k (.k (.k (.k (.d .z)))))) ?_
                  refine St.seq ?_
                  refine St.region ?_
                  refine St.loadB 0 rfl rfl (.tail _ (.head _)) rfl rfl ?_
                  refine St.p rfl rfl ?_
                  refine St.asrt (fun _ w => (w.front .z).meltL) ?_
                  obtain ⟨r12, hr12, h⟩ := bnd_e h
                  refine St.callV (c_activation_Stuck hr12) ent12 rfl rfl rfl rfl ⟨(.tail _ (.tail _ (.head _))), (.tail _ (.tail _ (.tail _ (.head _)))), (.tail _ (.tail _ (.tail _ (.tail _ (.head _))))), (.head _), trivial⟩ ?_
                  refine St.p rfl rfl ?_
                  refine St.done ?_
                  refine St.thenN ?_
                  refine St.prune (Γ' := [(4, _)]) ⟨rfl, trivial⟩ (.d (.d (.d (.d (.d .z))))) ?_
                  refine St.ret ?_
                  repeat (first | refine St.thenR ?_ | refine St.blkR ?_)
                  injection h with h
                  subst h
                  exact St.finR Try.results8 (.tmp rfl .nil) rfl [] ⟨rfl, rfl⟩ (fun _ w => (.z : Keep _ _).sat w)

end Go.Proofs.Yteaoblglgcpdnaa
