/-
  Models of functions of the program, and that the functions compute them.
  Conditions: none.
-/
import Derived.Test.YteaoblglgcpdnaaGen
namespace Go.Proofs.Yteaoblglgcpdnaa
open Go
set_option linter.unusedVariables false
set_option maxRecDepth 4000

theorem ent6 : Ent Try.prog 6 := ⟨_, Try.func6, by kernel_rfl, by kernel_rfl⟩

noncomputable def m_law31_ActivationLeast (codes : (List Int)) (other : (List Int)) : Option Bool :=
  bnd (m_law31_awake) fun r1 => bif !r1 then (some false) else (bnd (m_field_New codes 120) fun r2 => bnd (m_field_Codes_Plan r2) fun r3 => bnd (m_activation_Order r3.2) fun r4 => bif (r4.2 != 0) then (bnd ((bif ((r4.1.length : Int) == 0) then (bif (r4.2 == 41) then (some true) else (bnd (m_activation_Valid r3.2) fun r5 => some (r4.2 == r5))) else (some false) : Option Bool)) fun o1 => some o1) else (bnd (m_activation_Check r3.2 r4.1) fun r6 => bnd (m_activation_State r3.2 r4.1) fun r7 => bnd ((bif (r6.2 != 0) then (some true) else (bif (r7.2 != 0) then (some true) else (bif (r6.1 != (-1)) then (some true) else (bnd (m_ref27_Same r7.1 r3.2.Next) fun r8 => bif !r8 then (some true) else (bnd (m_activation_Steps r3.2) fun r9 => some ((r4.1.length : Int) != (r9.length : Int)))))) : Option Bool)) fun o2 => bif o2 then (some false) else (bnd (m_activation_Steps r3.2) fun r10 => bnd (loopM (τ := List Int) (fun (s1 : List Int × List Int × Int) => bif decide ((s1.2.1.length : Int) > 0) then (bnd ((bif decide (s1.2.2 < (other.length : Int)) then (bnd (elt other s1.2.2) fun x1 => bnd (remM (IntKind.wrap .i64 x1) (s1.2.1.length : Int)) fun q1 => some q1) else (some 0) : Option Int)) fun o4 => bnd (elt s1.2.1 o4) fun x2 => bnd (app 8 s1.1 [x2]) fun l1 => bnd (sub s1.2.1 0 o4) fun l2 => bnd (sub s1.2.1 (IntKind.wrap .i64 (o4 + 1)) (s1.2.1.length : Int)) fun l3 => bnd (app 8 ([]) l2) fun l4 => bnd (app 8 l4 l3) fun l5 => some (.next (l1, l5, IntKind.wrap .i64 (s1.2.2 + 1)))) else (some (.done s1.1))) ([], r10, 0)) fun o3 => bnd (loopM (τ := Bool ⊕ Unit) (fun (s2 : Int) => bif decide (s2 < (r4.1.length : Int)) then (bnd (elt o3 s2) fun x3 => bnd (elt r4.1 s2) fun x4 => bif decide (x3 > x4) then (some (.done (.inl true))) else (bif decide (x3 < x4) then (bnd (m_activation_Check r3.2 o3) fun r11 => bnd ((bif (r11.2 == 0) then (some (decide (r11.1 > 0))) else (some false) : Option Bool)) fun o7 => some (.done (.inl o7))) else (some (.next (IntKind.wrap .i64 (s2 + 1)))))) else (some (.done (.inr ())))) 0) fun o5 => retOr o5 fun o6 => some true)))

set_option maxHeartbeats 4000000 in
theorem c_law31_ActivationLeast {codes : (List Int)} {other : (List Int)} {A1 : Option Addr} {c1 : Nat} {A2 : Option Addr} {c2 : Nat} {r : Bool} (h : m_law31_ActivationLeast codes other = some r) :
    Fun Try.prog 6 [.slice A1 codes.length c1, .slice A2 other.length c2] [.ro (SlL eu8 A1 c1 codes), .ro (SlL eu8 A2 c2 other)] (Val (.bool r)) := by
  unfold m_law31_ActivationLeast at h
  refine Fun.intro Try.func6 rfl rfl rfl fun w R => ?_
  refine St.seq ?_
  refine St.region ?_
  refine St.p rfl rfl ?_
  refine St.done ?_
  refine St.thenN ?_
  refine St.prune (Γ' := [(0, _), (1, _)]) ⟨rfl, rfl, trivial⟩ (.k (.k .z)) ?_
  refine St.seq ?_
  refine St.seq ?_
  refine St.region ?_
  obtain ⟨r1, hr1, h⟩ := bnd_e h
  refine St.callV (c_law31_awake hr1) ent10 rfl rfl rfl rfl trivial ?_
  refine St.p rfl rfl ?_
  refine St.done ?_
  refine St.thenN ?_
  refine St.prune (Γ' := [(0, _), (1, _), (21, _)]) ⟨rfl, rfl, rfl, trivial⟩ (.k (.k .z)) ?_
  refine St.cond _ rfl (fun hb1 => ?_) (fun hb1 => ?_)
  · replace h := bif_t hb1 h
    refine St.seq ?_
    refine St.region ?_
    refine St.p rfl rfl ?_
    refine St.done ?_
    refine St.thenN ?_
    refine St.prune (Γ' := [(4, _)]) ⟨rfl, trivial⟩ (.d (.d .z)) ?_
    refine St.ret ?_
    repeat (first | refine St.thenR ?_ | refine St.blkR ?_)
    injection h with h
    subst h
    exact St.finR Try.results6 (.tmp rfl .nil) rfl [] ⟨rfl, rfl⟩ (fun _ w => (.z : Keep _ _).sat w)
  · replace h := bif_f hb1 h
    refine St.skip ?_
    refine St.thenN ?_
    refine St.prune (Γ' := [(0, _), (1, _)]) ⟨rfl, rfl, trivial⟩ (.k (.k .z)) ?_
    refine St.seq ?_
    refine St.region ?_
    refine St.p rfl rfl ?_
    obtain ⟨r2, hr2, h⟩ := bnd_e h
    refine St.call (c_field_New hr2) ent13 rfl rfl rfl (fun _ w => Sat.dup (G := [.ro (SlL eu8 A1 c1 codes)]) rfl ⟨(.head _), trivial⟩ w) ?_
    rintro _ _ ⟨g1, A3, c3, rfl, rfl⟩
    refine St.asrt (F' := .ro (SlL eu8 A3 c3 r2.L) :: .res (Box g1 69 [.slice A3 r2.L.length c3, .int .i64 r2.At]) :: .ro (SlL eu8 A1 c1 codes) :: .ro (SlL eu8 A2 c2 other) :: R) (fun _ w => w) ?_
    refine St.p rfl rfl ?_
    refine St.done ?_
    refine St.thenN ?_
    refine St.prune (Γ' := [(1, _), (5, _)]) ⟨rfl, rfl, trivial⟩ (.k (.k (.d (.k .z)))) ?_
    refine St.seq ?_
    refine St.region ?_
    refine St.p rfl rfl ?_
    obtain ⟨r3, hr3, h⟩ := bnd_e h
    refine St.call (c_field_Codes_Plan hr3) ent14 rfl rfl rfl (fun _ w => Sat.dup (G := [.ro (SlL eu8 A3 c3 r2.L)]) rfl ⟨(.tail _ (.head _)), trivial⟩ (w.front (.s .z))) ?_
    rintro _ _ ⟨A4, c4, A5, c5, A6, c6, A7, c7, rfl, rfl⟩
    refine St.asrt (F' := .ro (SlL eu8 A4 c4 r3.1.L) :: .ro (SlL e_Installed A5 c5 r3.2.Now) :: .ro (SlL e_Installed A6 c6 r3.2.Next) :: .ro (SlL e_Need A7 c7 r3.2.Needs) :: .res (Box g1 69 [.slice A4 r3.1.L.length c4, .int .i64 r3.1.At]) :: .ro (SlL eu8 A3 c3 r2.L) :: .ro (SlL eu8 A2 c2 other) :: R) (fun _ w => w) ?_
    refine St.alloc rfl rfl fun g2 => ?_
    refine St.store 0 rfl rfl rfl rfl rfl rfl .z rfl ?_
    refine St.done ?_
    refine St.thenN ?_
    refine St.prune (Γ' := [(1, _), (6, _)]) ⟨rfl, rfl, trivial⟩ (.k (.d (.k (.k (.k (.d (.d (.k .z)))))))) ?_
    refine St.seq ?_
    refine St.region ?_
    refine St.loadB 0 rfl rfl (.head _) rfl rfl ?_
    obtain ⟨r4, hr4, h⟩ := bnd_e h
    refine St.call (c_activation_Order hr4) ent11 rfl rfl rfl (fun _ w => Sat.dup (G := [.ro (SlL e_Installed A5 c5 r3.2.Now), .ro (SlL e_Installed A6 c6 r3.2.Next), .ro (SlL e_Need A7 c7 r3.2.Needs)]) rfl ⟨(.tail _ (.head _)), (.tail _ (.tail _ (.head _))), (.tail _ (.tail _ (.tail _ (.head _)))), trivial⟩ w) ?_
    rintro _ _ ⟨A8, c8, rfl, rfl⟩
    refine St.asrt (F' := .res (OwnL ei64 3 A8 c8 r4.1) :: .res (Box g2 29 [.slice A5 r3.2.Now.length c5, .slice A6 r3.2.Next.length c6, .slice A7 r3.2.Needs.length c7]) :: .ro (SlL e_Installed A5 c5 r3.2.Now) :: .ro (SlL e_Installed A6 c6 r3.2.Next) :: .ro (SlL e_Need A7 c7 r3.2.Needs) :: .ro (SlL eu8 A2 c2 other) :: R) (fun _ w => w) ?_
    iterate 5 refine St.p rfl rfl ?_
    refine St.done ?_
    refine St.thenN ?_
    refine St.prune (Γ' := [(1, _), (6, _), (7, _), (8, _)]) ⟨rfl, rfl, rfl, rfl, trivial⟩ (.k (.k (.k (.k (.k (.k .z)))))) ?_
    refine St.seq ?_
    refine St.seq ?_
    refine St.region ?_
    refine St.p rfl rfl ?_
    refine St.p rfl rfl ?_
    refine St.done ?_
    refine St.thenN ?_
    refine St.prune (Γ' := [(1, _), (6, _), (7, _), (8, _), (32, _)]) ⟨rfl, rfl, rfl, rfl, rfl, trivial⟩ (.k (.k (.k (.k (.k (.k .z)))))) ?_
    refine St.cond _ rfl (fun hb2 => ?_) (fun hb2 => ?_)
    · replace h := bif_t hb2 h
      refine St.seq ?_
      obtain ⟨o1, hj1, h⟩ := bnd_e h
      refine St.cutE (fun (e1 : Unit) => [(4, .bool o1)]) (fun e1 => R) ?_ ?_
      · refine St.region ?_
        iterate 4 refine St.p rfl rfl ?_
        refine St.gSplit (dj := 36) _ rfl (fun hb3 => ?_) (fun hb3 => ?_)
        · replace hj1 := bif_t hb3 hj1
          refine St.gOn (dj := 36) rfl rfl ?_
          refine St.p rfl rfl ?_
          refine St.gOn (dj := 36) rfl rfl ?_
          refine St.p rfl rfl ?_
          refine St.gOn (dj := 36) rfl rfl ?_
          refine St.p rfl rfl ?_
          refine St.gSplit (dj := 39) _ rfl (fun hb4 => ?_) (fun hb4 => ?_)
          · replace hj1 := bif_t hb4 hj1
            refine St.gOff (dj := 39) rfl rfl rfl rfl ?_
            refine St.gOff (dj := 39) rfl rfl rfl rfl ?_
            refine St.gOff (dj := 39) rfl rfl rfl rfl ?_
            refine St.gOff (dj := 39) rfl rfl rfl rfl ?_
            refine St.gOn (dj := 36) rfl rfl ?_
            iterate 3 refine St.p rfl rfl ?_
            refine St.done ?_
            injection hj1 with hj1
            subst hj1
            refine St.thenN ?_
            exact St.hereE () ⟨rfl, trivial⟩ (fun _ w => ((.d (.d (.d (.d (.d (.d .z)))))) : Keep _ _).sat w)
          · replace hj1 := bif_f hb4 hj1
            refine St.gOn (dj := 39) rfl rfl ?_
            refine St.p rfl rfl ?_
            refine St.gOn (dj := 39) rfl rfl ?_
            refine St.loadB 0 rfl rfl (.tail _ (.head _)) rfl rfl ?_
            refine St.gOn (dj := 39) rfl rfl ?_
            obtain ⟨r5, hr5, hj1⟩ := bnd_e hj1
            refine St.callV (c_activation_Valid hr5) ent20 rfl rfl rfl rfl ⟨(.tail _ (.tail _ (.head _))), (.tail _ (.tail _ (.tail _ (.head _)))), (.tail _ (.tail _ (.tail _ (.tail _ (.head _))))), trivial⟩ ?_
            refine St.gOn (dj := 39) rfl rfl ?_
            refine St.p rfl rfl ?_
            refine St.gOn (dj := 36) rfl rfl ?_
            iterate 3 refine St.p rfl rfl ?_
            refine St.done ?_
            injection hj1 with hj1
            subst hj1
            refine St.thenN ?_
            exact St.hereE () ⟨rfl, trivial⟩ (fun _ w => ((.d (.d (.d (.d (.d (.d .z)))))) : Keep _ _).sat w)
        · replace hj1 := bif_f hb3 hj1
          refine St.gOff (dj := 36) rfl rfl rfl rfl ?_
          refine St.gOff (dj := 36) rfl rfl rfl rfl ?_
          refine St.gOff (dj := 36) rfl rfl rfl rfl ?_
          refine St.gOff (dj := 39) rfl rfl rfl rfl ?_
          refine St.gOff (dj := 39) rfl rfl rfl rfl ?_
          refine St.gOff (dj := 39) rfl rfl rfl rfl ?_
          refine St.gOff (dj := 39) rfl rfl rfl rfl ?_
          refine St.gOff (dj := 36) rfl rfl rfl rfl ?_
          refine St.p rfl rfl ?_
          refine St.p rfl rfl ?_
          refine St.done ?_
          injection hj1 with hj1
          subst hj1
          refine St.thenN ?_
          exact St.hereE () ⟨rfl, trivial⟩ (fun _ w => ((.d (.d (.d (.d (.d (.d .z)))))) : Keep _ _).sat w)
      · rintro e1
        refine St.ret ?_
        repeat (first | refine St.thenR ?_ | refine St.blkR ?_)
        injection h with h
        subst h
        exact St.finR Try.results6 (.tmp rfl .nil) rfl [] ⟨rfl, rfl⟩ (fun _ w => (.z : Keep _ _).sat w)
    · replace h := bif_f hb2 h
      refine St.skip ?_
      refine St.thenN ?_
      refine St.prune (Γ' := [(1, _), (6, _), (7, _)]) ⟨rfl, rfl, rfl, trivial⟩ (.k (.k (.k (.k (.k (.k .z)))))) ?_
      refine St.seq ?_
      refine St.region ?_
      refine St.loadB 0 rfl rfl (.tail _ (.head _)) rfl rfl ?_
      refine St.p rfl rfl ?_
      refine St.asrt (fun _ w => (w.front .z).meltL) ?_
      obtain ⟨r6, hr6, h⟩ := bnd_e h
      refine St.callV (c_activation_Check hr6) ent15 rfl rfl rfl rfl ⟨(.tail _ (.tail _ (.head _))), (.tail _ (.tail _ (.tail _ (.head _)))), (.tail _ (.tail _ (.tail _ (.tail _ (.head _))))), (.head _), trivial⟩ ?_
      iterate 5 refine St.p rfl rfl ?_
      refine St.done ?_
      refine St.thenN ?_
      refine St.prune (Γ' := [(1, _), (6, _), (7, _), (9, _), (10, _)]) ⟨rfl, rfl, rfl, rfl, rfl, trivial⟩ (.k (.k (.k (.k (.k (.k .z)))))) ?_
      refine St.seq ?_
      refine St.region ?_
      refine St.loadB 0 rfl rfl (.tail _ (.head _)) rfl rfl ?_
      refine St.p rfl rfl ?_
      obtain ⟨r7, hr7, h⟩ := bnd_e h
      refine St.call (c_activation_State hr7) ent16 rfl rfl rfl (fun _ w => Sat.dup (G := [.ro (SlL e_Installed A5 c5 r3.2.Now), .ro (SlL e_Installed A6 c6 r3.2.Next), .ro (SlL e_Need A7 c7 r3.2.Needs), .ro (SlL ei64 A8 c8 r4.1)]) rfl ⟨(.tail _ (.tail _ (.head _))), (.tail _ (.tail _ (.tail _ (.head _)))), (.tail _ (.tail _ (.tail _ (.tail _ (.head _))))), (.head _), trivial⟩ w) ?_
      rintro _ _ ⟨A9, c9, rfl, rfl⟩
      refine St.asrt (F' := .res (OwnL e_Installed 31 A9 c9 r7.1) :: .ro (SlL ei64 A8 c8 r4.1) :: .res (Box g2 29 [.slice A5 r3.2.Now.length c5, .slice A6 r3.2.Next.length c6, .slice A7 r3.2.Needs.length c7]) :: .ro (SlL e_Installed A5 c5 r3.2.Now) :: .ro (SlL e_Installed A6 c6 r3.2.Next) :: .ro (SlL e_Need A7 c7 r3.2.Needs) :: .ro (SlL eu8 A2 c2 other) :: R) (fun _ w => w) ?_
      iterate 5 refine St.p rfl rfl ?_
      refine St.done ?_
      refine St.thenN ?_
      refine St.prune (Γ' := [(1, _), (6, _), (7, _), (9, _), (10, _), (11, _), (12, _)]) ⟨rfl, rfl, rfl, rfl, rfl, rfl, rfl, trivial⟩ (.k (.k (.k (.k (.k (.k (.k .z))))))) ?_
      refine St.seq ?_
      refine St.seq ?_
      obtain ⟨o2, hj2, h⟩ := bnd_e h
      refine St.cutE (fun (e2 : Unit) => [(1, .slice A2 other.length c2), (6, .pointer (some ⟨g2, 0, none⟩)), (7, .slice A8 r4.1.length c8), (82, .bool o2)]) (fun e2 => .ro (SlL ei64 A8 c8 r4.1) :: .res (Box g2 29 [.slice A5 r3.2.Now.length c5, .slice A6 r3.2.Next.length c6, .slice A7 r3.2.Needs.length c7]) :: .ro (SlL e_Installed A5 c5 r3.2.Now) :: .ro (SlL e_Installed A6 c6 r3.2.Next) :: .ro (SlL e_Need A7 c7 r3.2.Needs) :: .ro (SlL eu8 A2 c2 other) :: R) ?_ ?_
      · refine St.region ?_
        iterate 3 refine St.p rfl rfl ?_
        refine St.gSplit (dj := 60) _ rfl (fun hb5 => ?_) (fun hb5 => ?_)
        · replace hj2 := bif_t hb5 hj2
          refine St.gOff (dj := 60) rfl rfl rfl rfl ?_
          refine St.gOff (dj := 60) rfl rfl rfl rfl ?_
          refine St.p rfl rfl ?_
          refine St.p rfl rfl ?_
          refine St.gOff (dj := 64) rfl rfl rfl rfl ?_
          refine St.gOff (dj := 64) rfl rfl rfl rfl ?_
          refine St.p rfl rfl ?_
          refine St.p rfl rfl ?_
          refine St.gOff (dj := 68) rfl rfl rfl rfl ?_
          refine St.gOff (dj := 68) rfl rfl rfl rfl ?_
          refine St.gOff (dj := 68) rfl rfl rfl rfl ?_
          refine St.gOff (dj := 68) rfl rfl rfl rfl ?_
          refine St.gOff (dj := 68) rfl rfl rfl rfl ?_
          refine St.p rfl rfl ?_
          refine St.p rfl rfl ?_
          refine St.gOff (dj := 75) rfl rfl rfl rfl ?_
          refine St.gOff (dj := 75) rfl rfl rfl rfl ?_
          refine St.gOff (dj := 75) rfl rfl rfl rfl ?_
          refine St.gOff (dj := 75) rfl rfl rfl rfl ?_
          refine St.gOff (dj := 75) rfl rfl rfl rfl ?_
          refine St.gOff (dj := 75) rfl rfl rfl rfl ?_
          refine St.p rfl rfl ?_
          refine St.done ?_
          injection hj2 with hj2
          subst hj2
          refine St.thenN ?_
          exact St.hereE () ⟨rfl, rfl, rfl, rfl, trivial⟩ (fun _ w => ((.d (.k (.k (.k (.k (.k (.k .z))))))) : Keep _ _).sat w)
        · replace hj2 := bif_f hb5 hj2
          refine St.gOn (dj := 60) rfl rfl ?_
          refine St.p rfl rfl ?_
          refine St.gOn (dj := 60) rfl rfl ?_
          iterate 3 refine St.p rfl rfl ?_
          refine St.gSplit (dj := 64) _ rfl (fun hb6 => ?_) (fun hb6 => ?_)
          · replace hj2 := bif_t hb6 hj2
            refine St.gOff (dj := 64) rfl rfl rfl rfl ?_
            refine St.gOff (dj := 64) rfl rfl rfl rfl ?_
            refine St.p rfl rfl ?_
            refine St.p rfl rfl ?_
            refine St.gOff (dj := 68) rfl rfl rfl rfl ?_
            refine St.gOff (dj := 68) rfl rfl rfl rfl ?_
            refine St.gOff (dj := 68) rfl rfl rfl rfl ?_
            refine St.gOff (dj := 68) rfl rfl rfl rfl ?_
            refine St.gOff (dj := 68) rfl rfl rfl rfl ?_
            refine St.p rfl rfl ?_
            refine St.p rfl rfl ?_
            refine St.gOff (dj := 75) rfl rfl rfl rfl ?_
            refine St.gOff (dj := 75) rfl rfl rfl rfl ?_
            refine St.gOff (dj := 75) rfl rfl rfl rfl ?_
            refine St.gOff (dj := 75) rfl rfl rfl rfl ?_
            refine St.gOff (dj := 75) rfl rfl rfl rfl ?_
            refine St.gOff (dj := 75) rfl rfl rfl rfl ?_
            refine St.p rfl rfl ?_
            refine St.done ?_
            injection hj2 with hj2
            subst hj2
            refine St.thenN ?_
            exact St.hereE () ⟨rfl, rfl, rfl, rfl, trivial⟩ (fun _ w => ((.d (.k (.k (.k (.k (.k (.k .z))))))) : Keep _ _).sat w)
          · replace hj2 := bif_f hb6 hj2
            refine St.gOn (dj := 64) rfl rfl ?_
            refine St.p rfl rfl ?_
            refine St.gOn (dj := 64) rfl rfl ?_
            iterate 3 refine St.p rfl rfl ?_
            refine St.gSplit (dj := 68) _ rfl (fun hb7 => ?_) (fun hb7 => ?_)
            · replace hj2 := bif_t hb7 hj2
              refine St.gOff (dj := 68) rfl rfl rfl rfl ?_
              refine St.gOff (dj := 68) rfl rfl rfl rfl ?_
              refine St.gOff (dj := 68) rfl rfl rfl rfl ?_
              refine St.gOff (dj := 68) rfl rfl rfl rfl ?_
              refine St.gOff (dj := 68) rfl rfl rfl rfl ?_
              refine St.p rfl rfl ?_
              refine St.p rfl rfl ?_
              refine St.gOff (dj := 75) rfl rfl rfl rfl ?_
              refine St.gOff (dj := 75) rfl rfl rfl rfl ?_
              refine St.gOff (dj := 75) rfl rfl rfl rfl ?_
              refine St.gOff (dj := 75) rfl rfl rfl rfl ?_
              refine St.gOff (dj := 75) rfl rfl rfl rfl ?_
              refine St.gOff (dj := 75) rfl rfl rfl rfl ?_
              refine St.p rfl rfl ?_
              refine St.done ?_
              injection hj2 with hj2
              subst hj2
              refine St.thenN ?_
              exact St.hereE () ⟨rfl, rfl, rfl, rfl, trivial⟩ (fun _ w => ((.d (.k (.k (.k (.k (.k (.k .z))))))) : Keep _ _).sat w)
            · replace hj2 := bif_f hb7 hj2
              refine St.gOn (dj := 68) rfl rfl ?_
              refine St.p rfl rfl ?_
              refine St.gOn (dj := 68) rfl rfl ?_
              refine St.p rfl rfl ?_
              refine St.gOn (dj := 68) rfl rfl ?_
              refine St.loadB 1 rfl rfl (.tail _ (.tail _ (.head _))) rfl rfl ?_
              refine St.gOn (dj := 68) rfl rfl ?_
              refine St.asrt (fun _ w => (w.front .z).meltL) ?_
              obtain ⟨r8, hr8, hj2⟩ := bnd_e hj2
              refine St.callV (c_ref27_Same hr8) ent21 rfl rfl rfl rfl ⟨(.head _), (.tail _ (.tail _ (.tail _ (.tail _ (.head _))))), trivial⟩ ?_
              refine St.gOn (dj := 68) rfl rfl ?_
              iterate 3 refine St.p rfl rfl ?_
              refine St.gSplit (dj := 75) _ rfl (fun hb8 => ?_) (fun hb8 => ?_)
              · replace hj2 := bif_t hb8 hj2
                refine St.gOff (dj := 75) rfl rfl rfl rfl ?_
                refine St.gOff (dj := 75) rfl rfl rfl rfl ?_
                refine St.gOff (dj := 75) rfl rfl rfl rfl ?_
                refine St.gOff (dj := 75) rfl rfl rfl rfl ?_
                refine St.gOff (dj := 75) rfl rfl rfl rfl ?_
                refine St.gOff (dj := 75) rfl rfl rfl rfl ?_
                refine St.p rfl rfl ?_
                refine St.done ?_
                injection hj2 with hj2
                subst hj2
                refine St.thenN ?_
                exact St.hereE () ⟨rfl, rfl, rfl, rfl, trivial⟩ (fun _ w => ((.d (.k (.k (.k (.k (.k (.k .z))))))) : Keep _ _).sat w)
              · replace hj2 := bif_f hb8 hj2
                refine St.gOn (dj := 75) rfl rfl ?_
                refine St.p rfl rfl ?_
                refine St.gOn (dj := 75) rfl rfl ?_
                refine St.p rfl rfl ?_
                refine St.gOn (dj := 75) rfl rfl ?_
                refine St.loadB 0 rfl rfl (.tail _ (.tail _ (.head _))) rfl rfl ?_
                refine St.gOn (dj := 75) rfl rfl ?_
                obtain ⟨r9, hr9, hj2⟩ := bnd_e hj2
                refine St.call (c_activation_Steps hr9) ent19 rfl rfl rfl (fun _ w => Sat.dup (G := [.ro (SlL e_Installed A5 c5 r3.2.Now), .ro (SlL e_Installed A6 c6 r3.2.Next), .ro (SlL e_Need A7 c7 r3.2.Needs)]) rfl ⟨(.tail _ (.tail _ (.tail _ (.head _)))), (.tail _ (.tail _ (.tail _ (.tail _ (.head _))))), (.tail _ (.tail _ (.tail _ (.tail _ (.tail _ (.head _)))))), trivial⟩ w) ?_
                rintro _ _ ⟨A10, c10, rfl, rfl⟩
                refine St.asrt (F' := .res (OwnL ei64 3 A10 c10 r9) :: .ro (SlL e_Installed A9 c9 r7.1) :: .ro (SlL ei64 A8 c8 r4.1) :: .res (Box g2 29 [.slice A5 r3.2.Now.length c5, .slice A6 r3.2.Next.length c6, .slice A7 r3.2.Needs.length c7]) :: .ro (SlL e_Installed A5 c5 r3.2.Now) :: .ro (SlL e_Installed A6 c6 r3.2.Next) :: .ro (SlL e_Need A7 c7 r3.2.Needs) :: .ro (SlL eu8 A2 c2 other) :: R) (fun _ w => w) ?_
                refine St.gOn (dj := 75) rfl rfl ?_
                refine St.p rfl rfl ?_
                refine St.gOn (dj := 75) rfl rfl ?_
                refine St.p rfl rfl ?_
                refine St.p rfl rfl ?_
                refine St.done ?_
                injection hj2 with hj2
                subst hj2
                refine St.thenN ?_
                exact St.hereE () ⟨rfl, rfl, rfl, rfl, trivial⟩ (fun _ w => ((.d (.d (.k (.k (.k (.k (.k (.k .z)))))))) : Keep _ _).sat w)
      · rintro e2
        refine St.cond _ rfl (fun hb9 => ?_) (fun hb9 => ?_)
        · replace h := bif_t hb9 h
          refine St.seq ?_
          refine St.region ?_
          refine St.p rfl rfl ?_
          refine St.done ?_
          refine St.thenN ?_
          refine St.prune (Γ' := [(4, _)]) ⟨rfl, trivial⟩ (.d (.d (.d (.d (.d (.d .z)))))) ?_
          refine St.ret ?_
          repeat (first | refine St.thenR ?_ | refine St.blkR ?_)
          injection h with h
          subst h
          exact St.finR Try.results6 (.tmp rfl .nil) rfl [] ⟨rfl, rfl⟩ (fun _ w => (.z : Keep _ _).sat w)
        · replace h := bif_f hb9 h
          refine St.skip ?_
          refine St.thenN ?_
          refine St.prune (Γ' := [(1, _), (6, _), (7, _)]) ⟨rfl, rfl, rfl, trivial⟩ (.k (.k (.k (.k (.k (.k .z)))))) ?_
          refine St.seq ?_
          refine St.region ?_
          refine St.p rfl rfl ?_
          refine St.done ?_
          refine St.thenN ?_
          refine St.seq ?_
          refine St.region ?_
          refine St.loadB 0 rfl rfl (.tail _ (.head _)) rfl rfl ?_
          obtain ⟨r10, hr10, h⟩ := bnd_e h
          refine St.call (c_activation_Steps hr10) ent19 rfl rfl rfl (fun _ w => Sat.dup (G := [.ro (SlL e_Installed A5 c5 r3.2.Now), .ro (SlL e_Installed A6 c6 r3.2.Next), .ro (SlL e_Need A7 c7 r3.2.Needs)]) rfl ⟨(.tail _ (.tail _ (.head _))), (.tail _ (.tail _ (.tail _ (.head _)))), (.tail _ (.tail _ (.tail _ (.tail _ (.head _))))), trivial⟩ w) ?_
          rintro _ _ ⟨A11, c11, rfl, rfl⟩
          refine St.asrt (F' := .res (OwnL ei64 3 A11 c11 r10) :: .ro (SlL ei64 A8 c8 r4.1) :: .res (Box g2 29 [.slice A5 r3.2.Now.length c5, .slice A6 r3.2.Next.length c6, .slice A7 r3.2.Needs.length c7]) :: .ro (SlL e_Installed A5 c5 r3.2.Now) :: .ro (SlL e_Installed A6 c6 r3.2.Next) :: .ro (SlL e_Need A7 c7 r3.2.Needs) :: .ro (SlL eu8 A2 c2 other) :: R) (fun _ w => w) ?_
          refine St.p rfl rfl ?_
          refine St.done ?_
          refine St.thenN ?_
          refine St.prune (Γ' := [(1, _), (6, _), (7, _), (13, _), (14, _)]) ⟨rfl, rfl, rfl, rfl, rfl, trivial⟩ (.k (.k (.k (.k (.k (.k (.k .z))))))) ?_
          refine St.seq ?_
          refine St.seq ?_
          refine St.region ?_
          refine St.p rfl rfl ?_
          refine St.done ?_
          refine St.thenN ?_
          refine St.asrt (fun _ w => w.nilL ei64 3) ?_
          obtain ⟨o3, hl1, h⟩ := bnd_e h
          refine St.cutE (fun (e4 : Option Addr × Nat) => [(6, .pointer (some ⟨g2, 0, none⟩)), (7, .slice A8 r4.1.length c8), (13, .slice e4.1 o3.length e4.2)]) (fun e4 => .res (OwnL ei64 3 e4.1 e4.2 o3) :: .ro (SlL ei64 A8 c8 r4.1) :: .res (Box g2 29 [.slice A5 r3.2.Now.length c5, .slice A6 r3.2.Next.length c6, .slice A7 r3.2.Needs.length c7]) :: .ro (SlL e_Installed A5 c5 r3.2.Now) :: .ro (SlL e_Installed A6 c6 r3.2.Next) :: .ro (SlL e_Need A7 c7 r3.2.Needs) :: R) ?_ ?_
          · refine St.block ?_
            refine St.loop hl1 (fun (s1 : List Int × List Int × Int) (e3 : Option Addr × Nat × Option Addr × Nat) => [(1, .slice A2 other.length c2), (6, .pointer (some ⟨g2, 0, none⟩)), (7, .slice A8 r4.1.length c8), (13, .slice e3.1 s1.1.length e3.2.1), (14, .slice e3.2.2.1 s1.2.1.length e3.2.2.2), (15, .int .i64 s1.2.2)]) (fun s1 e3 => .res (OwnL ei64 3 e3.2.2.1 e3.2.2.2 s1.2.1) :: .res (OwnL ei64 3 e3.1 e3.2.1 s1.1) :: .ro (SlL ei64 A8 c8 r4.1) :: .res (Box g2 29 [.slice A5 r3.2.Now.length c5, .slice A6 r3.2.Next.length c6, .slice A7 r3.2.Needs.length c7]) :: .ro (SlL e_Installed A5 c5 r3.2.Now) :: .ro (SlL e_Installed A6 c6 r3.2.Next) :: .ro (SlL e_Need A7 c7 r3.2.Needs) :: .ro (SlL eu8 A2 c2 other) :: R) (fun _ _ => True) (none, 0, A11, c11) trivial ⟨rfl, rfl, rfl, rfl, rfl, rfl, trivial⟩ (fun _ w => ((.k (.k (.k (.k (.k (.k (.k (.k .z)))))))) : Keep _ _).sat ((((((((w.front (.s (.s (.s (.s (.s (.s (.s .z)))))))).front (.s (.s (.s (.s (.s (.s (.s .z)))))))).front (.s (.s (.s (.s (.s (.s (.s .z)))))))).front (.s (.s (.s (.s (.s (.s (.s .z)))))))).front (.s (.s (.s (.s (.s (.s (.s .z)))))))).front (.s (.s (.s (.s (.s (.s (.s .z)))))))).front (.s (.s (.s (.s (.s (.s .z))))))).front (.s (.s (.s (.s (.s (.s (.s .z))))))))) ?_
            rintro s1 ⟨A12, c12, A13, c13⟩ - hit1
            obtain ⟨st1, hm1, hd1⟩ := iter_e hit1
            have h1 := hm1
            refine St.seq ?_
            refine St.seq ?_
            refine St.region ?_
            iterate 3 refine St.p rfl rfl ?_
            refine St.done ?_
            refine St.thenN ?_
            refine St.prune (Γ' := [(1, _), (6, _), (7, _), (13, _), (14, _), (15, _), (87, _)]) ⟨rfl, rfl, rfl, rfl, rfl, rfl, rfl, trivial⟩ (.k (.k (.k (.k (.k (.k (.k (.k .z)))))))) ?_
            refine St.cond _ rfl (fun hb10 => ?_) (fun hb10 => ?_)
            · replace h1 := bif_t hb10 h1
              refine St.skip ?_
              refine St.thenN ?_
              refine St.prune (Γ' := [(1, _), (6, _), (7, _), (13, _), (14, _), (15, _)]) ⟨rfl, rfl, rfl, rfl, rfl, rfl, trivial⟩ (.k (.k (.k (.k (.k (.k (.k (.k .z)))))))) ?_
              refine St.seq ?_
              refine St.block ?_
              refine St.seq ?_
              refine St.region ?_
              refine St.p rfl rfl ?_
              refine St.done ?_
              refine St.thenN ?_
              refine St.seq ?_
              obtain ⟨o4, hj3, h1⟩ := bnd_e h1
              refine St.cutE (fun (e5 : Unit) => [(1, .slice A2 other.length c2), (6, .pointer (some ⟨g2, 0, none⟩)), (7, .slice A8 r4.1.length c8), (13, .slice A12 s1.1.length c12), (14, .slice A13 s1.2.1.length c13), (15, .int .i64 s1.2.2), (16, .int .i64 o4)]) (fun e5 => .res (OwnL ei64 3 A13 c13 s1.2.1) :: .res (OwnL ei64 3 A12 c12 s1.1) :: .ro (SlL ei64 A8 c8 r4.1) :: .res (Box g2 29 [.slice A5 r3.2.Now.length c5, .slice A6 r3.2.Next.length c6, .slice A7 r3.2.Needs.length c7]) :: .ro (SlL e_Installed A5 c5 r3.2.Now) :: .ro (SlL e_Installed A6 c6 r3.2.Next) :: .ro (SlL e_Need A7 c7 r3.2.Needs) :: .ro (SlL eu8 A2 c2 other) :: R) ?_ ?_
              · refine St.seq ?_
                refine St.region ?_
                iterate 4 refine St.p rfl rfl ?_
                refine St.done ?_
                refine St.thenN ?_
                refine St.prune (Γ' := [(1, _), (6, _), (7, _), (13, _), (14, _), (15, _), (16, _), (93, _)]) ⟨rfl, rfl, rfl, rfl, rfl, rfl, rfl, rfl, trivial⟩ (.k (.k (.k (.k (.k (.k (.k (.k .z)))))))) ?_
                refine St.cond _ rfl (fun hb11 => ?_) (fun hb11 => ?_)
                · replace hj3 := bif_t hb11 hj3
                  refine St.region ?_
                  refine St.p rfl rfl ?_
                  refine St.p rfl rfl ?_
                  obtain ⟨x1, hx1, hj3⟩ := bnd_e hj3
                  refine St.ixL hx1 rfl rfl rfl (.tail _ (.tail _ (.tail _ (.tail _ (.tail _ (.tail _ (.tail _ (.head _)))))))) rfl rfl rfl rfl rfl fun b1 ob1 => ?_
                  refine St.load ob1 0 rfl rfl (.head _) rfl rfl ?_
                  iterate 3 refine St.p rfl rfl ?_
                  obtain ⟨q1, hq1, hj3⟩ := bnd_e hj3
                  refine St.rem rfl rfl rfl hq1 ?_
                  refine St.p rfl rfl ?_
                  refine St.done ?_
                  injection hj3 with hj3
                  subst hj3
                  refine St.thenN ?_
                  exact St.hereE () ⟨rfl, rfl, rfl, rfl, rfl, rfl, rfl, trivial⟩ (fun _ w => ((.d (.k (.k (.k (.k (.k (.k (.k (.k .z))))))))) : Keep _ _).sat w)
                · replace hj3 := bif_f hb11 hj3
                  refine St.skip ?_
                  injection hj3 with hj3
                  subst hj3
                  refine St.thenN ?_
                  exact St.hereE () ⟨rfl, rfl, rfl, rfl, rfl, rfl, rfl, trivial⟩ (fun _ w => ((.k (.k (.k (.k (.k (.k (.k (.k .z)))))))) : Keep _ _).sat w)
              · rintro e5
                refine St.seq ?_
                refine St.region ?_
                iterate 3 refine St.p rfl rfl ?_
                obtain ⟨x2, hx2, h1⟩ := bnd_e h1
                refine St.ixO hx2 rfl rfl rfl (.head _) rfl rfl rfl rfl rfl fun g3 hA => ?_
                subst hA
                refine St.ldO 0 hx2 rfl rfl (.head _) rfl rfl ?_
                refine St.buildSlice rfl rfl rfl rfl rfl rfl rfl rfl fun g4 => ?_
                obtain ⟨l1, hl1, h1⟩ := bnd_e h1
                refine St.app (E := ei64) hl1 rfl rfl rfl (.s (.s .z)) rfl rfl rfl rfl rfl rfl rfl rfl (srcB (.head _) rfl rfl) rfl rfl fun A15 c15 => ?_
                refine St.p rfl rfl ?_
                refine St.done ?_
                refine St.thenN ?_
                refine St.prune (Γ' := [(1, _), (6, _), (7, _), (13, _), (14, _), (15, _), (16, _)]) ⟨rfl, rfl, rfl, rfl, rfl, rfl, rfl, trivial⟩ (.k (.d (.k (.k (.k (.k (.k (.k (.k .z))))))))) ?_
                refine St.asrt (fun _ w => (w.front (.s .z)).meltL) ?_
                refine St.regionX (iL [(.fl, 0), (.fl, 1), (.fx, 2), (.fl, 4), (.fl, 5), (.fl, 6), (.fl, 7), (.ef, 3), (.ef, 8), (.fl, 9)] .nil) (.ro (SlL ei64 (some ⟨g3, 0, none⟩) c13 s1.2.1) :: .res (OwnL ei64 3 A15 c15 l1) :: .ro (SlL ei64 A8 c8 r4.1) :: .res (Box g2 29 [.slice A5 r3.2.Now.length c5, .slice A6 r3.2.Next.length c6, .slice A7 r3.2.Needs.length c7]) :: .ro (SlL e_Installed A5 c5 r3.2.Now) :: .ro (SlL e_Installed A6 c6 r3.2.Next) :: .ro (SlL e_Need A7 c7 r3.2.Needs) :: .ro (SlL eu8 A2 c2 other) :: R) mixed (by kernel_rfl) (fun _ w => ((.k (.k (.k (.k (.k (.k (.k (.k .z)))))))) : Keep _ _).sat w) ?_
                refine St.xfl (fun _ h => h) (Rd.p rfl) rfl ?_
                refine St.xfl (fun _ h => h) (Rd.p rfl) rfl ?_
                obtain ⟨l2, hl2, h1⟩ := bnd_e h1
                refine St.openS (.head _) hl2 fun A16 c16 hS1 => ?_
                have hc1 := fun w h => Sat.addS hS1 (.head _) hl2 ((fun (w : World) (h : Sat (.ro (SlL ei64 (some ⟨g3, 0, none⟩) c13 s1.2.1) :: .res (OwnL ei64 3 A15 c15 l1) :: .ro (SlL ei64 A8 c8 r4.1) :: .res (Box g2 29 [.slice A5 r3.2.Now.length c5, .slice A6 r3.2.Next.length c6, .slice A7 r3.2.Needs.length c7]) :: .ro (SlL e_Installed A5 c5 r3.2.Now) :: .ro (SlL e_Installed A6 c6 r3.2.Next) :: .ro (SlL e_Need A7 c7 r3.2.Needs) :: .ro (SlL eu8 A2 c2 other) :: R) w) => h) w h)
                refine St.xfx (Rd.sub hS1 hl2 (.tail _ (.head _)) rfl rfl rfl rfl rfl rfl rfl rfl) rfl ?_
                refine St.xfl (fun _ h => h) (Rd.p rfl) rfl ?_
                refine St.xfl (fun _ h => h) (Rd.p rfl) rfl ?_
                refine St.xfl (fun _ h => h) (Rd.p rfl) rfl ?_
                obtain ⟨l3, hl3, h1⟩ := bnd_e h1
                refine St.openS (.tail _ (.head _)) hl3 fun A17 c17 hS2 => ?_
                have hc2 := fun w h => Sat.addS hS2 (.tail _ (.head _)) hl3 (hc1 w h)
                refine St.xfl hc2 (Rd.sub hS2 hl3 (.tail _ (.tail _ (.head _))) rfl rfl rfl rfl rfl rfl rfl rfl) rfl ?_
                refine St.xef ?_
                refine St.asrt (fun _ w => w.nilL ei64 3) ?_
                obtain ⟨l4, hl4, h1⟩ := bnd_e h1
                refine St.app (E := ei64) hl4 rfl rfl rfl .z rfl rfl rfl rfl rfl rfl rfl rfl (srcL (.tail _ (.tail _ (.head _)))) rfl rfl fun A18 c18 => ?_
                refine St.xk (fun _ w => ((.d (.d (.d (.k (.k (.k (.k (.k (.k (.k (.k .z))))))))))) : Keep _ _).sat w) ?_
                refine St.xef ?_
                obtain ⟨l5, hl5, h1⟩ := bnd_e h1
                refine St.app (E := ei64) hl5 rfl rfl rfl .z rfl rfl rfl rfl rfl rfl rfl rfl (srcL (.tail _ (.head _))) rfl rfl fun A19 c19 => ?_
                refine St.xk (fun _ w => ((.d (.d (.d (.k (.k (.k (.k (.k (.k (.k (.k .z))))))))))) : Keep _ _).sat w) ?_
                refine St.xfl (fun _ h => h) (Rd.p rfl) rfl ?_
                refine St.xdone ?_
                refine St.blkN ?_
                refine St.thenN ?_
                refine St.prune (Γ' := [(1, _), (6, _), (7, _), (13, _), (14, _), (15, _)]) ⟨rfl, rfl, rfl, rfl, rfl, rfl, trivial⟩ (.k (.d (.d (.d (.k (.k (.k (.k (.k (.k (.k .z))))))))))) ?_
                refine St.region ?_
                iterate 3 refine St.p rfl rfl ?_
                refine St.done ?_
                injection h1 with h1
                subst h1
                refine St.thenN ?_
                exact St.again _ (A15, c15, A19, c19) hm1 trivial ⟨rfl, rfl, rfl, rfl, rfl, rfl, trivial⟩ (fun _ w => ((.k (.k (.k (.k (.k (.k (.k (.k .z)))))))) : Keep _ _).sat w)
            · replace h1 := bif_f hb10 h1
              refine St.exit ?_
              repeat (first | refine St.thenX ?_ | refine St.blkMiss rfl ?_)
              refine St.blkHit ?_
              injection h1 with h1
              subst h1
              have ho := hd1 _ rfl
              subst ho
              refine St.thenN ?_
              exact St.hereE (A12, c12) ⟨rfl, rfl, rfl, trivial⟩ (fun _ w => ((.d (.k (.k (.k (.k (.k (.k (.d .z)))))))) : Keep _ _).sat w)
          · rintro ⟨A14, c14⟩
            refine St.seq ?_
            refine St.seq ?_
            refine St.region ?_
            refine St.p rfl rfl ?_
            refine St.done ?_
            refine St.thenN ?_
            obtain ⟨o5, hl2, h⟩ := bnd_e h
            refine St.cutI (fun (o6 : Unit) (e7 : Unit) => []) (fun o6 e7 => R) (fun o6 => o5 = .inr o6) ?_ ?_
            · refine St.block ?_
              refine St.loop hl2 (fun (s2 : Int) (e6 : Unit) => [(6, .pointer (some ⟨g2, 0, none⟩)), (7, .slice A8 r4.1.length c8), (13, .slice A14 o3.length c14), (17, .int .i64 s2)]) (fun s2 e6 => .res (OwnL ei64 3 A14 c14 o3) :: .ro (SlL ei64 A8 c8 r4.1) :: .res (Box g2 29 [.slice A5 r3.2.Now.length c5, .slice A6 r3.2.Next.length c6, .slice A7 r3.2.Needs.length c7]) :: .ro (SlL e_Installed A5 c5 r3.2.Now) :: .ro (SlL e_Installed A6 c6 r3.2.Next) :: .ro (SlL e_Need A7 c7 r3.2.Needs) :: R) (fun _ _ => True) () trivial ⟨rfl, rfl, rfl, rfl, trivial⟩ (fun _ w => ((.k (.k (.k (.k (.k (.k .z)))))) : Keep _ _).sat w) ?_
              rintro s2 e6 - hit2
              obtain ⟨st2, hm2, hd2⟩ := iter_e hit2
              have h2 := hm2
              refine St.seq ?_
              refine St.seq ?_
              refine St.region ?_
              iterate 4 refine St.p rfl rfl ?_
              refine St.done ?_
              refine St.thenN ?_
              refine St.prune (Γ' := [(6, _), (7, _), (13, _), (17, _), (121, _)]) ⟨rfl, rfl, rfl, rfl, rfl, trivial⟩ (.k (.k (.k (.k (.k (.k .z)))))) ?_
              refine St.cond _ rfl (fun hb12 => ?_) (fun hb12 => ?_)
              · replace h2 := bif_t hb12 h2
                refine St.skip ?_
                refine St.thenN ?_
                refine St.prune (Γ' := [(6, _), (7, _), (13, _), (17, _)]) ⟨rfl, rfl, rfl, rfl, trivial⟩ (.k (.k (.k (.k (.k (.k .z)))))) ?_
                refine St.seq ?_
                refine St.block ?_
                refine St.seq ?_
                refine St.seq ?_
                refine St.regionF mixed (by kernel_rfl) ?_
                refine St.p rfl rfl ?_
                refine St.p rfl rfl ?_
                obtain ⟨x3, hx3, h2⟩ := bnd_e h2
                refine St.ixO hx3 rfl rfl rfl (.head _) rfl rfl rfl rfl rfl fun g5 hA => ?_
                subst hA
                refine St.ldO 0 hx3 rfl rfl (.head _) rfl rfl ?_
                refine St.p rfl rfl ?_
                refine St.p rfl rfl ?_
                obtain ⟨x4, hx4, h2⟩ := bnd_e h2
                refine St.ixL hx4 rfl rfl rfl (.tail _ (.head _)) rfl rfl rfl rfl rfl fun b2 ob2 => ?_
                refine St.load ob2 0 rfl rfl (.head _) rfl rfl ?_
                refine St.p rfl rfl ?_
                refine St.doneQ ?_
                refine St.thenN ?_
                refine St.prune (Γ' := [(6, _), (7, _), (13, _), (17, _), (132, _)]) ⟨rfl, rfl, rfl, rfl, rfl, trivial⟩ (.d (.k (.k (.k (.k (.k (.k .z))))))) ?_
                refine St.cond _ rfl (fun hb13 => ?_) (fun hb13 => ?_)
                · replace h2 := bif_t hb13 h2
                  refine St.seq ?_
                  refine St.region ?_
                  refine St.p rfl rfl ?_
                  refine St.done ?_
                  refine St.thenN ?_
                  refine St.prune (Γ' := [(4, _)]) ⟨rfl, trivial⟩ (.d (.d (.d (.d (.d (.d .z)))))) ?_
                  refine St.ret ?_
                  repeat (first | refine St.thenR ?_ | refine St.blkR ?_)
                  injection h2 with h2
                  subst h2
                  have ho := hd2 _ rfl
                  subst ho
                  have h : some _ = some _ := h
                  injection h with h
                  subst h
                  exact St.finR Try.results6 (.tmp rfl .nil) rfl [] ⟨rfl, rfl⟩ (fun _ w => (.z : Keep _ _).sat w)
                · replace h2 := bif_f hb13 h2
                  refine St.skip ?_
                  refine St.thenN ?_
                  refine St.prune (Γ' := [(6, _), (7, _), (13, _), (17, _)]) ⟨rfl, rfl, rfl, rfl, trivial⟩ (.k (.k (.k (.k (.k (.k .z)))))) ?_
                  refine St.seq ?_
                  refine St.regionF mixed (by kernel_rfl) ?_
                  refine St.p rfl rfl ?_
                  refine St.p rfl rfl ?_
                  refine St.ixO hx3 rfl rfl rfl (.head _) rfl rfl rfl rfl rfl fun g6 hA => ?_
                  cases hA
                  refine St.ldO 0 hx3 rfl rfl (.head _) rfl rfl ?_
                  refine St.p rfl rfl ?_
                  refine St.p rfl rfl ?_
                  refine St.ixL hx4 rfl rfl rfl (.tail _ (.head _)) rfl rfl rfl rfl rfl fun b3 ob3 => ?_
                  refine St.load ob3 0 rfl rfl (.head _) rfl rfl ?_
                  refine St.p rfl rfl ?_
                  refine St.doneQ ?_
                  refine St.thenN ?_
                  refine St.prune (Γ' := [(6, _), (7, _), (13, _), (17, _), (141, _)]) ⟨rfl, rfl, rfl, rfl, rfl, trivial⟩ (.d (.k (.k (.k (.k (.k (.k .z))))))) ?_
                  refine St.cond _ rfl (fun hb14 => ?_) (fun hb14 => ?_)
                  · replace h2 := bif_t hb14 h2
                    refine St.seq ?_
                    refine St.region ?_
                    refine St.loadB 0 rfl rfl (.tail _ (.tail _ (.head _))) rfl rfl ?_
                    refine St.p rfl rfl ?_
                    refine St.asrt (fun _ w => (w.front .z).meltL) ?_
                    obtain ⟨r11, hr11, h2⟩ := bnd_e h2
                    refine St.callV (c_activation_Check hr11) ent15 rfl rfl rfl rfl ⟨(.tail _ (.tail _ (.tail _ (.head _)))), (.tail _ (.tail _ (.tail _ (.tail _ (.head _))))), (.tail _ (.tail _ (.tail _ (.tail _ (.tail _ (.head _)))))), (.head _), trivial⟩ ?_
                    iterate 5 refine St.p rfl rfl ?_
                    refine St.done ?_
                    refine St.thenN ?_
                    refine St.prune (Γ' := [(18, _), (19, _)]) ⟨rfl, rfl, trivial⟩ (.d (.d (.d (.d (.d (.d .z)))))) ?_
                    refine St.seq ?_
                    obtain ⟨o7, hj4, h2⟩ := bnd_e h2
                    refine St.cutE (fun (e8 : Unit) => [(4, .bool o7)]) (fun e8 => R) ?_ ?_
                    · refine St.region ?_
                      iterate 3 refine St.p rfl rfl ?_
                      refine St.gSplit (dj := 150) _ rfl (fun hb15 => ?_) (fun hb15 => ?_)
                      · replace hj4 := bif_t hb15 hj4
                        refine St.gOn (dj := 150) rfl rfl ?_
                        refine St.p rfl rfl ?_
                        refine St.gOn (dj := 150) rfl rfl ?_
                        iterate 3 refine St.p rfl rfl ?_
                        refine St.done ?_
                        injection hj4 with hj4
                        subst hj4
                        refine St.thenN ?_
                        exact St.hereE () ⟨rfl, trivial⟩ (fun _ w => (.z : Keep _ _).sat w)
                      · replace hj4 := bif_f hb15 hj4
                        refine St.gOff (dj := 150) rfl rfl rfl rfl ?_
                        refine St.gOff (dj := 150) rfl rfl rfl rfl ?_
                        refine St.p rfl rfl ?_
                        refine St.p rfl rfl ?_
                        refine St.done ?_
                        injection hj4 with hj4
                        subst hj4
                        refine St.thenN ?_
                        exact St.hereE () ⟨rfl, trivial⟩ (fun _ w => (.z : Keep _ _).sat w)
                    · rintro e8
                      refine St.ret ?_
                      repeat (first | refine St.thenR ?_ | refine St.blkR ?_)
                      injection h2 with h2
                      subst h2
                      have ho := hd2 _ rfl
                      subst ho
                      have h : some _ = some _ := h
                      injection h with h
                      subst h
                      exact St.finR Try.results6 (.tmp rfl .nil) rfl [] ⟨rfl, rfl⟩ (fun _ w => (.z : Keep _ _).sat w)
                  · replace h2 := bif_f hb14 h2
                    refine St.skip ?_
                    refine St.blkN ?_
                    refine St.thenN ?_
                    refine St.prune (Γ' := [(6, _), (7, _), (13, _), (17, _)]) ⟨rfl, rfl, rfl, rfl, trivial⟩ (.k (.k (.k (.k (.k (.k .z)))))) ?_
                    refine St.region ?_
                    iterate 3 refine St.p rfl rfl ?_
                    refine St.done ?_
                    injection h2 with h2
                    subst h2
                    refine St.thenN ?_
                    exact St.again _ () hm2 trivial ⟨rfl, rfl, rfl, rfl, trivial⟩ (fun _ w => ((.k (.k (.k (.k (.k (.k .z)))))) : Keep _ _).sat w)
              · replace h2 := bif_f hb12 h2
                refine St.exit ?_
                repeat (first | refine St.thenX ?_ | refine St.blkMiss rfl ?_)
                refine St.blkHit ?_
                injection h2 with h2
                subst h2
                have ho := hd2 _ rfl
                subst ho
                refine St.thenN ?_
                exact St.hereI () () rfl trivial (fun _ w => ((.d (.d (.d (.d (.d (.d .z)))))) : Keep _ _).sat w)
            · rintro o6 e7 ho
              subst ho
              have h : _ = some _ := h
              refine St.seq ?_
              refine St.region ?_
              refine St.p rfl rfl ?_
              refine St.done ?_
              refine St.thenN ?_
              refine St.ret ?_
              repeat (first | refine St.thenR ?_ | refine St.blkR ?_)
              injection h with h
              subst h
              exact St.finR Try.results6 (.tmp rfl .nil) rfl [] ⟨rfl, rfl⟩ (fun _ w => (.z : Keep _ _).sat w)

end Go.Proofs.Yteaoblglgcpdnaa
