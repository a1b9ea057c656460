/-
  Models of functions of the program, and that the functions compute them.
  Conditions: none.
-/
import Derived.Test.YteaoblglgcpdnaaGen
namespace Go.Proofs.Yteaoblglgcpdnaa
open Go
set_option linter.unusedVariables false
set_option maxRecDepth 4000

theorem ent7 : Ent Try.prog 7 := ⟨_, Try.func7, by kernel_rfl, by kernel_rfl⟩

noncomputable def m_law31_ActivationTightens (codes : (List Int)) : Option Bool :=
  bnd (m_law31_awake) fun r1 => bif !r1 then (some false) else (bnd (m_field_New codes 120) fun r2 => bnd (m_field_Codes_Plan r2) fun r3 => bnd (app 80 ([]) r3.2.Needs) fun l1 => bnd (m_field_Codes_Need r3.1) fun r4 => bnd (app 80 l1 [r4.2]) fun l2 => bnd ((bnd (m_activation_Valid r3.2) fun r5 => bif (r5 != 0) then (some true) else (bnd (m_activation_Valid (⟨r3.2.Now, r3.2.Next, l2⟩ : T_Plan)) fun r6 => some (r6 != 0)) : Option Bool)) fun o1 => bif o1 then (some true) else (bnd (m_activation_Order r3.2) fun r7 => bnd (m_activation_Order (⟨r3.2.Now, r3.2.Next, l2⟩ : T_Plan)) fun r8 => bnd (m_activation_Reachable r3.2) fun r9 => bnd (m_activation_Reachable (⟨r3.2.Now, r3.2.Next, l2⟩ : T_Plan)) fun r10 => bnd ((bif (r9.2 != 0) then (some true) else (bif (r10.2 != 0) then (some true) else (bif (r8.2 == 0) then (some (r7.2 != 0)) else (some false))) : Option Bool)) fun o2 => bif o2 then (some false) else (bnd (loopM (τ := Bool ⊕ Unit) (fun (s1 : Int × Int × List Int) => bif decide (s1.2.1 < (r10.1.length : Int)) then (bnd (elt r10.1 s1.2.1) fun x1 => bnd (loopM (τ := Int × List Int) (fun (s2 : Int × List Int) => bnd ((bif decide (s2.1 < (s2.2.length : Int)) then (bnd (elt s2.2 s2.1) fun x2 => some (s2.2, decide (x2 < x1))) else (some (s2.2, false)) : Option (List Int × Bool))) fun o6 => bif o6.2 then (some (.next (IntKind.wrap .i64 (s2.1 + 1), o6.1))) else (some (.done (s2.1, o6.1)))) (s1.1, s1.2.2)) fun o5 => bnd ((bif (o5.1 == (o5.2.length : Int)) then (some (o5.2, true)) else (bnd (elt o5.2 o5.1) fun x3 => some (o5.2, (x3 != x1))) : Option (List Int × Bool))) fun o7 => bif o7.2 then (some (.done (.inl false))) else (some (.next (o5.1, IntKind.wrap .i64 (s1.2.1 + 1), o7.1)))) else (some (.done (.inr ())))) (0, 0, r9.1)) fun o3 => retOr o3 fun o4 => some true)))

set_option maxHeartbeats 4000000 in
theorem c_law31_ActivationTightens {codes : (List Int)} {A1 : Option Addr} {c1 : Nat} {r : Bool} (h : m_law31_ActivationTightens codes = some r) :
    Fun Try.prog 7 [.slice A1 codes.length c1] [.ro (SlL eu8 A1 c1 codes)] (Val (.bool r)) := by
  unfold m_law31_ActivationTightens at h
  refine Fun.intro Try.func7 rfl rfl rfl fun w R => ?_
  refine St.seq ?_
  refine St.region ?_
  refine St.p rfl rfl ?_
  refine St.done ?_
  refine St.thenN ?_
  refine St.prune (Γ' := [(0, _)]) ⟨rfl, trivial⟩ (.k .z) ?_
  refine St.seq ?_
  refine St.seq ?_
  refine St.region ?_
  obtain ⟨r1, hr1, h⟩ := bnd_e h
  refine St.callV (c_law31_awake hr1) ent10 rfl rfl rfl rfl trivial ?_
  refine St.p rfl rfl ?_
  refine St.done ?_
  refine St.thenN ?_
  refine St.prune (Γ' := [(0, _), (18, _)]) ⟨rfl, rfl, trivial⟩ (.k .z) ?_
  refine St.cond _ rfl (fun hb1 => ?_) (fun hb1 => ?_)
  · replace h := bif_t hb1 h
    refine St.seq ?_
    refine St.region ?_
    refine St.p rfl rfl ?_
    refine St.done ?_
    refine St.thenN ?_
    refine St.prune (Γ' := [(2, _)]) ⟨rfl, trivial⟩ (.d .z) ?_
    refine St.ret ?_
    repeat (first | refine St.thenR ?_ | refine St.blkR ?_)
    injection h with h
    subst h
    exact St.finR Try.results7 (.tmp rfl .nil) rfl [] ⟨rfl, rfl⟩ (fun _ w => (.z : Keep _ _).sat w)
  · replace h := bif_f hb1 h
    refine St.skip ?_
    refine St.thenN ?_
    refine St.prune (Γ' := [(0, _)]) ⟨rfl, trivial⟩ (.k .z) ?_
    refine St.seq ?_
    refine St.region ?_
    refine St.p rfl rfl ?_
    obtain ⟨r2, hr2, h⟩ := bnd_e h
    refine St.call (c_field_New hr2) ent13 rfl rfl rfl (fun _ w => Sat.dup (G := [.ro (SlL eu8 A1 c1 codes)]) rfl ⟨(.head _), trivial⟩ w) ?_
    rintro _ _ ⟨g1, A2, c2, rfl, rfl⟩
    refine St.asrt (F' := .ro (SlL eu8 A2 c2 r2.L) :: .res (Box g1 69 [.slice A2 r2.L.length c2, .int .i64 r2.At]) :: .ro (SlL eu8 A1 c1 codes) :: R) (fun _ w => w) ?_
    refine St.p rfl rfl ?_
    refine St.done ?_
    refine St.thenN ?_
    refine St.prune (Γ' := [(3, _)]) ⟨rfl, trivial⟩ (.k (.k (.d .z))) ?_
    refine St.seq ?_
    refine St.region ?_
    refine St.p rfl rfl ?_
    obtain ⟨r3, hr3, h⟩ := bnd_e h
    refine St.call (c_field_Codes_Plan hr3) ent14 rfl rfl rfl (fun _ w => Sat.dup (G := [.ro (SlL eu8 A2 c2 r2.L)]) rfl ⟨(.tail _ (.head _)), trivial⟩ (w.front (.s .z))) ?_
    rintro _ _ ⟨A3, c3, A4, c4, A5, c5, A6, c6, rfl, rfl⟩
    refine St.asrt (F' := .ro (SlL eu8 A3 c3 r3.1.L) :: .ro (SlL e_Installed A4 c4 r3.2.Now) :: .ro (SlL e_Installed A5 c5 r3.2.Next) :: .ro (SlL e_Need A6 c6 r3.2.Needs) :: .res (Box g1 69 [.slice A3 r3.1.L.length c3, .int .i64 r3.1.At]) :: .ro (SlL eu8 A2 c2 r2.L) :: R) (fun _ w => w) ?_
    refine St.alloc rfl rfl fun g2 => ?_
    refine St.store 0 rfl rfl rfl rfl rfl rfl .z rfl ?_
    refine St.done ?_
    refine St.thenN ?_
    refine St.prune (Γ' := [(3, _), (4, _)]) ⟨rfl, rfl, trivial⟩ (.k (.k (.k (.k (.k (.k (.d .z))))))) ?_
    refine St.seq ?_
    refine St.region ?_
    refine St.loadB 0 rfl rfl (.head _) rfl rfl ?_
    refine St.alloc rfl rfl fun g3 => ?_
    refine St.store 0 rfl rfl rfl rfl rfl rfl .z rfl ?_
    refine St.done ?_
    refine St.thenN ?_
    refine St.prune (Γ' := [(3, _), (4, _), (5, _)]) ⟨rfl, rfl, rfl, trivial⟩ (.k (.k (.k (.k (.k (.k (.k .z))))))) ?_
    refine St.seq ?_
    refine St.region ?_
    refine St.p rfl rfl ?_
    refine St.loadB 2 rfl rfl (.tail _ (.head _)) rfl rfl ?_
    refine St.asrt (fun _ w => w.nilL e_Need 33) ?_
    obtain ⟨l1, hl1, h⟩ := bnd_e h
    refine St.app (E := e_Need) hl1 rfl rfl rfl .z rfl rfl rfl rfl rfl rfl rfl rfl (srcL (.tail _ (.tail _ (.tail _ (.tail _ (.tail _ (.tail _ (.head _)))))))) rfl rfl fun A7 c7 => ?_
    refine St.p rfl rfl ?_
    obtain ⟨r4, hr4, h⟩ := bnd_e h
    refine St.call (c_field_Codes_Need hr4) ent22 rfl rfl rfl (fun _ w => Sat.dup (G := [.ro (SlL eu8 A3 c3 r3.1.L)]) rfl ⟨(.tail _ (.tail _ (.tail _ (.tail _ (.head _))))), trivial⟩ (w.front (.s (.s (.s (.s (.s (.s (.s .z))))))))) ?_
    rintro _ _ ⟨A8, c8, rfl, rfl⟩
    refine St.asrt (F' := .ro (SlL eu8 A8 c8 r4.1.L) :: .res (Box g1 69 [.slice A8 r4.1.L.length c8, .int .i64 r4.1.At]) :: .res (OwnL e_Need 33 A7 c7 l1) :: .res (Box g3 29 [.slice A4 r3.2.Now.length c4, .slice A5 r3.2.Next.length c5, .slice A6 r3.2.Needs.length c6]) :: .res (Box g2 29 [.slice A4 r3.2.Now.length c4, .slice A5 r3.2.Next.length c5, .slice A6 r3.2.Needs.length c6]) :: .ro (SlL eu8 A3 c3 r3.1.L) :: .ro (SlL e_Installed A4 c4 r3.2.Now) :: .ro (SlL e_Installed A5 c5 r3.2.Next) :: .ro (SlL e_Need A6 c6 r3.2.Needs) :: R) (fun _ w => w) ?_
    refine St.buildSlice rfl rfl rfl rfl rfl rfl rfl rfl fun g4 => ?_
    obtain ⟨l2, hl2, h⟩ := bnd_e h
    refine St.app (E := e_Need) hl2 rfl rfl rfl (.s (.s (.s .z))) rfl rfl rfl rfl rfl rfl rfl rfl (srcB (.head _) rfl rfl) rfl rfl fun A9 c9 => ?_
    refine St.p rfl rfl ?_
    refine St.store 2 rfl rfl rfl rfl rfl rfl (.s (.s (.s (.s .z)))) rfl ?_
    refine St.done ?_
    refine St.thenN ?_
    refine St.prune (Γ' := [(4, _), (5, _)]) ⟨rfl, rfl, trivial⟩ (.k (.k (.d (.d (.d (.k (.d (.k (.k (.k .z)))))))))) ?_
    refine St.seq ?_
    refine St.seq ?_
    obtain ⟨o1, hj1, h⟩ := bnd_e h
    refine St.cutE (fun (e1 : Unit) => [(4, .pointer (some ⟨g2, 0, none⟩)), (5, .pointer (some ⟨g3, 0, none⟩)), (39, .bool o1)]) (fun e1 => .res (Box g3 29 [.slice A4 r3.2.Now.length c4, .slice A5 r3.2.Next.length c5, .slice A9 l2.length c9]) :: .res (OwnL e_Need 33 A9 c9 l2) :: .res (Box g2 29 [.slice A4 r3.2.Now.length c4, .slice A5 r3.2.Next.length c5, .slice A6 r3.2.Needs.length c6]) :: .ro (SlL e_Installed A4 c4 r3.2.Now) :: .ro (SlL e_Installed A5 c5 r3.2.Next) :: .ro (SlL e_Need A6 c6 r3.2.Needs) :: R) ?_ ?_
    · refine St.region ?_
      refine St.loadB 0 rfl rfl (.tail _ (.tail _ (.head _))) rfl rfl ?_
      obtain ⟨r5, hr5, hj1⟩ := bnd_e hj1
      refine St.callV (c_activation_Valid hr5) ent20 rfl rfl rfl rfl ⟨(.tail _ (.tail _ (.tail _ (.head _)))), (.tail _ (.tail _ (.tail _ (.tail _ (.head _))))), (.tail _ (.tail _ (.tail _ (.tail _ (.tail _ (.head _)))))), trivial⟩ ?_
      refine St.p rfl rfl ?_
      refine St.p rfl rfl ?_
      refine St.gSplit (dj := 35) _ rfl (fun hb2 => ?_) (fun hb2 => ?_)
      · replace hj1 := bif_t hb2 hj1
        refine St.gOff (dj := 35) rfl rfl rfl rfl ?_
        refine St.gOff (dj := 35) rfl rfl rfl rfl ?_
        refine St.gOff (dj := 35) rfl rfl rfl rfl ?_
        refine St.p rfl rfl ?_
        refine St.done ?_
        injection hj1 with hj1
        subst hj1
        refine St.thenN ?_
        exact St.hereE () ⟨rfl, rfl, rfl, trivial⟩ (fun _ w => ((.k (.k (.k (.k (.k (.k .z)))))) : Keep _ _).sat w)
      · replace hj1 := bif_f hb2 hj1
        refine St.gOn (dj := 35) rfl rfl ?_
        refine St.loadB 0 rfl rfl (.head _) rfl rfl ?_
        refine St.gOn (dj := 35) rfl rfl ?_
        obtain ⟨r6, hr6, hj1⟩ := bnd_e hj1
        refine St.callL (c_activation_Valid hr6) ent20 rfl rfl rfl rfl (Asks.ro (.tail _ (.tail _ (.tail _ (.head _)))) (Asks.ro (.tail _ (.tail _ (.tail _ (.tail _ (.head _))))) (Asks.own (.tail _ (.head _)) Asks.nil))) (fun _ _ h => by rw [h.2]; exact True.intro) ?_
        rintro _ _ ⟨rfl, rfl⟩
        refine St.asrt (F' := .res (Box g3 29 [.slice A4 r3.2.Now.length c4, .slice A5 r3.2.Next.length c5, .slice A9 l2.length c9]) :: .res (OwnL e_Need 33 A9 c9 l2) :: .res (Box g2 29 [.slice A4 r3.2.Now.length c4, .slice A5 r3.2.Next.length c5, .slice A6 r3.2.Needs.length c6]) :: .ro (SlL e_Installed A4 c4 r3.2.Now) :: .ro (SlL e_Installed A5 c5 r3.2.Next) :: .ro (SlL e_Need A6 c6 r3.2.Needs) :: R) (fun _ w => w) ?_
        refine St.gOn (dj := 35) rfl rfl ?_
        refine St.p rfl rfl ?_
        refine St.p rfl rfl ?_
        refine St.done ?_
        injection hj1 with hj1
        subst hj1
        refine St.thenN ?_
        exact St.hereE () ⟨rfl, rfl, rfl, trivial⟩ (fun _ w => ((.k (.k (.k (.k (.k (.k .z)))))) : Keep _ _).sat w)
    · rintro e1
      refine St.cond _ rfl (fun hb3 => ?_) (fun hb3 => ?_)
      · replace h := bif_t hb3 h
        refine St.seq ?_
        refine St.region ?_
        refine St.p rfl rfl ?_
        refine St.done ?_
        refine St.thenN ?_
        refine St.prune (Γ' := [(2, _)]) ⟨rfl, trivial⟩ (.d (.d (.d (.d (.d (.d .z)))))) ?_
        refine St.ret ?_
        repeat (first | refine St.thenR ?_ | refine St.blkR ?_)
        injection h with h
        subst h
        exact St.finR Try.results7 (.tmp rfl .nil) rfl [] ⟨rfl, rfl⟩ (fun _ w => (.z : Keep _ _).sat w)
      · replace h := bif_f hb3 h
        refine St.skip ?_
        refine St.thenN ?_
        refine St.prune (Γ' := [(4, _), (5, _)]) ⟨rfl, rfl, trivial⟩ (.k (.k (.k (.k (.k (.k .z)))))) ?_
        refine St.seq ?_
        refine St.region ?_
        refine St.loadB 0 rfl rfl (.tail _ (.tail _ (.head _))) rfl rfl ?_
        obtain ⟨r7, hr7, h⟩ := bnd_e h
        refine St.call (c_activation_Order hr7) ent11 rfl rfl rfl (fun _ w => Sat.dup (G := [.ro (SlL e_Installed A4 c4 r3.2.Now), .ro (SlL e_Installed A5 c5 r3.2.Next), .ro (SlL e_Need A6 c6 r3.2.Needs)]) rfl ⟨(.tail _ (.tail _ (.tail _ (.head _)))), (.tail _ (.tail _ (.tail _ (.tail _ (.head _))))), (.tail _ (.tail _ (.tail _ (.tail _ (.tail _ (.head _)))))), trivial⟩ w) ?_
        rintro _ _ ⟨A10, c10, rfl, rfl⟩
        refine St.asrt (F' := .res (OwnL ei64 3 A10 c10 r7.1) :: .res (Box g3 29 [.slice A4 r3.2.Now.length c4, .slice A5 r3.2.Next.length c5, .slice A9 l2.length c9]) :: .res (OwnL e_Need 33 A9 c9 l2) :: .res (Box g2 29 [.slice A4 r3.2.Now.length c4, .slice A5 r3.2.Next.length c5, .slice A6 r3.2.Needs.length c6]) :: .ro (SlL e_Installed A4 c4 r3.2.Now) :: .ro (SlL e_Installed A5 c5 r3.2.Next) :: .ro (SlL e_Need A6 c6 r3.2.Needs) :: R) (fun _ w => w) ?_
        iterate 5 refine St.p rfl rfl ?_
        refine St.done ?_
        refine St.thenN ?_
        refine St.prune (Γ' := [(4, _), (5, _), (7, _)]) ⟨rfl, rfl, rfl, trivial⟩ (.d (.k (.k (.k (.k (.k (.k .z))))))) ?_
        refine St.seq ?_
        refine St.region ?_
        refine St.loadB 0 rfl rfl (.head _) rfl rfl ?_
        refine St.asrt (fun _ w => (w.front (.s .z)).meltL) ?_
        obtain ⟨r8, hr8, h⟩ := bnd_e h
        refine St.call (c_activation_Order hr8) ent11 rfl rfl rfl (fun _ w => Sat.dup (G := [.ro (SlL e_Installed A4 c4 r3.2.Now), .ro (SlL e_Installed A5 c5 r3.2.Next), .ro (SlL e_Need A9 c9 l2)]) rfl ⟨(.tail _ (.tail _ (.tail _ (.head _)))), (.tail _ (.tail _ (.tail _ (.tail _ (.head _))))), (.head _), trivial⟩ w) ?_
        rintro _ _ ⟨A11, c11, rfl, rfl⟩
        refine St.asrt (F' := .res (OwnL ei64 3 A11 c11 r8.1) :: .ro (SlL e_Need A9 c9 l2) :: .res (Box g3 29 [.slice A4 r3.2.Now.length c4, .slice A5 r3.2.Next.length c5, .slice A9 l2.length c9]) :: .res (Box g2 29 [.slice A4 r3.2.Now.length c4, .slice A5 r3.2.Next.length c5, .slice A6 r3.2.Needs.length c6]) :: .ro (SlL e_Installed A4 c4 r3.2.Now) :: .ro (SlL e_Installed A5 c5 r3.2.Next) :: .ro (SlL e_Need A6 c6 r3.2.Needs) :: R) (fun _ w => w) ?_
        iterate 5 refine St.p rfl rfl ?_
        refine St.done ?_
        refine St.thenN ?_
        refine St.prune (Γ' := [(4, _), (5, _), (7, _), (9, _)]) ⟨rfl, rfl, rfl, rfl, trivial⟩ (.d (.k (.k (.k (.k (.k (.k .z))))))) ?_
        refine St.seq ?_
        refine St.region ?_
        refine St.loadB 0 rfl rfl (.tail _ (.tail _ (.head _))) rfl rfl ?_
        obtain ⟨r9, hr9, h⟩ := bnd_e h
        refine St.call (c_activation_Reachable hr9) ent23 rfl rfl rfl (fun _ w => Sat.dup (G := [.ro (SlL e_Installed A4 c4 r3.2.Now), .ro (SlL e_Installed A5 c5 r3.2.Next), .ro (SlL e_Need A6 c6 r3.2.Needs)]) rfl ⟨(.tail _ (.tail _ (.tail _ (.head _)))), (.tail _ (.tail _ (.tail _ (.tail _ (.head _))))), (.tail _ (.tail _ (.tail _ (.tail _ (.tail _ (.head _)))))), trivial⟩ w) ?_
        rintro _ _ ⟨A12, c12, rfl, rfl⟩
        refine St.asrt (F' := .res (OwnL ei64 3 A12 c12 r9.1) :: .ro (SlL e_Need A9 c9 l2) :: .res (Box g3 29 [.slice A4 r3.2.Now.length c4, .slice A5 r3.2.Next.length c5, .slice A9 l2.length c9]) :: .res (Box g2 29 [.slice A4 r3.2.Now.length c4, .slice A5 r3.2.Next.length c5, .slice A6 r3.2.Needs.length c6]) :: .ro (SlL e_Installed A4 c4 r3.2.Now) :: .ro (SlL e_Installed A5 c5 r3.2.Next) :: .ro (SlL e_Need A6 c6 r3.2.Needs) :: R) (fun _ w => w) ?_
        iterate 5 refine St.p rfl rfl ?_
        refine St.done ?_
        refine St.thenN ?_
        refine St.prune (Γ' := [(5, _), (7, _), (9, _), (10, _), (11, _)]) ⟨rfl, rfl, rfl, rfl, rfl, trivial⟩ (.k (.k (.k (.d (.k (.k (.d .z))))))) ?_
        refine St.seq ?_
        refine St.region ?_
        refine St.loadB 0 rfl rfl (.tail _ (.tail _ (.head _))) rfl rfl ?_
        obtain ⟨r10, hr10, h⟩ := bnd_e h
        refine St.call (c_activation_Reachable hr10) ent23 rfl rfl rfl (fun _ w => Sat.dup (G := [.ro (SlL e_Installed A4 c4 r3.2.Now), .ro (SlL e_Installed A5 c5 r3.2.Next), .ro (SlL e_Need A9 c9 l2)]) rfl ⟨(.tail _ (.tail _ (.tail _ (.head _)))), (.tail _ (.tail _ (.tail _ (.tail _ (.head _))))), (.tail _ (.head _)), trivial⟩ w) ?_
        rintro _ _ ⟨A13, c13, rfl, rfl⟩
        refine St.asrt (F' := .res (OwnL ei64 3 A13 c13 r10.1) :: .res (OwnL ei64 3 A12 c12 r9.1) :: .ro (SlL e_Need A9 c9 l2) :: .res (Box g3 29 [.slice A4 r3.2.Now.length c4, .slice A5 r3.2.Next.length c5, .slice A9 l2.length c9]) :: .ro (SlL e_Installed A4 c4 r3.2.Now) :: .ro (SlL e_Installed A5 c5 r3.2.Next) :: R) (fun _ w => w) ?_
        iterate 5 refine St.p rfl rfl ?_
        refine St.done ?_
        refine St.thenN ?_
        refine St.prune (Γ' := [(7, _), (9, _), (10, _), (11, _), (12, _), (13, _)]) ⟨rfl, rfl, rfl, rfl, rfl, rfl, trivial⟩ (.k (.k (.d (.d (.d (.d .z)))))) ?_
        refine St.seq ?_
        refine St.seq ?_
        obtain ⟨o2, hj2, h⟩ := bnd_e h
        refine St.cutE (fun (e2 : Unit) => [(10, .slice A12 r9.1.length c12), (12, .slice A13 r10.1.length c13), (73, .bool o2)]) (fun e2 => .res (OwnL ei64 3 A13 c13 r10.1) :: .res (OwnL ei64 3 A12 c12 r9.1) :: R) ?_ ?_
        · refine St.region ?_
          iterate 3 refine St.p rfl rfl ?_
          refine St.gSplit (dj := 62) _ rfl (fun hb4 => ?_) (fun hb4 => ?_)
          · replace hj2 := bif_t hb4 hj2
            refine St.gOff (dj := 62) rfl rfl rfl rfl ?_
            refine St.gOff (dj := 62) rfl rfl rfl rfl ?_
            refine St.p rfl rfl ?_
            refine St.p rfl rfl ?_
            refine St.gOff (dj := 66) rfl rfl rfl rfl ?_
            refine St.gOff (dj := 66) rfl rfl rfl rfl ?_
            refine St.gOff (dj := 66) rfl rfl rfl rfl ?_
            refine St.gOff (dj := 69) rfl rfl rfl rfl ?_
            refine St.gOff (dj := 69) rfl rfl rfl rfl ?_
            refine St.gOff (dj := 66) rfl rfl rfl rfl ?_
            refine St.p rfl rfl ?_
            refine St.done ?_
            injection hj2 with hj2
            subst hj2
            refine St.thenN ?_
            exact St.hereE () ⟨rfl, rfl, rfl, trivial⟩ (fun _ w => ((.k (.k .z)) : Keep _ _).sat w)
          · replace hj2 := bif_f hb4 hj2
            refine St.gOn (dj := 62) rfl rfl ?_
            refine St.p rfl rfl ?_
            refine St.gOn (dj := 62) rfl rfl ?_
            iterate 3 refine St.p rfl rfl ?_
            refine St.gSplit (dj := 66) _ rfl (fun hb5 => ?_) (fun hb5 => ?_)
            · replace hj2 := bif_t hb5 hj2
              refine St.gOff (dj := 66) rfl rfl rfl rfl ?_
              refine St.gOff (dj := 66) rfl rfl rfl rfl ?_
              refine St.gOff (dj := 66) rfl rfl rfl rfl ?_
              refine St.gOff (dj := 69) rfl rfl rfl rfl ?_
              refine St.gOff (dj := 69) rfl rfl rfl rfl ?_
              refine St.gOff (dj := 66) rfl rfl rfl rfl ?_
              refine St.p rfl rfl ?_
              refine St.done ?_
              injection hj2 with hj2
              subst hj2
              refine St.thenN ?_
              exact St.hereE () ⟨rfl, rfl, rfl, trivial⟩ (fun _ w => ((.k (.k .z)) : Keep _ _).sat w)
            · replace hj2 := bif_f hb5 hj2
              refine St.gOn (dj := 66) rfl rfl ?_
              refine St.p rfl rfl ?_
              refine St.gOn (dj := 66) rfl rfl ?_
              refine St.p rfl rfl ?_
              refine St.gOn (dj := 66) rfl rfl ?_
              refine St.p rfl rfl ?_
              refine St.gSplit (dj := 69) _ rfl (fun hb6 => ?_) (fun hb6 => ?_)
              · replace hj2 := bif_t hb6 hj2
                refine St.gOn (dj := 69) rfl rfl ?_
                refine St.p rfl rfl ?_
                refine St.gOn (dj := 69) rfl rfl ?_
                refine St.p rfl rfl ?_
                refine St.gOn (dj := 66) rfl rfl ?_
                refine St.p rfl rfl ?_
                refine St.p rfl rfl ?_
                refine St.done ?_
                injection hj2 with hj2
                subst hj2
                refine St.thenN ?_
                exact St.hereE () ⟨rfl, rfl, rfl, trivial⟩ (fun _ w => ((.k (.k .z)) : Keep _ _).sat w)
              · replace hj2 := bif_f hb6 hj2
                refine St.gOff (dj := 69) rfl rfl rfl rfl ?_
                refine St.gOff (dj := 69) rfl rfl rfl rfl ?_
                refine St.gOn (dj := 66) rfl rfl ?_
                refine St.p rfl rfl ?_
                refine St.p rfl rfl ?_
                refine St.done ?_
                injection hj2 with hj2
                subst hj2
                refine St.thenN ?_
                exact St.hereE () ⟨rfl, rfl, rfl, trivial⟩ (fun _ w => ((.k (.k .z)) : Keep _ _).sat w)
        · rintro e2
          refine St.cond _ rfl (fun hb7 => ?_) (fun hb7 => ?_)
          · replace h := bif_t hb7 h
            refine St.seq ?_
            refine St.region ?_
            refine St.p rfl rfl ?_
            refine St.done ?_
            refine St.thenN ?_
            refine St.prune (Γ' := [(2, _)]) ⟨rfl, trivial⟩ (.d (.d .z)) ?_
            refine St.ret ?_
            repeat (first | refine St.thenR ?_ | refine St.blkR ?_)
            injection h with h
            subst h
            exact St.finR Try.results7 (.tmp rfl .nil) rfl [] ⟨rfl, rfl⟩ (fun _ w => (.z : Keep _ _).sat w)
          · replace h := bif_f hb7 h
            refine St.skip ?_
            refine St.thenN ?_
            refine St.prune (Γ' := [(10, _), (12, _)]) ⟨rfl, rfl, trivial⟩ (.k (.k .z)) ?_
            refine St.seq ?_
            refine St.region ?_
            refine St.p rfl rfl ?_
            refine St.done ?_
            refine St.thenN ?_
            refine St.seq ?_
            refine St.seq ?_
            refine St.region ?_
            iterate 3 refine St.p rfl rfl ?_
            refine St.done ?_
            refine St.thenN ?_
            refine St.prune (Γ' := [(10, _), (14, _), (74, _), (75, _), (76, _)]) ⟨rfl, rfl, rfl, rfl, rfl, trivial⟩ (.k (.k .z)) ?_
            obtain ⟨o3, hl1, h⟩ := bnd_e h
            refine St.cutI (fun (o4 : Unit) (e4 : Unit) => []) (fun o4 e4 => R) (fun o4 => o3 = .inr o4) ?_ ?_
            · refine St.block ?_
              refine St.loop hl1 (fun (s1 : Int × Int × List Int) (e3 : Option Addr × Nat) => [(10, .slice e3.1 s1.2.2.length e3.2), (14, .int .i64 s1.1), (74, .slice A13 r10.1.length c13), (75, .int .i64 (r10.1.length : Int)), (76, .int .i64 s1.2.1)]) (fun s1 e3 => .res (OwnL ei64 3 e3.1 e3.2 s1.2.2) :: .res (OwnL ei64 3 A13 c13 r10.1) :: R) (fun _ _ => True) (A12, c12) trivial ⟨rfl, rfl, rfl, rfl, rfl, trivial⟩ (fun _ w => ((.k (.k .z)) : Keep _ _).sat ((w.front .z).front (.s .z))) ?_
              rintro s1 ⟨A14, c14⟩ - hit1
              obtain ⟨st1, hm1, hd1⟩ := iter_e hit1
              have h1 := hm1
              refine St.seq ?_
              refine St.region ?_
              refine St.p rfl rfl ?_
              refine St.done ?_
              refine St.thenN ?_
              refine St.seq ?_
              refine St.cond _ rfl (fun hb8 => ?_) (fun hb8 => ?_)
              · replace h1 := bif_t hb8 h1
                refine St.skip ?_
                refine St.thenN ?_
                refine St.prune (Γ' := [(10, _), (14, _), (74, _), (75, _), (76, _)]) ⟨rfl, rfl, rfl, rfl, rfl, trivial⟩ (.k (.k .z)) ?_
                refine St.seq ?_
                refine St.block ?_
                refine St.seq ?_
                refine St.region ?_
                obtain ⟨x1, hx1, h1⟩ := bnd_e h1
                refine St.ixO hx1 rfl rfl rfl (.tail _ (.head _)) rfl rfl rfl rfl rfl fun g5 hA => ?_
                subst hA
                refine St.ldO 0 hx1 rfl rfl (.tail _ (.head _)) rfl rfl ?_
                refine St.p rfl rfl ?_
                refine St.done ?_
                refine St.thenN ?_
                refine St.prune (Γ' := [(10, _), (14, _), (16, _), (74, _), (75, _), (76, _)]) ⟨rfl, rfl, rfl, rfl, rfl, rfl, trivial⟩ (.k (.k .z)) ?_
                refine St.seq ?_
                obtain ⟨o5, hl2, h1⟩ := bnd_e h1
                refine St.cutE (fun (e6 : Option Addr × Nat) => [(10, .slice e6.1 o5.2.length e6.2), (14, .int .i64 o5.1), (16, .int .i64 x1), (74, .slice (some ⟨g5, 0, none⟩) r10.1.length c13), (75, .int .i64 (r10.1.length : Int)), (76, .int .i64 s1.2.1)]) (fun e6 => .res (OwnL ei64 3 e6.1 e6.2 o5.2) :: .res (OwnL ei64 3 (some ⟨g5, 0, none⟩) c13 r10.1) :: R) ?_ ?_
                · refine St.block ?_
                  refine St.loop hl2 (fun (s2 : Int × List Int) (e5 : Option Addr × Nat) => [(10, .slice e5.1 s2.2.length e5.2), (14, .int .i64 s2.1), (16, .int .i64 x1), (74, .slice (some ⟨g5, 0, none⟩) r10.1.length c13), (75, .int .i64 (r10.1.length : Int)), (76, .int .i64 s1.2.1)]) (fun s2 e5 => .res (OwnL ei64 3 e5.1 e5.2 s2.2) :: .res (OwnL ei64 3 (some ⟨g5, 0, none⟩) c13 r10.1) :: R) (fun _ _ => True) (A14, c14) trivial ⟨rfl, rfl, rfl, rfl, rfl, rfl, trivial⟩ (fun _ w => ((.k (.k .z)) : Keep _ _).sat w) ?_
                  rintro s2 ⟨A15, c15⟩ - hit2
                  obtain ⟨st2, hm2, hd2⟩ := iter_e hit2
                  have h2 := hm2
                  refine St.seq ?_
                  refine St.seq ?_
                  obtain ⟨o6, hj3, h2⟩ := bnd_e h2
                  refine St.cutE (fun (e7 : Option Addr × Nat) => [(10, .slice e7.1 o6.1.length e7.2), (14, .int .i64 s2.1), (16, .int .i64 x1), (74, .slice (some ⟨g5, 0, none⟩) r10.1.length c13), (75, .int .i64 (r10.1.length : Int)), (76, .int .i64 s1.2.1), (91, .bool o6.2)]) (fun e7 => .res (OwnL ei64 3 e7.1 e7.2 o6.1) :: .res (OwnL ei64 3 (some ⟨g5, 0, none⟩) c13 r10.1) :: R) ?_ ?_
                  · refine St.region ?_
                    iterate 5 refine St.p rfl rfl ?_
                    refine St.gSplit (dj := 84) _ rfl (fun hb9 => ?_) (fun hb9 => ?_)
                    · replace hj3 := bif_t hb9 hj3
                      refine St.gOn (dj := 84) rfl rfl ?_
                      refine St.p rfl rfl ?_
                      refine St.gOn (dj := 84) rfl rfl ?_
                      refine St.p rfl rfl ?_
                      refine St.gOn (dj := 84) rfl rfl ?_
                      obtain ⟨x2, hx2, hj3⟩ := bnd_e hj3
                      refine St.ixO hx2 rfl rfl rfl (.head _) rfl rfl rfl rfl rfl fun g6 hA => ?_
                      subst hA
                      refine St.gOn (dj := 84) rfl rfl ?_
                      refine St.ldO 0 hx2 rfl rfl (.head _) rfl rfl ?_
                      refine St.gOn (dj := 84) rfl rfl ?_
                      refine St.p rfl rfl ?_
                      refine St.gOn (dj := 84) rfl rfl ?_
                      refine St.p rfl rfl ?_
                      refine St.p rfl rfl ?_
                      refine St.done ?_
                      injection hj3 with hj3
                      subst hj3
                      refine St.thenN ?_
                      exact St.hereE ((some ⟨g6, 0, none⟩), c15) ⟨rfl, rfl, rfl, rfl, rfl, rfl, rfl, trivial⟩ (fun _ w => ((.k (.k .z)) : Keep _ _).sat w)
                    · replace hj3 := bif_f hb9 hj3
                      refine St.gOff (dj := 84) rfl rfl rfl rfl ?_
                      refine St.gOff (dj := 84) rfl rfl rfl rfl ?_
                      refine St.gOff (dj := 84) rfl rfl rfl rfl ?_
                      refine St.gOff (dj := 84) rfl rfl rfl rfl ?_
                      refine St.gOff (dj := 84) rfl rfl rfl rfl ?_
                      refine St.gOff (dj := 84) rfl rfl rfl rfl ?_
                      refine St.p rfl rfl ?_
                      refine St.done ?_
                      injection hj3 with hj3
                      subst hj3
                      refine St.thenN ?_
                      exact St.hereE (A15, c15) ⟨rfl, rfl, rfl, rfl, rfl, rfl, rfl, trivial⟩ (fun _ w => ((.k (.k .z)) : Keep _ _).sat w)
                  · rintro ⟨A17, c17⟩
                    refine St.cond _ rfl (fun hb10 => ?_) (fun hb10 => ?_)
                    · replace h2 := bif_t hb10 h2
                      refine St.skip ?_
                      refine St.thenN ?_
                      refine St.prune (Γ' := [(10, _), (14, _), (16, _), (74, _), (75, _), (76, _)]) ⟨rfl, rfl, rfl, rfl, rfl, rfl, trivial⟩ (.k (.k .z)) ?_
                      refine St.block ?_
                      refine St.region ?_
                      iterate 3 refine St.p rfl rfl ?_
                      refine St.done ?_
                      refine St.blkN ?_
                      injection h2 with h2
                      subst h2
                      refine St.thenN ?_
                      exact St.again _ (A17, c17) hm2 trivial ⟨rfl, rfl, rfl, rfl, rfl, rfl, trivial⟩ (fun _ w => ((.k (.k .z)) : Keep _ _).sat w)
                    · replace h2 := bif_f hb10 h2
                      refine St.exit ?_
                      repeat (first | refine St.thenX ?_ | refine St.blkMiss rfl ?_)
                      refine St.blkHit ?_
                      injection h2 with h2
                      subst h2
                      have ho := hd2 _ rfl
                      subst ho
                      refine St.thenN ?_
                      exact St.hereE (A17, c17) ⟨rfl, rfl, rfl, rfl, rfl, rfl, trivial⟩ (fun _ w => ((.k (.k .z)) : Keep _ _).sat w)
                · rintro ⟨A16, c16⟩
                  refine St.seq ?_
                  obtain ⟨o7, hj4, h1⟩ := bnd_e h1
                  refine St.cutE (fun (e8 : Option Addr × Nat) => [(10, .slice e8.1 o7.1.length e8.2), (14, .int .i64 o5.1), (74, .slice (some ⟨g5, 0, none⟩) r10.1.length c13), (75, .int .i64 (r10.1.length : Int)), (76, .int .i64 s1.2.1), (105, .bool o7.2)]) (fun e8 => .res (OwnL ei64 3 e8.1 e8.2 o7.1) :: .res (OwnL ei64 3 (some ⟨g5, 0, none⟩) c13 r10.1) :: R) ?_ ?_
                  · refine St.region ?_
                    iterate 5 refine St.p rfl rfl ?_
                    refine St.gSplit (dj := 98) _ rfl (fun hb11 => ?_) (fun hb11 => ?_)
                    · replace hj4 := bif_t hb11 hj4
                      refine St.gOff (dj := 98) rfl rfl rfl rfl ?_
                      refine St.gOff (dj := 98) rfl rfl rfl rfl ?_
                      refine St.gOff (dj := 98) rfl rfl rfl rfl ?_
                      refine St.gOff (dj := 98) rfl rfl rfl rfl ?_
                      refine St.gOff (dj := 98) rfl rfl rfl rfl ?_
                      refine St.gOff (dj := 98) rfl rfl rfl rfl ?_
                      refine St.p rfl rfl ?_
                      refine St.done ?_
                      injection hj4 with hj4
                      subst hj4
                      refine St.thenN ?_
                      exact St.hereE (A16, c16) ⟨rfl, rfl, rfl, rfl, rfl, rfl, trivial⟩ (fun _ w => ((.k (.k .z)) : Keep _ _).sat w)
                    · replace hj4 := bif_f hb11 hj4
                      refine St.gOn (dj := 98) rfl rfl ?_
                      refine St.p rfl rfl ?_
                      refine St.gOn (dj := 98) rfl rfl ?_
                      refine St.p rfl rfl ?_
                      refine St.gOn (dj := 98) rfl rfl ?_
                      obtain ⟨x3, hx3, hj4⟩ := bnd_e hj4
                      refine St.ixO hx3 rfl rfl rfl (.head _) rfl rfl rfl rfl rfl fun g7 hA => ?_
                      subst hA
                      refine St.gOn (dj := 98) rfl rfl ?_
                      refine St.ldO 0 hx3 rfl rfl (.head _) rfl rfl ?_
                      refine St.gOn (dj := 98) rfl rfl ?_
                      refine St.p rfl rfl ?_
                      refine St.gOn (dj := 98) rfl rfl ?_
                      refine St.p rfl rfl ?_
                      refine St.p rfl rfl ?_
                      refine St.done ?_
                      injection hj4 with hj4
                      subst hj4
                      refine St.thenN ?_
                      exact St.hereE ((some ⟨g7, 0, none⟩), c16) ⟨rfl, rfl, rfl, rfl, rfl, rfl, trivial⟩ (fun _ w => ((.k (.k .z)) : Keep _ _).sat w)
                  · rintro ⟨A18, c18⟩
                    refine St.cond _ rfl (fun hb12 => ?_) (fun hb12 => ?_)
                    · replace h1 := bif_t hb12 h1
                      refine St.seq ?_
                      refine St.region ?_
                      refine St.p rfl rfl ?_
                      refine St.done ?_
                      refine St.thenN ?_
                      refine St.prune (Γ' := [(2, _)]) ⟨rfl, trivial⟩ (.d (.d .z)) ?_
                      refine St.ret ?_
                      repeat (first | refine St.thenR ?_ | refine St.blkR ?_)
                      injection h1 with h1
                      subst h1
                      have ho := hd1 _ rfl
                      subst ho
                      have h : some _ = some _ := h
                      injection h with h
                      subst h
                      exact St.finR Try.results7 (.tmp rfl .nil) rfl [] ⟨rfl, rfl⟩ (fun _ w => (.z : Keep _ _).sat w)
                    · replace h1 := bif_f hb12 h1
                      refine St.skip ?_
                      refine St.blkN ?_
                      refine St.thenN ?_
                      refine St.prune (Γ' := [(10, _), (14, _), (74, _), (75, _), (76, _)]) ⟨rfl, rfl, rfl, rfl, rfl, trivial⟩ (.k (.k .z)) ?_
                      refine St.region ?_
                      refine St.p rfl rfl ?_
                      refine St.p rfl rfl ?_
                      refine St.done ?_
                      injection h1 with h1
                      subst h1
                      refine St.thenN ?_
                      exact St.again _ (A18, c18) hm1 trivial ⟨rfl, rfl, rfl, rfl, rfl, trivial⟩ (fun _ w => ((.k (.k .z)) : Keep _ _).sat w)
              · replace h1 := bif_f hb8 h1
                refine St.exit ?_
                repeat (first | refine St.thenX ?_ | refine St.blkMiss rfl ?_)
                refine St.blkHit ?_
                injection h1 with h1
                subst h1
                have ho := hd1 _ rfl
                subst ho
                refine St.thenN ?_
                exact St.hereI () () rfl trivial (fun _ w => ((.d (.d .z)) : Keep _ _).sat w)
            · rintro o4 e4 ho
              subst ho
              have h : _ = some _ := h
              refine St.seq ?_
              refine St.region ?_
              refine St.p rfl rfl ?_
              refine St.done ?_
              refine St.thenN ?_
              refine St.ret ?_
              repeat (first | refine St.thenR ?_ | refine St.blkR ?_)
              injection h with h
              subst h
              exact St.finR Try.results7 (.tmp rfl .nil) rfl [] ⟨rfl, rfl⟩ (fun _ w => (.z : Keep _ _).sat w)

end Go.Proofs.Yteaoblglgcpdnaa
