/-
  Models of functions of the program, and that the functions compute them.
  Conditions: none.
-/
import Derived.Test.YteaoblglgcpdnaaGen
namespace Go.Proofs.Yteaoblglgcpdnaa
open Go
set_option linter.unusedVariables false
set_option maxRecDepth 4000

theorem ent4 : Ent Try.prog 4 := ⟨_, Try.func4, by kernel_rfl, by kernel_rfl⟩

noncomputable def m_law31_ActivationReverses (codes : (List Int)) : Option Bool :=
  bnd (m_law31_awake) fun r1 => bif !r1 then (some false) else (bnd (m_field_New codes 120) fun r2 => bnd (m_field_Codes_Plan r2) fun r3 => bnd (m_activation_Order r3.2) fun r4 => bnd (m_activation_Order (⟨r3.2.Next, r3.2.Now, r3.2.Needs⟩ : T_Plan)) fun r5 => bif (r4.2 != r5.2) then (some false) else (bif (r4.2 != 0) then (some true) else (bnd (loopM (τ := List Int) (fun (s1 : List Int × Int) => bif decide (s1.2 ≥ 0) then (bnd (elt r4.1 s1.2) fun x1 => bnd (app 8 s1.1 [x1]) fun l1 => some (.next (l1, IntKind.wrap .i64 (s1.2 - 1)))) else (some (.done s1.1))) ([], IntKind.wrap .i64 ((r4.1.length : Int) - 1))) fun o1 => bnd (m_activation_Check (⟨r3.2.Next, r3.2.Now, r3.2.Needs⟩ : T_Plan) o1) fun r6 => bnd ((bif (r6.2 == 0) then (some (r6.1 == (-1))) else (some false) : Option Bool)) fun o2 => some o2)))

theorem c_law31_ActivationReverses {codes : (List Int)} {A1 : Option Addr} {c1 : Nat} {r : Bool} (h : m_law31_ActivationReverses codes = some r) :
    Fun Try.prog 4 [.slice A1 codes.length c1] [.ro (SlL eu8 A1 c1 codes)] (Val (.bool r)) := by
  unfold m_law31_ActivationReverses at h
  refine Fun.intro Try.func4 rfl rfl rfl fun w R => ?_
  refine St.seq ?_
  refine St.region ?_
  refine St.p rfl rfl ?_
  refine St.done ?_
  refine St.thenN ?_
  refine St.prune (Γ' := [(0, _)]) ⟨rfl, trivial⟩ (.k .z) ?_
  refine St.seq ?_
  refine St.seq ?_
  refine St.region ?_
  obtain ⟨r1, hr1, h⟩ := bnd_e h
  refine St.callV (c_law31_awake hr1) ent10 rfl rfl rfl rfl trivial ?_
  refine St.p rfl rfl ?_
  refine St.done ?_
  refine St.thenN ?_
  refine St.prune (Γ' := [(0, _), (14, _)]) ⟨rfl, rfl, trivial⟩ (.k .z) ?_
  refine St.cond _ rfl (fun hb1 => ?_) (fun hb1 => ?_)
  · replace h := bif_t hb1 h
    refine St.seq ?_
    refine St.region ?_
    refine St.p rfl rfl ?_
    refine St.done ?_
    refine St.thenN ?_
    refine St.prune (Γ' := [(2, _)]) ⟨rfl, trivial⟩ (.d .z) ?_
    refine St.ret ?_
    repeat (first | refine St.thenR ?_ | refine St.blkR ?_)
    injection h with h
    subst h
    exact St.finR Try.results4 (.tmp rfl .nil) rfl [] ⟨rfl, rfl⟩ (fun _ w => (.z : Keep _ _).sat w)
  · replace h := bif_f hb1 h
    refine St.skip ?_
    refine St.thenN ?_
    refine St.prune (Γ' := [(0, _)]) ⟨rfl, trivial⟩ (.k .z) ?_
    refine St.seq ?_
    refine St.region ?_
    refine St.p rfl rfl ?_
    obtain ⟨r2, hr2, h⟩ := bnd_e h
    refine St.call (c_field_New hr2) ent13 rfl rfl rfl (fun _ w => Sat.dup (G := [.ro (SlL eu8 A1 c1 codes)]) rfl ⟨(.head _), trivial⟩ w) ?_
    rintro _ _ ⟨g1, A2, c2, rfl, rfl⟩
    refine St.asrt (F' := .ro (SlL eu8 A2 c2 r2.L) :: .res (Box g1 69 [.slice A2 r2.L.length c2, .int .i64 r2.At]) :: .ro (SlL eu8 A1 c1 codes) :: R) (fun _ w => w) ?_
    obtain ⟨r3, hr3, h⟩ := bnd_e h
    refine St.call (c_field_Codes_Plan hr3) ent14 rfl rfl rfl (fun _ w => Sat.dup (G := [.ro (SlL eu8 A2 c2 r2.L)]) rfl ⟨(.tail _ (.head _)), trivial⟩ (w.front (.s .z))) ?_
    rintro _ _ ⟨A3, c3, A4, c4, A5, c5, A6, c6, rfl, rfl⟩
    refine St.asrt (F' := .ro (SlL eu8 A3 c3 r3.1.L) :: .ro (SlL e_Installed A4 c4 r3.2.Now) :: .ro (SlL e_Installed A5 c5 r3.2.Next) :: .ro (SlL e_Need A6 c6 r3.2.Needs) :: .res (Box g1 69 [.slice A3 r3.1.L.length c3, .int .i64 r3.1.At]) :: .ro (SlL eu8 A2 c2 r2.L) :: .ro (SlL eu8 A1 c1 codes) :: R) (fun _ w => w) ?_
    refine St.alloc rfl rfl fun g2 => ?_
    refine St.store 0 rfl rfl rfl rfl rfl rfl .z rfl ?_
    refine St.done ?_
    refine St.thenN ?_
    refine St.prune (Γ' := [(3, _)]) ⟨rfl, trivial⟩ (.k (.d (.k (.k (.k (.d (.d (.d .z)))))))) ?_
    refine St.seq ?_
    refine St.region ?_
    refine St.loadB 0 rfl rfl (.head _) rfl rfl ?_
    obtain ⟨r4, hr4, h⟩ := bnd_e h
    refine St.call (c_activation_Order hr4) ent11 rfl rfl rfl (fun _ w => Sat.dup (G := [.ro (SlL e_Installed A4 c4 r3.2.Now), .ro (SlL e_Installed A5 c5 r3.2.Next), .ro (SlL e_Need A6 c6 r3.2.Needs)]) rfl ⟨(.tail _ (.head _)), (.tail _ (.tail _ (.head _))), (.tail _ (.tail _ (.tail _ (.head _)))), trivial⟩ w) ?_
    rintro _ _ ⟨A7, c7, rfl, rfl⟩
    refine St.asrt (F' := .res (OwnL ei64 3 A7 c7 r4.1) :: .res (Box g2 29 [.slice A4 r3.2.Now.length c4, .slice A5 r3.2.Next.length c5, .slice A6 r3.2.Needs.length c6]) :: .ro (SlL e_Installed A4 c4 r3.2.Now) :: .ro (SlL e_Installed A5 c5 r3.2.Next) :: .ro (SlL e_Need A6 c6 r3.2.Needs) :: R) (fun _ w => w) ?_
    iterate 5 refine St.p rfl rfl ?_
    refine St.done ?_
    refine St.thenN ?_
    refine St.prune (Γ' := [(3, _), (4, _), (5, _)]) ⟨rfl, rfl, rfl, trivial⟩ (.k (.k (.k (.k (.k .z))))) ?_
    refine St.seq ?_
    refine St.region ?_
    refine St.p rfl rfl ?_
    refine St.loadB 1 rfl rfl (.tail _ (.head _)) rfl rfl ?_
    refine St.p rfl rfl ?_
    refine St.loadB 0 rfl rfl (.tail _ (.head _)) rfl rfl ?_
    refine St.p rfl rfl ?_
    refine St.loadB 2 rfl rfl (.tail _ (.head _)) rfl rfl ?_
    refine St.p rfl rfl ?_
    refine St.alloc rfl rfl fun g3 => ?_
    refine St.store 0 rfl rfl rfl rfl rfl rfl .z rfl ?_
    refine St.done ?_
    refine St.thenN ?_
    refine St.prune (Γ' := [(4, _), (5, _), (6, _)]) ⟨rfl, rfl, rfl, trivial⟩ (.k (.k (.d (.k (.k (.k .z)))))) ?_
    refine St.seq ?_
    refine St.region ?_
    refine St.loadB 0 rfl rfl (.head _) rfl rfl ?_
    obtain ⟨r5, hr5, h⟩ := bnd_e h
    refine St.call (c_activation_Order hr5) ent11 rfl rfl rfl (fun _ w => Sat.dup (G := [.ro (SlL e_Installed A5 c5 r3.2.Next), .ro (SlL e_Installed A4 c4 r3.2.Now), .ro (SlL e_Need A6 c6 r3.2.Needs)]) rfl ⟨(.tail _ (.tail _ (.tail _ (.head _)))), (.tail _ (.tail _ (.head _))), (.tail _ (.tail _ (.tail _ (.tail _ (.head _))))), trivial⟩ w) ?_
    rintro _ _ ⟨A8, c8, rfl, rfl⟩
    refine St.asrt (F' := .res (OwnL ei64 3 A8 c8 r5.1) :: .res (Box g3 29 [.slice A5 r3.2.Next.length c5, .slice A4 r3.2.Now.length c4, .slice A6 r3.2.Needs.length c6]) :: .res (OwnL ei64 3 A7 c7 r4.1) :: .ro (SlL e_Installed A4 c4 r3.2.Now) :: .ro (SlL e_Installed A5 c5 r3.2.Next) :: .ro (SlL e_Need A6 c6 r3.2.Needs) :: R) (fun _ w => w) ?_
    iterate 5 refine St.p rfl rfl ?_
    refine St.done ?_
    refine St.thenN ?_
    refine St.prune (Γ' := [(4, _), (5, _), (6, _), (8, _)]) ⟨rfl, rfl, rfl, rfl, trivial⟩ (.d (.k (.k (.k (.k (.k .z)))))) ?_
    refine St.seq ?_
    refine St.seq ?_
    refine St.region ?_
    iterate 3 refine St.p rfl rfl ?_
    refine St.done ?_
    refine St.thenN ?_
    refine St.prune (Γ' := [(4, _), (5, _), (6, _), (37, _)]) ⟨rfl, rfl, rfl, rfl, trivial⟩ (.k (.k (.k (.k (.k .z))))) ?_
    refine St.cond _ rfl (fun hb2 => ?_) (fun hb2 => ?_)
    · replace h := bif_t hb2 h
      refine St.seq ?_
      refine St.region ?_
      refine St.p rfl rfl ?_
      refine St.done ?_
      refine St.thenN ?_
      refine St.prune (Γ' := [(2, _)]) ⟨rfl, trivial⟩ (.d (.d (.d (.d (.d .z))))) ?_
      refine St.ret ?_
      repeat (first | refine St.thenR ?_ | refine St.blkR ?_)
      injection h with h
      subst h
      exact St.finR Try.results4 (.tmp rfl .nil) rfl [] ⟨rfl, rfl⟩ (fun _ w => (.z : Keep _ _).sat w)
    · replace h := bif_f hb2 h
      refine St.skip ?_
      refine St.thenN ?_
      refine St.prune (Γ' := [(4, _), (5, _), (6, _)]) ⟨rfl, rfl, rfl, trivial⟩ (.k (.k (.k (.k (.k .z))))) ?_
      refine St.seq ?_
      refine St.seq ?_
      refine St.region ?_
      refine St.p rfl rfl ?_
      refine St.p rfl rfl ?_
      refine St.done ?_
      refine St.thenN ?_
      refine St.prune (Γ' := [(4, _), (6, _), (39, _)]) ⟨rfl, rfl, rfl, trivial⟩ (.k (.k (.k (.k (.k .z))))) ?_
      refine St.cond _ rfl (fun hb3 => ?_) (fun hb3 => ?_)
      · replace h := bif_t hb3 h
        refine St.seq ?_
        refine St.region ?_
        refine St.p rfl rfl ?_
        refine St.done ?_
        refine St.thenN ?_
        refine St.prune (Γ' := [(2, _)]) ⟨rfl, trivial⟩ (.d (.d (.d (.d (.d .z))))) ?_
        refine St.ret ?_
        repeat (first | refine St.thenR ?_ | refine St.blkR ?_)
        injection h with h
        subst h
        exact St.finR Try.results4 (.tmp rfl .nil) rfl [] ⟨rfl, rfl⟩ (fun _ w => (.z : Keep _ _).sat w)
      · replace h := bif_f hb3 h
        refine St.skip ?_
        refine St.thenN ?_
        refine St.prune (Γ' := [(4, _), (6, _)]) ⟨rfl, rfl, trivial⟩ (.k (.k (.k (.k (.k .z))))) ?_
        refine St.seq ?_
        refine St.region ?_
        refine St.p rfl rfl ?_
        refine St.done ?_
        refine St.thenN ?_
        refine St.seq ?_
        refine St.seq ?_
        refine St.region ?_
        iterate 4 refine St.p rfl rfl ?_
        refine St.done ?_
        refine St.thenN ?_
        refine St.prune (Γ' := [(4, _), (6, _), (9, _), (10, _)]) ⟨rfl, rfl, rfl, rfl, trivial⟩ (.k (.k (.k (.k (.k .z))))) ?_
        refine St.asrt (fun _ w => w.nilL ei64 3) ?_
        obtain ⟨o1, hl1, h⟩ := bnd_e h
        refine St.cutE (fun (e2 : Option Addr × Nat) => [(6, .pointer (some ⟨g3, 0, none⟩)), (9, .slice e2.1 o1.length e2.2)]) (fun e2 => .res (OwnL ei64 3 e2.1 e2.2 o1) :: .res (Box g3 29 [.slice A5 r3.2.Next.length c5, .slice A4 r3.2.Now.length c4, .slice A6 r3.2.Needs.length c6]) :: .ro (SlL e_Installed A4 c4 r3.2.Now) :: .ro (SlL e_Installed A5 c5 r3.2.Next) :: .ro (SlL e_Need A6 c6 r3.2.Needs) :: R) ?_ ?_
        · refine St.block ?_
          refine St.loop hl1 (fun (s1 : List Int × Int) (e1 : Option Addr × Nat) => [(4, .slice A7 r4.1.length c7), (6, .pointer (some ⟨g3, 0, none⟩)), (9, .slice e1.1 s1.1.length e1.2), (10, .int .i64 s1.2)]) (fun s1 e1 => .res (OwnL ei64 3 e1.1 e1.2 s1.1) :: .res (Box g3 29 [.slice A5 r3.2.Next.length c5, .slice A4 r3.2.Now.length c4, .slice A6 r3.2.Needs.length c6]) :: .res (OwnL ei64 3 A7 c7 r4.1) :: .ro (SlL e_Installed A4 c4 r3.2.Now) :: .ro (SlL e_Installed A5 c5 r3.2.Next) :: .ro (SlL e_Need A6 c6 r3.2.Needs) :: R) (fun _ _ => True) (none, 0) trivial ⟨rfl, rfl, rfl, rfl, trivial⟩ (fun _ w => ((.k (.k (.k (.k (.k (.k .z)))))) : Keep _ _).sat w) ?_
          rintro s1 ⟨A9, c9⟩ - hit1
          obtain ⟨st1, hm1, hd1⟩ := iter_e hit1
          have h1 := hm1
          refine St.seq ?_
          refine St.seq ?_
          refine St.region ?_
          refine St.p rfl rfl ?_
          refine St.p rfl rfl ?_
          refine St.done ?_
          refine St.thenN ?_
          refine St.prune (Γ' := [(4, _), (6, _), (9, _), (10, _), (44, _)]) ⟨rfl, rfl, rfl, rfl, rfl, trivial⟩ (.k (.k (.k (.k (.k (.k .z)))))) ?_
          refine St.cond _ rfl (fun hb4 => ?_) (fun hb4 => ?_)
          · replace h1 := bif_t hb4 h1
            refine St.skip ?_
            refine St.thenN ?_
            refine St.prune (Γ' := [(4, _), (6, _), (9, _), (10, _)]) ⟨rfl, rfl, rfl, rfl, trivial⟩ (.k (.k (.k (.k (.k (.k .z)))))) ?_
            refine St.seq ?_
            refine St.block ?_
            refine St.region ?_
            iterate 3 refine St.p rfl rfl ?_
            obtain ⟨x1, hx1, h1⟩ := bnd_e h1
            refine St.ixO hx1 rfl rfl rfl (.tail _ (.tail _ (.head _))) rfl rfl rfl rfl rfl fun g4 hA => ?_
            subst hA
            refine St.ldO 0 hx1 rfl rfl (.tail _ (.tail _ (.head _))) rfl rfl ?_
            refine St.buildSlice rfl rfl rfl rfl rfl rfl rfl rfl fun g5 => ?_
            obtain ⟨l1, hl1, h1⟩ := bnd_e h1
            refine St.app (E := ei64) hl1 rfl rfl rfl (.s .z) rfl rfl rfl rfl rfl rfl rfl rfl (srcB (.head _) rfl rfl) rfl rfl fun A11 c11 => ?_
            refine St.p rfl rfl ?_
            refine St.done ?_
            refine St.blkN ?_
            refine St.thenN ?_
            refine St.prune (Γ' := [(4, _), (6, _), (9, _), (10, _)]) ⟨rfl, rfl, rfl, rfl, trivial⟩ (.k (.d (.k (.k (.k (.k (.k .z))))))) ?_
            refine St.region ?_
            iterate 3 refine St.p rfl rfl ?_
            refine St.done ?_
            injection h1 with h1
            subst h1
            refine St.thenN ?_
            exact St.again _ (A11, c11) hm1 trivial ⟨rfl, rfl, rfl, rfl, trivial⟩ (fun _ w => ((.k (.k (.k (.k (.k (.k .z)))))) : Keep _ _).sat w)
          · replace h1 := bif_f hb4 h1
            refine St.exit ?_
            repeat (first | refine St.thenX ?_ | refine St.blkMiss rfl ?_)
            refine St.blkHit ?_
            injection h1 with h1
            subst h1
            have ho := hd1 _ rfl
            subst ho
            refine St.thenN ?_
            exact St.hereE (A9, c9) ⟨rfl, rfl, trivial⟩ (fun _ w => ((.k (.k (.d (.k (.k (.k .z)))))) : Keep _ _).sat w)
        · rintro ⟨A10, c10⟩
          refine St.seq ?_
          refine St.region ?_
          refine St.loadB 0 rfl rfl (.tail _ (.head _)) rfl rfl ?_
          refine St.p rfl rfl ?_
          refine St.asrt (fun _ w => (w.front .z).meltL) ?_
          obtain ⟨r6, hr6, h⟩ := bnd_e h
          refine St.callV (c_activation_Check hr6) ent15 rfl rfl rfl rfl ⟨(.tail _ (.tail _ (.tail _ (.head _)))), (.tail _ (.tail _ (.head _))), (.tail _ (.tail _ (.tail _ (.tail _ (.head _))))), (.head _), trivial⟩ ?_
          iterate 5 refine St.p rfl rfl ?_
          refine St.done ?_
          refine St.thenN ?_
          refine St.prune (Γ' := [(11, _), (12, _)]) ⟨rfl, rfl, trivial⟩ (.d (.d (.d (.d (.d .z))))) ?_
          refine St.seq ?_
          obtain ⟨o2, hj1, h⟩ := bnd_e h
          refine St.cutE (fun (e3 : Unit) => [(2, .bool o2)]) (fun e3 => R) ?_ ?_
          · refine St.region ?_
            iterate 3 refine St.p rfl rfl ?_
            refine St.gSplit (dj := 62) _ rfl (fun hb5 => ?_) (fun hb5 => ?_)
            · replace hj1 := bif_t hb5 hj1
              refine St.gOn (dj := 62) rfl rfl ?_
              refine St.p rfl rfl ?_
              refine St.gOn (dj := 62) rfl rfl ?_
              iterate 3 refine St.p rfl rfl ?_
              refine St.done ?_
              injection hj1 with hj1
              subst hj1
              refine St.thenN ?_
              exact St.hereE () ⟨rfl, trivial⟩ (fun _ w => (.z : Keep _ _).sat w)
            · replace hj1 := bif_f hb5 hj1
              refine St.gOff (dj := 62) rfl rfl rfl rfl ?_
              refine St.gOff (dj := 62) rfl rfl rfl rfl ?_
              refine St.p rfl rfl ?_
              refine St.p rfl rfl ?_
              refine St.done ?_
              injection hj1 with hj1
              subst hj1
              refine St.thenN ?_
              exact St.hereE () ⟨rfl, trivial⟩ (fun _ w => (.z : Keep _ _).sat w)
          · rintro e3
            refine St.ret ?_
            repeat (first | refine St.thenR ?_ | refine St.blkR ?_)
            injection h with h
            subst h
            exact St.finR Try.results4 (.tmp rfl .nil) rfl [] ⟨rfl, rfl⟩ (fun _ w => (.z : Keep _ _).sat w)

end Go.Proofs.Yteaoblglgcpdnaa
